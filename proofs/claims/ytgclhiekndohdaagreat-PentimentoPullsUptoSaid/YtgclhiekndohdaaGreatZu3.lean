/-
A part of the proof of this claim: lemmas, with no condition beyond what each says.
-/
import Derived.Shelf.SlIter.Nil
import Derived.Shelf.SlIterI.Nil
import Derived.Shelf.SortM.Plain
import Derived.Shelf.SortM.SortNone
import Derived.Shelf.SlMaps.Clone
import Derived.Ground.GgzProg
import Derived.Ground.SlgmProg
import Derived.Ground.SlmcProg
import Derived.Test.YtgclhiekndohdaaGreatProg
import Derived.DeepKeys
import Derived.Laws.MakeOwn
import Derived.Laws.StructEq
import Derived.Test.YtgclhiekndohdaaGreatZu2
set_option linter.all false
set_option maxRecDepth 100000
set_option maxHeartbeats 0
namespace Go.Proofs.YtgclhiekndohdaaGreat
open Go.RowKit Go.Proofs _root_.Go.Proofs.Tryz Tryz
section
def jS:List (Nat×bc)->Nat->List (Nat×bc)
 | [],_=>[]
 |(a,o)::L,b=>if a=b then L else(a,o)::jS L b
def Lr {a b c:Prop}:(a\/b\/c)↔(b\/a\/c):=⟨fun h=>by
 rcases h with h |h |h
 .exact .inr (.inl h)
 .exact .inl h
 .exact .inr (.inr h),fun h=>by
 rcases h with h |h |h
 .exact .inr (.inl h)
 .exact .inl h
 .exact .inr (.inr h)⟩
def fJ.nC {I:Nat->Prop} {w:aH9} {b:Nat} {o:bc}: ∀{L:List (Nat×bc)} {F:Nat->Prop},eZ L b=some o->fJ I w L F-> ∃(cI cS:Nat->Prop) (p:bp),(∀x,F x↔cI x\/cS x)/\(∀x,cI x-> ¬cS x)/\p.bf=b/\o.bo I cI w p/\fJ I w (jS L b) cS
 | [],F,h,_=>by cases h
 |(a,q)::L,F,h,⟨rJ,ug,p,E,G,ah,aS,bB⟩=>by
  unfold eZ at h;unfold jS
  split at h
  .rename_i e;injection h with h
   subst h;rw[vj e];exact⟨rJ,ug,p,E,G,ah.trans e,aS,bB⟩
  .rename_i e;rw[mu e];obtain⟨cI,cS,d3,g1,g2,cL,g8,pJ⟩:=fJ.nC h bB;refine⟨cI,fun x=>rJ x\/cS x,d3,fun x=>by rw[E,g1];exact Lr,fun x hx aD=>?_,cL,g8,rJ,cS,p,fun x=>Iff.rfl,fun x hx aD=>G x hx ((g1 x).2 (.inr aD)),ah,aS,pJ⟩;rcases aD with aD |aD
   .exact G x aD ((g1 x).2 (.inl hx))
   .exact g2 x hx aD
def fJ.Ls {I:Nat->Prop} {w:aH9} {b:Nat} {o o':bc} {cI:Nat->Prop} {p:bp} (ai:o'.bo I cI w p) (ag:p.bf=b): ∀{L:List (Nat×bc)} {F:Nat->Prop},eZ L b=some o->fJ I w (jS L b) F->(∀x,cI x-> ¬F x)->fJ I w (fX L b o') (fun x=>cI x\/F x)
 | [],F,h,_,_=>by cases h
 |(a,q)::L,F,h,H,eE=>by
  unfold eZ at h;unfold jS at H;unfold fX
  split at h
  .rename_i e;rw[vj e] at H⊢;exact⟨cI,F,p,fun x=>Iff.rfl,eE,ag.trans e.symm,ai,H⟩
  .rename_i e;rw[mu e] at H⊢;obtain⟨rJ,ug,r,E,G,ah,aS,bB⟩:=H
   refine⟨rJ,fun x=>cI x\/ug x,r,fun x=>by
    show(cI x\/F x)↔(rJ x\/(cI x\/ug x));rw[E];exact Lr,fun x hx aD=>?_,ah,aS,fJ.Ls ai ag h bB fun x hx aD=>eE x hx ((E x).2 (.inr aD))⟩
   rcases aD with aD |aD
   .exact eE x aD ((E x).2 (.inl hx))
   .exact G x hx aD
def AU {o:bc} {b:Nat}: ∀{L:List (Nat×bc)},eZ L b=some o->fX L b o=L
 | [],h=>by cases h
 |(a,q)::L,h=>by
  unfold eZ at h;unfold fX
  split at h
  .rename_i e;injection h with h
   rw[vj e,h]
  .rename_i e;rw[mu e,AU h]
section
variable {ids:aH4} {K:aW} {B:ay}
def ac.AV (q c b:Nat) {o:bc} {L:List (Nat×bc)} (a2:ae B q=some (.az (.bt L))) (cG:eZ L b=some o) (J:g7 ids K B c=true):ac ids K B K ((c,.az (o.at b))::(q,.az (.bt (jS L b)))::B):=by
 rintro N C a w ⟨hn,H,ρ,F,ak,au⟩;have f:=ld J;obtain⟨cI,cS,p,E,G,ah,aS,bB⟩:=fJ.nC cG (ak.holds q _ a2:fJ _ w L (F q))
 obtain⟨bH,aY⟩:=ak.split (K:=K) (i':=.az (.bt (jS L b))) (o0:=.az (o.at b)) a2 J p cS cI (fun x hx=>(E x).2 (.inr hx)) (fun x hx=>(E x).2 (.inl hx)) (fun x hx aD=>G x aD hx)
  (fun I a7=>bB.cj a7 (at0 _) (fun _ _=>rfl)) (fun I a7=>⟨ah,o.cj _ _ _ _ _ _ aS a7 (fun _ _=>rfl) (at0 _)⟩)
 exact⟨hn,H,_,_,bH,au.mono aY fun s d H=>dD _ _ (fun e=>by subst e;rw[f.1 s] at H;cases H)⟩
def ac.Lt (q c b:Nat) {o o':bc} {L:List (Nat×bc)} (a2:ae B q=some (.az (.bt (jS L b)))) (J:ae B c=some (.az (o'.at b))) (cG:eZ L b=some o) (a6:q≠c):ac ids K B K ((q,.az (.bt (fX L b o')))::gT B c):=by
 rintro N C a w ⟨hn,H,ρ,F,ak,au⟩;have bl:fJ (bZ C B F w) w (jS L b) (F q):=ak.holds q _ a2;have ax:(ρ c).bf=b/\o'.bo (bZ C B F w) (F c) w (ρ c):=ak.holds c _ J
 obtain⟨bH,aY⟩:=ak.GH (w':=w) (ch:=.az (.bt (fX L b o'))) a2 J a6 (fun x=>F c x\/F q x) (fun x hx=>hx.symm) (cU.refl _ _) fun I a7=>
  (fJ.Ls ax.2 ax.1 cG bl (fun x hx aD=>ak.fd c q _ _ x J a2 (az2 a6) hx aD)).cj a7 (at0 _) fun _ _=>rfl
 exact⟨hn,H,ρ,_,bH,au.mono aY fun _ _ _=>rfl⟩
def ac.aeI (q c b:Nat) {o:bc} {bq:ay} {bs:Nat->Nat} {L:List (Nat×bc)} (a2:ae B q=some (.az (.bt (jS L b)))) (J:ae B c=some (.az (.nD bq bs))) (cG:eZ L b=some o) (a6:q≠c):ac ids K B K ((q,.az (.bt (fX L b (.nD bq bs))))::gT B c):=by
 rintro N C a w ⟨hn,H,ρ,F,ak,au⟩;have bl:fJ (bZ C B F w) w (jS L b) (F q):=ak.holds q _ a2;have ax:GU bq bs (bZ C B F w) (F c) w:=ak.holds c _ J
 obtain⟨bH,aY⟩:=ak.GH (w':=w) (ch:=.az (.bt (fX L b (.nD bq bs)))) a2 J a6 (fun x=>F c x\/F q x) (fun x hx=>hx.symm) (cU.refl _ _) fun I a7=>
  (fJ.Ls (o':=.nD bq bs) (p:=⟨b,none,0,0⟩) ax rfl cG bl (fun x hx aD=>ak.fd c q _ _ x J a2 (az2 a6) hx aD)).cj a7 (at0 _) fun _ _=>rfl
 exact⟨hn,H,ρ,_,bH,au.mono aY fun _ _ _=>rfl⟩
def Fn.aeJ {P:aI0} {f:aI9} {c q am:Nat} {args:List aN} {res:aN} {bq:ay} {bs:Nat->Nat} {M:List (Nat×bc)} (h:Fn P f (.c (.one (.ptr c 0))::args) bq [] res bq) (ak:eZ M am=some (.nD bq bs)) (J:bs c=am) (yU:(ae bq c).isSome=true) (ha:(args.all fun v=>v.iP [])=true) (aj:res.iP []=true):
  Fn P f (.c (.one (.d (.aL (some am))))::args) [(q,.az (.bt M))] [] res [(q,.az (.bt M))]:=by
 obtain⟨fP,h⟩:=h;refine⟨fP,fun ρ F I w b0 a7 c' bg eE bW dG=>?_⟩;have a2:ae [(q,a8.az (.bt M))] q=some (.az (.bt M)):=aF9
 have yV: ∀{d ch},ae [(q,a8.az (.bt M))] d=some ch->d=q/\ch= .az (.bt M):=fun {d ch} H=>by
  rw[co] at H
  split at H
  .rename_i e;injection H with H;exact⟨e.symm,H.symm⟩
  .cases H
 have bl:fJ I w M (F q):=c' q _ a2;obtain⟨cI,cS,p,cl,cY,ek,eL,vv⟩:=bl.out ak;obtain⟨AT,cg,g1,g2,cL,g8⟩:GU bq bs I cI w:=eL;have gg: ∀{v:aN},v.iP []=true-> ∀d,v.has d=true-> ∀(ρ ρ':Nat->bp),ρ' d=ρ d:=fun {v} aB d H _ _=>at1 (aN.kW aB H) List.not_mem_nil
 have Lu: ∀y,(∃d ch,ae bq d=some ch/\cg d y)-> ∃d ch,ae [(q,a8.az (.bt M))] d=some ch/\F d y:=fun y aD=>⟨q,_,a2,(cl y).2 (.inl ((g8 y).2 aD))⟩
 obtain⟨aeK,ol⟩:=aw9.1 yU
 match b0,bW with
 |v0::b0,bW=>
  have yL:v0= .pointer (some ⟨am,0,none⟩):=dG 0 _ v0 rfl rfl;refine(h AT cg I w (v0::b0) a7 g2 (fun d ch H b O=>bg q _ a2 b ((cl b).2 (.inl ((g8 b).2 ⟨d,ch,H,O⟩)))) cL (by simpa using bW) ?_).mono ?_
  .intro i v x aB hx
   match i with
   |0=>
    simp only[au4,at5] at aB hx;subst aB hx;show v0= .pointer (some ⟨(AT c).bf,0,none⟩);rw[g1 c aeK ol,J];exact yL
   |i+1=>
    have o3:args[i]? =some v:=aG0
    have:=av4.1 ha v (ay0 o3);exact cx.mono (cm.refl _ _) v x (fun d H=>gg this d H _ _) (dG (i+1) v x aG0 hx)
  .rintro e w' ⟨x,ρ',F',rfl,cF,dl,I',jq,gG,lC,ax,hU,sY⟩;have kv: ∀y,cS y-> ¬ ∃d ch,ae bq d=some ch/\cg d y:=fun y aD l1=>cY y ((g8 y).2 l1) aD
   have sZ: ∀y,cS y->y < w.heap.size/\ ¬I y:=fun y aD=>bg q _ a2 y ((cl y).2 (.inr aD))
   have m6: ∀y,cS y->w'.heap[y]? =w.heap[y]? :=fun y aD=>cF.block y (sZ y aD).1 (kv y aD)
   have wZ: ∀y,(∃d ch,ae bq d=some ch/\F' d y)-> ¬cS y:=by
    rintro y ⟨d,ch,H,aD⟩ Dr;rcases(ax d ch H y aD).2.2 with h |h
    .exact kv y Dr h
    .have:=(sZ y Dr).1;omega
   have mX:=vv I' w' (.nD bq bs) (fun y=> ∃d ch,ae bq d=some ch/\F' d y) p jq cF.size m6 ek
    ⟨ρ',F',fun d ch H=>by rw[dl d List.not_mem_nil];exact g1 d ch H,lC,hU,fun b=>Iff.rfl⟩ wZ
   rw[AU ak] at mX;refine⟨x,ρ,fun d=>if d=q then(fun y=>(∃d ch,ae bq d=some ch/\F' d y)\/cS y) else F' d,rfl,cF.mono fun y _ aD=>Lu y aD,fun d _=>rfl,I',jq,fun y aD=>⟨(gG y aD).1,?_⟩,?_,?_,?_,?_⟩
   .rcases(gG y aD).2 with h |h |h
    .exact .inl h
    .exact .inr (.inl (Lu y h))
    .exact .inr (.inr h)
   .intro d ch H;obtain⟨rfl,rfl⟩:=yV H;simp only[if_true];exact mX
   .intro d ch H y aD;obtain⟨rfl,rfl⟩:=yV H;simp only[if_true] at aD;rcases aD with⟨cZ,ch',c4,aD⟩ |aD
    .obtain⟨bM,bU,a3⟩:=ax cZ ch' c4 y aD;exact⟨bM,bU,a3.imp (Lu y) id⟩
    .refine⟨au8 (sZ y aD).1 cF.size,fun hi=>?_,.inl ⟨d,_,a2,(cl y).2 (.inr aD)⟩⟩;rcases(gG y hi).2 with h |h |h
     .exact(sZ y aD).2 h
     .exact kv y aD h
     .have:=(sZ y aD).1;omega
   .intro d cZ ch ch' y H c4 a6;exact at1 ((yV H).1.trans (yV c4).1.symm) a6
   .exact cx.mono (cm.refl _ _) res x (fun d H=>gg aj d H _ _) sY
end
end
section
def cD.ow {P:aI0} {f:aI9} {c b:Nat} {args:List aN} {bq aK:ay} {ba:aH4} {X:Type} {res:X->aN} {dI aO:X->ay} (gh:aH4) (q:Nat)
  (h:cD P f (.c (.one (.ptr c 0))::args) (bq++aK) ba res (fun g=>dI g++aO g))
  (E:om c gh (.c (.one (.ptr c 0))::args) bq aK ba ba=true) (G: ∀g,oo c (m8 gh ba ba) (res g) (dI g) (aO g)=true)
  (ah:(args.all fun v=> !v.has c)=true) (aS:kQ c aK=true/\(ae aK q).isNone=true) (bB:(ba.contains c||ba.contains q)=false) (ej: ∀g,(kQ c (aO g)&&(ae (aO g) q).isNone&& !(res g).has c)=true):
  cD P f (.c (.one (.d (.aL (some b))))::args) ((q,.az (.bt [(b,.iQ c bq)]))::aK) ba res (fun g=>(q,.az (.bt [(b,.iQ c (dI g))]))::aO g):=by
 have k:=cD.close (o:=.iQ c bq) (o':=fun g=>.iQ c (dI g)) gh h (fun _ _ _ _ h=>h) (fun _ _ _ _ _ h=>h) E G;have cY:=cD.bt (L:=[(b,.iQ c bq)]) (b:=b) (q:=q) k (vj rfl) ah aS bB ej;have e: ∀g,fX [(b,bc.iQ c bq)] b (bc.iQ c (dI g))=[(b,.iQ c (dI g))]:=fun g=>vj rfl
 simp only[e] at cY;exact cY
def Fn.ow {P:aI0} {f:aI9} {c b:Nat} {args:List aN} {bq dI:ay} {res:aN} (gh:aH4) (q:Nat)
  (h:Fn P f (.c (.one (.ptr c 0))::args) bq [] res dI)
  (E:om c gh (.c (.one (.ptr c 0))::args) bq [] [] []=true:=by first |rfl |decide) (G:oo c (m8 gh [] []) res dI []=true:=by first |rfl |decide)
  (ah:(args.all fun v=> !v.has c)=true:=by first |rfl |decide) (aS:(!res.has c)=true:=by first |rfl |decide):
  Fn P f (.c (.one (.d (.aL (some b))))::args) [(q,.az (.bt [(b,.iQ c bq)]))] [] res [(q,.az (.bt [(b,.iQ c dI)]))]:=by
 refine cD.fn (cD.ow (X:=Unit) (aK:=[]) (aO:=fun _=>[]) (dI:=fun _=>dI) (res:=fun _=>res) gh q (by rw[av2];simp only[av2];exact h.x) E (fun _=>G) ah ⟨rfl,rfl⟩ rfl fun _=>?_);simp only[aS];rfl
def ox (b c d:Nat) (bq:ay) (q:bp):bc where
 bo:=fun I F w _=> ∃(ρ:Nat->bp) (cg:Nat->Nat->Prop),(ρ c).bf=b/\ρ d=q/\(∀e ch,ae bq e=some ch->Holds ρ I (cg e) w (ρ e) ch)/\
  (∀e cc ch ch' x,ae bq e=some ch->ae bq cc=some ch'->e≠cc->cg e x-> ¬cg cc x)/\ ∀x,F x↔ ∃e ch,ae bq e=some ch/\cg e x
 cj:=fun I F w I' w' p ⟨ρ,cg,E,ar,G,ah,aS⟩ U bg aM=>⟨ρ,cg,E,ar,fun d ch H=>Holds.cj U (fun b O=>bg b ((aS b).2 ⟨d,ch,H,O⟩)) aM ch (fun _ _=>rfl) (G d ch H),ah,aS⟩
def Lv (c d q:Nat) (args:List aN) (aK bq:ay) (res:aN) (aO dI:ay):Bool:=
 (ck bq).contains c&& !(ck bq).contains d&& !(ck bq).contains q&&((ck bq).all fun e=>kQ e aK&&kQ e aO&& !res.has e&&args.all fun v=> !v.has e)&&
  (ae aK q).isNone&&(ae aO q).isNone&&wP (d::ck bq) bq&&((ck dI).all fun e=>(ck bq).contains e)
def Fn.aeL {P:aI0} {f:aI9} {c d q b:Nat} {args:List aN} {aK bq aO dI:ay} {res:aN} (h:Fn P f (.c (.one (.ptr c 0))::args) (aK++bq) [] res (aO++dI)) (Z:Lv c d q args aK bq res aO dI=true):
  Fn P f (.c (.one (.d (.aL (some b))))::args) (aK++[(q,.b5 d (ox b c d bq))]) [] res (aO++[(q,.b5 d (ox b c d dI))]):=by
 obtain⟨fP,h⟩:=h;simp only[Lv,as8,av3,aC8] at Z;obtain⟨⟨⟨⟨⟨⟨⟨bM,bU⟩,a3⟩,a4⟩,a5⟩,fj⟩,ru⟩,Gy⟩:=Z;have bM:=s0 bM;have bU:=w0 bU;have a3:=w0 a3
 have yW: ∀e,e∈ck bq->kQ e aK=true/\kQ e aO=true/\res.has e=false/\ ∀v,v∈args->v.has e=false:=fun e U=>by
  have:=av4.1 a4 e U;simp only[as8,av3] at this;exact⟨this.1.1.1,this.1.1.2,this.1.2,fun v aB=>by simpa using av4.1 this.2 v aB⟩
 have aeM: ∀e,e∈ck dI->e∈ck bq:=fun e U=>s0 (av4.1 Gy e U)
 have one: ∀(B:ay) (ch:a8),ae B q=none->ae (B++[(q,ch)]) q=some ch:=fun B ch hn=>by rw[h9,hn];simp[ae]
 have uj: ∀(B:ay) (x:a8) {e:Nat} {ch:a8},ae (B++[(q,x)]) e=some ch->(ae B e=some ch)\/(ae B e=none/\e=q/\ch=x):=fun B x {e ch} U=>by
  rw[h9] at U
  cases bd:ae B e with
  |some y=>rw[bd] at U;exact .inl U
  |none=>
   rw[bd] at U;simp only[co] at U
   split at U
   .rename_i ao;injection U with U;exact .inr ⟨rfl,ao.symm,U.symm⟩
   .cases U
 have hL: ∀(B:ay) (x:a8) {e:Nat} {ch:a8},ae B e=some ch->ae (B++[(q,x)]) e=some ch:=fun B x {e ch} U=>by rw[h9,U]
 refine⟨fP,fun ρ F I w b0 a7 c' bg eE bW dG=>?_⟩;have DH:=one aK (.b5 d (ox b c d bq)) a5;obtain⟨oq,cg,cr,Ki,cv,dm,eu⟩:(ox b c d bq (ρ d)).bo I (F q) w (ρ q):=c' q _ DH;have eX: ∀{e ch},ae aK e=some ch->e∉ck bq/\e≠q:=fun {e ch} U=>⟨fun Z=>(by rw[(va (yW e Z).1).1] at U;cases U),fun ao=>(by rw[ao,a5] at U;cases U)⟩
 have iG: ∀{e ch},ae (aK++bq) e=some ch->(ae bq e=some ch/\e∈ck bq)\/(e∉ck bq/\ae aK e=some ch):=fun {e ch} U=>by
  rw[h9] at U
  cases bd:ae aK e with
  |some ch'=>
   rw[bd] at U;exact .inr ⟨(eX bd).1,U⟩
  |none=>
   rw[bd] at U;exact .inl ⟨U,gf.2 ⟨ch,U⟩⟩
 let vx:Nat->bp:=fun e=>if e∈ck bq then oq e else ρ e
 let iS:Nat->Nat->Prop:=fun e=>if e∈ck bq then cg e else F e
 have w6: ∀e,e∉ck bq->vx e=ρ e:=fun e U=>mu U
 have yM: ∀e,e∈d::ck bq->vx e=oq e:=fun e U=>by
  rcases at7.1 U with rfl |U
  .rw[w6 _ bU,Ki]
  .exact vj U
 have m7: ∀y,(∃e ch,ae (aK++bq) e=some ch/\iS e y)-> ∃e ch,ae (aK++[(q,a8.b5 d (ox b c d bq))]) e=some ch/\F e y:=by
  rintro y ⟨e,ch,U,aD⟩;rcases iG U with⟨af,ao⟩ |⟨af,ao⟩
  .have aD:cg e y:=by simpa only[iS,vj ao] using aD
   exact⟨q,_,DH,(eu y).2 ⟨e,ch,af,aD⟩⟩
  .have aD:F e y:=by simpa only[iS,mu af] using aD
   exact⟨e,ch,hL _ _ ao,aD⟩
 match b0,bW with
 |v0::b0,bW=>
 have yL:v0= .pointer (some ⟨b,0,none⟩):=dG 0 _ v0 rfl rfl;refine(h vx iS I w (v0::b0) a7 ?_ ?_ ?_ (by simpa using bW) ?_).mono ?_
 .intro e ch U;rcases iG U with⟨af,ao⟩ |⟨af,ao⟩
  .rw[yM e (at4 _ ao)];simp only[iS,vj ao];exact Holds.cj (cm.refl _ _) (fun _ _=>rfl) (at0 _) ch (fun j V=>yM j (a8.kW (yy ru af) V)) (cv e ch af)
  .rw[w6 e af];simp only[iS,mu af];exact Holds.cj (cm.refl _ _) (fun _ _=>rfl) (at0 _) ch (fun j V=>w6 j (fun lg=>by rw[(va (yW j lg).1).2 e ch ao] at V;cases V)) (c' e ch (hL _ _ ao))
 .intro e ch U x hx;rcases iG U with⟨af,ao⟩ |⟨af,ao⟩
  .simp only[iS,vj ao] at hx;exact bg q _ DH x ((eu x).2 ⟨e,ch,af,hx⟩)
  .simp only[iS,mu af] at hx;exact bg e ch (hL _ _ ao) x hx
 .intro e cc ch ch' x U hH a6 hx dq;rcases iG U with⟨af,ao⟩ |⟨af,ao⟩
  .simp only[iS,vj ao] at hx;rcases iG hH with⟨lB,jM⟩ |⟨lB,jM⟩
   .simp only[iS,vj jM] at dq;exact dm e cc ch ch' x af lB a6 hx dq
   .simp only[iS,mu lB] at dq;exact eE q cc _ ch' x DH (hL _ _ jM) (az2 (eX jM).2) ((eu x).2 ⟨e,ch,af,hx⟩) dq
  .simp only[iS,mu af] at hx;rcases iG hH with⟨lB,jM⟩ |⟨lB,jM⟩
   .simp only[iS,vj jM] at dq;exact eE q e _ ch x DH (hL _ _ ao) (az2 (eX ao).2) ((eu x).2 ⟨cc,ch',lB,dq⟩) hx
   .simp only[iS,mu lB] at dq;exact eE e cc ch ch' x (hL _ _ ao) (hL _ _ jM) a6 hx dq
 .intro i v x aB hx
  match i with
  |0=>
   simp only[au4,at5] at aB hx;subst aB hx;show v0=_;rw[yM c (at4 _ bM),cr];exact yL
  |i+1=>
   have o3:args[i]? =some v:=aG0
   exact cx.mono (cm.refl _ _) v x (fun j V=>w6 j (fun lg=>by rw[(yW j lg).2.2.2 v (ay0 o3)] at V;cases V)) (dG (i+1) v x aG0 hx)
 .rintro e w' ⟨x,ρ',F',rfl,cF,dl,I',jq,gG,lC,ax,hU,sY⟩;have aeN:ρ'=vx:=funext fun e=>dl e aD9
  subst aeN;have nz: ∀{e ch},ae aO e=some ch->e∉ck bq/\e≠q/\ae (aO++dI) e=some ch:=fun {e ch} U=>⟨fun Z=>(by rw[(va (yW e Z).2.1).1] at U;cases U),fun ao=>(by rw[ao,fj] at U;cases U),by rw[h9,U]⟩
  have pb: ∀{e ch},ae dI e=some ch->ae aO e=none/\ae (aO++dI) e=some ch:=fun {e ch} U=>by
   have hn:=(va (yW e (aeM e (gf.2 ⟨ch,U⟩))).2.1).1;exact⟨hn,by rw[h9,hn];exact U⟩
  refine⟨x,ρ,fun e=>if e=q then(fun y=> ∃cc ch',ae dI cc=some ch'/\F' cc y) else F' e,rfl,cF.mono fun y _ aD=>m7 y aD,fun _ _=>rfl,I',jq,fun y aD=>⟨(gG y aD).1,?_⟩,?_,?_,?_,?_⟩
  .rcases(gG y aD).2 with h |h |h
   .exact .inl h
   .exact .inr (.inl (m7 y h))
   .exact .inr (.inr h)
  .intro e ch U;rcases uj _ _ U with U |⟨_,rfl,rfl⟩
   .obtain⟨af,ao,br⟩:=nz U;simp only[mu ao];rw[<-w6 e af];exact Holds.cj (cm.refl _ _) (fun _ _=>rfl) (at0 _) ch (fun j V=>(w6 j (fun lg=>by rw[(va (yW j lg).2.1).2 e ch U] at V;cases V)).symm) (lC e ch br)
   .simp only[if_true];refine⟨vx,F',by rw[yM c (at4 _ bM),cr],w6 d bU,fun e ch U=>lC e ch (pb U).2,fun e cc ch ch' x U hH a6=>hU e cc ch ch' x (pb U).2 (pb hH).2 a6,fun _=>Iff.rfl⟩
  .intro e ch U y aD;rcases uj _ _ U with U |⟨_,rfl,rfl⟩
   .obtain⟨af,ao,br⟩:=nz U;simp only[mu ao] at aD;obtain⟨cu,cp,fD⟩:=ax e ch br y aD;exact⟨cu,cp,fD.imp (m7 y) id⟩
   .simp only[if_true] at aD;obtain⟨cc,ch',E,G⟩:=aD;obtain⟨cu,cp,fD⟩:=ax cc ch' (pb E).2 y G;exact⟨cu,cp,fD.imp (m7 y) id⟩
  .intro e cc ch ch' y U hH a6 aD d';rcases uj _ _ U with cl |⟨_,rfl,rfl⟩
   .obtain⟨af,ao,br⟩:=nz cl;simp only[mu ao] at aD;rcases uj _ _ hH with cY |⟨_,rfl,rfl⟩
    .obtain⟨lB,jM,AO⟩:=nz cY;simp only[mu jM] at d';exact hU e cc ch ch' y br AO a6 aD d'
    .simp only[if_true] at d';obtain⟨g9,i',E,G⟩:=d';exact hU e g9 ch i' y br (pb E).2 (fun e=>by rw[e,(pb E).1] at cl;cases cl) aD G
   .rcases uj _ _ hH with cY |⟨_,rfl,rfl⟩
    .obtain⟨lB,jM,AO⟩:=nz cY;simp only[if_true] at aD;simp only[mu jM] at d';obtain⟨g9,i',E,G⟩:=aD;exact hU g9 cc i' ch' y (pb E).2 AO (fun e=>by rw[<-e,(pb E).1] at cY;cases cY) G d'
    .exact at1 rfl a6
  .exact cx.mono (cm.refl _ _) res x (fun j V=>(w6 j (fun lg=>by rw[(yW j lg).2.2.1] at V;cases V)).symm) sY
end
namespace Go.Proofs
open Go.Shelf
def Tryz.Sn:Go.Shelf.Ren:=⟨fun |7=>41 |10=>99 |n=>n,fun |23=>94 |26=>9 |3=>95 |28=>92 |0=>0 |27=>91 |33=>146 |4=>4 |n=>n,fun |n=>n⟩
theorem Tryz.aeO:Go.Proofs.SlLaysZ.n7 Tryz.prog Tryz.Sn:={
 mixed:=by kernel_rfl
 f7:=⟨Tryz.f41.name,by decide,Tryz.func41.trans (congrArg some (by kernel_rfl))⟩
 f10:=⟨Tryz.f99.name,by decide,Tryz.func99.trans (congrArg some (by kernel_rfl))⟩
 t0:=Tryz.underlying0
 a0:=Tryz.isAgg0
 z0:=Tryz.sizeOf0
 v0:=Tryz.zeroValue0
 t4:=Tryz.underlying4
 a4:=Tryz.isAgg4
 z4:=Tryz.sizeOf4
 v4:=Tryz.zeroValue4
 t23:=Tryz.underlying94
 a23:=Tryz.isAgg94
 z23:=Tryz.sizeOf94
 v23:=Tryz.zeroValue94
 t26:=Tryz.underlying9
 a26:=Tryz.isAgg9
 z26:=Tryz.sizeOf9
 v26:=Tryz.zeroValue9
 t27:=Tryz.underlying91
 a27:=Tryz.isAgg91
 z27:=Tryz.sizeOf91
 v27:=Tryz.zeroValue91
 t28:=Tryz.underlying92
 a28:=Tryz.isAgg92
 z28:=Tryz.sizeOf92
 v28:=Tryz.zeroValue92
 t33:=Tryz.underlying146
 a33:=Tryz.isAgg146
 z33:=Tryz.sizeOf146
 v33:=Tryz.zeroValue146}
def Tryz.So:Go.Shelf.Ren:=⟨fun |6=>40 |8=>97 |9=>98 |11=>164 |13=>166 |12=>165 |23=>225 |24=>226 |14=>216 |15=>217 |16=>218 |17=>219 |18=>220 |19=>221 |20=>222 |21=>223 |22=>224 |25=>254 |26=>255 |27=>256 |28=>257 |29=>258 |30=>259 |31=>282 |n=>n,fun |26=>9 |28=>92 |24=>37 |0=>0 |3=>3 |37=>186 |48=>321 |50=>323 |4=>4 |40=>313 |39=>312 |45=>318 |5=>5 |9=>9 |51=>341 |55=>345 |57=>359 |58=>360 |33=>146 |n=>n,fun |n=>n⟩
theorem Tryz.Sp:Go.Proofs.SlLaysZ.n6 Tryz.prog Tryz.So:={
 mixed:=by kernel_rfl
 f6:=⟨Tryz.f40.name,by decide,Tryz.func40.trans (congrArg some (by kernel_rfl))⟩
 f8:=⟨Tryz.f97.name,by decide,Tryz.func97.trans (congrArg some (by kernel_rfl))⟩
 f11:=⟨Tryz.f164.name,by decide,Tryz.func164.trans (congrArg some (by kernel_rfl))⟩
 t0:=Tryz.underlying0
 a0:=Tryz.isAgg0
 z0:=Tryz.sizeOf0
 v0:=Tryz.zeroValue0
 t24:=Tryz.underlying37
 a24:=Tryz.isAgg37
 z24:=Tryz.sizeOf37
 v24:=Tryz.zeroValue37
 t26:=Tryz.underlying9
 a26:=Tryz.isAgg9
 z26:=Tryz.sizeOf9
 v26:=Tryz.zeroValue9
 t28:=Tryz.underlying92
 a28:=Tryz.isAgg92
 z28:=Tryz.sizeOf92
 v28:=Tryz.zeroValue92
 i26:=by kernel_rfl}
def Tryz.aeP:Go.Shelf.Ren:=⟨fun |6=>98 |8=>166 |9=>165 |19=>225 |20=>226 |21=>216 |22=>217 |23=>218 |24=>219 |25=>220 |26=>221 |27=>222 |28=>223 |29=>224 |36=>254 |31=>255 |32=>256 |37=>257 |38=>258 |39=>259 |41=>282 |n=>n,fun |27=>37 |29=>9 |3=>3 |32=>186 |26=>37 |0=>0 |44=>321 |46=>323 |4=>4 |36=>313 |35=>312 |41=>318 |5=>5 |9=>9 |53=>341 |57=>345 |63=>359 |64=>360 |n=>n,fun |n=>n⟩
theorem Tryz.Sq:Go.Proofs.SlLaysM.n6 Tryz.prog Tryz.aeP:={
 mixed:=by kernel_rfl
 f6:=⟨Tryz.f98.name,by decide,Tryz.func98.trans (congrArg some (by kernel_rfl))⟩
 f8:=Tryz.func166.trans (congrArg some (by kernel_rfl))
 f9:=⟨Tryz.f165.name,by decide,Tryz.func165.trans (congrArg some (by kernel_rfl))⟩
 f19:=Tryz.func225.trans (congrArg some (by kernel_rfl))
 f20:=Tryz.func226.trans (congrArg some (by kernel_rfl))
 f21:=⟨Tryz.f216.name,by decide,Tryz.func216.trans (congrArg some (by kernel_rfl))⟩
 f22:=⟨Tryz.f217.name,by decide,Tryz.func217.trans (congrArg some (by kernel_rfl))⟩
 f23:=⟨Tryz.f218.name,by decide,Tryz.func218.trans (congrArg some (by kernel_rfl))⟩
 f24:=⟨Tryz.f219.name,by decide,Tryz.func219.trans (congrArg some (by kernel_rfl))⟩
 f25:=⟨Tryz.f220.name,by decide,Tryz.func220.trans (congrArg some (by kernel_rfl))⟩
 f26:=⟨Tryz.f221.name,by decide,Tryz.func221.trans (congrArg some (by kernel_rfl))⟩
 f27:=⟨Tryz.f222.name,by decide,Tryz.func222.trans (congrArg some (by kernel_rfl))⟩
 f28:=⟨Tryz.f223.name,by decide,Tryz.func223.trans (congrArg some (by kernel_rfl))⟩
 f29:=⟨Tryz.f224.name,by decide,Tryz.func224.trans (congrArg some (by kernel_rfl))⟩
 f31:=Tryz.func255.trans (congrArg some (by kernel_rfl))
 f32:=Tryz.func256.trans (congrArg some (by kernel_rfl))
 f36:=⟨Tryz.f254.name,by decide,Tryz.func254.trans (congrArg some (by kernel_rfl))⟩
 f37:=⟨Tryz.f257.name,by decide,Tryz.func257.trans (congrArg some (by kernel_rfl))⟩
 f38:=⟨Tryz.f258.name,by decide,Tryz.func258.trans (congrArg some (by kernel_rfl))⟩
 f39:=⟨Tryz.f259.name,by decide,Tryz.func259.trans (congrArg some (by kernel_rfl))⟩
 f41:=⟨Tryz.f282.name,by decide,Tryz.func282.trans (congrArg some (by kernel_rfl))⟩
 t0:=Tryz.underlying0
 a0:=Tryz.isAgg0
 z0:=Tryz.sizeOf0
 v0:=Tryz.zeroValue0
 t3:=Tryz.underlying3
 a3:=Tryz.isAgg3
 z3:=Tryz.sizeOf3
 v3:=Tryz.zeroValue3
 t4:=Tryz.underlying4
 a4:=Tryz.isAgg4
 z4:=Tryz.sizeOf4
 v4:=Tryz.zeroValue4
 t5:=Tryz.underlying5
 a5:=Tryz.isAgg5
 z5:=Tryz.sizeOf5
 v5:=Tryz.zeroValue5
 t9:=Tryz.underlying9
 a9:=Tryz.isAgg9
 z9:=Tryz.sizeOf9
 v9:=Tryz.zeroValue9
 t26:=Tryz.underlying37
 a26:=Tryz.isAgg37
 z26:=Tryz.sizeOf37
 v26:=Tryz.zeroValue37
 t27:=Tryz.underlying37
 a27:=Tryz.isAgg37
 z27:=Tryz.sizeOf37
 v27:=Tryz.zeroValue37
 t29:=Tryz.underlying9
 a29:=Tryz.isAgg9
 z29:=Tryz.sizeOf9
 v29:=Tryz.zeroValue9
 t32:=Tryz.underlying186
 a32:=Tryz.isAgg186
 z32:=Tryz.sizeOf186
 v32:=Tryz.zeroValue186
 t35:=Tryz.underlying312
 a35:=Tryz.isAgg312
 z35:=Tryz.sizeOf312
 v35:=Tryz.zeroValue312
 t36:=Tryz.underlying313
 a36:=Tryz.isAgg313
 z36:=Tryz.sizeOf313
 v36:=Tryz.zeroValue313
 t41:=Tryz.underlying318
 a41:=Tryz.isAgg318
 z41:=Tryz.sizeOf318
 v41:=Tryz.zeroValue318
 t44:=Tryz.underlying321
 a44:=Tryz.isAgg321
 z44:=Tryz.sizeOf321
 v44:=Tryz.zeroValue321
 t46:=Tryz.underlying323
 a46:=Tryz.isAgg323
 z46:=Tryz.sizeOf323
 v46:=Tryz.zeroValue323
 t53:=Tryz.underlying341
 a53:=Tryz.isAgg341
 z53:=Tryz.sizeOf341
 v53:=Tryz.zeroValue341
 t57:=Tryz.underlying345
 a57:=Tryz.isAgg345
 z57:=Tryz.sizeOf345
 v57:=Tryz.zeroValue345
 t63:=Tryz.underlying359
 a63:=Tryz.isAgg359
 z63:=Tryz.sizeOf359
 v63:=Tryz.zeroValue359
 t64:=Tryz.underlying360
 a64:=Tryz.isAgg360
 z64:=Tryz.sizeOf360
 v64:=Tryz.zeroValue360}
def Tryz.Sr:Go.Shelf.Ren:=⟨fun |7=>210 |10=>248 |n=>n,fun |23=>196 |26=>9 |3=>209 |28=>92 |0=>0 |27=>91 |33=>146 |4=>4 |n=>n,fun |n=>n⟩
theorem Tryz.aeQ:Go.Proofs.SlLaysZ.n7 Tryz.prog Tryz.Sr:={
 mixed:=by kernel_rfl
 f7:=⟨Tryz.f210.name,by decide,Tryz.func210.trans (congrArg some (by kernel_rfl))⟩
 f10:=⟨Tryz.f248.name,by decide,Tryz.func248.trans (congrArg some (by kernel_rfl))⟩
 t0:=Tryz.underlying0
 a0:=Tryz.isAgg0
 z0:=Tryz.sizeOf0
 v0:=Tryz.zeroValue0
 t4:=Tryz.underlying4
 a4:=Tryz.isAgg4
 z4:=Tryz.sizeOf4
 v4:=Tryz.zeroValue4
 t23:=Tryz.underlying196
 a23:=Tryz.isAgg196
 z23:=Tryz.sizeOf196
 v23:=Tryz.zeroValue196
 t26:=Tryz.underlying9
 a26:=Tryz.isAgg9
 z26:=Tryz.sizeOf9
 v26:=Tryz.zeroValue9
 t27:=Tryz.underlying91
 a27:=Tryz.isAgg91
 z27:=Tryz.sizeOf91
 v27:=Tryz.zeroValue91
 t28:=Tryz.underlying92
 a28:=Tryz.isAgg92
 z28:=Tryz.sizeOf92
 v28:=Tryz.zeroValue92
 t33:=Tryz.underlying146
 a33:=Tryz.isAgg146
 z33:=Tryz.sizeOf146
 v33:=Tryz.zeroValue146}
def Tryz.aeR:Go.Shelf.Ren:=⟨fun |5=>194 |7=>242 |n=>n,fun |23=>206 |25=>3 |3=>3 |4=>4 |20=>20 |n=>n,fun |n=>n⟩
theorem Tryz.aeS:Go.Proofs.SlLaysW.n5 Tryz.prog Tryz.aeR:={
 mixed:=by kernel_rfl
 f5:=⟨Tryz.f194.name,by decide,Tryz.func194.trans (congrArg some (by kernel_rfl))⟩
 f7:=Tryz.func242.trans (congrArg some (by kernel_rfl))
 t4:=Tryz.underlying4
 a4:=Tryz.isAgg4
 z4:=Tryz.sizeOf4
 v4:=Tryz.zeroValue4
 t20:=Tryz.underlying20
 a20:=Tryz.isAgg20
 z20:=Tryz.sizeOf20
 v20:=Tryz.zeroValue20
 t23:=Tryz.underlying206
 a23:=Tryz.isAgg206
 z23:=Tryz.sizeOf206
 v23:=Tryz.zeroValue206}
def Tryz.Lw:Go.Shelf.Ren:=⟨fun |7=>183 |10=>236 |n=>n,fun |23=>206 |26=>3 |3=>3 |28=>257 |0=>0 |27=>256 |33=>112 |4=>4 |n=>n,fun |n=>n⟩
theorem Tryz.Ss:Go.Proofs.SlLaysZI.n7 Tryz.prog Tryz.Lw:={
 mixed:=by kernel_rfl
 f7:=⟨Tryz.f183.name,by decide,Tryz.func183.trans (congrArg some (by kernel_rfl))⟩
 f10:=⟨Tryz.f236.name,by decide,Tryz.func236.trans (congrArg some (by kernel_rfl))⟩
 t0:=Tryz.underlying0
 a0:=Tryz.isAgg0
 z0:=Tryz.sizeOf0
 v0:=Tryz.zeroValue0
 t4:=Tryz.underlying4
 a4:=Tryz.isAgg4
 z4:=Tryz.sizeOf4
 v4:=Tryz.zeroValue4
 t23:=Tryz.underlying206
 a23:=Tryz.isAgg206
 z23:=Tryz.sizeOf206
 v23:=Tryz.zeroValue206
 t26:=Tryz.underlying3
 a26:=Tryz.isAgg3
 z26:=Tryz.sizeOf3
 v26:=Tryz.zeroValue3
 t27:=Tryz.underlying256
 a27:=Tryz.isAgg256
 z27:=Tryz.sizeOf256
 v27:=Tryz.zeroValue256
 t28:=Tryz.underlying257
 a28:=Tryz.isAgg257
 z28:=Tryz.sizeOf257
 v28:=Tryz.zeroValue257
 t33:=Tryz.underlying112
 a33:=Tryz.isAgg112
 z33:=Tryz.sizeOf112
 v33:=Tryz.zeroValue112}
def Tryz.aeT:Go.Shelf.Ren:=⟨fun |8=>227 |11=>260 |n=>n,fun |26=>3 |28=>257 |24=>42 |0=>0 |33=>112 |4=>4 |n=>n,fun |n=>n⟩
theorem Tryz.aeU:Go.Proofs.SlLaysZI.n8 Tryz.prog Tryz.aeT:={
 mixed:=by kernel_rfl
 f8:=⟨Tryz.f227.name,by decide,Tryz.func227.trans (congrArg some (by kernel_rfl))⟩
 f11:=⟨Tryz.f260.name,by decide,Tryz.func260.trans (congrArg some (by kernel_rfl))⟩
 t0:=Tryz.underlying0
 a0:=Tryz.isAgg0
 z0:=Tryz.sizeOf0
 v0:=Tryz.zeroValue0
 t24:=Tryz.underlying42
 a24:=Tryz.isAgg42
 z24:=Tryz.sizeOf42
 v24:=Tryz.zeroValue42
 t26:=Tryz.underlying3
 a26:=Tryz.isAgg3
 z26:=Tryz.sizeOf3
 v26:=Tryz.zeroValue3
 t28:=Tryz.underlying257
 a28:=Tryz.isAgg257
 z28:=Tryz.sizeOf257
 v28:=Tryz.zeroValue257
 i26:=by kernel_rfl}
def Tryz.St:Go.Shelf.Ren:=⟨fun |7=>198 |10=>243 |n=>n,fun |23=>165 |26=>3 |3=>27 |28=>257 |0=>0 |27=>256 |33=>112 |4=>4 |n=>n,fun |n=>n⟩
theorem Tryz.aeV:Go.Proofs.SlLaysZI.n7 Tryz.prog Tryz.St:={
 mixed:=by kernel_rfl
 f7:=⟨Tryz.f198.name,by decide,Tryz.func198.trans (congrArg some (by kernel_rfl))⟩
 f10:=⟨Tryz.f243.name,by decide,Tryz.func243.trans (congrArg some (by kernel_rfl))⟩
 t0:=Tryz.underlying0
 a0:=Tryz.isAgg0
 z0:=Tryz.sizeOf0
 v0:=Tryz.zeroValue0
 t4:=Tryz.underlying4
 a4:=Tryz.isAgg4
 z4:=Tryz.sizeOf4
 v4:=Tryz.zeroValue4
 t23:=Tryz.underlying165
 a23:=Tryz.isAgg165
 z23:=Tryz.sizeOf165
 v23:=Tryz.zeroValue165
 t26:=Tryz.underlying3
 a26:=Tryz.isAgg3
 z26:=Tryz.sizeOf3
 v26:=Tryz.zeroValue3
 t27:=Tryz.underlying256
 a27:=Tryz.isAgg256
 z27:=Tryz.sizeOf256
 v27:=Tryz.zeroValue256
 t28:=Tryz.underlying257
 a28:=Tryz.isAgg257
 z28:=Tryz.sizeOf257
 v28:=Tryz.zeroValue257
 t33:=Tryz.underlying112
 a33:=Tryz.isAgg112
 z33:=Tryz.sizeOf112
 v33:=Tryz.zeroValue112}
def Tryz.Su:Go.Shelf.Ren:=⟨fun |6=>169 |8=>227 |9=>228 |11=>260 |13=>166 |12=>261 |23=>225 |24=>226 |14=>283 |15=>284 |16=>285 |17=>286 |18=>287 |19=>288 |20=>289 |21=>290 |22=>291 |25=>297 |26=>255 |27=>256 |28=>298 |29=>299 |30=>300 |31=>301 |n=>n,fun |26=>3 |28=>257 |24=>42 |0=>0 |3=>3 |37=>186 |48=>321 |50=>323 |4=>4 |40=>313 |39=>312 |45=>318 |5=>5 |9=>9 |51=>341 |55=>345 |57=>359 |58=>360 |33=>112 |n=>n,fun |n=>n⟩
theorem Tryz.Sv:Go.Proofs.SlLaysZI.n6 Tryz.prog Tryz.Su:={
 mixed:=by kernel_rfl
 f6:=⟨Tryz.f169.name,by decide,Tryz.func169.trans (congrArg some (by kernel_rfl))⟩
 f8:=⟨Tryz.f227.name,by decide,Tryz.func227.trans (congrArg some (by kernel_rfl))⟩
 f11:=⟨Tryz.f260.name,by decide,Tryz.func260.trans (congrArg some (by kernel_rfl))⟩
 t0:=Tryz.underlying0
 a0:=Tryz.isAgg0
 z0:=Tryz.sizeOf0
 v0:=Tryz.zeroValue0
 t24:=Tryz.underlying42
 a24:=Tryz.isAgg42
 z24:=Tryz.sizeOf42
 v24:=Tryz.zeroValue42
 t26:=Tryz.underlying3
 a26:=Tryz.isAgg3
 z26:=Tryz.sizeOf3
 v26:=Tryz.zeroValue3
 t28:=Tryz.underlying257
 a28:=Tryz.isAgg257
 z28:=Tryz.sizeOf257
 v28:=Tryz.zeroValue257
 i26:=by kernel_rfl}
def Tryz.aeW:Go.Shelf.Ren:=⟨fun |5=>228 |8=>166 |7=>261 |19=>225 |20=>226 |10=>283 |11=>284 |12=>285 |13=>286 |14=>287 |15=>288 |16=>289 |17=>290 |18=>291 |30=>297 |31=>255 |32=>256 |33=>298 |34=>299 |35=>300 |40=>301 |n=>n,fun |23=>42 |25=>3 |3=>3 |32=>186 |22=>42 |0=>0 |44=>321 |46=>323 |4=>4 |36=>313 |35=>312 |41=>318 |5=>5 |9=>9 |53=>341 |57=>345 |63=>359 |64=>360 |n=>n,fun |n=>n⟩
theorem Tryz.Sw:Go.Proofs.SlLaysM.n5 Tryz.prog Tryz.aeW:={
 mixed:=by kernel_rfl
 f5:=⟨Tryz.f228.name,by decide,Tryz.func228.trans (congrArg some (by kernel_rfl))⟩
 f7:=⟨Tryz.f261.name,by decide,Tryz.func261.trans (congrArg some (by kernel_rfl))⟩
 f8:=Tryz.func166.trans (congrArg some (by kernel_rfl))
 f10:=⟨Tryz.f283.name,by decide,Tryz.func283.trans (congrArg some (by kernel_rfl))⟩
 f11:=⟨Tryz.f284.name,by decide,Tryz.func284.trans (congrArg some (by kernel_rfl))⟩
 f12:=⟨Tryz.f285.name,by decide,Tryz.func285.trans (congrArg some (by kernel_rfl))⟩
 f13:=⟨Tryz.f286.name,by decide,Tryz.func286.trans (congrArg some (by kernel_rfl))⟩
 f14:=⟨Tryz.f287.name,by decide,Tryz.func287.trans (congrArg some (by kernel_rfl))⟩
 f15:=⟨Tryz.f288.name,by decide,Tryz.func288.trans (congrArg some (by kernel_rfl))⟩
 f16:=⟨Tryz.f289.name,by decide,Tryz.func289.trans (congrArg some (by kernel_rfl))⟩
 f17:=⟨Tryz.f290.name,by decide,Tryz.func290.trans (congrArg some (by kernel_rfl))⟩
 f18:=⟨Tryz.f291.name,by decide,Tryz.func291.trans (congrArg some (by kernel_rfl))⟩
 f19:=Tryz.func225.trans (congrArg some (by kernel_rfl))
 f20:=Tryz.func226.trans (congrArg some (by kernel_rfl))
 f30:=⟨Tryz.f297.name,by decide,Tryz.func297.trans (congrArg some (by kernel_rfl))⟩
 f31:=Tryz.func255.trans (congrArg some (by kernel_rfl))
 f32:=Tryz.func256.trans (congrArg some (by kernel_rfl))
 f33:=⟨Tryz.f298.name,by decide,Tryz.func298.trans (congrArg some (by kernel_rfl))⟩
 f34:=⟨Tryz.f299.name,by decide,Tryz.func299.trans (congrArg some (by kernel_rfl))⟩
 f35:=⟨Tryz.f300.name,by decide,Tryz.func300.trans (congrArg some (by kernel_rfl))⟩
 f40:=⟨Tryz.f301.name,by decide,Tryz.func301.trans (congrArg some (by kernel_rfl))⟩
 t0:=Tryz.underlying0
 a0:=Tryz.isAgg0
 z0:=Tryz.sizeOf0
 v0:=Tryz.zeroValue0
 t3:=Tryz.underlying3
 a3:=Tryz.isAgg3
 z3:=Tryz.sizeOf3
 v3:=Tryz.zeroValue3
 t4:=Tryz.underlying4
 a4:=Tryz.isAgg4
 z4:=Tryz.sizeOf4
 v4:=Tryz.zeroValue4
 t5:=Tryz.underlying5
 a5:=Tryz.isAgg5
 z5:=Tryz.sizeOf5
 v5:=Tryz.zeroValue5
 t9:=Tryz.underlying9
 a9:=Tryz.isAgg9
 z9:=Tryz.sizeOf9
 v9:=Tryz.zeroValue9
 t22:=Tryz.underlying42
 a22:=Tryz.isAgg42
 z22:=Tryz.sizeOf42
 v22:=Tryz.zeroValue42
 t23:=Tryz.underlying42
 a23:=Tryz.isAgg42
 z23:=Tryz.sizeOf42
 v23:=Tryz.zeroValue42
 t25:=Tryz.underlying3
 a25:=Tryz.isAgg3
 z25:=Tryz.sizeOf3
 v25:=Tryz.zeroValue3
 t32:=Tryz.underlying186
 a32:=Tryz.isAgg186
 z32:=Tryz.sizeOf186
 v32:=Tryz.zeroValue186
 t35:=Tryz.underlying312
 a35:=Tryz.isAgg312
 z35:=Tryz.sizeOf312
 v35:=Tryz.zeroValue312
 t36:=Tryz.underlying313
 a36:=Tryz.isAgg313
 z36:=Tryz.sizeOf313
 v36:=Tryz.zeroValue313
 t41:=Tryz.underlying318
 a41:=Tryz.isAgg318
 z41:=Tryz.sizeOf318
 v41:=Tryz.zeroValue318
 t44:=Tryz.underlying321
 a44:=Tryz.isAgg321
 z44:=Tryz.sizeOf321
 v44:=Tryz.zeroValue321
 t46:=Tryz.underlying323
 a46:=Tryz.isAgg323
 z46:=Tryz.sizeOf323
 v46:=Tryz.zeroValue323
 t53:=Tryz.underlying341
 a53:=Tryz.isAgg341
 z53:=Tryz.sizeOf341
 v53:=Tryz.zeroValue341
 t57:=Tryz.underlying345
 a57:=Tryz.isAgg345
 z57:=Tryz.sizeOf345
 v57:=Tryz.zeroValue345
 t63:=Tryz.underlying359
 a63:=Tryz.isAgg359
 z63:=Tryz.sizeOf359
 v63:=Tryz.zeroValue359
 t64:=Tryz.underlying360
 a64:=Tryz.isAgg360
 z64:=Tryz.sizeOf360
 v64:=Tryz.zeroValue360}
def Tryz.aeX:Go.Shelf.Ren:=⟨fun |5=>208 |7=>242 |n=>n,fun |23=>296 |25=>3 |3=>301 |4=>4 |20=>20 |n=>n,fun |n=>n⟩
theorem Tryz.aeY:Go.Proofs.SlLaysW.n5 Tryz.prog Tryz.aeX:={
 mixed:=by kernel_rfl
 f5:=⟨Tryz.f208.name,by decide,Tryz.func208.trans (congrArg some (by kernel_rfl))⟩
 f7:=Tryz.func242.trans (congrArg some (by kernel_rfl))
 t4:=Tryz.underlying4
 a4:=Tryz.isAgg4
 z4:=Tryz.sizeOf4
 v4:=Tryz.zeroValue4
 t20:=Tryz.underlying20
 a20:=Tryz.isAgg20
 z20:=Tryz.sizeOf20
 v20:=Tryz.zeroValue20
 t23:=Tryz.underlying296
 a23:=Tryz.isAgg296
 z23:=Tryz.sizeOf296
 v23:=Tryz.zeroValue296}
end Go.Proofs
section
abbrev uk (fn:aI9) (tmps:aJ6) (bF:Array Nat) (assign body:Code) (D:Nat) (st:LoopState):Loop:={state:=st,pending:=none,fn:=fn,tmps:=tmps,params:=bF,assign:=assign,body:=body,defers:=D}
def GZ (mS:Nat->bp) (gi:aH4) (lG:Nat->Prop) (s9:aH9) (l:Nat) (rec:Loop) (c:Nat) (B:ay) (I F:Nat->Prop) (w:aH9) (p:bp):Prop:=
 cm lG s9 I w/\w.heap[l]? =some (.loop rec)/\ ∃(ρ:Nat->bp) (cg:Nat->Nat->Prop),ρ c=p/\(∀d,d∈gi->ρ d=mS d)/\(∀d ch,ae B d=some ch->Holds ρ I (cg d) w (ρ d) ch)/\
  (∀d cZ ch ch' b,ae B d=some ch->ae B cZ=some ch'->d≠cZ->cg d b-> ¬cg cZ b)/\(∀d ch,ae B d=some ch-> ¬cg d l)/\ ∀b,F b↔b=l\/ ∃d ch,ae B d=some ch/\cg d b
def bc.n9 (mS:Nat->bp) (gi:aH4) (lG:Nat->Prop) (s9:aH9) (l:Nat) (rec:Loop) (c:Nat) (B:ay):bc where
 bo:=GZ mS gi lG s9 l rec c B
 cj:=fun I F w I' w' p ⟨ar,al,ρ,cg,E,t1,G,ah,CS,aS⟩ U bg aM=>
  ⟨ar.trans U,(bg l ((aS l).2 (.inl rfl))).trans al,ρ,cg,E,t1,fun d ch H=>Holds.cj U (fun b O=>bg b ((aS b).2 (.inr ⟨d,ch,H,O⟩))) aM ch (fun _ _=>rfl) (G d ch H),ah,CS,aS⟩
def vD (l:aH4):List aN->Bool
 | []=>true
 |v::aE=>v.iP l&&vD l aE
def Lx {l:aH4}: ∀{aE:List aN},vD l aE=true-> ∀{i:Nat} {v:aN},aE[i]? =some v->v.iP l=true
 | [],_,i,v,h=>by simp at h
 |x::aE,h,i,v,aB=>by
  simp only[vD,as8] at h
  match i with
  |0=>
   simp only[au4,at5] at aB;exact aB▸h.1
  |i+1=>exact Lx h.2 (i:=i) aG0
def AW (l:aH4):aW->Bool
 | []=>true
 |(_,v)::K=>v.iP l&&AW l K
def Ly {l:aH4}: ∀{K:aW},AW l K=true-> ∀s,(dX K s).iP l=true
 | [],_,s=>rfl
 |(t,v)::K,h,s=>by
  simp only[AW,as8] at h;rw[kM]
  split
  .exact h.1
  .exact Ly h.2 s
section
variable {P:aI0} {aQ:df} {N:Nat} {mS:Nat->bp} {gi:aH4} {lG:Nat->Prop} {s9:aH9} {l:Nat} {rec:Loop} {c:Nat}
def pd {c:Nat} {ch:a8}:ae [(c,ch)] c=some ch:=aF9
def vE {c d:Nat} {ch ch':a8} (h:ae [(c,ch)] d=some ch'):d=c/\ch'=ch:=by
 rw[co] at h
 split at h
 .rename_i e;injection h with h;exact⟨e.symm,h.symm⟩
 .cases h
def aeZ {f:aI9} {args:List aN} {res:aN} {pP pe:ay} (h:Fn P f args pP [] res pe) (ha:vD [c] args=true) (aj:res.iP []=true):
  Fn P f args [(c,.az (bc.n9 mS gi lG s9 l rec c pP))] [] res [(c,.az (bc.n9 mS gi lG s9 l rec c pe))]:=by
 refine⟨h.1,fun ρ F I w b0 a7 c' bg eE bW dG=>?_⟩;have hZ:GZ mS gi lG s9 l rec c pP I (F c) w (ρ c):=c' c _ pd;obtain⟨ar,al,oq,cg,cr,w7,cv,dm,AX,eu⟩:=hZ;have mZ: ∀b,F c b->b < w.heap.size/\ ¬I b:=fun b O=>bg c _ pd b O
 have ll:l < w.heap.size:=ml al;have yX: ¬ ∃d ch,ae pP d=some ch/\cg d l:=fun⟨d,ch,H,aV⟩=>AX d ch H aV
 refine(h.2 oq cg I w b0 a7 cv (fun d ch H b O=>mZ b ((eu b).2 (.inr ⟨d,ch,H,O⟩))) dm bW ?_).mono ?_
 .intro i v x aB hx;refine cx.mono (cm.refl _ _) v x (fun j V=>?_) (dG i v x aB hx);have:=aN.kW (Lx ha aB) V;rw[au5] at this;subst this;exact cr
 .rintro e w' ⟨x,ρ',F',rfl,cF,dl,I',jq,gG,lC,ax,hU,sY⟩;have fG:w'.heap[l]? =some (.loop rec):=(cF.block l ll yX).trans al
  have AY: ¬I' l:=fun hi=>by
   rcases(gG l hi).2 with h |h |h
   .exact(mZ l ((eu l).2 (.inl rfl))).2 h
   .exact yX h
   .omega
  refine⟨x,ρ,fun d=>if d=c then(fun b=>b=l\/ ∃d ch,ae pe d=some ch/\F' d b) else F d,rfl,cF.mono fun b _ ⟨d,ch,H,aV⟩=>⟨c,_,pd,(eu b).2 (.inr ⟨d,ch,H,aV⟩)⟩,fun _ _=>rfl,I',jq,fun b O=>⟨(gG b O).1,?_⟩,?_,?_,?_,?_⟩
  .rcases(gG b O).2 with h |⟨d,ch,H,aV⟩ |h
   .exact .inl h
   .exact .inr (.inl ⟨c,_,pd,(eu b).2 (.inr ⟨d,ch,H,aV⟩)⟩)
   .exact .inr (.inr h)
  .intro d ch H;obtain⟨rfl,rfl⟩:=vE H;simp only[if_true];refine⟨ar.trans jq,fG,ρ',F',(dl _ aD9).trans cr,fun d H=>(dl d aD9).trans (w7 d H),lC,hU,fun d ch H aV=>?_,fun b=>Iff.rfl⟩;rcases(ax d ch H l aV).2.2 with h |h
   .exact yX h
   .omega
  .intro d ch H b O;obtain⟨rfl,rfl⟩:=vE H;simp only[if_true] at O;rcases O with rfl |⟨d,ch,H,O⟩
   .exact⟨ml fG,AY,.inl ⟨_,_,pd,(eu _).2 (.inl rfl)⟩⟩
   .obtain⟨r1,r2,fQ⟩:=ax d ch H b O;exact⟨r1,r2,fQ.imp (fun⟨d,ch,H,aV⟩=>⟨_,_,pd,(eu b).2 (.inr ⟨d,ch,H,aV⟩)⟩) id⟩
  .intro d cZ ch ch' b H c4 a6;exact at1 ((vE H).1.trans (vE c4).1.symm) a6
  .exact cx.mono (cm.refl _ _) res x (fun j V=>by have:=aN.kW aj V;cases this) sY
def AZ:aH4->List aN->aW->aW
 | [],_,K=>K
 |p::pl,aE,K=>match aE with
  | []=>K
  |v::aE=>AZ pl aE ((p,v)::K)
def Sx {ρ:Nat->bp} {I:Nat->Prop} {w:aH9}: ∀(pl:aH4) (aE:List aN) (b0:aH7) (K:aW) (t:aJ6),b0.length=aE.length->(∀p,p∈pl->p < t.size)->(∀(i:Nat) (v:aN) (x:aI8),aE[i]? =some v->b0[i]? =some x->cx ρ I w v x)->
  (∀s,cx ρ I w (dX K s) (t.getD s undef))->(((pl.zip b0).foldl (fun t (p:Nat×Value)=>t.setIfInBounds p.1 p.2) t).size=t.size/\ ∀s,cx ρ I w (dX (AZ pl aE K) s) (((pl.zip b0).foldl (fun t (p:Nat×Value)=>t.setIfInBounds p.1 p.2) t).getD s undef))
 | [],aE,b0,K,t,_,_,_,h=>⟨rfl,h⟩
 |p::pl,[],[],K,t,_,_,_,h=>⟨rfl,h⟩
 |p::pl,[],_::_,K,t,al,_,_,h=>by simp at al
 |p::pl,_::_,[],K,t,al,_,_,h=>by simp at al
 |p::pl,v::aE,x::b0,K,t,al,ag,aB,h=>by
  have Lz:=ag p (au7 ..)
  obtain⟨g1,g2⟩:=Sx pl aE b0 ((p,v)::K) (t.setIfInBounds p x) (by simpa using al) (fun q a2=>by rw[Array.size_setIfInBounds];exact ag q (at4 _ a2)) (fun i u y aZ aD=>aB (i+1) u y (by simpa using aZ) (by simpa using aD)) (fun s=>by
   rw[kM]
   by_cases e:p=s
   .subst e;rw[vj rfl];have:(t.setIfInBounds p x).getD p undef=x:=by simp[Lz]
    rw[this];exact aB 0 v x rfl rfl
   .rw[mu e];have:(t.setIfInBounds p x).getD s undef=t.getD s undef:=by simp[az7 e]
    rw[this];exact h s)
  refine⟨?_,g2⟩;rw[List.zip_cons_cons,List.foldl_cons];exact g1.trans (Array.size_setIfInBounds)
def Mem.Sy {ids:aH4} {C:fc} {B:ay} {ρ:Nat->bp} {F:Nat->Nat->Prop} {w:aH9} (h:Mem ids C B ρ F w) (bg: ∀b,C.z1 b-> ¬C.qp b):cm C.z1 C.gv (bZ C B F w) w:=fun b O=>by
 have E:=h.k'.2.1 b (.inl O);refine⟨⟨au8 E h.fr.size,.inl O,fun c ch J hf=>?_⟩,h.fr.block b E (bg b O)⟩;rcases(h.own c ch J b hf).2 with G |G
 .exact bg b O G
 .have:=G.1;omega
def ae0 (bl:d6 P aQ) {fn:aI9} {tmps:aJ6} {bF:Array Nat} {pl:aH4} {assign body:Code} {D:Nat} (l3:bF.toList=pl) (gX: ∀p,p∈pl->p < N) (cA:tmps.size=N) (DI:ja P N assign=true) (yU:ja P N body=true)
  {jb:aW} (DJ:AW gi jb=true) (J:c∈gi) (ir: ∀s,cx mS lG s9 (dX jb s) (tmps.getD s undef)) (stops:aH4) {aE:List aN} (rF:aE.length=pl.length) (K4:vD [] aE=true) {pP pe:ay}
  (ae1:i9 P aQ N (0::gi) stops assign (AZ pl aE jb) pP (fun e K B=>e= .gF/\i9 P aQ N (0::gi) stops body K B (fun e K B=>e= .gF/\ac (0::gi) K B [] pe))):
  wX P l aE [(c,.az (bc.n9 mS gi lG s9 l (uk fn tmps bF assign body D .ready) c pP))] (fun _:Unit=>qq true) (fun _=>[(c,.az (bc.n9 mS gi lG s9 l (uk fn tmps bF assign body D .ready) c pe))]):=by
 intro ρ F I w b0 a7 c' bg eE bW dG;have hZ:GZ mS gi lG s9 l (uk fn tmps bF assign body D .ready) c pP I (F c) w (ρ c):=c' c _ pd;obtain⟨ar,al,oq,cg,cr,w7,cv,dm,AX,eu⟩:=hZ;have mZ: ∀b,F c b->b < w.heap.size/\ ¬I b:=fun b O=>bg c _ pd b O
 have ll:l < w.heap.size:=ml al;have yX: ¬ ∃d ch,ae pP d=some ch/\cg d l:=fun⟨d,ch,H,aV⟩=>AX d ch H aV
 have ae2: ¬I l:=(mZ l ((eu l).2 (.inl rfl))).2;have yY: ∀{d ch b},ae pP d=some ch->cg d b->F c b:=fun {d ch b} H aV=>(eu b).2 (.inr ⟨d,ch,H,aV⟩)
 have aD:=run_yield (P:=P) (args:=b0.toArray) al (by rw[List.size_toArray,bW,rF,<-l3,Array.length_toList]);refine⟨fn,_,assign,body,aD,roundIn_of_wpIn (F:=oZ none) trivial ?_⟩
 have ae3:((bF.zip b0.toArray).foldl (fun tmps (x:Nat×Value)=>tmps.setIfInBounds x.1 x.2) tmps)=(pl.zip b0).foldl (fun t (p:Nat×Value)=>t.setIfInBounds p.1 p.2) tmps:=by
  rw[<-l3,<-Array.foldl_toList]
  congr 1
  simp
 obtain⟨g1,g2⟩:=Sx (ρ:=oq) (I:=I) (w:=w) pl aE b0 jb tmps bW (fun p ag=>by rw[cA];exact gX p ag) (fun i v x aB hx=>cx.mono (cm.refl _ _) v x (fun j V=>by have:=aN.kW (Lx K4 aB) V;cases this) (dG i v x aB hx))
  (fun s=>cx.mono ar _ _ (fun j V=>w7 j (aN.kW (Ly DJ s) V)) (ir s))
 let rN:fc:=⟨w,I,fun b=> ∃d ch,ae pP d=some ch/\cg d b,oq,[]⟩
 have sW:cm I w (bZ rN pP cg w) w:=fun b O=>⟨⟨a7 b O,.inl O,fun d ch H aV=>(mZ b (yY H aV)).2 O⟩,rfl⟩
 have kV:Mem (0::gi) rN pP oq cg w:=⟨cU.refl _ _,fun d ch H=>Holds.cj sW (fun _ _=>rfl) (at0 _) ch (fun _ _=>rfl) (cv d ch H),fun d ch H b O=>⟨(mZ b (yY H O)).1,.inl ⟨d,ch,H,O⟩⟩,dm,fun _ _=>rfl,az4,
  fun b O=>O.elim (a7 b) fun⟨d,ch,H,aV⟩=>(mZ b (yY H aV)).1,fun D cw=>by cases cw⟩
 have hK:e2 N (0::gi) rN (AZ pl aE jb) pP ⟨(bF.zip b0.toArray).foldl (fun tmps (x:Nat×Value)=>tmps.setIfInBounds x.1 x.2) tmps,[]⟩ w:=by
  rw[ae3];exact⟨g1.trans cA,rfl,oq,cg,kV,fun s=>cx.mono sW _ _ (fun _ _=>rfl) (g2 s)⟩
 refine Az bl (AI bl) stops assign _ _ _ DI ae1 (some l) (fun h=>by simp[tT] at h) rN _ ?_ _ w hK;rintro e Rj jN ds gY ⟨rfl,ae4⟩ bM cJ fu;have gY:ds=[]:=gY (by simp[tT]);subst gY;obtain⟨cC,g9,s2,cI,jr,ae5⟩:=fu;have jr:Mem (0::gi) rN jN s2 cI cJ:=jr;have n1:cJ.heap[l]? =some (.loop (uk fn tmps bF assign body D .ready)):=(jr.fr.block l ll yX).trans al;have ae6:=ml n1
 have AY: ¬bZ rN jN cI cJ l:=fun hi=>by
  rcases hi.2.1 with h |h |h
  .exact ae2 h
  .exact yX h
  .have h:w.heap.size<=l:=h.1;omega
 have G0: ∀d ch,ae jN d=some ch-> ¬cI d l:=fun d ch H hf=>by
  rcases(jr.own d ch H l hf).2 with h |h
  .exact yX h
  .have h:w.heap.size<=l:=h.1;omega
 refine⟨_,run_beginRound n1 rfl,?_⟩;obtain⟨eH,DK⟩: ∃eH,eH=cJ.putObj l (.loop {uk fn tmps bF assign body D .ready with state:=.busy}):=⟨_,rfl⟩;rw[<-DK];have DL:eH.heap.size=cJ.heap.size:=by rw[DK,World.putObj_size]
 have LA: ∀b,b≠l->eH.heap[b]? =cJ.heap[b]? :=fun b O=>by rw[DK];exact World.putObj_heap_other O
 have l4:eH.heap[l]? =some (.loop {uk fn tmps bF assign body D .ready with state:=.busy}):=by rw[DK];exact World.putObj_heap_same ae6
 have LB:eH.os=cJ.os/\eH.tape=cJ.tape/\eH.output=cJ.output:=by rw[DK];exact⟨rfl,rfl,rfl⟩
 let pf:fc:=⟨eH,bZ rN jN cI cJ,fun b=> ∃d ch,ae jN d=some ch/\cI d b,s2,[]⟩
 have qu:cm (bZ rN jN cI cJ) cJ (bZ pf jN cI eH) eH:=fun b O=>⟨⟨by rw[DL];exact O.1,.inl O,O.2.2⟩,LA b (fun e=>AY (e▸O))⟩
 have ae7:Mem (0::gi) pf jN s2 cI eH:=⟨cU.refl _ _,fun d ch H=>Holds.cj qu (fun b O=>LA b (fun e=>G0 d ch H (e▸O))) (Nat.le_of_eq DL.symm) ch (fun _ _=>rfl) (jr.holds d ch H),fun d ch H b O=>⟨by rw[DL];exact(jr.own d ch H b O).1,.inl ⟨d,ch,H,O⟩⟩,jr.fd,fun _ _=>rfl,az4,
  fun b O=>by
   show b < eH.heap.size;rw[DL];exact O.elim (fun O=>O.1) fun⟨d,ch,H,aV⟩=>(jr.own d ch H b aV).1,fun D cw=>by cases cw⟩
 refine Az bl (AI bl) stops body _ _ _ yU ae4 (some l) (fun h=>by simp[tT] at h) pf _ ?_ bM eH ⟨cC,g9,s2,cI,ae7,ae5.mono qu fun _ _ _=>rfl⟩;rintro e asy asz ds gY ⟨rfl,gD⟩ a3 lm ae8;have gY:ds=[]:=gY (by simp[tT]);subst gY;obtain⟨jd,og,AP,ul,ta,asA⟩:=gD N (pf.at []) a3 lm ae8;have ta:Mem (0::gi) pf pe AP ul lm:=ta;have Sz:lm.heap[l]? =some (.loop {uk fn tmps bF assign body D .ready with state:=.busy}):=(ta.fr.block l (ml l4) (fun⟨d,ch,H,aV⟩=>G0 d ch H aV)).trans l4;have SA:=ml Sz
 have SB: ¬bZ pf pe ul lm l:=fun hi=>by
  rcases hi.2.1 with h |h |h
  .exact AY h
  .obtain⟨d,ch,H,aV⟩:=h;exact G0 d ch H aV
  .have h:eH.heap.size<=l:=h.1;omega
 have SC: ∀d ch,ae pe d=some ch-> ¬ul d l:=fun d ch H hf=>by
  rcases(ta.own d ch H l hf).2 with h |h
  .obtain⟨d,ch,H,aV⟩:=h;exact G0 d ch H aV
  .have h:eH.heap.size<=l:=h.1;omega
 obtain⟨iT,ln⟩: ∃iT,iT=lm.putObj l (.loop (uk fn tmps bF assign body D .ready)):=⟨_,rfl⟩;have dK:(Instr.endRound l none).run P lm= .ok (.bool true) iT:=by rw[ln];exact run_endRound none Sz
 refine⟨.bool true,iT,dK,?_⟩;have qF:iT.heap.size=lm.heap.size:=by rw[ln,World.putObj_size]
 have vF: ∀b,b≠l->iT.heap[b]? =lm.heap[b]? :=fun b O=>by rw[ln];exact World.putObj_heap_other O
 have ae9:iT.heap[l]? =some (.loop (uk fn tmps bF assign body D .ready)):=by rw[ln];exact World.putObj_heap_same SA
 have yZ:iT.os=lm.os/\iT.tape=lm.tape/\iT.output=lm.output:=by rw[ln];exact⟨rfl,rfl,rfl⟩
 have ae':cm I w (bZ rN jN cI cJ) cJ:=jr.Sy fun b O ⟨d,ch,H,aV⟩=>(mZ b (yY H aV)).2 O
 have afa:cm (bZ rN jN cI cJ) cJ (bZ rN jN cI cJ) eH:=fun b O=>⟨O,(qu b O).2⟩
 have afb:cm (bZ rN jN cI cJ) eH (bZ pf pe ul lm) lm:=ta.Sy fun b O ⟨d,ch,H,aV⟩=>O.2.2 d ch H aV
 have SD:cm (bZ pf pe ul lm) lm (bZ pf pe ul lm) iT:=fun b O=>⟨O,vF b (fun e=>SB (e▸O))⟩
 have SE:cm I w (bZ pf pe ul lm) iT:=ae'.trans (afa.trans (afb.trans SD));have SF:=jr.fr.size;have SF:w.heap.size<=cJ.heap.size:=SF;have z23:eH.heap.size<=lm.heap.size:=ta.fr.size
 have e8: ∀{b},(pf.qp b\/pf.gv.heap.size<=b/\b∉pf.ds)->F c b\/w.heap.size<=b:=fun {b} h=>by
  rcases h with⟨d,ch,H,aV⟩ |h
  .rcases(jr.own d ch H b aV).2 with⟨d,ch,H,aV⟩ |h
   .exact .inl (yY H aV)
   .exact .inr h.1
  .have h:eH.heap.size<=b:=h.1;exact .inr aD7
 refine⟨(),.bool true,ρ,fun d=>if d=c then(fun b=>b=l\/ ∃d ch,ae pe d=some ch/\ul d b) else F d,rfl,?_,fun _=>rfl,bZ pf pe ul lm,SE,fun b O=>⟨by rw[qF];exact O.1,?_⟩,?_,?_,?_,rfl⟩
 .have fU:cU (fun b=>F c b) w cJ:=jr.fr.mono fun b _ ⟨d,ch,H,aV⟩=>yY H aV
  have gV:cU (fun b=>b=l) cJ eH:=⟨LB.1,LB.2.1,LB.2.2,Nat.le_of_eq DL.symm,fun b _ O=>LA b O⟩;have f3:cU pf.qp eH lm:=ta.fr;have f4:cU (fun b=>b=l) lm iT:=⟨yZ.1,yZ.2.1,yZ.2.2,Nat.le_of_eq qF.symm,fun b _ O=>vF b O⟩;have dR:F c l:=(eu l).2 (.inl rfl)
  have f:cU (fun b=>F c b) w iT:=((fU.trans gV fun b _ (O:b=l)=>by rw[O];exact dR).trans f3 fun b O hf=>by
   rcases e8 (.inl hf) with h |h
   .exact h
   .omega).trans f4 fun b _ (O:b=l)=>by rw[O];exact dR
  exact f.mono fun b _ O=>⟨c,_,pd,O⟩
 .rcases O.2.1 with h |h
  .rcases h.2.1 with h |⟨d,ch,H,aV⟩ |h
   .exact .inl h
   .exact .inr (.inl ⟨c,_,pd,yY H aV⟩)
   .exact .inr (.inr h.1)
  .exact .inr ((e8 h).imp (fun h=>⟨c,_,pd,h⟩) id)
 .intro d ch H;obtain⟨rfl,rfl⟩:=vE H;simp only[if_true];have Z: ∀d,d∈gi->AP d=oq d:=fun d H=>(ta.l0 d (at4 _ H)).trans (jr.l0 d (at4 _ H))
  exact⟨ar.trans SE,ae9,AP,ul,(Z _ J).trans cr,fun d H=>(Z d H).trans (w7 d H),fun d ch H=>Holds.cj SD (fun b O=>vF b (fun e=>SC d ch H (e▸O))) (Nat.le_of_eq qF.symm) ch (fun _ _=>rfl) (ta.holds d ch H),ta.fd,SC,fun b=>Iff.rfl⟩
 .intro d ch H b O;obtain⟨rfl,rfl⟩:=vE H;simp only[if_true] at O;rcases O with rfl |⟨d,ch,H,O⟩
  .exact⟨by rw[qF];exact SA,SB,.inl ⟨_,_,pd,(eu _).2 (.inl rfl)⟩⟩
  .obtain⟨r1,r2⟩:=ta.own d ch H b O;exact⟨by rw[qF];exact r1,fun hi=>hi.2.2 d ch H O,(e8 r2).imp (fun h=>⟨_,_,pd,h⟩) id⟩
 .intro d cZ ch ch' b H c4 a6;exact at1 ((vE H).1.trans (vE c4).1.symm) a6
def afc {f:aI9} {w:aH9} {cs args:aJ6} (hf:jp P f=true):(invoke (.fn (.func f) cs) args).run P w= .ok (.enter f (args++cs)) w:=by
 unfold jp at hf
 split at hf
 .rename_i fn kw;simp only[av3,ax5,beq_eq_false_iff_ne] at hf;have G: ¬fn.body=none:=fun e=>by rw[e] at hf;simp at hf
  simp[invoke,callFunc,go_sem,kw];rw[mu hf.1,mu G]
 .cases hf
abbrev lH (ju:List (Nat×bc)):ay:=ju.map fun p=>(p.1,a8.az p.2)
def SG {d:Nat} {ch:a8}: ∀{ju:List (Nat×bc)},ae (lH ju) d=some ch-> ∃o,(d,o)∈ju/\ch= .az o
 | [],h=>by cases h
 |p::l,h=>by
  have h:ae ((p.1,a8.az p.2)::lH l) d=some ch:=h;rw[co] at h
  split at h
  .rename_i e;injection h with h
   exact⟨p.2,by rw[<-e];exact au7 ..,h.symm⟩
  .obtain⟨o,E,G⟩:=SG h;exact⟨o,at4 _ E,G⟩
def bG.afd (bl:d6 P aQ) {ids:aH4} (stops:aH4) {s:Nat} {bF:Array Nat} {pl:aH4} {assign body:Code} (l3:bF.toList=pl) (DI:ja P N assign=true) (yU:ja P N body=true) (gX:(pl.all fun p=>Nat.blt p N)=true)
  {f:aI9} {A0:List kL} (hf:jp P f=true) (gi:aH4) (K jb:aW) (ih:ay) {X:Type} (e4:X->ay) (c:Nat) (gP nb:X) (Y:X->List aN->X->Prop) (ju:List (Nat×bc)) (vk:(ju.all fun p=>gi.contains p.1&& !Nat.beq p.1 c&& !(ck (e4 nb)).contains p.1)=true)
  (LC:dX K s= .c (.one (.c2 f A0))) (DJ:yA K jb)
  (Z:(gi.contains c&&AW gi jb&&ids.all gi.contains&& !tT ids)=true) (AD:((ck (e4 gP)).all (fun d=> !(ck ih).contains d)&& !(ck ih).contains c)=true)
  (LD: ∀x aE lI,Y x aE lI->aE.length=pl.length/\vD [] aE=true/\i9 P aQ N (0::gi) stops assign (AZ pl aE jb) (e4 x) (fun e K B=>e= .gF/\i9 P aQ N (0::gi) stops body K B (fun e K B=>e= .gF/\ac (0::gi) K B [] (e4 lI))))
  (LE: ∀(l:Nat) (eI:X->bc),(∀qA args res x lI,Fn P qA args (e4 x) [] res (e4 lI)->vD [c] args=true->res.iP []=true->Fn P qA args [(c,.az (eI x))] [] res [(c,.az (eI lI))])->
   (∀x aE lI,Y x aE lI->wX P l aE [(c,.az (eI x))] (fun _:Unit=>qq true) (fun _=>[(c,.az (eI lI))]))->
   Fn P f (.c (.one (.bK (.func (.yield l) #[] #[])))::n' A0) (ih++[(c,.az (eI gP))]) [] (.b4 []) (lH ju++[(c,.az (eI nb))]))
  {Q:oa->aW->ay->Prop} (sX:Q .gF jb (lH ju++e4 nb)):bG P N ids (.rangeFunc (.tmp s) bF assign body) K (ih++e4 gP) Q:=by
 intro r aj C iE a2 a w aw;simp only[as8,av3] at Z AD;obtain⟨⟨⟨cd,ey⟩,afe⟩,hid⟩:=Z;obtain⟨jx,iq⟩:=AD;have cd:=s0 cd;have Jv: ∀d,d∈ids->d∈gi:=fun d H=>s0 (av4.1 afe d H)
 have SH:ae ih c=none:=by
  cases e:ae ih c with
  |none=>rfl
  |some ch=>have:=av6.2 (gf.2 ⟨ch,e⟩);rw[iq] at this;cases this
 have aj:=aj hid;subst aj;obtain⟨hn,H,ρ,F,ak,au⟩:=aw
 have pQ: ∀{d ch},ae (e4 gP) d=some ch->ae (ih++e4 gP) d=some ch/\ae ih d=none:=fun {d ch} h=>by
  have Z:=av4.1 jx d (gf.2 ⟨ch,h⟩)
  have hn:ae ih d=none:=by
   cases e:ae ih d with
   |none=>rfl
   |some ch'=>rw[av6.2 (gf.2 ⟨ch',e⟩)] at Z;cases Z
  exact⟨by rw[h9,hn];exact h,hn⟩
 have rO: ∀{d ch},ae ih d=some ch->ae (ih++e4 gP) d=some ch:=fun {d ch} h=>by rw[h9,h]
 refine wpIn_rangeFunc fun fn _=>?_
 obtain⟨rec,mW⟩: ∃rec,rec=uk fn a.tmps bF assign body w.heap.size .ready:=⟨_,rfl⟩;obtain⟨cJ,vA⟩: ∃cJ,cJ=(w.alloc (.deferred (some []))).alloc (.loop rec):=⟨_,rfl⟩;have qB:Below w.heap.size w cJ:=by rw[vA];exact((Below.refl _ w).alloc (at0 _) _).alloc aD9 _
 have asB:cJ.heap.size=w.heap.size+2:=by rw[vA];simp
 have LF:cJ.heap[w.heap.size+1]? =some (.loop rec):=by rw[vA];have:=World.alloc_heap_new (w.alloc (.deferred (some []))) (.loop rec);rwa[World.size_alloc] at this
 have LG:cJ.heap[w.heap.size]? =some (.deferred (some [])):=by rw[vA];exact(Below.heap_alloc _ _ _ aD9).trans (World.alloc_heap_new w _)
 obtain⟨l,nF⟩: ∃l,l=w.heap.size+1:=⟨_,rfl⟩;rw[<-nF] at LF
 let lG:=bZ C (ih++e4 gP) F w
 have nE:cm lG w lG cJ:=fun b O=>⟨O,qB.block b O.1⟩
 let eI:=fun x=>bc.n9 ρ gi lG cJ l rec c (e4 x)
 have aB:=au s;rw[LC] at aB;obtain⟨cs,ev,yJ⟩:=aB;obtain⟨aff,afg⟩:=h5.b0 A0 cs yJ
 have ir: ∀t,cx ρ lG cJ (dX jb t) (a.tmps.getD t undef):=fun t=>by
  rcases KD DJ t with h |h
  .exact cx.mono nE _ _ (fun _ _=>rfl) (wQ h (au t))
  .rw[h];trivial
 have kw:=LE l eI (fun qA args res x lI h ha aj=>aeZ h ha aj) (fun x aE lI aD=>by
  obtain⟨vs,wU,Dj⟩:=LD x aE lI aD;show wX P l aE [(c,.az (bc.n9 ρ gi lG cJ l rec c (e4 x)))] (fun _:Unit=>qq true) (fun _=>[(c,.az (bc.n9 ρ gi lG cJ l rec c (e4 lI)))]);rw[mW];exact ae0 bl l3 (fun p ag=>by have:=av4.1 gX p ag;simpa[Nat.blt_eq] using this) hn DI yU ey cd ir stops vs wU Dj)
 refine⟨l,[x' w.heap.size],cJ,{target:=.fn (.func f) cs.toArray,args:= #[.func (.yield l) #[] #[]]},cJ,f,#[.func (.yield l) #[] #[]]++cs.toArray,cJ,?_,?_,fun _ _=>trivial,afc hf,fun h=>at1 h aD9,Q9 ?_⟩
 .rw[vA,nF,mW];exact run_enterLoop_outer _ _ _ _ _
 .have afh:a.eval (.tmp s)= .func (.func f) #[] cs.toArray:=ev;simp only[resolve,afh];simp[go_sem]
 have afi: #[Value.func (.yield l) #[] #[]]++cs.toArray=(Value.func (.yield l) #[] #[]::cs).toArray:=by simp
 rw[afi];have GO: ∀b,(∃d ch,ae (e4 gP) d=some ch/\F d b)->b < w.heap.size:=fun b ⟨d,ch,H,O⟩=>(ak.own d ch (pQ H).1 b O).1
 let cI:Nat->Nat->Prop:=fun d=>if d=c then(fun b=>b=l\/ ∃d ch,ae (e4 gP) d=some ch/\F d b) else F d
 have iG: ∀{d ch},ae (ih++[(c,a8.az (eI gP))]) d=some ch->(d=c/\ch= .az (eI gP))\/(d≠c/\ae ih d=some ch):=fun {d ch} h=>by
  rw[h9] at h
  cases e:ae ih d with
  |some ch'=>
   rw[e] at h;exact .inr ⟨fun LH=>(by rw[LH,SH] at e;cases e),h⟩
  |none=>
   rw[e] at h;obtain⟨af,ao⟩:=vE h;exact .inl ⟨af,ao⟩
 have dR:ae (ih++[(c,a8.az (eI gP))]) c=some (.az (eI gP)):=by rw[h9,SH];exact pd
 have w8:cI c=(fun b=>b=l\/ ∃d ch,ae (e4 gP) d=some ch/\F d b):=vj rfl;have um: ∀{d},d≠c->cI d=F d:=fun {d} h=>mu h
 have asC:w.heap.size<=l:=aE5
 refine(kw.2 ρ cI lG cJ _ (fun b O=>by have:=O.1;omega) ?_ ?_ ?_ (by simp[aff]) ?_).mono ?_
 .intro d ch H;rcases iG H with⟨rfl,rfl⟩ |⟨e,H⟩
  .rw[w8]
   exact⟨cm.refl _ _,LF,ρ,F,rfl,fun _ _=>rfl,fun d ch H=>Holds.cj nE (fun b O=>qB.block b (ak.own d ch (pQ H).1 b O).1) qB.size ch (fun _ _=>rfl) (ak.holds d ch (pQ H).1),fun d cZ ch ch' b E G=>ak.fd d cZ ch ch' b (pQ E).1 (pQ G).1,
    fun d ch H O=>by have:=(ak.own d ch (pQ H).1 l O).1;omega,fun b=>Iff.rfl⟩
  .rw[um e];exact Holds.cj nE (fun b O=>qB.block b (ak.own d ch (rO H) b O).1) qB.size ch (fun _ _=>rfl) (ak.holds d ch (rO H))
 .intro d ch H b O;rcases iG H with⟨rfl,rfl⟩ |⟨e,H⟩
  .rw[w8] at O;rcases O with rfl |⟨d,ch,H,O⟩
   .exact⟨ml LF,fun hi=>by have:=hi.1;omega⟩
   .have:=(ak.own d ch (pQ H).1 b O).1;exact⟨aD7,fun hi=>hi.2.2 d ch (pQ H).1 O⟩
  .rw[um e] at O;have:=(ak.own d ch (rO H) b O).1;exact⟨aD7,fun hi=>hi.2.2 d ch (rO H) O⟩
 .intro d cZ ch ch' b H c4 a6 O c8
  have key: ∀{d ch b},ae ih d=some ch->F d b-> ¬(b=l\/ ∃d ch,ae (e4 gP) d=some ch/\F d b):=fun {af cu b1} cl cY hx=>by
   rcases hx with hx |⟨ip,o0,ek,eL⟩
   .have:=(ak.own af cu (rO cl) _ cY).1;omega
   .exact ak.fd af ip cu o0 b1 (rO cl) (pQ ek).1 (fun e=>by rw[e,(pQ ek).2] at cl;cases cl) cY eL
  rcases iG H with⟨e,_⟩ |⟨e,H⟩ <;>rcases iG c4 with⟨cc,_⟩ |⟨cc,c4⟩
  .exact a6 (e.trans cc.symm)
  .rw[e,w8] at O;rw[um cc] at c8;exact key c4 c8 O
  .rw[um e] at O;rw[cc,w8] at c8;exact key H O c8
  .rw[um e] at O;rw[um cc] at c8;exact ak.fd d cZ ch ch' b (rO H) (rO c4) a6 O c8
 .intro i v x aB hx
  match i with
  |0=>
   simp only[au4,at5] at aB hx;subst aB hx;rfl
  |i+1=>exact cx.mono nE v x (fun _ _=>rfl) (afg i v x aG0 aG7)
 rintro e eH ⟨x,ρ',F',rfl,cF,dl,I',jq,gG,lC,ax,hU,-⟩
 have iO: ∀{d ch},ae (lH ju) d=some ch->d∈gi/\d≠c/\ae (e4 nb) d=none/\ ∃o,ch= .az o:=fun {d ch} h=>by
  obtain⟨o,E,G⟩:=SG h;have:=av4.1 vk _ E;simp only[as8,av3] at this;refine⟨s0 this.1.1,Nat.ne_of_beq_eq_false this.1.2,?_,o,G⟩
  cases e:ae (e4 nb) d with
  |none=>rfl
  |some ch'=>have ah:=av6.2 (gf.2 ⟨ch',e⟩);rw[this.2] at ah;cases ah
 have afj:ae (lH ju) c=none:=by
  cases e:ae (lH ju) c with
  |none=>rfl
  |some ch=>exact at1 rfl (iO e).2.1
 have LI:ae (lH ju++[(c,a8.az (eI nb))]) c=some (.az (eI nb)):=by rw[h9,afj];exact pd
 have A1: ∀{d ch},ae (lH ju) d=some ch->ae (lH ju++[(c,a8.az (eI nb))]) d=some ch:=fun {d ch} h=>by rw[h9,h]
 have hZ:GZ ρ gi lG cJ l rec c (e4 nb) I' (F' c) eH (ρ' c):=lC c _ LI;obtain⟨ar,al,oq,cg,cr,w7,cv,dm,AX,eu⟩:=hZ;have ll:=ml al;obtain⟨iT,ln⟩: ∃iT,iT=eH.putObj l (.loop {rec with state:=.exhausted}):=⟨_,rfl⟩
 have dK:(Instr.endLoop l).run P eH= .ok none iT:=by
  have E:=run_endLoop (P:=P) al (by rw[mW];simp);have G:rec.pending=none:=by rw[mW]
  rw[ln,E,G]
 refine⟨none,iT,dK,?_⟩;show iE .normal {a with defers:=[x' w.heap.size]++a.defers} iT;have qF:iT.heap.size=eH.heap.size:=by rw[ln,World.putObj_size]
 have vF: ∀b,b≠l->iT.heap[b]? =eH.heap[b]? :=fun b O=>by rw[ln];exact World.putObj_heap_other O
 have yZ:iT.os=eH.os/\iT.tape=eH.tape/\iT.output=eH.output:=by rw[ln];exact⟨rfl,rfl,rfl⟩
 have asD:=cF.size
 have LJ: ∀{d ch b},ae (lH ju++[(c,a8.az (eI nb))]) d=some ch->F' d b->b < eH.heap.size/\ ¬I' b/\(b=l\/(∃d ch,ae (ih++e4 gP) d=some ch/\F d b)\/cJ.heap.size<=b):=fun {d ch b} da O=>by
  obtain⟨r1,r2,fQ⟩:=ax d ch da b O;refine⟨r1,r2,?_⟩;rcases fQ with⟨d,ch,H,hf⟩ |fQ
  .rcases iG H with⟨rfl,rfl⟩ |⟨e,H⟩
   .rw[w8] at hf;exact hf.imp id fun⟨d,ch,H,hf⟩=>.inl ⟨d,ch,(pQ H).1,hf⟩
   .rw[um e] at hf;exact .inr (.inl ⟨d,ch,rO H,hf⟩)
  .exact .inr (.inr fQ)
 have LK: ∀{b},F' c b->b < eH.heap.size/\ ¬I' b/\(b=l\/(∃d ch,ae (ih++e4 gP) d=some ch/\F d b)\/cJ.heap.size<=b):=fun {b} O=>LJ LI O
 have w9: ∀{d ch b},ae (lH ju) d=some ch->F' d b-> ¬F' c b:=fun {d ch b} H O=>hU d c _ _ b (A1 H) LI (iO H).2.1 O
 obtain⟨A2,SI⟩: ∃A2:Nat->Nat->Prop,A2=fun d=>if(ae (lH ju) d).isSome=true then F' d else cg d:=⟨_,rfl⟩
 have y0: ∀{d ch},ae (lH ju) d=some ch->A2 d=F' d:=fun {d ch} h=>by rw[SI];show(if _ then _ else _)=_;rw[h];rfl
 have y1: ∀{d},ae (lH ju) d=none->A2 d=cg d:=fun {d} h=>by rw[SI];show(if _ then _ else _)=_;rw[h];rfl
 have fC: ∀{d ch},ae (lH ju++e4 nb) d=some ch->(ae (lH ju) d=some ch)\/(ae (lH ju) d=none/\ae (e4 nb) d=some ch):=fun {d ch} h=>by
  rw[h9] at h
  cases e:ae (lH ju) d with
  |some ch'=>rw[e] at h;exact .inl h
  |none=>rw[e] at h;exact .inr ⟨rfl,h⟩
 have AY: ¬I' l:=(LK ((eu l).2 (.inl rfl))).2.1
 have LL: ∀{b},((∃d ch,ae (ih++e4 gP) d=some ch/\F d b)\/cJ.heap.size<=b)->(C.qp b\/C.gv.heap.size<=b/\b∉w.heap.size::C.ds):=fun {b} h=>by
  rcases h with⟨d,ch,H,hf⟩ |h
  .obtain⟨r1,r2⟩:=ak.own d ch H b hf;exact r2.imp id fun x=>⟨x.1,fun aC=>(at7.1 aC).elim (fun e=>by omega) x.2⟩
  .have:=ak.fresh (b:=b) aD7;exact .inr ⟨this.1,fun aC=>(at7.1 aC).elim (fun e=>by omega) this.2⟩
 have afk: ∀{b},(lG b\/(∃d ch,ae (ih++e4 gP) d=some ch/\F d b)\/cJ.heap.size<=b)->(C.z1 b\/C.qp b\/C.gv.heap.size<=b/\b∉w.heap.size::C.ds):=fun {b} h=>by
  rcases h with h |h
  .have E:=h.1;exact h.2.1.imp id fun x=>x.imp id fun x=>⟨x.1,fun aC=>(at7.1 aC).elim (fun e=>by omega) x.2⟩
  .exact .inr (LL h)
 have A3:cm I' eH (bZ (C.at (w.heap.size::C.ds)) (lH ju++e4 nb) A2 iT) iT:=fun b O=>by
  have a6:b≠l:=fun e=>AY (e▸O)
  obtain⟨r1,r2⟩:=gG b O
  refine⟨⟨by rw[qF];exact r1,afk ?_,fun d ch H aV=>by
   rcases fC H with H |⟨ar,H⟩
   .rw[y0 H] at aV;exact(LJ (A1 H) aV).2.1 O
   .rw[y1 ar] at aV;exact(LK ((eu b).2 (.inr ⟨d,ch,H,aV⟩))).2.1 O⟩,vF b a6⟩
  rcases r2 with r2 |⟨d,ch,H,hf⟩ |r2
  .exact .inl r2
  .rcases iG H with⟨rfl,rfl⟩ |⟨e,H⟩
   .rw[w8] at hf;rcases hf with hf |⟨d,ch,H,hf⟩
    .exact at1 hf a6
    .exact .inr (.inl ⟨d,ch,(pQ H).1,hf⟩)
   .rw[um e] at hf;exact .inr (.inl ⟨d,ch,rO H,hf⟩)
  .exact .inr (.inr r2)
 refine a2 .gF jb (lH ju++e4 nb) (w.heap.size::C.ds) (fun h=>by rw[hid] at h;cases h) sX _ _ ⟨hn,?_,oq,A2,⟨?_,?_,?_,?_,?_,?_,ak.k'.2.1,?_⟩,?_⟩
 .show[x' w.heap.size]++a.defers=List.map x' (w.heap.size::C.ds);rw[H];rfl
 .refine(ak.fr.trans (S':=fun b=>b=l\/ ∃d ch,ae (ih++e4 gP) d=some ch/\F d b) ?_ fun b O h=>?_)
  .have fU:cU (fun b=>b=l\/ ∃d ch,ae (ih++e4 gP) d=some ch/\F d b) w cJ:=cU.rj qB;have f4:cU (fun b=>b=l) eH iT:=⟨yZ.1,yZ.2.1,yZ.2.2,Nat.le_of_eq qF.symm,fun b _ O=>vF b O⟩;refine(fU.trans cF ?_).trans f4 fun b _ O=>.inl O
   rintro b _ ⟨d,ch,H,hf⟩;rcases iG H with⟨rfl,rfl⟩ |⟨e,H⟩
   .rw[w8] at hf;exact hf.imp id fun⟨d,ch,H,hf⟩=>⟨d,ch,(pQ H).1,hf⟩
   .rw[um e] at hf;exact .inr ⟨d,ch,rO H,hf⟩
  .have z0:=ak.fr.size;rcases h with h |⟨d,ch,H,hf⟩
   .omega
   .rcases(ak.own d ch H b hf).2 with h |h
    .exact h
    .have:=h.1;omega
 .intro d ch H;rcases fC H with H |⟨ar,H⟩
  .obtain⟨cl,cY,ek,o,rfl⟩:=iO H;rw[y0 H];have bB:Holds ρ' I' (F' d) eH (ρ' d) (.az o):=lC d _ (A1 H);rw[dl d aD9,<-w7 d cl] at bB;exact Holds.cj (ρ:=oq) A3 (fun b O=>vF b (fun e=>w9 H O ((eu b).2 (.inl e)))) (Nat.le_of_eq qF.symm) (.az o) (fun _ _=>rfl) bB
  .rw[y1 ar];exact Holds.cj A3 (fun b O=>vF b (fun e=>AX d ch H (e▸O))) (Nat.le_of_eq qF.symm) ch (fun _ _=>rfl) (cv d ch H)
 .intro d ch H b O;rcases fC H with H |⟨ar,H⟩
  .rw[y0 H] at O;obtain⟨r1,r2,fQ⟩:=LJ (A1 H) O;exact⟨by rw[qF];exact r1,LL (fQ.resolve_left fun e=>w9 H O ((eu b).2 (.inl e)))⟩
  .rw[y1 ar] at O;obtain⟨r1,r2,fQ⟩:=LK ((eu b).2 (.inr ⟨d,ch,H,O⟩));have a6:b≠l:=fun e=>AX d ch H (e▸O)
   exact⟨by rw[qF];exact r1,LL (fQ.resolve_left a6)⟩
 .intro d cZ ch ch' b H c4 a6 O c8;rcases fC H with H |⟨ar,H⟩ <;>rcases fC c4 with c4 |⟨SJ,c4⟩
  .rw[y0 H] at O;rw[y0 c4] at c8;exact hU d cZ ch ch' b (A1 H) (A1 c4) a6 O c8
  .rw[y0 H] at O;rw[y1 SJ] at c8;exact w9 H O ((eu b).2 (.inr ⟨cZ,ch',c4,c8⟩))
  .rw[y1 ar] at O;rw[y0 c4] at c8;exact w9 c4 c8 ((eu b).2 (.inr ⟨d,ch,H,O⟩))
  .rw[y1 ar] at O;rw[y1 SJ] at c8;exact dm d cZ ch ch' b H c4 a6 O c8
 .exact fun d H=>(w7 d (Jv d H)).trans (ak.l0 d H)
 .exact aw6.2 ⟨fun h=>by have:=(ak.k'.2.2 _ h).1;omega,ak.k'.1⟩
 .intro D cw
  have DM:D≠l/\D < cJ.heap.size/\cJ.heap[D]? =some (.deferred (some []))/\C.gv.heap.size<=D:=by
   rcases at7.1 cw with rfl |cw
   .exact⟨aD7,aD7,LG,ak.fr.size⟩
   .obtain⟨r1,r2,fQ⟩:=ak.k'.2.2 D cw;exact⟨aD7,aD7,(qB.block D r1).trans r2,fQ⟩
  obtain⟨kr,bD,sI,o2⟩:=DM
  have A4: ¬ ∃d ch,ae (ih++[(c,a8.az (eI gP))]) d=some ch/\cI d D:=by
   rintro⟨d,ch,H,hf⟩
   have bB: ∃d ch,ae (ih++e4 gP) d=some ch/\F d D:=by
    rcases iG H with⟨rfl,rfl⟩ |⟨e,H⟩
    .rw[w8] at hf;rcases hf with hf |⟨d,ch,H,hf⟩
     .exact at1 hf kr
     .exact⟨d,ch,(pQ H).1,hf⟩
    .rw[um e] at hf;exact⟨d,ch,rO H,hf⟩
   obtain⟨d,ch,H,hf⟩:=bB;obtain⟨r1,r2⟩:=ak.own d ch H D hf;rcases at7.1 cw with rfl |cw
   .omega
   .rcases r2 with r2 |r2
    .have:=ak.k'.2.1 D (.inr r2);omega
    .exact r2.2 cw
  exact⟨by rw[qF];omega,(vF D kr).trans ((cF.block D bD A4).trans sI),o2⟩
 .intro t;exact cx.mono (jq.trans A3) _ _ (fun j V=>w7 j (aN.kW (Ly ey t) V)) (ir t)
def bG.range (bl:d6 P aQ) {ids:aH4} (stops:aH4) {s:Nat} {bF:Array Nat} {pl:aH4} {assign body:Code} (l3:bF.toList=pl) (DI:ja P N assign=true) (yU:ja P N body=true) (gX:(pl.all fun p=>Nat.blt p N)=true)
  {f:aI9} {A0:List kL} (hf:jp P f=true) (gi:aH4) (K jb:aW) (ih:ay) {X:Type} (e4:X->ay) (c:Nat) (gP nb:X) (Y:X->List aN->X->Prop)
  (LC:dX K s= .c (.one (.c2 f A0))) (DJ:yA K jb)
  (Z:(gi.contains c&&AW gi jb&&ids.all gi.contains&& !tT ids)=true) (AD:((ck (e4 gP)).all (fun d=> !(ck ih).contains d)&& !(ck ih).contains c)=true)
  (LD: ∀x aE lI,Y x aE lI->aE.length=pl.length/\vD [] aE=true/\i9 P aQ N (0::gi) stops assign (AZ pl aE jb) (e4 x) (fun e K B=>e= .gF/\i9 P aQ N (0::gi) stops body K B (fun e K B=>e= .gF/\ac (0::gi) K B [] (e4 lI))))
  (LE: ∀(l:Nat) (eI:X->bc),(∀qA args res x lI,Fn P qA args (e4 x) [] res (e4 lI)->vD [c] args=true->res.iP []=true->Fn P qA args [(c,.az (eI x))] [] res [(c,.az (eI lI))])->
   (∀x aE lI,Y x aE lI->wX P l aE [(c,.az (eI x))] (fun _:Unit=>qq true) (fun _=>[(c,.az (eI lI))]))->
   Fn P f (.c (.one (.bK (.func (.yield l) #[] #[])))::n' A0) (ih++[(c,.az (eI gP))]) [] (.b4 []) [(c,.az (eI nb))])
  {Q:oa->aW->ay->Prop} (sX:Q .gF jb (e4 nb)):bG P N ids (.rangeFunc (.tmp s) bF assign body) K (ih++e4 gP) Q:=
 bG.afd bl stops l3 DI yU gX hf gi K jb ih e4 c gP nb Y [] rfl LC DJ Z AD LD LE sX
end
end
section
def LM:bA->Value
 | .d (.int k n)=>.int k n
 | .d (.bool b)=>.bool b
 | .d (.lit b)=>.bool b
 | .d (.str s)=>.string ⟨List.toArray s⟩
 |_=>.nilFunc
def A5:bA->Lit
 | .d (.int k n)=>.int k n
 | .d (.bool b)=>.bool b
 | .d (.lit b)=>.bool b
 | .d (.str s)=>.string s
 |_=>.nil
def LN:bA->Bool
 | .d (.int _ _)=>true
 | .d (.bool _)=>true
 | .d (.lit _)=>true
 | .d (.str _)=>true
 |_=>false
def pg:List bA->List Value
 | []=>[]
 |s::l=>LM s::pg l
def ka:List bA->List Lit
 | []=>[]
 |s::l=>A5 s::ka l
def DN:List bA->Bool
 | []=>true
 |s::l=>LN s&&DN l
def LO {ρ:Nat->bp} {I:Nat->Prop} {w:aH9}: ∀{l:List bA} {aE:aH7},DN l=true->cf ρ I w l aE->aE=pg l
 | [],aE,_,h=>h
 |s::l,aE,ag,⟨v,r,e,E,G⟩=>by
  simp only[DN,as8] at ag;have ah:=LO ag.2 G;subst ah e
  have:v=LM s:=by
   cases s with
   |d x=>cases x <;>first |exact E |(simp[LN] at ag;done)
   |_=>simp[LN] at ag
  rw[this];rfl
section
variable {P:aI0} {aQ:df} {ids:aH4} {K:aW} {B:ay}
def LP {o:Oper} {T gc:aI3} {x y:aI2} {lx ly:List bA} {m D:Nat} (ai:o.op= .binOp .eql T x y gc) (aV:P.eqGuardType P.depth T=false) (Z:P.keyTypeAt m T=true) (aC:m<=10000)
  (hx:a1 K x= .c (.agg lx)) (aD:a1 K y= .c (.agg ly)) (gX:(DN lx&&DN ly)=true) (afl:(Value.agg (List.toArray (pg lx))).formed P T=true) (afm:(Value.agg (List.toArray (pg ly))).formed P T=true)
  (afn:P.keyLits D T (pg lx)=some (ka lx)) (G1:P.keyLits D T (pg ly)=some (ka ly)) {r:Bool} (aj:r=true↔ka lx=ka ly) (N:Nat):bx P N ids o K B (.c (.one (.d (.bool r)))) ⟨[],[],[]⟩:=by
 have m1:x∈o.op.operands:=aE4
 have m2:y∈o.op.operands:=aE4
 simp only[as8] at gX;refine bx.val fun K' B' g1 g2 C ρ F a w ak au=>?_
 obtain⟨aE,af,E⟩:=au.ev ((g1 x m1).trans hx);obtain⟨us,ao,G⟩:=au.ev ((g1 y m2).trans aD);have E:=LO gX.1 E;have G:=LO gX.2 G;subst E G;obtain⟨q,a2,rs⟩:=run_equalIn_deep (P:=P) (10000 - m) m T Z w D D (.agg (List.toArray (pg lx))) (.agg (List.toArray (pg ly))) (ka lx) (ka ly) afl afm (by simpa[Value.cells] using afn) (by simpa[Value.cells] using G1);rw[show 10000 - m+m=10000 by omega] at a2
 have bn:q=r:=by
  cases q <;>cases r
  .rfl
  .exact at1 (rs.2 (aj.1 rfl)) aD9
  .exact at1 (aj.2 (rs.1 rfl)) aD9
  .rfl
 subst bn;refine⟨.bool q,?_,rfl⟩;simp only[execOp,ai,af,ao,aw3,run_eqGuard_agg w .eql T x y _ _ aV,au6,run_eql_struct,a2,ax1]
def LQ {o:Oper} {T:aI3} {x:aI2} {f:Nat} {l:List bA} {fs:Array Field} {j6:Field} {d:aJ4} {s:bA} (ai:o.op= .field T x f) (bR:P.underlying T=some (.struct fs)) (vc:fs[f]? =some j6) (H:P.underlying j6.type=some d) (fH:d.isRow=false)
  (hx:a1 K x= .c (.agg l)) (aw:l[j6.offset]? =some s) (N:Nat):bx P N ids o K B (.c (.one s)) ⟨[],[],[]⟩:=by
 have m1:x∈o.op.operands:=aE4
 refine bx.val fun K' B' g1 g2 C ρ F a w ak au=>?_
 obtain⟨aE,af,E⟩:=au.ev ((g1 x m1).trans hx);obtain⟨v,aB,dG⟩:=cf.get _ _ E j6.offset s aw;refine⟨v,?_,dG⟩;have LR:(Go.isAgg j6.type).run P w= .ok false w:=by cases d <;>first |(simp[TypeDesc.isRow] at fH;done) |simp[Go.isAgg,run_underlying H]
 have hJ:(List.toArray aE)[j6.offset]? =some v:=aG0
 simp only[execOp,ai,af,Instr.field,aw3,run_underlying bR,au6,vc,asAgg,ax1,part,LR,Bool.false_eq_true,if_false,hJ]
def LS {n:Nat} {u:bz} (g:List (aa u)) (i q:Nat) (a2:q < aR u):fB (.arr n u) g (i*aR u+q)=fB u (List.getD g i (cO u)) q:=by show fB u (List.getD g ((i*aR u+q)/aR u) (cO u)) ((i*aR u+q) % aR u)=_;rw[show(i*aR u+q)/aR u=i by rw[aB7,Nat.mul_add_div aD7,Nat.div_eq_of_lt a2,aA0],show(i*aR u+q) % aR u=q by rw[aB7,Nat.mul_add_mod,Nat.mod_eq_of_lt a2]]
def afo {o:Oper} {T:aI3} {x i:aI2} {n e:Nat} {c9:aJ3} {d:aJ4} {u:bz} {g:List (aa u)} {j:Int} (ai:o.op= .index T x i) (bR:P.underlying T=some (.array n e)) (U:P.underlying e=some d) (fH:d.isRow=true) (hi:P.info? e=some c9) (aM:c9.size=aR u)
  (hx:a1 K x= .c (.agg (gw (.arr n u) g 0 (n*aR u)))) (V:a1 K i= .c (.one (.d (.int .i64 j)))) (ar:0<=j) (E:j < n) (N:Nat):bx P N ids o K B (.c (.agg (gw u (List.getD g j.toNat (cO u)) 0 (aR u)))) ⟨[],[],[]⟩:=by
 have m1:x∈o.op.operands:=aE4
 have m2:i∈o.op.operands:=aE4
 refine bx.val fun K' B' g1 g2 C ρ F a w ak au=>?_
 obtain⟨aE,af,H⟩:=au.ev ((g1 x m1).trans hx);have ao:=au.int ((g1 i m2).trans V);have bW:aE.length=n*aR u:=(cf.length _ _ H).trans (tX (.arr n u) g _ _);have LR:(Go.isAgg e).run P w= .ok true w:=by cases d <;>first |(simp[TypeDesc.isRow] at fH;done) |simp[Go.isAgg,run_underlying U]
 have cA:(sizeOf e).run P w= .ok (aR u) w:=by simp[sizeOf,typeInfo,hi,aM]
 have gD:j.toNat*aR u+aR u<=n*aR u:=by
  have:=az6 (aR u) (show j.toNat+1<=n by omega);rw[aA6] at this;exact this
 refine⟨.agg ((List.toArray aE).extract (j.toNat*aR u) (j.toNat*aR u+aR u)),?_,(aE.drop (j.toNat*aR u)).take (aR u),by simp[List.extract],?_⟩
 .simp[execOp,ai,af,ao,Instr.index,asIntOf,run_underlying bR,ar,E,cA,part,LR]
 .have key: ∀(m gH:Nat),gH+m<=aR u->cf ρ (bZ C B' F w) w (gw u (List.getD g j.toNat (cO u)) gH m) ((aE.drop (j.toNat*aR u+gH)).take m):=fun m=>by
   induction m with
   |zero=>intro gH _;simp[gw,cf]
   |succ m bk=>
    intro gH aC;have bv:j.toNat*aR u+gH < n*aR u:=aE5
    obtain⟨v,aB,t'⟩:=cf.get _ _ H _ _ (An (.arr n u) g (n*aR u) 0 (j.toNat*aR u+gH) bv)
    have DO:aE.drop (j.toNat*aR u+gH)=v::aE.drop (j.toNat*aR u+(gH+1)):=by
     obtain⟨al,o3⟩:=au0.1 aB;rw[aA4 al,o3,Nat.add_assoc]
    rw[DO,List.take_succ_cons];refine⟨v,_,rfl,?_,bk (gH+1) aD7⟩
    have J:fB (.arr n u) g (0+(j.toNat*aR u+gH))=fB u (List.getD g j.toNat (cO u)) gH:=by
     rw[ax6];exact LS g _ _ aD7
    rw[J] at t';exact t'
  exact key (aR u) 0 aD7
def ac.afp (c:Nat) {u:bz} {x:aa u} (hw:oV u x) (J:ae B c=some (.cells (gw u x 0 (aR u)))):ac ids K B K ((c,.val u x)::B):=by
 rintro N C a w ⟨hn,H,ρ,F,ak,au⟩;obtain⟨bg,aE,T,O,dG⟩:=ak.holds c _ J;obtain⟨bH,aY⟩:=ak.hT (w':=w) (ch:=.val u x) J (cU.refl _ _) fun I a7=>⟨bg,aE,T,O,by rw[cf.length _ _ dG,tX],CR hw (cf.mono (ρ':=ρ) a7 _ _ (fun _ _=>rfl) dG)⟩
 exact⟨hn,H,ρ,F,bH,au.mono aY fun _ _ _=>rfl⟩
def afq {o:Oper} {T:aI3} {x i:aI2} {n e c:Nat} {c9:aJ3} {s:Nat} {j:Int} (ai:o.op= .indexAddr T x i) (bR:P.underlying T=some (.array n e)) (hi:P.info? e=some c9) (aM:c9.size=s)
  (hx:a1 K x= .c (.one (.ptr c 0))) (V:a1 K i= .c (.one (.d (.int .i64 j)))) (ar:0<=j) (E:j < n) (N:Nat):bx P N ids o K B (.c (.one (.ga c s j.toNat 0))) ⟨[],[],[]⟩:=by
 have m1:x∈o.op.operands:=aE4
 have m2:i∈o.op.operands:=aE4
 refine bx.val fun K' B' g1 g2 C ρ F a w ak au=>?_
 have af:=au.ptr ((g1 x m1).trans hx);have ao:=au.int ((g1 i m2).trans V);have cA:(sizeOf e).run P w= .ok s w:=by simp[sizeOf,typeInfo,hi,aM]
 refine⟨.pointer (some ⟨(ρ c).bf,j.toNat*s,none⟩),?_,rfl⟩;simp[execOp,ai,af,ao,Instr.indexAt,asIntOf,run_underlying bR,ar,E,cA,Instr.sureAddr,qo]
def afr {I:Nat->Prop} {w:aH9} {n:Nat} {u:bz} {g:List (aa u)} {c:Nat->Option Value} (H:cy I w (.arr n u) g c) {y:aa u} {j:Nat} {cs:aH7} (al:cs.length=aR u) (aD:cy I w u y (fun i=>cs[i]?)) (V:j < n):
  cy I w (.arr n u) (g.set j y) (fun i=>if j*aR u<=i/\i < j*aR u+aR u then cs[i - j*aR u]? else c i):=by
 obtain⟨E,G⟩:=H;refine⟨by rw[ay3];exact E,fun i aH aM=>?_⟩;unfold eR at aM;rw[aA1] at aM
 split at aM
 .rename_i e;subst e
  split at aM
  .injection aM with aM
   subst aM;refine cy.mono (cm.refl _ _) u y _ _ (fun q v aB=>?_) aD;have a2:q < aR u:=by rw[<-al];exact(au0.1 aB).1
   simp only;rw[vj ⟨aD7,aD7⟩,show j*aR u+q - j*aR u=q by omega];exact aB
  .cases aM
 .rename_i a6;have ph:=G i aH aM;rcases aC2 (aR u) with ar |ar
  .refine cy.mono (cm.refl _ _) u aH _ _ (fun q v aB=>?_) ph;simp only;rw[mu aD7];exact aB
  .refine cy.mk u aH _ (cy.wf u aH _ ph) fun q a2=>?_
   obtain⟨v,aB,t'⟩:=cy.cell u aH _ q ph a2;refine⟨v,?_,t'⟩;simp only;rw[mu ?_]
   .exact aB
   .rintro⟨bM,bU⟩;rcases Nat.lt_or_gt_of_ne a6 with bv |vd
    .have:=az6 (aR u) (show j+1<=i by omega);rw[aA6] at this;omega
    .have:=az6 (aR u) (show i+1<=j by omega);rw[aA6] at this;omega
def afs {o:Oper} {T:aI3} {x v:aI2} {c n j:Nat} {u:bz} {g:List (aa u)} {y:aa u} {c9:aJ3} (ai:o.op= .store T x v) (hi:P.info? T=some c9) (aM:c9.size=aR u) (hx:a1 K x= .c (.one (.ga c (aR u) j 0))) (V:j < n)
  (J:ae B c=some (.val (.arr n u) g)) (aB:a1 K v= .c (.agg (gw u y 0 (aR u)))) (hw:oV u y) (N:Nat):bx P N ids o K B .undef ⟨[c],[],[(c,some (.val (.arr n u) (g.set j y)))]⟩:=by
 have m1:x∈o.op.operands:=aE4
 have m2:v∈o.op.operands:=aE4
 refine bx.hT J fun K' B' g1 C ρ F a w ak au fG=>?_
 obtain⟨bg,aE,ew,O,bW,dG⟩:=ak.holds c _ fG;have af:=au.ga ((g1 x m1).trans hx);obtain⟨us,ao,G⟩:=au.ev ((g1 v m2).trans aB);have LT:us.length=aR u:=by rw[cf.length _ _ G,tX]
 have SK:=CR hw G
 have jL:j*aR u+us.length<=aE.length:=by
  have:=az6 (aR u) (show j+1<=n by omega);rw[aA6] at this;rw[bW,LT];exact this
 have vb: ∀aH,aH∈us->aH.oneCell'=true:=fun aH aM=>by
  obtain⟨q,a2,rfl⟩:=aA5 aM;obtain⟨z',rD,tP⟩:=cy.one u y _ SK q aD7;rw[as7 a2] at rD;injection rD with rD
  rw[rD];exact tP
 have dK:=CQ (P:=P) (o:=o) (ev:=a.eval) (w:=w) (us:=us) ai (by rw[af,aA0]) (by rw[ao];rfl) hi (aM.trans LT.symm) O jL vb;have hG:(w.setRow (ρ c).bf (List.toArray (aE.take (j*aR u)++us++aE.drop (j*aR u+us.length)))).heap[(ρ c).bf]? =some (.cells (List.toArray (aE.take (j*aR u)++us++aE.drop (j*aR u+us.length))) ew (0,0)):=setRow_heap w _ _ _ ew _ O;refine⟨_,dK,⟨rfl,rfl,rfl,by simp[World.setRow],fun k _ Z=>setRow_other w _ k _ (fun e=>Z ((bg k).2 e))⟩,fun I aY=>⟨bg,_,ew,hG,?_,?_⟩⟩
 .rw[as9,as9,at9,ax8];omega
 .refine cy.mk (.arr n u) (g.set j y) _ ?_ ?_
  .have SL:=cy.wf (.arr n u) g _ dG;refine⟨by rw[ay3];exact SL.1,fun aH aM=>?_⟩;rcases List.mem_or_eq_of_mem_set aM with aM |rfl
   .exact SL.2 aH aM
   .exact hw
  .intro q a2;have mX:=afr dG (y:=y) (j:=j) LT SK V;obtain⟨aH,aM,wF⟩:=cy.cell (.arr n u) _ _ q mX a2;refine⟨aH,?_,gL.mono aY _ _ wF⟩;rw[<-aM];have GD:q < aE.length:=by rw[bW];exact a2
   split
   .rename_i dP;rw[aw8,aw4 aF0,at9,av8 aD7]
    congr 1
    omega
   .rename_i oh;rcases aB8 q (j*aR u) with bv |rk
    .rw[aw8,av8 aF0,ay5,vj bv]
    .have:j*aR u+aR u<=q:=by
      rcases aB8 q (j*aR u+aR u) with h |h
      .exact at1 ⟨rk,h⟩ oh
      .exact h
     rw[aw4 (by rw[as9,at9];omega),as9,at9,aC3]
     congr 1
     omega
def SM {o:Oper} {T:aI3} {x:aI2} {c:Nat} {u:bz} {y:aa u} {c9:aJ3} {d:aJ4} (ai:o.op= .load T x) (bR:P.underlying T=some d) (fH:d.isRow=true) (hi:P.info? T=some c9) (aM:c9.size=aR u) (hx:a1 K x= .c (.one (.ptr c 0)))
  (J:ae B c=some (.val u y)) (N:Nat):bx P N ids o K B (.c (.agg (gw u y 0 (aR u)))) ⟨[c],[],[]⟩:=by
 have m1:x∈o.op.operands:=aE4
 refine bx.val fun K' B' g1 g2 C ρ F a w ak au=>?_
 obtain⟨bg,aE,ew,O,bW,dG⟩:=ak.holds c _ ((g2 c aD9).trans J);have af:=au.ptr ((g1 x m1).trans hx);obtain⟨us,E,G⟩:=FT (ρ:=ρ) dG (aR u) 0 aD7;refine⟨_,FR (cs:=us) ai af bR fH hi (by rw[cf.length _ _ E,tX];exact aM) (fun j v V=>?_),us,rfl,E⟩;have:=G j v V;exact o1 O this
def aft {aQ:df} (bl:d6 P aQ) {o:Oper} {T n e:Nat} {ti:b8} (ai:o.op= .build T #[]) (cq:aQ.find T=some ti) (bR:P.underlying T=some (.array n e)) {G2:aJ3} (afu:P.info? e=some G2) (fH:ti.row=true) (N:Nat):bx P N ids o K B (.c (.agg ti.zero)) ⟨[],[],[]⟩:=by
 refine bx.val fun K' B' g1 g2 C ρ F a w ak au=>?_
 obtain⟨i,d,bu⟩:=bl.at_ cq;obtain⟨aH,aM,o4⟩:=bu.zero;obtain⟨kS,rA⟩:=wL (ρ:=ρ) (I:=bZ C B' F w) (w:=w) _ _ o4;refine⟨.agg aH.cells,?_,aH.cells.toList,aD9,kS⟩;simp[execOp,ai,Instr.build,zeroValue,typeInfo,bu.jK,aM,run_underlying bR,sizeOf,afu,Instr.fill]
def afv {o:Oper} {T e d:Nat} {x y:aI2} {c9:aJ3} {n:Int} (ai:o.op= .makeSlice T x y) (bR:P.underlying T=some (.slice e)) (hi:P.info? e=some c9) (aM:c9.zero=some (.int .i64 0)) (aw:c9.size=1) (O:c9.bytes=8)
  (hx:a1 K x= .c (.one (.d (.int .i64 n)))) (aD:a1 K y= .c (.one (.d (.int .i64 n)))) (ar:0<=n) (E:n<=1000000) (N:Nat):bx P N ids o K B (.c (.one (.own d))) ⟨[],[d],[(d,some (.row e (.int .i64) (List.replicate n.toNat (0:Int))))]⟩:=by
 have m1:x∈o.op.operands:=aE4
 have m2:y∈o.op.operands:=aE4
 refine bx.make (fun d h=>Aq h) fun K' B' g1 g2 C ρ F a w ak au hn=>?_
 have dq:=au.int ((g1 x m1).trans hx);have d':=au.int ((g1 y m2).trans aD);have dK:=run_make (P:=P) w T e c9 _ bR hi aM .i64 .i64 n n ar (Int.le_refl _) (by rw[O];omega) aD7
 have CC:madeCells (Value.int .i64 0).cells (n.toNat*c9.size)=(List.replicate n.toNat (Value.int .i64 0)).toArray:=by
  rw[aw];simp[madeCells,Value.cells];apply Array.ext
  .simp
  .intro i E G;simp[Nat.mod_one]
 rw[CC] at dK;refine⟨.slice (some ⟨w.heap.size,0,none⟩) n.toNat n.toNat,w.alloc (.cells (List.replicate n.toNat (.int .i64 0)).toArray e),⟨w.heap.size,some ⟨w.heap.size,0,none⟩,n.toNat,n.toNat⟩,fun b=>b=w.heap.size,?_,wD w _,fun b O=>?_,fun I aY a7=>⟨⟨?_,?_,List.replicate n.toNat (.int .i64 0),?_,?_⟩,?_⟩⟩
 .simp only[execOp,ai,aw3,dq,d',dK,au6,ax1]
 .subst O;simp
 .intro b;simp[bp.eS,Value.ownBlock,eq_comm]
 .intro b O;simp[bp.eS,Value.ownBlock] at O;exact O.symm
 .have:=FX w e 1 n.toNat (List.replicate n.toNat (.int .i64 0)) aD9 aH0;have af:List.length (α:=aa (.int .i64)) (List.replicate n.toNat (0:Int))=n.toNat:=au2;rw[af];exact this
 .intro i aH aM;obtain⟨hi,rD⟩:=au0.1 aM;have t7:aH=(0:Int):=by rw[<-rD];exact List.getElem_replicate ..
  subst t7
  have hi:i < n.toNat:=by
   have E:i < List.length (α:=Int) (List.replicate n.toNat (0:Int)):=hi;rw[au2] at E;exact E
  show(List.replicate n.toNat (Value.int .i64 0))[i*1+0]? =some (.int .i64 0);simp[hi]
 .simp only[cx,gC,dW,dB];rfl
def SN (w:aH9) {T:aI3} {bF js:Array TypeId} {u7:Bool} (bR:P.underlying T=some (.func bF js u7)) (f:Go.Fn) (a b:aJ6):(binOp .eql T (.func f a b) .nilFunc).run P w= .ok (.bool false) w/\(binOp .neq T (.func f a b) .nilFunc).run P w= .ok (.bool true) w:=by
 have ar: ∀d,(Op.equalIn (d+1) T (.func f a b) .nilFunc).run P w= .ok false w:=fun d=>by simp[Op.equalIn,run_underlying bR]
 have h:(Op.equalIn 10000 T (.func f a b) .nilFunc).run P w= .ok false w:=ar 9999;constructor
 .simp only[binOp];simp[Op.equal,Op.maxDepth,h]
 .simp only[binOp];simp[Op.equal,Op.maxDepth,h]
def afw {o:Oper} {T gc:aI3} {x:aI2} {op:BinOp} {y:Nat×aH4} {b:Bool} {bF js:Array TypeId} {u7:Bool} (wT:(op= .eql/\b=false)\/(op= .neq/\b=true)) (ai:o.op= .binOp op T x (.const .nilFunc) gc) (bR:P.underlying T=some (.func bF js u7))
  (hx:a1 K x= .c (.one (.d (.fn y)))) (N:Nat):bx P N ids o K B (.c (.one (.d (.lit b)))) ⟨[],[],[]⟩:=by
 have m1:x∈o.op.operands:=aE4
 refine bx.val fun K' B' g1 g2 C ρ F a w ak au=>?_
 have af:a.eval x=kK y:=au.ev ((g1 x m1).trans hx);refine⟨.bool b,?_,rfl⟩;have ao:a.eval (.const .nilFunc)= .nilFunc:=rfl;rcases wT with⟨rfl,rfl⟩ |⟨rfl,rfl⟩
 .have h:=(SN (P:=P) w bR (.func y.1) #[] (List.toArray (rq y.2))).1;simp[execOp,ai,af,ao,eqGuard,kK,h]
 .have h:=(SN (P:=P) w bR (.func y.1) #[] (List.toArray (rq y.2))).2;simp[execOp,ai,af,ao,eqGuard,kK,h]
def SO (w:aH9) {T:aI3} {bF js:Array TypeId} {u7:Bool} (bR:P.underlying T=some (.func bF js u7)):(binOp .eql T .nilFunc .nilFunc).run P w= .ok (.bool true) w/\(binOp .neq T .nilFunc .nilFunc).run P w= .ok (.bool false) w:=by
 have ar: ∀d,(Op.equalIn (d+1) T .nilFunc .nilFunc).run P w= .ok true w:=fun d=>by simp[Op.equalIn,run_underlying bR]
 have h:(Op.equalIn 10000 T .nilFunc .nilFunc).run P w= .ok true w:=ar 9999;constructor
 .simp only[binOp];simp[Op.equal,Op.maxDepth,h]
 .simp only[binOp];simp[Op.equal,Op.maxDepth,h]
def afx {o:Oper} {T gc:aI3} {x:aI2} {op:BinOp} {b:Bool} {bF js:Array TypeId} {u7:Bool} (wT:(op= .eql/\b=true)\/(op= .neq/\b=false)) (ai:o.op= .binOp op T x (.const .nilFunc) gc) (bR:P.underlying T=some (.func bF js u7))
  (hx:a1 K x= .c (.one (.bK .nilFunc))) (N:Nat):bx P N ids o K B (.c (.one (.d (.lit b)))) ⟨[],[],[]⟩:=by
 have m1:x∈o.op.operands:=aE4
 refine bx.val fun K' B' g1 g2 C ρ F a w ak au=>?_
 have af:=au.bK ((g1 x m1).trans hx);refine⟨.bool b,?_,rfl⟩;have ao:a.eval (.const .nilFunc)= .nilFunc:=rfl;rcases wT with⟨rfl,rfl⟩ |⟨rfl,rfl⟩
 .have h:=(SO (P:=P) w bR).1;simp[execOp,ai,af,ao,eqGuard,h]
 .have h:=(SO (P:=P) w bR).2;simp[execOp,ai,af,ao,eqGuard,h]
end
end
section
abbrev un:bz:=.bV (.int .i64) (.bV (.int .i64) .bool)
abbrev fv:bz:=.arr 16 un
abbrev aJ2:=List (aa aq×aa fv)
abbrev e9:=Int×Int×Bool
abbrev qG (s:e9):List bA:=[.d (.int .i64 s.1),.d (.int .i64 s.2.1),.d (.bool s.2.2)]
abbrev pR (s:e9):dQ:=.agg (qG s)
abbrev b9:e9:=(0,0,false)
def uo (s:e9):Prop:=(-1000000<=s.1/\s.1<=1000000)/\ -1000000<=s.2.1/\s.2.1<=1000000
def mz:List e9:=List.replicate 16 b9
abbrev pi (n:Int) (es:aJ2):ay:=[(1001,.cells [.d (.int .i64 n),.mp 1002]),(1002,.map aq fv es)]
def hM (es:aJ2) (k:Int):List e9:=(bX (aF:=aq) (aJ:=fv) es k).getD mz
structure oy (t:List e9) (es:aJ2):Prop where
 hY:ff es
 wf: ∀p,p∈es->List.length (α:=e9) p.2=16
 ok: ∀k i,uo ((hM es k).getD i b9)
 at_: ∀c (h:c < t.length),(hM es ((c/16:Nat):Int)).getD (c % 16) b9=t[c]
 G1: ∀p,p∈es-> ∃j:Nat,p.1=(j:Int)/\16*j < t.length
 gj: ∀c,t.length<=c->(hM es ((c/16:Nat):Int)).getD (c % 16) b9=b9
def oy.len {t:List e9} {es:aJ2} (h:oy t es) (k:Int):(hM es k).length=16:=by
 unfold hM
 cases e:bX (aF:=aq) (aJ:=fv) es k with
 |none=>rfl
 |some g=>exact h.wf _ (Sd rL e)
def afy (es:aJ2) (k:Int) (g:List e9):hM (dp (aF:=aq) (aJ:=fv) es k g) k=g/\ ∀j,j≠k->hM (dp (aF:=aq) (aJ:=fv) es k g) j=hM es j:=by obtain⟨E,G⟩:=yR (aF:=aq) (aJ:=fv) rL k g es;refine⟨by unfold hM;rw[E];rfl,fun j V=>?_⟩;unfold hM;rw[G j V]
def afz {es:aJ2} (hn:ff es) (k:Int):hM (gN (aF:=aq) (aJ:=fv) es k) k=mz/\ ∀j,j≠k->hM (gN (aF:=aq) (aJ:=fv) es k) j=hM es j:=by obtain⟨E,G⟩:=DB (aF:=aq) (aJ:=fv) rL k es hn;refine⟨by unfold hM;rw[E];rfl,fun j V=>?_⟩;unfold hM;rw[G j V]
def qH (es:aJ2) (c:Nat) (s:e9):List (aa aq×aa fv):=
 if(hM es ((c/16:Nat):Int)).set (c % 16) s=mz then gN (aF:=aq) (aJ:=fv) es ((c/16:Nat):Int) else dp (aF:=aq) (aJ:=fv) es ((c/16:Nat):Int) ((hM es ((c/16:Nat):Int)).set (c % 16) s)
def afA {t:List e9} {es:aJ2} (h:oy t es) (c:Nat) (s:e9):hM (qH es c s) ((c/16:Nat):Int)=(hM es ((c/16:Nat):Int)).set (c % 16) s/\ ∀j,j≠((c/16:Nat):Int)->hM (qH es c s) j=hM es j:=by
 unfold qH
 split
 .rename_i e;obtain⟨E,G⟩:=afz h.hY ((c/16:Nat):Int);exact⟨E.trans e.symm,G⟩
 .exact afy es _ _
def oy.set {t:List e9} {es:aJ2} (h:oy t es) (c:Nat) (J:c < t.length) (s:e9) (aw:uo s):oy (t.set c s) (qH es c s):=by
 obtain⟨g1,g2⟩:=afA h c s;refine⟨?_,?_,fun k i=>?_,fun d H=>?_,?_,fun d H=>?_⟩
 .unfold qH
  split
  .exact ff.nC h.hY
  .exact ff.put rL h.hY
 .intro p ag;unfold qH at ag
  split at ag
  .exact h.wf p (yS ag)
  .rcases GE ag with rfl |ag
   .show List.length (α:=e9) ((hM es ((c/16:Nat):Int)).set (c % 16) s)=16;rw[ay3];exact h.len _
   .exact h.wf p ag
 .by_cases e:k=((c/16:Nat):Int)
  .rw[e,g1,at3,aA1]
   split
   .split
    .exact aw
    .exact⟨aD8,aD8⟩
   .rw[<-at3];exact h.ok _ _
  .rw[g2 _ e];exact h.ok _ _
 .rw[ay3] at H;have al:=h.len ((c/16:Nat):Int)
  by_cases e:d/16=c/16
  .rw[e,g1]
   by_cases ao:d=c
   .subst ao;rw[List.getElem_set_self,at3,ay7 (by rw[al];omega)];rfl
   .have a6:c % 16≠d % 16:=fun h=>ao aD7
    rw[List.getElem_set_ne (az2 ao),at3,ax4 a6,<-at3,<-e];exact h.at_ d H
  .have a6:((d/16:Nat):Int)≠((c/16:Nat):Int):=fun h=>e aD7
   rw[g2 _ a6,List.getElem_set_ne (fun ao=>e (by rw[ao]))];exact h.at_ d H
 .rw[ay3];intro p ag;unfold qH at ag
  split at ag
  .exact h.G1 p (yS ag)
  .rcases GE ag with rfl |ag
   .exact⟨c/16,rfl,aD7⟩
   .exact h.G1 p ag
 .rw[ay3] at H
  by_cases e:d/16=c/16
  .rw[e,g1,at3,ax4 aD7,<-at3,<-e];exact h.gj d H
  .rw[g2 _ aD7];exact h.gj d H
def SP:(prog.info? 176).map (·.size)=some 3:=by kernel_rfl
def rP (s:e9):Bool:=if s.1=1 then decide (0<=s.2.1)&&decide (s.2.1 < 512) else decide (s=b9)||decide (s=(2,0,false))
def SQ (s q:e9):decide (s=q)=true↔ka (qG s)=ka (qG q):=by
 rw[decide_eq_true_iff];simp only[ka,A5,qG,List.cons.injEq,Lit.int.injEq,Lit.bool.injEq,true_and,and_true];constructor
 .intro h;subst h;exact⟨rfl,rfl,rfl⟩
 .rintro⟨E,G,ah⟩;exact Prod.ext E (Prod.ext G ah)
def afB {n:Int} (h: -1000000<=n/\n<=1000000):(Lit.int .i64 n).wf=true:=by
 simp only[Lit.wf,as8,aw0];have E:IntKind.min .i64= -9223372036854775808:=by decide
 have G:IntKind.max .i64=9223372036854775807:=by decide
 rw[E,G];omega
def SR (d:Nat) {n:Int} (h: -1000000<=n/\n<=1000000):prog.keyLits (d+1) 3 [.int .i64 n]=some [.int .i64 n]:=by unfold Program.keyLits;simp only[underlying3];have hw:=afB h;simp[hw]
def l9 (d:Nat) {s:e9} (h:uo s):prog.keyLits (d+2) 176 (pg (qG s))=some (ka (qG s)):=by
 have cu:prog.cellsOf 176=3:=by kernel_rfl
 have cp:prog.cellsOf 3=1:=by kernel_rfl
 have fD:prog.cellsOf 4=1:=by kernel_rfl
 have cl:=SR d h.1;have cY:=SR d h.2
 have ek:prog.keyLits (d+1) 4 [.bool s.2.2]=some [.bool s.2.2]:=by
  unfold Program.keyLits;simp only[underlying4]
 unfold Program.keyLits;simp only[underlying176,cu];simp[pg,LM,qG,cp,fD,cl,cY,ek,ka,A5]
def afC (s:e9) (aw:uo s):Fn prog 265 [.c (pR s)] [] [] (gb (rP s)) []:=by
 refine aP [] func265 ?_;refine⟨rfl,fun E=>?_,fun E=>?_⟩
 .have E:=gd E;refine⟨fun G=>?_,fun G=>?_⟩
  .refine⟨_,_,_,bn,rfl,?_,trivial,rfl⟩;show decide (s.2.1 < 512)=rP s;unfold rP;have G:decide (0<=s.2.1)=true:=G;rw[vj E,G,aB6]
  .refine⟨_,_,_,bn,rfl,?_,trivial,rfl⟩;show false=rP s;unfold rP;have G:decide (0<=s.2.1)=false:=G;rw[vj E,G,Bool.false_and]
 .have E:=oj E;refine bm (fun N=>LP (m:=5) (D:=5) (lx:=qG s) (ly:=[.d (.int .i64 0),.d (.int .i64 0),.d (.lit false)]) rfl aE0 aE0 aD8 rfl rfl rfl rfl rfl (l9 3 aw) (l9 3 (s:=b9) ⟨aD8,aD8⟩) (SQ s b9) N) ?_;refine⟨fun G=>?_,fun G=>?_⟩
  .refine⟨_,_,_,bn,rfl,?_,trivial,rfl⟩;show true=rP s;unfold rP;rw[mu E,G,Bool.true_or]
  .refine bm (fun N=>LP (m:=5) (D:=5) (lx:=qG s) (ly:=[.d (.int .i64 2),.d (.int .i64 0),.d (.lit false)]) rfl aE0 aE0 aD8 rfl rfl rfl rfl rfl (l9 3 aw) (l9 3 (s:=(2,0,false)) ⟨aD8,aD8⟩) (SQ s (2,0,false)) N) ?_;refine⟨_,_,_,bn,rfl,?_,trivial,rfl⟩;show decide (s=(2,0,false))=rP s;unfold rP;rw[mu E,G,Bool.false_or]
def vG (s:e9):Bool:=decide (s.1=1)&&s.2.2
def afD (s:e9):Fn prog 237 [.c (pR s)] [] [] (gb (vG s)) []:=by
 refine aP [] func237 ?_;refine⟨rfl,fun E=>?_,fun E=>?_⟩
 .refine⟨_,_,_,bn,rfl,?_,trivial,rfl⟩;show s.2.2=vG s;unfold vG;have E:decide (s.1=1)=true:=E;rw[E,aB6]
 .refine⟨_,_,_,bn,rfl,?_,trivial,rfl⟩;show false=vG s;unfold vG;have E:decide (s.1=1)=false:=E;rw[E,Bool.false_and]
def SS (n:Int):Fn prog 234 [ab n] [] [] (gb (decide (0<=n)&&decide (n<=256))) []:=by
 refine aP [] func234 ?_;refine⟨fun h=>?_,fun h=>?_⟩
 .refine⟨_,_,_,bn,rfl,?_,trivial,rfl⟩;show decide (n<=256)=_;have h:decide (0<=n)=true:=h;rw[h,aB6]
 .refine⟨_,_,_,bn,rfl,?_,trivial,rfl⟩;show false=_;have h:decide (0<=n)=false:=h;rw[h,Bool.false_and]
def afE (n:Int) (es:aJ2):Fn prog 193 [ap 1001] (pi n es) [] (ab n) (pi n es):=by refine aP [] func193 ?_;exact bb
def ST {t:List e9} {es:aJ2} (h0:oy t es) (al:t.length<=256) (c:Nat) (J:c < t.length):Fn prog 195 [ap 1001,ab (c:Int)] (pi (t.length:Nat) es) [] (.c (pR t[c])) (pi (t.length:Nat) es):=by
 have aV:(hM es ((c:Int)/16)).getD ((c:Int) % 16).toNat b9=t[c]:=by
  rw[<-h0.at_ c J]
  congr 1
 obtain⟨afF,DP,G3⟩: ∃i,prog.info? 176=some i/\i.size=3:=by
  have:=SP
  cases e:prog.info? 176 with
  |none=>rw[e] at this;cases this
  |some i=>rw[e] at this;exact⟨i,rfl,by simpa using this⟩
 refine aP [] func195 ?_;refine⟨rfl,fun E=>at1 (gd E) aD7,fun E=>⟨fun E=>at1 (gd E) aD7,fun E=>⟨⟨aD7,aD7⟩,⟨aD7,aD7⟩,⟨aD7,aD7⟩,⟨aD7,aD7⟩,bm (fun N=>afo (n:=16) (e:=176) (u:=un) (g:=hM es ((c:Int)/16)) (j:=(c:Int) % 16) rfl underlying261 underlying176 rfl DP G3 rfl rfl aD7 aD7 N) ?_⟩⟩⟩;refine⟨_,_,_,bn,rfl,?_,aA,rfl⟩;show tR (.c (.agg (gw un ((hM es ((c:Int)/16)).getD ((c:Int) % 16).toNat b9) 0 3))) _;rw[aV];exact aA
def afG (g hb:List e9) (al:g.length=16) (fG:hb.length=16):ka (gw fv g 0 48)=ka (gw fv hb 0 48)->g=hb:=by
 intro h
 have kp: ∀(l:List bA) (j:Nat),(ka l)[j]? =(l[j]?).map A5:=fun l=>by
  induction l with
  |nil=>intro j;simp[ka]
  |cons s l bk=>
   intro j
   match j with
   |0=>rfl
   |j+1=>simpa[ka] using bk j
 have J: ∀i,i < 16-> ∀q,q < 3->A5 (.d (fB un (g.getD i b9) q))=A5 (.d (fB un (hb.getD i b9) q)):=fun i hi q a2=>by
  have E:=at2 (fun l=>l[i*3+q]?) h;simp only[kp] at E;have af:=An fv g 48 0 (i*3+q) aD7;have ao:=An fv hb 48 0 (i*3+q) aD7;rw[af,ao] at E;simp only[az3,at5,ax6] at E;have cu:fB fv g (i*3+q)=fB un (g.getD i b9) q:=LS (u:=un) (n:=16) g i q a2;have cp:fB fv hb (i*3+q)=fB un (hb.getD i b9) q:=LS (u:=un) (n:=16) hb i q a2;rw[cu,cp] at E;exact E
 refine List.ext_getElem (al.trans fG.symm) fun i E G=>?_
 have a0:=J i aD7 0 aD7;have bM:=J i aD7 1 aD7;have bU:=J i aD7 2 aD7;have af:g.getD i b9=g[i]:=by rw[at3,as7 E];rfl
 have ao:hb.getD i b9=hb[i]:=by rw[at3,as7 G];rfl
 rw[af,ao] at a0 bM bU;have eF:Lit.int .i64 (g[i]).1=Lit.int .i64 (hb[i]).1:=a0;have b1:Lit.int .i64 (g[i]).2.1=Lit.int .i64 (hb[i]).2.1:=bM;have b2:Lit.bool (g[i]).2.2=Lit.bool (hb[i]).2.2:=bU;injection eF with _ eF
 injection b1 with _ b1
 injection b2 with b2
 exact Prod.ext eF (Prod.ext b1 b2)
def SU {α m':Type} {f:α->Option m'} {g:α->m'}: ∀{l:List α},(∀a,a∈l->f a=some (g a))->l.mapM f=some (l.map g)
 | [],_=>rfl
 |a::l,h=>by
  rw[List.mapM_cons,h a (au7 ..),SU fun b O=>h b (at4 _ O)];rfl
def SV (d:Nat) (g:List e9) (h: ∀i,i < 16->uo (g.getD i b9)):prog.keyLits (d+3) 261 (pg (gw fv g 0 48))=some (ka (gw fv g 0 48)):=by
 have cu:prog.cellsOf 261=48:=by kernel_rfl
 have cp:prog.cellsOf 176=3:=by kernel_rfl
 have key: ∀i,i < 16->prog.keyLits (d+2) 176 (((pg (gw fv g 0 48)).drop (i*3)).take 3)=some (ka (qG (g.getD i b9))):=by
  intro i hi
  match i,hi with
  |0,_=>exact l9 d (h 0 aD7)
  |1,_=>exact l9 d (h 1 aD7)
  |2,_=>exact l9 d (h 2 aD7)
  |3,_=>exact l9 d (h 3 aD7)
  |4,_=>exact l9 d (h 4 aD7)
  |5,_=>exact l9 d (h 5 aD7)
  |6,_=>exact l9 d (h 6 aD7)
  |7,_=>exact l9 d (h 7 aD7)
  |8,_=>exact l9 d (h 8 aD7)
  |9,_=>exact l9 d (h 9 aD7)
  |10,_=>exact l9 d (h 10 aD7)
  |11,_=>exact l9 d (h 11 aD7)
  |12,_=>exact l9 d (h 12 aD7)
  |13,_=>exact l9 d (h 13 aD7)
  |14,_=>exact l9 d (h 14 aD7)
  |15,_=>exact l9 d (h 15 aD7)
  |n+16,hi=>exact at1 hi aD7
 unfold Program.keyLits;simp only[underlying261,cu,cp];have al:(pg (gw fv g 0 48)).length=48:=rfl;have aj:((List.range 16).map fun i=>ka (qG (g.getD i b9))).flatten=ka (gw fv g 0 48):=rfl;generalize pg (gw fv g 0 48)=asE at al key⊢;rw[vj al,SU (g:=fun i=>ka (qG (g.getD i b9))) fun i hi=>key i (List.mem_range.1 hi)];exact at2 some aj
def afH:(prog.info? 261).map (·.size)=some 48:=by kernel_rfl
def lp {T n:Nat} (h:(prog.info? T).map (·.size)=some n): ∃i,prog.info? T=some i/\i.size=n:=by
 cases e:prog.info? T with
 |none=>rw[e] at h;cases h
 |some i=>rw[e] at h;exact⟨i,rfl,by simpa using h⟩
def SW (i:Nat):mz.getD i b9=b9:=by
 unfold mz;rw[at3,aB4]
 split <;>rfl
abbrev oz:List bA:=[.d (.int .i64 0),.d (.int .i64 0),.d (.lit false)]
abbrev G4:List bA:=oz++(oz++(oz++(oz++(oz++(oz++(oz++(oz++(oz++(oz++(oz++(oz++(oz++(oz++(oz++oz))))))))))))))
def afI:prog.keyLits 5 261 (pg G4)=some (ka G4):=SV 2 mz fun i _=>by rw[SW];exact⟨aD8,aD8⟩
abbrev afJ (c:Nat):aW:=[(0,ap 1001),(1,ab (c:Int)),(5,ap 5),(6,ap 6)]
abbrev afK (n:Int) (es:aJ2) (s:e9) (g:List e9):ay:=[(6,.val fv g),(5,.cells (qG s)),(1001,.cells [.d (.int .i64 n),.mp 1002]),(1002,.map aq fv es)]
def afL {t:List e9} {es:aJ2} (h0:oy t es) (n:Int) (c:Nat) (J:c < 100000) (s:e9) (aw:uo s):Fn prog 266 [ap 1001,ab (c:Int),.c (pR s)] (pi n es) [] g' (pi n (qH es c s)):=by
 obtain⟨afF,DP,G3⟩:=lp SP;obtain⟨asF,SX,SY⟩:=lp afH;have bW:=h0.len ((c:Int)/16);have dE:((c/16:Nat):Int)=(c:Int)/16:=aE5
 have A6:((c:Int) % 16).toNat=c % 16:=aE5
 have G5:(hM es ((c:Int)/16)).set (c % 16) s=mz->qH es c s=gN (aF:=aq) (aJ:=fv) es ((c:Int)/16):=fun h=>by
  unfold qH;rw[dE,vj h];rfl
 have A7: ¬(hM es ((c:Int)/16)).set (c % 16) s=mz->qH es c s=dp (aF:=aq) (aJ:=fv) es ((c:Int)/16) ((hM es ((c:Int)/16)).set (c % 16) s):=fun h=>by
  unfold qH;rw[dE,mu h];rfl
 have vH:((hM es ((c:Int)/16)).set (c % 16) s).length=16:=by rw[ay3];exact bW
 have SZ: ∀i,i < 16->uo (((hM es ((c:Int)/16)).set (c % 16) s).getD i b9):=fun i _=>by
  rw[at3,aA1]
  split
  .split
   .exact aw
   .exact⟨aD8,aD8⟩
  .rw[<-at3];exact h0.ok _ _
 obtain⟨hb,rQ⟩: ∃hb:List e9,hb=(hM es ((c:Int)/16)).set (c % 16) s:=⟨_,rfl⟩;rw[<-rQ] at G5 A7 SZ vH
 have sO:decide (hb=mz)=true↔ka (gw fv hb 0 48)=ka G4:=by
  rw[decide_eq_true_iff];exact⟨fun h=>by rw[h];rfl,afG hb mz vH rfl⟩
 refine aP [2] func266 ?_;refine⟨rfl,⟨aD7,aD7⟩,⟨aD7,aD7⟩,rfl,bw [] ((ac.afp 6 (u:=fv) (x:=hM es ((c:Int)/16)) ⟨bW,fun _ _=>⟨trivial,trivial,trivial⟩⟩ rfl).trans (cz (afJ c) (afK n es s (hM es ((c:Int)/16))))) ⟨⟨aD7,aD7⟩,⟨aD7,aD7⟩,bm (fun N=>afq (s:=3) (j:=(c:Int) % 16) rfl underlying261 DP G3 rfl rfl aD7 aD7 N) ?_⟩⟩;rw[A6];refine⟨_,⟨[6],[],[(6,some (.val fv hb))]⟩,fun N=>by rw[rQ];exact afs (n:=16) (u:=un) (g:=hM es ((c:Int)/16)) (y:=s) rfl DP G3 rfl aD7 rfl rfl ⟨trivial,trivial,trivial⟩ N,rfl,?_⟩;refine bm (SM (u:=fv) (y:=hb) rfl underlying261 rfl SX SY rfl rfl) ?_;refine bm (aft eY rfl rfl underlying261 DP rfl) ?_;refine bm (fun N=>LP (m:=5) (D:=5) (r:=decide (hb=mz)) (lx:=gw fv hb 0 48) (ly:=G4) rfl aE0 aE0 aD8 rfl rfl rfl rfl rfl (SV 2 hb SZ) afI (sO) N) ?_;refine⟨fun h=>?_,fun h=>?_⟩
 .have h:=gd h;refine⟨⟨aD7,aD7⟩,⟨aD7,aD7⟩,?_⟩;rw[G5 h];exact bb
 .have h:=oj h;refine⟨⟨aD7,aD7⟩,⟨aD7,aD7⟩,bm (SM (u:=fv) (y:=hb) rfl underlying261 rfl SX SY rfl rfl) ?_⟩;refine⟨hb,⟨⟨vH,fun _ _=>⟨trivial,trivial,trivial⟩⟩,rfl⟩,rfl,?_⟩;rw[A7 h];exact bb
def afM {t:List e9} {es:aJ2} (h0:oy t es) (al:t.length<=256) (c:Nat) (J:c < t.length) (s:e9) (aw:uo s) (aj:rP s=true):
  Fn prog 240 [ap 1001,ab (c:Int),.c (pR s)] (pi (t.length:Nat) es) [] (.b4 [pR t[c],dw 0]) (pi (t.length:Nat) (qH es c s)):=by
 refine aP [] func240 ?_;refine⟨rfl,rfl,fun E=>at1 (gd E) aD7,fun E=>⟨fun E=>at1 (gd E) aD7,fun E=>av (afC s aw) ?_⟩⟩;exact⟨fun E=>at1 E (by rw[aj];decide),fun _=>av (ST h0 al c J) ⟨rfl,av (afL h0 (t.length:Nat) c aD7 s aw) <| ea bn rfl ⟨aA,rfl,trivial⟩⟩⟩
def rR (t:List e9):bc where
 bo:=fun I F w p=> ∃es,oy t es/\j8 1001 (pi (t.length:Nat) es) I F w p
 cj:=fun I F w I' w' p ⟨es,h,aV⟩ U bg aM=>⟨es,h,(bc.iQ 1001 (pi (t.length:Nat) es)).cj I F w I' w' p aV U bg aM⟩
def oy.new (n:Nat):oy (List.replicate n b9) []:=by
 have aV: ∀k i,(hM [] k).getD i b9=b9:=fun k i=>SW i
 refine⟨.nil,fun p ag=>(by cases ag),fun k i=>?_,fun c J=>?_,fun p ag=>(by cases ag),fun c _=>aV _ _⟩
 .rw[aV];exact⟨aD8,aD8⟩
 .rw[aV,List.getElem_replicate]
def afN (n:Int) (h: ¬(0<=n/\n<=256)):Fn prog 180 [ab n] [] [] (.b4 [pL,dw 1]) []:=by
 have O:(decide (0<=n)&&decide (n<=256))=false:=by
  rw[Bool.and_eq_false_iff,decide_eq_false_iff_not,decide_eq_false_iff_not];omega
 refine aP [] func180 ?_;refine av (SS n) ?_;rw[O];exact⟨fun _=>bb,fun E=>at1 E aD8⟩
def LU (n:Nat) (h:n<=256):Fn prog 180 [ab (n:Int)] [] [1001] (.b4 [.one (.ptr 1001 0),dw 0]) [(1001,.az (rR (List.replicate n b9)))]:=by
 have O:(decide ((0:Int)<=n)&&decide ((n:Int)<=256))=true:=by
  rw[as8,decide_eq_true_iff,decide_eq_true_iff];omega
 have al:((List.replicate n b9).length:Nat)=n:=au2;refine aP [] func180 ?_;refine av (SS n) ?_;rw[O];refine⟨fun E=>at1 E aD8,fun _=>⟨rfl,rfl,?_⟩⟩;refine⟨_,_,_,(ac.aT 10 1001 rfl).trans ((ac.aT 8 1002 rfl).trans (ac.close 1001 (pi (n:Nat) []) (o:=rR (List.replicate n b9)) aA rfl fun _ _ _ _ h=>⟨[],oy.new n,by rw[al];exact h⟩)),rfl,aA,aA,rfl⟩
end
section
abbrev pS (l:aI7):ay:=[(1001,.cells [.own 1002]),(1002,.row 3 aq l)]
def rS (l:aI7):bc:=.iQ 1001 (pS l)
def afO:(prog.info? 3).map (fun i=>(i.zero,i.size,i.bytes))=some (some (.int .i64 0),1,8):=by kernel_rfl
def S0 (n:Int) (h: ¬(0<=n/\n<=512)):Fn prog 181 [ab n] [] [] (.b4 [pL,dw 1]) []:=by
 refine aP [] func181 ?_;refine⟨fun E=>?_,fun E=>?_⟩
 .exact bb
 refine⟨fun G=>?_,fun G=>?_⟩
 .exact bb
 .exfalso;simp at E G;omega
def G6 (n:Int) (ar:0<=n) (hn:n<=512):Fn prog 181 [ab n] [] [1001] (.b4 [.one (.ptr 1001 0),dw 0]) [(1001,.az (rS (List.replicate n.toNat (0:Int))))]:=by
 obtain⟨c9,i1,i2,i3,i4⟩:=info_parts afO;refine aP [] func181 ?_;refine⟨fun E=>?_,fun E=>?_⟩
 .exfalso;simp at E;omega
 refine⟨fun G=>?_,fun G=>?_⟩
 .exfalso;simp at G;omega
 refine bm (fun N=>afv (d:=11) rfl underlying42 i1 i2 i3 i4 rfl rfl ar aD7 N) ?_;exact⟨rfl,_,_,_,(ac.aT 13 1001 rfl).trans ((ac.aT 11 1002 rfl).trans (ac.close 1001 (pS (List.replicate n.toNat (0:Int))) (o:=rS (List.replicate n.toNat (0:Int))) aA rfl fun _ _ _ _ h=>h)),rfl,aA,aA,rfl⟩
def afP (l:aI7) (h:Int):Fn prog 101 [ap 1001,ab h] (pS l) [] (gb (decide (0<=h)&&decide (h < l.length))) (pS l):=by
 refine aP [] func101 ?_;refine⟨fun E=>?_,fun E=>?_⟩
 .refine⟨_,_,_,bn,rfl,?_,aA,rfl⟩;show decide (h < (l.length:Nat))=(decide (0<=h)&&decide (h < (l.length:Nat)));have E:decide (0<=h)=true:=E;rw[E,aB6]
 .refine⟨_,_,_,bn,rfl,?_,aA,rfl⟩;show false=(decide (0<=h)&&decide (h < (l.length:Nat)));have E:decide (0<=h)=false:=E;rw[E,Bool.false_and]
def afQ (n:Int) (h:n≠0):Fn prog 293 [ab n] [] [] (ab 0) []:=by refine aP [] func293 ?_;exact⟨fun E=>at1 (gd E) h,fun E=>bb⟩
def afR (l:aI7) (h:Nat) (n:Int) (hn:l[h]? =some n) (E:1<=n) (G:n<=65535):Fn prog 292 [ap 1001,ab (h:Int),ab (-1),nw (.c2 293 [])] (pS l) [] (ab 0) (pS (l.set h (n - 1))):=by
 have al:h < l.length:=(au0.1 hn).1;refine aP [] func292 ?_;refine av (afP l h) ?_;have m1:(0:Int)<=(h:Int):=aE5
 have m2:(h:Int) < (l.length:Nat):=aE5
 refine⟨fun _=>?_,fun hf=>?_⟩
 .exact⟨⟨m1,m2⟩,n,hn,av (afQ n aD7) <| fR ⟨⟨m1,m2⟩,n,hn,⟨aD7,aD7⟩,⟨m1,m2⟩,⟨trivial,al⟩,bb⟩⟩
 .exfalso;have hf:(decide ((0:Int)<=h)&&decide ((h:Int) < l.length))=false:=hf;rw[au1 aD7,au1 aD7] at hf
  cases hf
def afS (l:aI7) (h:Nat) (n:Int) (hn:l[h]? =some n) (E:1<=n) (G:n<=65535):Fn prog 267 [ap 1001,ab (h:Int)] (pS l) [] (.b4 [.one (.d (.int .i64 (n - 1))),dw 0]) (pS (l.set h (n - 1))):=by
 have al:h < l.length:=(au0.1 hn).1;refine aP [] func267 ?_;refine av (afR l h n hn E G) <| dh ?_;have l4:h < (l.set h (n - 1)).length:=by rw[ay3];exact al
 have m1:(0:Int)<=(h:Int):=aE5
 have m2:(h:Int) < ((l.set h (n - 1)).length:Nat):=aE5
 have m3:(l.set h (n - 1))[h]? =some (n - 1):=by rw[ay7 al]
 exact⟨⟨m1,m2⟩,n - 1,m3,bb⟩
def d0 (l:aI7):Nat:=(l.filter fun x=>decide (x=0)).length
def LV (l:aI7):d0 l<=l.length:=List.length_filter_le _ _
def afT {l:aI7} {k:Nat} (h:k < l.length):d0 (l.take (k+1))=d0 (l.take k)+(if l[k]=0 then 1 else 0):=by
 unfold d0;rw[ay2 h,List.filter_append,as9]
 congr 1
 by_cases e:l[k]=0
 .simp[e]
 .simp[e]
abbrev afU (l:aI7) (k:Nat):aW:=[(3,ab (d0 (l.take k):Nat)),(9,dY 1002),(10,ab (l.length:Nat)),(11,ab (k:Nat))]
def afV (l:aI7) (al:l.length<=1000000):Fn prog 238 [ap 1001] (pS l) [] (ab (d0 l:Nat)) (pS l):=by
 refine aP [] func238 ?_;refine dZ [] (X:=Nat) (afU l) (fun _=>pS l) (fun k=>k<=l.length) (fun k=>l.length - k) 0 (at6 _) ?_ ?_
 .exact ac.sub aA aA
 intro k Z;have aM:=LV (l.take k);have t7:(l.take k).length<=l.length:=aF0
 refine⟨fun h=>?_,fun h=>?_⟩
 .have h:decide ((k:Int) < (l.length:Nat))=true:=h;have ey:k < l.length:=aE6
  have aw:=afT ey;have m1:(0:Int)<=(k:Int):=aE5
  have m2:(k:Int) < (l.length:Nat):=aE5
  refine⟨⟨m1,m2⟩,l[k],lE (n:=k) ey,fun ar=>?_,fun ar=>?_⟩
  .have ar:=gd ar;refine⟨aD7,aD7,k+1,aD7,aD7,ac.sub ⟨?_,rfl,rfl,rfl,trivial⟩ aA⟩;show((d0 (l.take k):Nat):Int)+1=(d0 (l.take (k+1)):Nat);rw[aw,vj ar];omega
  .have ar:=oj ar;refine⟨aD7,k+1,aD7,aD7,ac.sub ⟨?_,rfl,rfl,rfl,trivial⟩ aA⟩;show((d0 (l.take k):Nat):Int)=(d0 (l.take (k+1)):Nat);rw[aw,mu ar];omega
 .have h:decide ((k:Int) < (l.length:Nat))=false:=h;have ey:k=l.length:=aH1
  subst ey;refine⟨_,_,_,bn,rfl,?_,aA,rfl⟩;show((d0 (l.take l.length):Nat):Int)=_;rw[av0]
abbrev afW (l:aI7) (k:Nat):aW:=[(0,ap 1001),(9,ab (l.length:Nat)),(10,ab (k:Nat))]
def afX (l:aI7) (al:l.length<=1000000) (h:Nat) (bd:l[h]? =some 0) (hf: ∀j,j < h->l[j]? ≠some 0):Fn prog 239 [ap 1001] (pS l) [] (.b4 [.one (.d (.int .i64 (h:Int))),dw 0]) (pS (l.set h 1)):=by
 have bv:h < l.length:=(au0.1 bd).1;refine aP [] func239 ?_;refine dZ [] (X:=Nat) (afW l) (fun _=>pS l) (fun k=>k<=h) (fun k=>l.length - k) 0 (at6 _) ?_ ?_
 .exact ac.sub aA aA
 intro k Z;refine⟨fun _=>?_,fun E=>?_⟩
 .have ey:k < l.length:=aE5
  have m1:(0:Int)<=(k:Int):=aE5
  have m2:(k:Int) < (l.length:Nat):=aE5
  refine⟨⟨m1,m2⟩,l[k],lE (n:=k) ey,fun ar=>?_,fun ar=>?_⟩
  .have ar:=gd ar
   have S1:k=h:=by
    rcases aB8 k h with ah |ah
    .exact at1 (by rw[as7 ey,ar]) (hf k ah)
    .omega
   subst S1;exact⟨⟨m1,m2⟩,⟨trivial,ey⟩,bb⟩
  .have ar:=oj ar
   have S1:k≠h:=fun e=>by
    subst e;rw[as7 ey] at bd;exact ar (by injection bd)
   exact⟨aD7,k+1,aD7,aD7,ac.sub aA aA⟩
 .exfalso;have E:decide ((k:Int) < (l.length:Nat))=false:=E;simp at E;omega
end
section
def A8 (l:aH4):ay->Bool
 | []=>true
 |(c,ch)::B=> !l.contains c&&(l.all fun d=> !ch.has d)&&A8 l B
def G7 {l:aH4}: ∀{B:ay},A8 l B=true-> ∀{c ch},ae B c=some ch->c∉l/\ ∀d,d∈l->ch.has d=false
 | [],_,c,ch,J=>by cases J
 |(e,x)::B,h,c,ch,J=>by
  simp only[A8,as8,av3] at h;obtain⟨⟨E,G⟩,ah⟩:=h;rw[co] at J
  split at J
  .rename_i e;injection J with J
   subst e J;refine⟨fun aC=>(by rw[av6.2 aC] at E;cases E),fun d H=>?_⟩;have:=av4.1 G d H;simpa using this
  .exact G7 ah J
def Fn.qI {P:aI0} {f:aI9} {args:List aN} {aK:ay} {ba:aH4} {res:aN} {aO:ay} (pT:ay) (h:Fn P f args aK ba res aO) (E:((ck pT).all fun d=> !(ck aK).contains d&& !(ck aO).contains d)=true) (G:A8 ba pT=true):
  Fn P f args (aK++pT) ba res (aO++pT):=by
 have cl: ∀{c ch},ae pT c=some ch->ae aK c=none/\ae aO c=none:=fun {c ch} J=>by
  have:=av4.1 E c (gf.2 ⟨ch,J⟩);simp only[as8,av3] at this;constructor
  .cases e:ae aK c with
   |none=>rfl
   |some x=>rw[av6.2 (gf.2 ⟨x,e⟩)] at this;cases this.1
  .cases e:ae aO c with
   |none=>rfl
   |some x=>rw[av6.2 (gf.2 ⟨x,e⟩)] at this;cases this.2
 have xa: ∀{c ch},ae aK c=some ch->ae (aK++pT) c=some ch:=fun {c ch} J=>by rw[h9,J]
 have vI: ∀{c ch},ae pT c=some ch->ae (aK++pT) c=some ch:=fun {c ch} J=>by rw[h9,(cl J).1];exact J
 have G8: ∀{c ch},ae (aO++pT) c=some ch->ae aO c=some ch\/ae pT c=some ch:=fun {c ch} J=>by
  rw[h9] at J
  cases e:ae aO c with
  |none=>rw[e] at J;exact .inr J
  |some x=>rw[e] at J;exact .inl J
 refine⟨h.1,fun ρ F I w b0 bM bU a3 a4 a5 fj=>(h.2 ρ F I w b0 bM (fun c ch J=>bU c ch (xa J)) (fun c ch J=>a3 c ch (xa J)) (fun c cn ch ch' b J c3=>a4 c cn ch ch' b (xa J) (xa c3)) a5 fj).mono ?_⟩;rintro e w' ⟨x,ρ',F',r1,r2,fQ,I',j9,l6,mv,l7,m9,ot⟩
 let cS:Nat->Nat->Prop:=fun c=>if(ae pT c).isSome=true then F c else F' c
 have fU: ∀{c ch},ae pT c=some ch->cS c=F c:=fun {c ch} J=>vj (by rw[J];rfl)
 have gV: ∀{c ch},ae aO c=some ch->cS c=F' c:=fun {c ch} J=>mu (fun aw=>by
  cases e:ae pT c with
  |none=>rw[e] at aw;cases aw
  |some x=>rw[(cl e).2] at J;cases J)
 have G9: ∀{c ch} {b:Nat},ae pT c=some ch->F c b-> ¬ ∃d ch',ae aK d=some ch'/\F d b:=fun {c ch b} J O=>by
  rintro⟨d,ch',H,c8⟩;refine a4 c d ch ch' b (vI J) (xa H) (fun e=>?_) O c8;subst e;rw[(cl J).1] at H
  cases H
 refine⟨x,ρ',cS,r1,r2.mono fun b _ ⟨c,ch,J,O⟩=>⟨c,ch,xa J,O⟩,fQ,I',j9,fun b O=>⟨(l6 b O).1,(l6 b O).2.imp id (Or.imp (fun⟨c,ch,J,O⟩=>⟨c,ch,xa J,O⟩) id)⟩,fun c ch J=>?_,fun c ch J b O=>?_,fun c cn ch ch' b J c3 a6 O c8=>?_,ot⟩
 .rcases G8 J with J |J
  .rw[gV J];exact mv c ch J
  .rw[fU J];obtain⟨g1,g2⟩:=G7 G J;rw[fQ c g1];exact Holds.cj j9 (fun b O=>r2.block b (a3 c ch (vI J) b O).1 (G9 J O)) r2.size ch (fun d H=>fQ d fun aC=>by rw[g2 d aC] at H;cases H) (bU c ch (vI J))
 .rcases G8 J with J |J
  .rw[gV J] at O;obtain⟨g1,g2,cL⟩:=l7 c ch J b O;exact⟨g1,g2,cL.imp (fun⟨d,ch',H,O⟩=>⟨d,ch',xa H,O⟩) id⟩
  .rw[fU J] at O;obtain⟨g1,g2⟩:=a3 c ch (vI J) b O;refine⟨au8 g1 r2.size,fun a7=>?_,.inl ⟨c,ch,vI J,O⟩⟩;rcases(l6 b a7).2 with h |h |h
   .exact g2 h
   .exact G9 J O h
   .omega
 .rcases G8 J with J |J <;>rcases G8 c3 with c3 |c3
  .rw[gV J] at O;rw[gV c3] at c8;exact m9 c cn ch ch' b J c3 a6 O c8
  .rw[gV J] at O;rw[fU c3] at c8;rcases(l7 c ch J b O).2.2 with h |h
   .exact G9 c3 c8 h
   .have:=(a3 cn ch' (vI c3) b c8).1;omega
  .rw[fU J] at O;rw[gV c3] at c8;rcases(l7 cn ch' c3 b c8).2.2 with h |h
   .exact G9 J O h
   .have:=(a3 c ch (vI J) b O).1;omega
  .rw[fU J] at O;rw[fU c3] at c8;exact a4 c cn ch ch' b (vI J) (vI c3) a6 O c8
def Fn.dH {P:aI0} {f:aI9} {args:List aN} {aK:ay} {ba:aH4} {d:Nat} {e:aI3} {u:bz} {xs:List (aa u)} {aO:ay} (h:Fn P f args aK (d::ba) (.c (.one (.own d))) (aO++[(d,.row e u xs)])) (E:(ck aO).contains d=false) (G:A8 [d] aO=true):
  Fn P f args aK ba (.c (.one (.d (.b' u xs)))) aO:=by
 have cl:ae aO d=none:=by
  cases e:ae aO d with
  |none=>rfl
  |some x=>rw[av6.2 (gf.2 ⟨x,e⟩)] at E;cases E
 have rT:ae (aO++[(d,a8.row e u xs)]) d=some (.row e u xs):=by rw[h9,cl];simp[ae]
 have hL: ∀{c ch},ae aO c=some ch->ae (aO++[(d,a8.row e u xs)]) c=some ch:=fun {c ch} J=>by rw[h9,J]
 have a6: ∀{c ch},ae aO c=some ch->c≠d:=fun {c ch} J e=>by rw[e,cl] at J;cases J
 refine⟨h.1,fun ρ F I w b0 bM bU a3 a4 a5 fj=>(h.2 ρ F I w b0 bM bU a3 a4 a5 fj).mono ?_⟩;rintro ex w' ⟨x,ρ',F',r1,r2,fQ,I',j9,l6,mv,l7,m9,ot⟩;have fH:=mv d _ rT;have AB: ∀b,I' b->(fun b=>I' b\/F' d b) b:=fun b O=>.inl O
 have aY:cm I' w' (fun b=>I' b\/F' d b) w':=fun b O=>⟨.inl O,rfl⟩
 have dG:gL (fun b=>I' b\/F' d b) w' (.b' u xs) (ρ' d).eS:=CT fH AB (fun b O=>.inr O);refine⟨x,dv ρ' d (ρ d),F',r1,r2,fun c J=>?_,fun b=>I' b\/F' d b,fun b O=>⟨.inl (j9 b O).1,(j9 b O).2⟩,fun b O=>?_,fun c ch J=>?_,fun c ch J b O=>?_,fun c cn ch ch' b J c3=>m9 c cn ch ch' b (hL J) (hL c3),?_⟩
 .by_cases e:c=d
  .rw[e,dB]
  .rw[dD _ _ e];exact fQ c (fun aC=>by rcases at7.1 aC with h |h;exact e h;exact J h)
 .rcases O with O |O
  .exact l6 b O
  .obtain⟨g1,g2,cL⟩:=l7 d _ rT b O;exact⟨g1,.inr cL⟩
 .have s5:=a6 J;obtain⟨_,g2⟩:=G7 G J;rw[dD _ _ s5];exact Holds.cj aY (fun _ _=>rfl) (at0 _) ch (fun j V=>dD _ _ fun e=>by rw[e,g2 d (au5.2 rfl)] at V;cases V) (mv c ch (hL J))
 .obtain⟨g1,g2,cL⟩:=l7 c ch (hL J) b O;refine⟨g1,fun a7=>?_,cL⟩;rcases a7 with a7 |a7
  .exact g2 a7
  .exact m9 c d ch _ b (hL J) rT (a6 J) O a7
 .have hx:x=(ρ' d).eS:=ot;rw[hx];exact dG
def Fn.S2 {P:aI0} {f:aI9} {args:List aN} {aK:ay} {ba:aH4} {d:Nat} {e:aI3} {u:bz} {xs:List (aa u)} {res:aN} {aO:ay} (h:Fn P f args aK (d::ba) res (aO++[(d,.row e u xs)])) (E:(ck aO).contains d=false) (G:A8 [d] aO=true) (ah:(res.dH d (.b' u xs)).has d=false):
  Fn P f args aK ba (res.dH d (.b' u xs)) aO:=by
 have cl:ae aO d=none:=by
  cases e:ae aO d with
  |none=>rfl
  |some x=>rw[av6.2 (gf.2 ⟨x,e⟩)] at E;cases E
 have rT:ae (aO++[(d,a8.row e u xs)]) d=some (.row e u xs):=by rw[h9,cl];simp[ae]
 have hL: ∀{c ch},ae aO c=some ch->ae (aO++[(d,a8.row e u xs)]) c=some ch:=fun {c ch} J=>by rw[h9,J]
 have a6: ∀{c ch},ae aO c=some ch->c≠d:=fun {c ch} J e=>by rw[e,cl] at J;cases J
 refine⟨h.1,fun ρ F I w b0 bM bU a3 a4 a5 fj=>(h.2 ρ F I w b0 bM bU a3 a4 a5 fj).mono ?_⟩;rintro ex w' ⟨x,ρ',F',r1,r2,fQ,I',j9,l6,mv,l7,m9,ot⟩;have fH:=mv d _ rT;have AB: ∀b,I' b->(fun b=>I' b\/F' d b) b:=fun b O=>.inl O
 have aY:cm I' w' (fun b=>I' b\/F' d b) w':=fun b O=>⟨.inl O,rfl⟩
 have dG:gL (fun b=>I' b\/F' d b) w' (.b' u xs) (ρ' d).eS:=CT fH AB (fun b O=>.inr O);refine⟨x,dv ρ' d (ρ d),F',r1,r2,fun c J=>?_,fun b=>I' b\/F' d b,fun b O=>⟨.inl (j9 b O).1,(j9 b O).2⟩,fun b O=>?_,fun c ch J=>?_,fun c ch J b O=>?_,fun c cn ch ch' b J c3=>m9 c cn ch ch' b (hL J) (hL c3),?_⟩
 .by_cases e:c=d
  .rw[e,dB]
  .rw[dD _ _ e];exact fQ c (fun aC=>by rcases at7.1 aC with h |h;exact e h;exact J h)
 .rcases O with O |O
  .exact l6 b O
  .obtain⟨g1,g2,cL⟩:=l7 d _ rT b O;exact⟨g1,.inr cL⟩
 .have s5:=a6 J;obtain⟨_,g2⟩:=G7 G J;rw[dD _ _ s5];exact Holds.cj aY (fun _ _=>rfl) (at0 _) ch (fun j V=>dD _ _ fun e=>by rw[e,g2 d (au5.2 rfl)] at V;cases V) (mv c ch (hL J))
 .obtain⟨g1,g2,cL⟩:=l7 c ch (hL J) b O;refine⟨g1,fun a7=>?_,cL⟩;rcases a7 with a7 |a7
  .exact g2 a7
  .exact m9 c d ch _ b (hL J) rT (a6 J) O a7
 .have aB:cx ρ' (fun b=>I' b\/F' d b) w' (res.dH d (.b' u xs)) x:=cx.dH aY dG res x ot;exact cx.mono (cm.refl _ _) _ _ (fun c J=>dD _ _ fun e=>by subst e;rw[ah] at J;cases J) aB
def Fn.own {P:aI0} {f:aI9} {args:List aN} {aK:ay} {ba:aH4} {d:Nat} {e:aI3} {u:bz} {xs:List (aa u)} {res:aN} {aO:ay} (h:Fn P f (args.map (aN.dH d (.b' u xs))) aK ba res aO) (E:(ck aK).contains d=false):
  Fn P f args (aK++[(d,.row e u xs)]) ba res aO:=by
 have cl:ae aK d=none:=by
  cases e:ae aK d with
  |none=>rfl
  |some x=>rw[av6.2 (gf.2 ⟨x,e⟩)] at E;cases E
 have rT:ae (aK++[(d,a8.row e u xs)]) d=some (.row e u xs):=by rw[h9,cl];simp[ae]
 have hL: ∀{c ch},ae aK c=some ch->ae (aK++[(d,a8.row e u xs)]) c=some ch:=fun {c ch} J=>by rw[h9,J]
 have a6: ∀{c ch},ae aK c=some ch->c≠d:=fun {c ch} J e=>by rw[e,cl] at J;cases J
 refine⟨h.1,fun ρ F I w b0 bM bU a3 a4 a5 fj=>?_⟩;have fH:=bU d _ rT;have aY:cm I w (fun b=>I b\/F d b) w:=fun b O=>⟨.inl O,rfl⟩
 have dG:gL (fun b=>I b\/F d b) w (.b' u xs) (ρ d).eS:=CT fH (fun b O=>.inl O) (fun b O=>.inr O)
 refine(h.2 ρ F (fun b=>I b\/F d b) w b0 (fun b O=>O.elim (bM b) fun O=>(a3 d _ rT b O).1) (fun c ch J=>Holds.cj aY (fun _ _=>rfl) (at0 _) ch (fun _ _=>rfl) (bU c ch (hL J)))
  (fun c ch J b O=>⟨(a3 c ch (hL J) b O).1,fun a7=>a7.elim (a3 c ch (hL J) b O).2 fun H=>a4 c d ch _ b (hL J) rT (a6 J) O H⟩) (fun c cn ch ch' b J c3=>a4 c cn ch ch' b (hL J) (hL c3)) (by rw[au3];exact a5) (fun i v x aB hx=>?_)).mono ?_
 .rw[av1] at aB;obtain⟨s,aw,rfl⟩:=ax0.1 aB;exact cx.dH aY dG s x (fj i s x aw hx)
 .rintro ex w' ⟨x,ρ',F',r1,r2,fQ,I',j9,l6,mv,l7,m9,ot⟩;refine⟨x,ρ',F',r1,r2.mono fun b _ ⟨c,ch,J,O⟩=>⟨c,ch,hL J,O⟩,fQ,I',fun b O=>j9 b (.inl O),fun b O=>⟨(l6 b O).1,?_⟩,mv,fun c ch J b O=>?_,m9,ot⟩
  .rcases(l6 b O).2 with h |⟨c,ch,J,O⟩ |h
   .exact h.elim .inl fun h=>.inr (.inl ⟨d,_,rT,h⟩)
   .exact .inr (.inl ⟨c,ch,hL J,O⟩)
   .exact .inr (.inr h)
  .obtain⟨g1,g2,cL⟩:=l7 c ch J b O;exact⟨g1,g2,cL.imp (fun⟨c,ch,J,O⟩=>⟨c,ch,hL J,O⟩) id⟩
end
section
structure bL where
 z:Nat
 t:List e9
 l:List Int
 f:lF
abbrev afY (n:Int):List bA:=[.d (.int .i64 n),.ptr 1002 0,.ptr 1003 0,.mp 1004,.dC]
abbrev dz (s:bL):ay:=[(1001,.cells (afY s.z)),(1002,.az (rR s.t)),(1003,.az (rS s.l)),(1004,.az (na s.f))]
def je (s:bL):bc:=.iQ 1001 (dz s)
def afZ (t:List e9):Fn prog 193 [ap 1001] [(1001,.az (rR t))] [] (ab (t.length:Nat)) [(1001,.az (rR t))]:=
 Fn.Gz (s1:=fun es:{es//oy t es}=>.iQ 1001 (pi (t.length:Nat) es.1)) aE0 (fun _ _ _ _ ⟨es,h,aV⟩=>⟨⟨es,h⟩,aV⟩) fun es=>
  Fn.close [1002] (afE _ es.1) (fun _ _ _ _ h=>h) (fun _ _ _ _ h=>⟨es.1,es.2,h⟩) rfl rfl
def DQ (t:List e9) (al:t.length<=256) (c:Nat) (J:c < t.length):Fn prog 195 [ap 1001,ab (c:Int)] [(1001,.az (rR t))] [] (.c (pR t[c])) [(1001,.az (rR t))]:=
 Fn.Gz (s1:=fun es:{es//oy t es}=>.iQ 1001 (pi (t.length:Nat) es.1)) aE0 (fun _ _ _ _ ⟨es,h,aV⟩=>⟨⟨es,h⟩,aV⟩) fun es=>
  Fn.close [1002] (ST es.2 al c J) (fun _ _ _ _ h=>h) (fun _ _ _ _ h=>⟨es.1,es.2,h⟩) rfl rfl
def af0 (t:List e9) (al:t.length<=256) (c:Nat) (J:c < t.length) (s:e9) (aw:uo s) (aj:rP s=true):
  Fn prog 240 [ap 1001,ab (c:Int),.c (pR s)] [(1001,.az (rR t))] [] (.b4 [pR t[c],dw 0]) [(1001,.az (rR (t.set c s)))]:=
 Fn.Gz (s1:=fun es:{es//oy t es}=>.iQ 1001 (pi (t.length:Nat) es.1)) aE0 (fun _ _ _ _ ⟨es,h,aV⟩=>⟨⟨es,h⟩,aV⟩) fun es=>
  Fn.close [1002] (afM es.2 al c J s aw aj) (fun _ _ _ _ h=>h) (fun _ _ _ _ h=>⟨_,es.2.set c J s aw,by rw[ay3];exact h⟩) rfl rfl
def af1 (l:aI7) (h:Nat) (n:Int) (hn:l[h]? =some n) (E:1<=n) (G:n<=65535):Fn prog 267 [ap 1001,ab (h:Int)] [(1001,.az (rS l))] [] (.b4 [.one (.d (.int .i64 (n - 1))),dw 0]) [(1001,.az (rS (l.set h (n - 1))))]:=
 Fn.close [1002] (afS l h n hn E G) (fun _ _ _ _ h=>h) (fun _ _ _ _ h=>h) rfl rfl
def af2 (l:aI7) (al:l.length<=1000000):Fn prog 238 [ap 1001] [(1001,.az (rS l))] [] (ab (d0 l:Nat)) [(1001,.az (rS l))]:=
 Fn.close [1002] (afV l al) (fun _ _ _ _ h=>h) (fun _ _ _ _ h=>h) rfl rfl
def af3 (l:aI7) (al:l.length<=1000000) (h:Nat) (bd:l[h]? =some 0) (hf: ∀j,j < h->l[j]? ≠some 0):Fn prog 239 [ap 1001] [(1001,.az (rS l))] [] (.b4 [.one (.d (.int .i64 (h:Int))),dw 0]) [(1001,.az (rS (l.set h 1)))]:=
 Fn.close [1002] (afX l al h bd hf) (fun _ _ _ _ h=>h) (fun _ _ _ _ h=>h) rfl rfl
def aG (s:bL):Nat:=16*2 ^s.z
def jf {b:Nat} (h:b<=3):1<=2 ^b/\2 ^b<=8:=by
 match b,h with
 |0,_=>decide
 |1,_=>decide
 |2,_=>decide
 |3,_=>decide
def up {s:bL} (h:s.z<=3):16<=aG s/\aG s<=128:=by have:=jf h;unfold aG;omega
def qJ (s:bL) (O:s.z<=3):Fn prog 191 [ap 1001] (dz s) [] (ab (aG s:Nat)) (dz s):=by
 have h:=jf O;have e:(16:Int)*((2 ^s.z:Nat):Int)=((aG s:Nat):Int):=by unfold aG;omega
 refine aP [] func191 ?_;have m:(0:Int)<=16/\(0:Int)<=(s.z:Int)/\(s.z:Int)<=64:=aE5
 have m2:(-9223372036854775808:Int)<=16*((2 ^s.z:Nat):Int)/\(16:Int)*((2 ^s.z:Nat):Int)<=9223372036854775807:=aE5
 exact⟨m,m2,ea bn rfl e⟩
def nc (s:bL):Fn prog 131 [ap 1001] (dz s) [] (ab (s.t.length:Nat)) (dz s):=by refine aP [] func131 ?_;exact av (Fn.aT [(1001,1002)] (afZ s.t)) bb
def af4 (s:bL) (al:s.t.length<=256) (c:Nat) (J:c < s.t.length):Fn prog 136 [ap 1001,ab (c:Int)] (dz s) [] (ab (s.t[c]).1) (dz s):=by refine aP [] func136 ?_;refine av (Fn.aT [(1001,1002)] (DQ s.t al c J)) <| bm (LQ rfl underlying176 rfl underlying3 rfl rfl rfl) ?_;exact bb
def S3 (s:bL) (al:s.l.length<=1000000):Fn prog 188 [ap 1001] (dz s) [] (ab (d0 s.l:Nat)) (dz s):=by refine aP [] func188 ?_;exact av (Fn.aT [(1001,1003),(1002,2003)] (af2 s.l al)) bb
def S4 (x:aH3) (hx:x.length<=4294967296):Fn prog 199 [dY 1001] [(1001,.row 5 .u8 x)] [1002] (dY 1002) [(1001,.row 5 .u8 x),(1002,.row 5 .u8 x)]:=by
 refine aP [1] func199 ?_;refine bG.iF eY aE0 ⟨_,aec (c:=1001) rfl rfl rfl underlying27,fun v e h=>?_⟩;obtain⟨b,O,rfl,rfl⟩:=h
 cases b
 .refine⟨rfl,?_⟩;have m1:([]:aH3).length+x.length<=4294967296:=aF5
  exact⟨m1,rfl,_,_,_,ac.aT 7 1002 rfl,rfl,rfl,aA,rfl⟩
 .have O:=O rfl;subst O;exact⟨_,_,_,ac.nil 2 1002 5 .u8 rfl rfl,rfl,rfl,aA,rfl⟩
def af5 (x:aH3) (hx:x.length<=4294967296):Fn prog 199 [bE .u8 x] [] [2001] (dY 2001) [(2001,.row 5 .u8 x)]:=by
 refine aP [1] func199 ?_;refine bG.iF eY aE0 ⟨_,Sb rfl rfl underlying27,fun v e h=>?_⟩;obtain⟨b,O,rfl,rfl⟩:=h
 cases b
 .refine⟨rfl,?_⟩;have al:0+x.length<=4294967296:=aE5
  exact⟨al,rfl,_,_,_,ac.aT 7 2001 rfl,rfl,rfl,aA,rfl⟩
 .have O:=O rfl;subst O;exact⟨_,_,_,ac.nil 2 2001 5 .u8 rfl rfl,rfl,rfl,aA,rfl⟩
def S5 {f:lF} {k:Int} {xs:aH3} (h:f k=some xs):jv f k xs=f:=funext fun j=>by
 unfold jv
 split
 .rename_i e;rw[e,h]
 .rfl
def LW:(prog.info? 27).map (fun i=>(i.zero,i.size,i.bytes))=some (some (.slice none 0 0),1,24):=by kernel_rfl
def iH (s:bL):aH3:=List.replicate (aG s) 0
def eh (s:bL) (c:Nat) (y:Option aH3):aH3:=match s.t[c]? with
 |some q=>if q.1=1 then(s.f q.2.1).getD [] else if q.1=0 then(match y with
  |some y=>if y.length=aG s then y else iH s
  |none=>iH s) else iH s
 |none=>[]
def af6 (s:bL) (O:s.z<=3) (al:s.t.length<=256) (c:Nat) (J:c < s.t.length) (hf:(s.t[c]).1=1-> ∃xs,s.f (s.t[c]).2.1=some xs/\xs.length<=128):
  Fn prog 178 [ap 1001,ab (c:Int),.c (.one (.bK .nilFunc))] (dz s) [2001] (dY 2001) (dz s++[(2001,.row 5 .u8 (eh s c none))]):=by
 obtain⟨c9,i1,i2,i3,i4⟩:=info_parts LW;have hw:=up O
 have dR:eh s c none=if(s.t[c]).1=1 then(s.f (s.t[c]).2.1).getD [] else iH s:=by
  unfold eh;rw[as7 J];simp
 refine aP [] func178 ?_;refine av (Fn.aT [(1001,1002)] (DQ s.t al c J)) ⟨rfl,fun h=>?_,fun h=>?_⟩
 .have h:=gd h;obtain⟨xs,hx,t8⟩:=hf h;rw[vj h,hx] at dR;refine bm (GL (d:=5001) (k:=(s.t[c]).2.1) rfl underlying165 underlying3 rfl i1 i2 rfl rfl rfl hx) ?_;refine av (Fn.aT [(1001,5001),(1002,2001)] (S4 xs aD7)) ⟨rfl,?_⟩;exact⟨_,_,_,ac.GM 1004 5001 (S5 hx) rfl rfl aD8 (by rw[hx];rfl),rfl,rfl,⟨rfl,rfl,rfl,rfl,by rw[dR];rfl,trivial⟩,rfl⟩
 .have h:=oj h;rw[mu h] at dR;have m:(0:Int)<=(aG s:Nat)/\((aG s:Nat):Int)<=4294967296:=aE5
  refine⟨fun ar=>?_,fun ar=>?_⟩
  .refine bm (afx (.inr ⟨rfl,rfl⟩) rfl underlying202 rfl) ?_;refine av (qJ s O) ⟨⟨rfl,m⟩,rfl,?_⟩;exact⟨_,_,_,ac.aT 45 2001 rfl,rfl,rfl,⟨rfl,rfl,rfl,rfl,by rw[dR];rfl,trivial⟩,rfl⟩
  .refine av (qJ s O) ⟨⟨rfl,m⟩,rfl,?_⟩;exact⟨_,_,_,ac.aT 45 2001 rfl,rfl,rfl,⟨rfl,rfl,rfl,rfl,by rw[dR];rfl,trivial⟩,rfl⟩
abbrev nG (b1 b2:Nat):aN:=.c (.one (.d (.fn (186,[b1,b2]))))
abbrev fY (s:bL) (bo:bp->bc):ay:=dz s++[(9000,.b5 1001 bo)]
def G' (s:bL) (bo:bp->bc) (b1 b2:Nat) (c:Nat) (y:aH3):Prop:=
 y.length<=1000000/\Fn prog 186 [ab (c:Int),dd b1,dd b2] (fY s bo) [] (bE .u8 y) (fY s bo)
def af7 (s:bL) (bo:bp->bc) (b1 b2:Nat) (O:s.z<=3) (al:s.t.length<=256) (c:Nat) (J:c < s.t.length) (hf:(s.t[c]).1=1-> ∃xs,s.f (s.t[c]).2.1=some xs/\xs.length<=128) (y:aH3) (de:(s.t[c]).1=0->G' s bo b1 b2 c y):
  Fn prog 178 [ap 1001,ab (c:Int),nG b1 b2] (fY s bo) [2001] (dY 2001) (fY s bo++[(2001,.row 5 .u8 (eh s c (some y)))]):=by
 obtain⟨c9,i1,i2,i3,i4⟩:=info_parts LW;have hw:=up O
 have dR:eh s c (some y)=if(s.t[c]).1=1 then(s.f (s.t[c]).2.1).getD [] else if(s.t[c]).1=0 then(if y.length=aG s then y else iH s) else iH s:=by
  unfold eh;rw[as7 J]
 refine aP [7,8] func178 ?_;refine av (Fn.aT [(1001,1002)] (DQ s.t al c J)) ⟨rfl,fun h=>?_,fun h=>?_⟩
 .have h:=gd h;obtain⟨xs,hx,t8⟩:=hf h;rw[vj h,hx] at dR;refine bm (GL (d:=5001) (k:=(s.t[c]).2.1) rfl underlying165 underlying3 rfl i1 i2 rfl rfl rfl hx) ?_;refine av (Fn.aT [(1001,5001),(1002,2001)] (S4 xs aD7)) ⟨rfl,?_⟩;exact⟨_,_,_,ac.GM 1004 5001 (S5 hx) rfl rfl aD8 (by rw[hx];rfl),rfl,rfl,⟨rfl,rfl,rfl,rfl,rfl,by rw[dR];rfl,trivial⟩,rfl⟩
 .have h:=oj h;rw[mu h] at dR;have m:(0:Int)<=(aG s:Nat)/\((aG s:Nat):Int)<=4294967296:=aE5
  refine⟨fun ar=>?_,fun ar=>?_⟩
  .have ar:=gd ar;obtain⟨DR,de⟩:=de ar;rw[vj ar] at dR;refine bm (afw (.inr ⟨rfl,rfl⟩) rfl underlying202 rfl) ?_;refine av de <| av (qJ s O) ⟨fun G=>?_,fun G=>?_⟩
   .have G:(y.length:Int)=(aG s:Nat):=gd G;have G:y.length=aG s:=aE5
    rw[vj G] at dR;refine bw [] (cz [(8,bE .u8 y)] (fY s bo)) <| av (af5 y aD7) ?_;exact s4 bn rfl rfl ⟨rfl,rfl,rfl,rfl,rfl,by rw[dR];rfl,trivial⟩ rfl
   .have G: ¬(y.length:Int)=(aG s:Nat):=oj G;have G: ¬y.length=aG s:=aE5
    rw[mu G] at dR;refine bw [] (cz [(0,ap 1001)] (fY s bo)) <| av (qJ s O) ⟨⟨rfl,m⟩,rfl,?_⟩;exact⟨_,_,_,ac.aT 45 2001 rfl,rfl,rfl,⟨rfl,rfl,rfl,rfl,rfl,by rw[dR];rfl,trivial⟩,rfl⟩
  .have ar:=oj ar;rw[mu ar] at dR;refine bw [] (cz [(0,ap 1001)] (fY s bo)) <| av (qJ s O) ⟨⟨rfl,m⟩,rfl,?_⟩;exact⟨_,_,_,ac.aT 45 2001 rfl,rfl,rfl,⟨rfl,rfl,rfl,rfl,rfl,by rw[dR];rfl,trivial⟩,rfl⟩
def A9 (s:bL) (q:e9):bL:=if q.1=1 then {s with l:=s.l.set q.2.1.toNat 0,f:=DC s.f q.2.1} else s
def af8 (s:bL) (q:e9) (a2:q.1=1-> ∃h:Nat,q.2.1=(h:Int)/\s.l[h]? =some 1):Fn prog 241 [ap 1001,.c (pR q)] (dz s) [] g' (dz (A9 s q)):=by
 refine aP [] func241 ?_;refine⟨rfl,fun E=>?_,fun E=>?_⟩
 .have E: ¬q.1=1:=by
   have E:(!decide (q.1=1))=true:=E;simpa using E
  rw[show A9 s q=s from mu E];exact bb
 .have E:q.1=1:=by
   have E:(!decide (q.1=1))=false:=E;simpa using E
  obtain⟨h,e,al⟩:=a2 E;rw[show A9 s q={s with l:=s.l.set q.2.1.toNat 0,f:=DC s.f q.2.1} from vj E];obtain⟨k,x,o⟩:=q;simp only at e;subst e;refine av (Fn.aT [(1001,1003),(1002,2003)] (af1 s.l h 1 al aD8 aD8)) ⟨rfl,fR <| bm (aeq (k:=(h:Int)) rfl underlying165 underlying3 rfl rfl rfl rfl) ?_⟩;exact⟨rfl,bb⟩
def rU (s:bL) (c:Nat) (q:e9):bL:=A9 {s with t:=s.t.set c q} (s.t.getD c b9)
def LX (s:bL) (al:s.t.length<=256) (c:Nat) (J:c < s.t.length) (q:e9) (aw:uo q) (aj:rP q=true) (a2:(s.t.getD c b9).1=1-> ∃h:Nat,(s.t.getD c b9).2.1=(h:Int)/\s.l[h]? =some 1):
  Fn prog 192 [ap 1001,ab (c:Int),.c (pR q)] (dz s) [] g' (dz (rU s c q)):=by
 have e:s.t[c]=s.t.getD c b9:=by rw[at3,as7 J];rfl
 have hG:=af0 s.t al c J q aw aj;unfold rU;rw[e] at hG;generalize s.t.getD c b9=rr at a2 hG;refine aP [] func192 ?_;refine⟨rfl,av (Fn.aT [(1001,1002)] hG) ⟨rfl,rfl,?_⟩⟩;exact av (af8 {s with t:=s.t.set c q} rr a2) bb
structure nd where
 c:Nat
 a:Nat
 b:Nat
 at_:Nat
abbrev vJ (p:nd):List bA:=[.d (.int .i64 (p.c:Int)),.d (.int .i64 (p.a:Int)),.d (.int .i64 (p.b:Int)),.d (.int .i64 (p.at_:Int))]
abbrev qK (p:nd):aN:=.c (.agg (vJ p))
def hq (s:bL) (c:Nat):Bool:= !vG (s.t.getD c b9)
def LY (s:bL) (al:s.t.length<=256) (p:nd) (J:p.c < s.t.length):Fn prog 187 [ap 1001,qK p] (dz s) [] (gb (hq s p.c)) (dz s):=by
 have e:s.t[p.c]=s.t.getD p.c b9:=by rw[at3,as7 J];rfl
 have kp:=DQ s.t al p.c J;unfold hq;rw[e] at kp;refine aP [] func187 ?_;exact⟨rfl,av (Fn.aT [(1001,1002)] kp) <| av (afD (s.t.getD p.c b9)) ⟨rfl,bb⟩⟩
structure gk (s:bL):Prop where
 z:s.z<=3
 ez:s.t.length<=256
 lJ:s.l.length<=512
 slot: ∀(c:Nat) (q:e9),s.t[c]? =some q->q=b9\/q=((2:Int),(0:Int),false)\/ ∃h:Nat,q=((1:Int),(h:Int),true)/\s.l[h]? =some 1/\ ∃xs,s.f (h:Int)=some xs/\xs.length=aG s
 inj: ∀(c d:Nat) (h:Int),s.t[c]? =some ((1:Int),h,true)->s.t[d]? =some ((1:Int),h,true)->c=d
 Ha: ∀(h:Nat) n,s.l[h]? =some n->n=0\/n=1
 Ba: ∀h:Nat,s.l[h]? =some 0->s.f (h:Int)=none
 Hb: ∀h:Nat,s.l[h]? =some 1-> ∃c:Nat,s.t[c]? =some ((1:Int),(h:Int),true)
 dom: ∀(k:Int) xs,s.f k=some xs->xs.length<=128
def ib (l:aI7):Nat:=l.findIdx fun n=>decide (n=0)
def LZ {l:aI7} (h:0 < d0 l):l[ib l]? =some 0/\ ∀j,j < ib l->l[j]? ≠some 0:=by
 have bv:ib l < l.length:=by
  unfold ib;rw[List.findIdx_lt_length];unfold d0 at h;obtain⟨x,hx⟩:=List.exists_mem_of_length_pos h;rw[aC1] at hx;exact⟨x,hx.1,hx.2⟩
 refine⟨?_,fun j V e=>?_⟩
 .have:=List.findIdx_getElem (xs:=l) (p:=fun n=>decide (n=0)) (w:=bv);rw[as7 bv];exact at2 some (gd this)
 .have fE:j < l.length:=aE5
  have:=List.not_of_lt_findIdx (p:=fun n=>decide (n=0)) (xs:=l) V;rw[as7 fE] at e;injection e with e
  simp[e] at this
def nf (s:bL) (c:Nat) (y:aH3):bL:=
 if hq s c=true then {s with t:=s.t.set c ((1:Int),(ib s.l:Int),true),l:=s.l.set (ib s.l) 1,f:=jv s.f (ib s.l:Int) (eh s c (some y))} else s
def Hc (s:bL) (p:nd) (bs:aH3):bL:={s with f:=jv s.f (s.t.getD p.c b9).2.1 (laid ((s.f (s.t.getD p.c b9).2.1).getD []) p.a (p.b - p.a) bs)}
def y2 (s:bL) (p:nd) (bs:aH3) (y:aH3):bL:=Hc (nf s p.c y) p bs
abbrev S6 (bs:aH3):aW:=[(0,ap 1001),(2,bE .u8 bs),(5,ap 5)]
abbrev S7 (s:bL) (bo:bp->bc) (p:nd):ay:=(5,.cells (vJ p))::fY s bo
def Bb {t:List e9} {c:Nat} {q:e9} (h:t[c]? =some q):t.getD c b9=q:=by rw[at3,h];rfl
def vK {s:bL} (ax:gk s) {c:Nat} (J:c < s.t.length) (y:Option aH3):(eh s c y).length=aG s:=by
 have aM:(iH s).length=aG s:=au2;have aV:s.t[c]? =some s.t[c]:=as7 J;unfold eh;rw[aV];simp only;rcases ax.slot c _ aV with e |e |⟨h,e,_,xs,hx,al⟩
 .rw[e,mu aD8,vj aD8]
  split
  .split
   .rename_i h;exact h
   .exact aM
  .exact aM
 .rw[e,mu aD8,mu aD8];exact aM
 .rw[e,vj rfl];simp only[hx,az5];exact al
def Hd {s:bL} (ax:gk s) {c:Nat} (J:c < s.t.length):(hq s c=true/\(s.t.getD c b9=b9\/s.t.getD c b9=((2:Int),(0:Int),false)))\/(hq s c=false/\ ∃h:Nat,s.t[c]? =some ((1:Int),(h:Int),true)/\s.l[h]? =some 1/\ ∃xs,s.f (h:Int)=some xs/\xs.length=aG s):=by
 have aV:s.t[c]? =some s.t[c]:=as7 J;have H:=Bb aV;unfold hq vG;rw[H];rcases ax.slot c _ aV with e |e |⟨h,e,G⟩
 .rw[e];exact .inl ⟨rfl,.inl rfl⟩
 .rw[e];exact .inl ⟨rfl,.inr rfl⟩
 .rw[e] at aV⊢;exact .inr ⟨rfl,h,aV,G⟩
def S8 {s:bL} (h:s.z<=3):aG s<=128:=by have:=jf h;show 16*2 ^s.z<=128;omega
def S9 {f:lF} (h: ∀(k:Int) xs,f k=some xs->xs.length<=128) {DS:Int} {ys:aH3} (aD:ys.length<=128): ∀(k:Int) xs,jv f DS ys k=some xs->xs.length<=128:=fun k xs Z=>by
 unfold jv at Z
 split at Z
 .injection Z with Z
  rw[<-Z];exact aD
 .exact h k xs Z
def Ta {s:bL} (ax:gk s) {c:Nat} (J:c < s.t.length) (y:aH3) (aM:hq s c=true->0 < d0 s.l):
  gk (nf s c y)/\aG (nf s c y)=aG s/\(nf s c y).t.length=s.t.length/\ ∃h:Nat,(nf s c y).t[c]? =some ((1:Int),(h:Int),true)/\(nf s c y).f (h:Int)=some (eh s c (some y)):=by
 rcases Hd ax J with⟨hn,a2⟩ |⟨hn,h,E,G,xs,ah,aS⟩
 .obtain⟨kS,rA⟩:=LZ (aM hn);have bv:ib s.l < s.l.length:=(au0.1 kS).1;have kw:=ax.Ba _ kS;have dR:=vK ax J (some y);have m6:s.t[c]? =some (s.t.getD c b9):=by rw[at3,as7 J];rfl
  rw[show nf s c y={s with t:=s.t.set c ((1:Int),(ib s.l:Int),true),l:=s.l.set (ib s.l) 1,f:=jv s.f (ib s.l:Int) (eh s c (some y))} from vj hn];generalize eh s c (some y)=xs at dR;generalize ib s.l=ar at*
  have Tb: ∀(d:Nat),s.t[d]? ≠some ((1:Int),(ar:Int),true):=fun d e=>by
   rcases ax.slot d _ e with ao |ao |⟨h,ao,ah,_⟩
   .cases ao
   .cases ao
   .have:(ar:Int)=(h:Int):=by injection ao with _ ao;injection ao
    have:ar=h:=aE5
    subst this;rw[kS] at ah
    cases ah
  refine⟨⟨ax.z,by show(s.t.set _ _).length<=256;rw[ay3];exact ax.ez,by show(s.l.set _ _).length<=512;rw[ay3];exact ax.lJ,fun d q a2=>?_,fun d e h H U=>?_,fun h n hn=>?_,fun h bd=>?_,fun h bd=>?_,S9 ax.dom (by rw[dR];exact S8 ax.z)⟩,rfl,ay3,ar,?_,vj rfl⟩
  .rw[aA1] at a2
   split at a2
   .rename_i e;subst e;injection a2 with a2
    exact .inr (.inr ⟨ar,a2.symm,by rw[ay7 bv],xs,vj rfl,dR⟩)
   .rcases ax.slot d q a2 with e |e |⟨h,e,g1,ys,g2,cL⟩
    .exact .inl e
    .exact .inr (.inl e)
    .have a6:ar≠h:=fun e=>by subst e;rw[kS] at g1;cases g1
     exact .inr (.inr ⟨h,e,by rw[ax4 a6];exact g1,ys,by show(if(h:Int)=(ar:Int) then some xs else s.f h)=some ys;rw[mu aD7];exact g2,cL⟩)
  .rw[aA1] at H U
   split at H
   .rename_i af
    split at U
    .rename_i ao;rw[<-af,<-ao]
    .have:(ar:Int)=h:=by injection H with H;injection H with _ H;injection H
     subst this;exact at1 U (Tb e)
   .split at U
    .rename_i ao;have:(ar:Int)=h:=by injection U with H;injection H with _ H;injection H
     subst this;exact at1 H (Tb d)
    .exact ax.inj d e h H U
  .rw[aA1] at hn
   split at hn
   .rename_i e;injection hn with hn
    exact .inr hn.symm
   .exact ax.Ha h n hn
  .rw[aA1] at bd
   split at bd
   .rename_i e;injection bd with bd
    exact at1 bd aD8
   .rename_i e;show(if(h:Int)=(ar:Int) then some xs else s.f h)=none;rw[mu aD7];exact ax.Ba h bd
  .by_cases e:ar=h
   .subst e;exact⟨c,ay7 J⟩
   .rw[ax4 e] at bd;obtain⟨d,H⟩:=ax.Hb h bd
    have a6:c≠d:=fun ao=>by
     subst ao;rw[m6] at H;injection H with H
     rw[H] at a2;rcases a2 with a2 |a2 <;>cases a2
    exact⟨d,by rw[ax4 a6];exact H⟩
  .exact ay7 J
 .have e:nf s c y=s:=mu (by rw[hn];decide);rw[e];refine⟨ax,rfl,rfl,h,E,?_⟩;unfold eh;rw[E];simp only[vj,ah,az5]
def Tc (s:bL) (bo:bp->bc) (b1 b2:Nat) (ax:gk s) (p:nd) (J:p.c < s.t.length) (bs:aH3) (E:p.a<=p.b) (G:p.b<=aG s) (ah:bs.length=p.b - p.a) (y:aH3) (de:(s.t[p.c]).1=0->G' s bo b1 b2 p.c y) (aM:hq s p.c=true->0 < d0 s.l):
  Fn prog 189 [ap 1001,qK p,bE .u8 bs,nG b1 b2] (fY s bo) [] g' (fY (y2 s p bs y) bo):=by
 obtain⟨c9,i1,i2,i3,i4⟩:=info_parts LW;have hw:=up ax.z;have e:s.t[p.c]=s.t.getD p.c b9:=by rw[at3,as7 J];rfl
 obtain⟨e8,gH,mA,ed,vL,xb⟩:=Ta ax J y aM;have dR:=vK ax J (some y);unfold y2
 have fC:=af7 s bo b1 b2 ax.z ax.ez p.c J (fun h=>by
  rcases ax.slot p.c _ (as7 J) with ao |ao |⟨h,ao,_,xs,hx,al⟩
  .rw[ao] at h;cases h
  .rw[ao] at h;cases h
  .rw[ao];exact⟨xs,hx,aD7⟩) y de
 generalize ee:nf s p.c y=s' at e8 gH mA vL xb;have rn:=Bb vL
 have rk:s'.t[p.c]'aD7=((1:Int),(ed:Int),true):=by
  have:=as7 (l:=s'.t) (i:=p.c) aD7;rw[vL] at this;injection this with this
  exact this.symm
 have L0:=DQ s'.t e8.ez p.c aD7;rw[rk] at L0;unfold Hc;rw[rn];simp only[xb,az5];have m:(0:Int)<=(p.a:Int)/\(p.a:Int)<=(p.b:Int)/\(p.b:Int)<=(((eh s p.c (some y)).length:Nat):Int):=aE5
 have m2:p.a+(p.b - p.a)<=(eh s p.c (some y)).length:=aE5
 have wO:jv s'.f (ed:Int) (laid (eh s p.c (some y)) p.a (p.b - p.a) bs)=jv s'.f (ed:Int) (laid (eh s p.c (some y)) p.a (p.b - p.a) bs):=rfl;refine aP [3,5,6] func189 ?_;refine⟨rfl,av (LY s ax.ez p J) ⟨fun hn=>?_,fun hn=>?_⟩⟩
 .obtain⟨kS,rA⟩:=LZ (aM hn);refine av fC <| bw [5,6] (cz [(0,ap 1001),(2,bE .u8 bs),(5,ap 5),(8,dY 2001)] ((5,.cells (vJ p))::(2001,.row 5 .u8 (eh s p.c (some y)))::fY s bo)) ?_;refine av (Fn.aT [(1001,1003),(1002,2003)] (af3 s.l (by have:=ax.lJ;omega) (ib s.l) kS rA)) <| bm (fun N=>aeo (d:=2001) (k:=(ib s.l:Int)) rfl underlying165 underlying3 rfl rfl rfl rfl rfl rfl aD8 (ax.Ba _ kS) N) ?_;refine bw [6] (cz [(0,ap 1001),(2,bE .u8 bs),(5,ap 5),(9,ab (ib s.l:Nat))] ((5,.cells (vJ p))::fY {s with l:=s.l.set (ib s.l) 1,f:=jv s.f (ib s.l:Int) (eh s p.c (some y))} bo)) ?_
  have hG:Fn prog 192 [ap 1001,ab (p.c:Int),.c (pR ((1:Int),(ib s.l:Int),true))] (dz {s with l:=s.l.set (ib s.l) 1,f:=jv s.f (ib s.l:Int) (eh s p.c (some y))}) [] g' (dz s'):=by
   have bv:ib s.l < s.l.length:=(au0.1 kS).1;have ll:=ax.lJ
   have wZ: ¬(s.t.getD p.c b9).1=1:=by
    rcases Hd ax J with⟨_,h⟩ |⟨h,_⟩
    .rcases h with h |h <;>rw[h] <;>decide
    .rw[hn] at h;cases h
   have h:=LX {s with l:=s.l.set (ib s.l) 1,f:=jv s.f (ib s.l:Int) (eh s p.c (some y))} ax.ez p.c J ((1:Int),(ib s.l:Int),true) ⟨⟨by show(-1000000:Int)<=1;decide,by show(1:Int)<=1000000;decide⟩,by show(-1000000:Int)<=(ib s.l:Int);omega,by show((ib s.l:Nat):Int)<=1000000;omega⟩ (by
    show(if(1:Int)=1 then decide (0<=(ib s.l:Int))&&decide ((ib s.l:Int) < 512) else _)=true;rw[vj rfl,au1 aD7,au1 aD7];rfl) (fun h=>at1 h wZ)
   rwa[show rU {s with l:=s.l.set (ib s.l) 1,f:=jv s.f (ib s.l:Int) (eh s p.c (some y))} p.c ((1:Int),(ib s.l:Int),true)=s' by
    rw[<-ee];unfold rU A9 nf;rw[mu wZ,vj hn]] at h
  refine av (Fn.arg hG ⟨rfl,rfl,aA,trivial⟩) <| bw [] (cz (S6 bs) (S7 s' bo p)) <| av (Fn.aT [(1001,1002)] L0) <| bm (LQ rfl underlying176 rfl underlying3 rfl rfl rfl) ?_;refine bm (GL (d:=5001) (k:=(ed:Int)) rfl underlying165 underlying3 rfl i1 i2 rfl rfl rfl xb) ?_;refine⟨m,m2,rfl,?_⟩;exact⟨_,_,_,ac.GM 1004 5001 wO rfl rfl aD8 (by rw[xb];rfl),rfl,trivial,aA,rfl⟩
 .have fu:s=s':=by rw[<-ee];unfold nf;rw[mu (by rw[hn];decide)]
  subst fu;refine bw [] (cz (S6 bs) (S7 s bo p)) <| av (Fn.aT [(1001,1002)] L0) <| bm (LQ rfl underlying176 rfl underlying3 rfl rfl rfl) ?_;refine bm (GL (d:=5001) (k:=(ed:Int)) rfl underlying165 underlying3 rfl i1 i2 rfl rfl rfl xb) ?_;refine⟨m,m2,rfl,?_⟩;exact⟨_,_,_,ac.GM 1004 5001 wO rfl rfl aD8 (by rw[xb];rfl),rfl,trivial,aA,rfl⟩
def e0 (s:bL):Nat:=s.t.length*2 ^s.z
def dS (s:bL) (at_ aX:Int):Int:=if aX < 0 then 1 else if at_ < 0\/aX >e0 s\/at_ >e0 s - aX then 121 else 0
def xc (s:bL) (ax:gk s) (at_ aX:Int):Fn prog 176 [ap 1001,ab at_,ab aX] (dz s) [] (ab (dS s at_ aX)) (dz s):=by
 have ag:=jf ax.z;have lK:=ax.ez;have E:s.t.length*2 ^s.z<=256*8:=ay8 lK ag.2;have e:((s.t.length:Nat):Int)*((2 ^s.z:Nat):Int)=((e0 s:Nat):Int):=by unfold e0;rw[aB3]
 have dM:e0 s<=2048:=E;refine aP [1,2] func176 ?_;refine bG.nB 131 aD8 <| bw [2] (bn) <| w2 rfl rfl rfl (nc s) ?_;have m1:(0:Int)<=(s.t.length:Nat)/\(0:Int)<=(s.z:Int)/\(s.z:Int)<=64:=by have:=ax.z;omega
 have m2:c5 (((s.t.length:Nat):Int)*((2 ^s.z:Nat):Int)):=by rw[e];omega
 refine⟨m1,m2,rfl,bw [] (ac.sub (K':=[(1,ab at_),(2,ab aX),(7,ab (e0 s:Nat))]) (B':=dz s) ⟨rfl,rfl,e,trivial⟩ aA) ⟨fun h=>?_,fun h=>?_⟩⟩
 .have h:aX < 0:=gd h;exact ea bn rfl (show(1:Int)=dS s at_ aX by unfold dS;rw[vj h])
 .have h: ¬aX < 0:=oj h;have L1: ∀(_:at_ < 0\/aX >e0 s\/at_ >e0 s - aX),(121:Int)=dS s at_ aX:=fun G=>by unfold dS;rw[mu h,vj G]
  refine⟨fun E=>?_,fun E=>?_⟩
  .have E:at_ < 0:=gd E;exact ea bn rfl (L1 (.inl E))
  .have E: ¬at_ < 0:=oj E;refine⟨fun G=>?_,fun G=>?_⟩
   .have G:((e0 s:Nat):Int) < aX:=gd G;exact ea bn rfl (L1 (.inr (.inl G)))
   .have G: ¬((e0 s:Nat):Int) < aX:=oj G;have m3:c5 (((e0 s:Nat):Int) - aX):=aE5
    refine⟨m3,fun ah=>?_,fun ah=>?_⟩
    .have ah:((e0 s:Nat):Int) - aX < at_:=gd ah;exact ea bn rfl (L1 (.inr (.inr ah)))
    .have ah: ¬((e0 s:Nat):Int) - aX < at_:=oj ah;exact ea bn rfl (show(0:Int)=dS s at_ aX by unfold dS;rw[mu h,mu aD7])
def bj (W a l k:Nat):nd:=⟨16*a/W+k,16*a - (16*a/W+k)*W,min (16*(a+l) - (16*a/W+k)*W) W,(16*a/W+k)*W+(16*a - (16*a/W+k)*W) - 16*a⟩
def cH (W a l:Nat):Nat:=if l=0 then 0 else(16*(a+l)+W - 1)/W - 16*a/W
def y3 (W:Nat):Prop:=W=16\/W=32\/W=64\/W=128
def oA {s:bL} (h:s.z<=3):y3 (aG s):=by
 unfold y3 aG;generalize s.z=b at h
 match b,h with
 |0,_=>exact .inl rfl
 |1,_=>exact .inr (.inl rfl)
 |2,_=>exact .inr (.inr (.inl rfl))
 |3,_=>exact .inr (.inr (.inr rfl))
def uq {W a l k:Nat} (c1:y3 W):(0 < l/\(16*a/W+k)*W < 16*(a+l))↔k < cH W a l:=by unfold cH;rcases c1 with rfl |rfl |rfl |rfl <;>(split <;>omega)
def rV {W a l k:Nat} (c1:y3 W) (Z:k < cH W a l):(bj W a l k).a<=(bj W a l k).b/\(bj W a l k).b<=W/\(bj W a l k).at_+((bj W a l k).b - (bj W a l k).a)<=16*l/\(bj W a l k).c*W < 16*(a+l):=by have h:=(uq (a:=a) (l:=l) (k:=k) c1).2 Z;unfold bj;simp only;rcases c1 with rfl |rfl |rfl |rfl <;>omega
abbrev DT (l:Nat):aN:=.c (.one (.bK (.func (.yield l) #[] #[])))
abbrev qL (a l:Int):ay:=[(2001,.cells [.ptr 1001 0]),(2002,.cells [.d (.int .i64 a)]),(2003,.cells [.d (.int .i64 l)])]
abbrev Td (y W a l k:Nat):aW:=[(0,DT y),(1,ap 2001),(2,ap 2002),(3,ap 2003),(5,ab (W:Nat)),(6,ab ((16*a:Nat):Int)),(7,ab ((16*(a+l):Nat):Int)),(8,ab ((16*a/W+k:Nat):Int))]
abbrev He (a l:Nat) (o:bc):ay:=[(2001,.cells [.ptr 1001 0]),(2002,.cells [.d (.int .i64 (a:Int))]),(2003,.cells [.d (.int .i64 (l:Int))]),(1001,.az o)]
abbrev af9 (y W:Nat):aW:=[(0,DT y),(1,ap 2001),(2,ap 2002),(3,ap 2003),(5,ab (W:Nat))]
def af' {W a l k:Nat} (c1:y3 W):(((16*a/W+k:Nat):Int))*(W:Int)=(((16*a/W+k)*W:Nat):Int)/\max (((16*a:Nat):Int) - (((16*a/W+k)*W:Nat):Int)) 0=((bj W a l k).a:Int)/\(k < cH W a l->min (((16*(a+l):Nat):Int) - (((16*a/W+k)*W:Nat):Int)) (W:Int)=((bj W a l k).b:Int))/\(((16*a/W+k)*W:Nat):Int)+((bj W a l k).a:Int) - ((16*a:Nat):Int)=((bj W a l k).at_:Int):=by
 refine⟨by rw[aB3],?_,fun Z=>?_,?_⟩
 .unfold bj;simp only;omega
 .have h:=(uq (a:=a) (l:=l) (k:=k) c1).2 Z;unfold bj;simp only;omega
 .unfold bj;simp only;rcases c1 with rfl |rfl |rfl |rfl <;>omega
def Bc (y W a l:Nat) (c1:y3 W) (ha:a<=10000) (al:l<=10000) (eI:Nat->bc) (O: ∀k,Fn prog 191 [ap 1001] [(1001,.az (eI k))] [] (ab (W:Nat)) [(1001,.az (eI k))])
  (aD: ∀k,k < cH W a l->wX prog y [qK (bj W a l k)] [(1001,.az (eI k))] (fun _:Unit=>qq true) (fun _=>[(1001,.az (eI (k+1)))])):
  Fn prog 233 [DT y,ap 2001,ap 2002,ap 2003] (He a l (eI 0)) [] (.b4 []) [(1001,.az (eI (cH W a l)))]:=by
 have aga:16<=W/\W<=128:=by rcases c1 with rfl |rfl |rfl |rfl <;>omega
 refine aP [1,7] func233 ?_;refine av (O 0) <| bw [7] (cz (af9 y W) (He a l (eI 0))) ?_;have m1:c5 ((a:Int)*16):=aE5
 have m2:c5 ((a:Int)+(l:Int)):=aE5
 have m3:c5 (((a:Int)+(l:Int))*16):=aE5
 refine⟨m1,m2,m3,rfl,?_⟩;have bC:((a:Int)*16)/(W:Int)=((16*a/W+0:Nat):Int):=by rcases c1 with rfl |rfl |rfl |rfl <;>omega
 have iu:(0:Int)<=(a:Int)*16/\(0:Int) < (W:Int):=aE5
 have sV:16*a/W<=10000:=by rcases c1 with rfl |rfl |rfl |rfl <;>omega
 have ur:c5 (((a:Int)*16)/(W:Int)):=by rw[bC];generalize 16*a/W=q at sV;omega
 refine⟨iu,ur,dZ [7] (X:=Nat) (Td y W a l) (fun k=>He a l (eI k)) (fun k=>k<=cH W a l) (fun k=>cH W a l - k) 0 (at6 _) ?_ ?_⟩
 .exact ac.sub ⟨rfl,rfl,rfl,rfl,rfl,(by show(a:Int)*16=((16*a:Nat):Int);omega),(by show((a:Int)+(l:Int))*16=((16*(a+l):Nat):Int);omega),bC,trivial⟩ aA
 intro k Z;obtain⟨g1,g2,cL,g8⟩:=af' (a:=a) (l:=l) (k:=k) c1;have rs:=uq (a:=a) (l:=l) (k:=k) c1
 have eM:cH W a l<=30000:=by
  unfold cH;rcases c1 with rfl |rfl |rfl |rfl <;>(split <;>omega)
 have dR:(16*a/W+k)*W<=40000*128:=ay8 aD7 aga.2;have out: ∀(h: ¬k < cH W a l),k=cH W a l:=fun h=>by omega
 refine⟨fun E=>?_,fun E=>?_⟩
 .have E:(0:Int) < (l:Int):=gd E;have cC:c5 (((16*a/W+k:Nat):Int)*(W:Int)):=by rw[g1];omega
  refine⟨cC,fun G=>?_,fun G=>?_⟩
  .have G:((16*a/W+k:Nat):Int)*(W:Int) < ((16*(a+l):Nat):Int):=gd G;have rW:k < cH W a l:=rs.1 ⟨aD7,by rw[g1] at G;omega⟩;have dg:c5 (((16*a:Nat):Int) - ((16*a/W+k:Nat):Int)*(W:Int)):=by rw[g1];omega
   have jd:c5 (((16*(a+l):Nat):Int) - ((16*a/W+k:Nat):Int)*(W:Int)):=by rw[g1];omega
   refine⟨cC,dg,cC,jd,rfl,?_⟩;have pj:c5 (((16*a/W+k:Nat):Int)*(W:Int)+max (((16*a:Nat):Int) - ((16*a/W+k:Nat):Int)*(W:Int)) 0):=by rw[g1];omega
   have n5:c5 (((16*a/W+k:Nat):Int)*(W:Int)+max (((16*a:Nat):Int) - ((16*a/W+k:Nat):Int)*(W:Int)) 0 - ((16*a:Nat):Int)):=by rw[g1];omega
   refine⟨cC,pj,n5,?_⟩
   have fC: [bA.d (.int .i64 ((16*a/W+k:Nat):Int)),.d (.int .i64 (max (((16*a:Nat):Int) - ((16*a/W+k:Nat):Int)*(W:Int)) 0)),.d (.int .i64 (min (((16*(a+l):Nat):Int) - ((16*a/W+k:Nat):Int)*(W:Int)) (W:Int))),.d (.int .i64 (((16*a/W+k:Nat):Int)*(W:Int)+max (((16*a:Nat):Int) - ((16*a/W+k:Nat):Int)*(W:Int)) 0 - ((16*a:Nat):Int)))]=vJ (bj W a l k):=by
    rw[g1,g2,cL rW,g8];rfl
   refine bG.le (ac.sub (K':=(9,ap 9)::Td y W a l k) (B':=(9,.cells (vJ (bj W a l k)))::He a l (eI k)) aA ⟨?_,rfl,rfl,rfl,rfl,trivial⟩) ?_
   .exact at2 (fun l=>some (a8.cells l)) fC
   refine bG.iF eY aE0 ⟨Unit,_,_,_,aD k rW,aA,fun _=>rfl,fun _=>?_⟩;have n6:c5 (((16*a/W+k:Nat):Int)+1):=by generalize 16*a/W=q at sV;omega
   refine⟨n6,k+1,rW,aD7,ac.sub aA aA⟩
  .have G: ¬((16*a/W+k:Nat):Int)*(W:Int) < ((16*(a+l):Nat):Int):=oj G;have rW:k=cH W a l:=out fun h=>G (by have:=(rs.2 h).2;rw[g1];omega)
   subst rW;exact bb
 .have E: ¬(0:Int) < (l:Int):=oj E;have rW:k=cH W a l:=out fun h=>E (by have:=(rs.2 h).1;omega)
  subst rW;exact bb
def Bd (s:bL) (a l:Int):Fn prog 177 [ap 1001,ab a,ab l] (dz s) [2001,2002,2003] (.c (.one (.c2 233 [.p 2001 0,.p 2002 0,.p 2003 0]))) (dz s++qL a l):=by refine aP [] func177 ?_;exact⟨rfl,rfl,rfl,_,_,_,(ac.aT 3 2001 rfl).trans ((ac.aT 4 2002 rfl).trans (ac.aT 5 2003 rfl)),rfl,rfl,aA,rfl⟩
def agb (s:bL) (ax:gk s) (c:Nat) (J:c < s.t.length):Fn prog 178 [ap 1001,ab (c:Int),.c (.one (.bK .nilFunc))] (dz s) [] (bE .u8 (eh s c none)) (dz s):=
 Fn.dH (af6 s ax.z ax.ez c J fun h=>by
  rcases ax.slot c _ (as7 J) with ao |ao |⟨h,ao,_,xs,hx,al⟩
  .rw[ao] at h;cases h
  .rw[ao] at h;cases h
  .rw[ao];exact⟨xs,hx,by have:=(up ax.z).2;omega⟩) rfl rfl
def Be (s:bL) (a l k:Nat):aH3:=((eh s (bj (aG s) a l k).c none).take (bj (aG s) a l k).b).drop (bj (aG s) a l k).a
def y4 (s:bL) (a l:Nat):Nat->aH3
 |0=>[]
 |k+1=>y4 s a l k++Be s a l k
def L2 (s:bL) (a l:Nat):aH3:=y4 s a l (cH (aG s) a l)
abbrev agc:aW:=[(3,ap 3),(9,ap 9)]
abbrev L3 (s:bL) (acc:aH3):ay:=dz s++[(3,.cells [.ptr 1001 0]),(9,.cells [.own 5002]),(5002,.row 5 .u8 acc)]
abbrev agd (s:bL) (acc:aH3):ay:=dz s++[(3,.cells [.ptr 1001 0]),(9,.cells [.own 33]),(33,.row 5 .u8 acc)]
def Te {s:bL} (ax:gk s) {a l:Nat}: ∀k,(y4 s a l k).length<=k*128
 |0=>at0 _
 |k+1=>by
  have h:=Te ax (a:=a) (l:=l) k
  have G:(Be s a l k).length<=128:=by
   unfold Be;rw[ax8,at9]
   have ah:(bj (aG s) a l k).b<=128:=by
    unfold bj;simp only;have:=(up ax.z).2;omega
   omega
  show(y4 s a l k++Be s a l k).length<=_;rw[as9];omega
def Tf (s:bL) (ax:gk s) (a l:Nat) (ar:dS s a l=0):Fn prog 113 [ap 1001,ab (a:Int),ab (l:Int)] (dz s) [] (.b4 [.one (.d (.b' .u8 (L2 s a l))),dw 0]) (dz s):=by
 have c1:=oA ax.z
 have dM:(a:Int)+(l:Int)<=(e0 s:Nat):=by
  unfold dS at ar
  split at ar
  .cases ar
  .split at ar
   .cases ar
   .omega
 have tb:e0 s<=2048:=ay8 ax.ez (jf ax.z).2;refine aP [4,5] func113 ?_;refine⟨rfl,av (xc s ax a l) ?_⟩;rw[ar];refine dh <| bw [5] (bn) ⟨rfl,bw [] ((ac.AC 9 0 5002 5 .u8 rfl rfl rfl).trans (cz [(1,ab (a:Int)),(2,ab (l:Int)),(3,ap 3),(9,ap 9)] (L3 s []))) <| av (Bd s a l) <| bG.le (cz [(21,.c (.one (.c2 233 [.p 2001 0,.p 2002 0,.p 2003 0]))),(3,ap 3),(9,ap 9)] (qL a l++L3 s [])) <| bG.range eY [] (pl:=[22]) rfl aE0 aE0 aE0 aE0 [1001,1002,1003,1004,3,9] _ agc (qL a l) (fun k:Nat=>L3 s (y4 s a l k)) 1001 0 (cH (aG s) a l) (fun k aE ec=>k < cH (aG s) a l/\aE=[qK (bj (aG s) a l k)]/\ec=k+1) rfl aE9 rfl rfl ?_ ?_ ?_⟩
 .rintro k aE ec ⟨Z,rfl,rfl⟩;obtain⟨d3,cX,dJ,dN⟩:=rV c1 Z
  have J:(bj (aG s) a l k).c < s.t.length:=by
   have e:e0 s*16=s.t.length*aG s:=by unfold e0 aG;rw[Nat.mul_assoc,aB7 (2 ^s.z) 16]
   have E:(bj (aG s) a l k).c*aG s < s.t.length*aG s:=aE5
   exact Nat.lt_of_mul_lt_mul_right E
  have dR:=vK ax J none;have bW:=Te ax (a:=a) (l:=l) k
  have rW:k<=3000:=by
   have E:=(uq (a:=a) (l:=l) (k:=k) c1).2 Z;rcases c1 with e |e |e |e <;>rw[e] at E <;>omega
  have m1:(0:Int)<=((bj (aG s) a l k).a:Int)/\((bj (aG s) a l k).a:Int)<=((bj (aG s) a l k).b:Int)/\((bj (aG s) a l k).b:Int)<=(((eh s (bj (aG s) a l k).c none).length:Nat):Int):=aE5
  have m2:(y4 s a l k).length+(((eh s (bj (aG s) a l k).c none).take (bj (aG s) a l k).b).drop (bj (aG s) a l k).a).length<=4294967296:=by
   rw[ax8,at9];omega
  have age:=agb s ax _ J;exact⟨rfl,rfl,rfl,rfl,av age ⟨m1,m2,rfl,rfl,rfl,(cz [] (agd s (y4 s a l (k+1)))).trans (ac.aT 33 5002 rfl)⟩⟩
 .intro y eI rX aD;exact Bc y (aG s) a l c1 aD7 aD7 eI (fun k=>rX _ _ _ k k (Fn.qI _ (qJ s ax.z) rfl rfl) rfl rfl) (fun k Z=>aD k _ (k+1) ⟨Z,rfl,rfl⟩)
 .refine⟨_,_,_,ac.dH 5002 rfl,rfl,aA,aA,rfl⟩
def agf (s:bL) (ax:gk s) (a l:Int) (ar:dS s a l≠0):Fn prog 113 [ap 1001,ab a,ab l] (dz s) [] (.b4 [.one .dC,dw (dS s a l)]) (dz s):=by refine aP [] func113 ?_;refine⟨rfl,av (xc s ax a l) ?_⟩;exact⟨fun _=>bb,fun h=>at1 (show dS s a l=0 by have h:(!decide (dS s a l=0))=false:=h;simpa using h) ar⟩
def rY {s:bL} (ax:gk s) {a l:Nat} (dM:a+l<=e0 s) {k:Nat} (Z:k < cH (aG s) a l):(bj (aG s) a l k).c < s.t.length/\k<=3000:=by
 have c1:=oA ax.z;have tb:e0 s<=2048:=ay8 ax.ez (jf ax.z).2;obtain⟨d3,cX,dJ,dN⟩:=rV c1 Z;refine⟨?_,?_⟩
 .have e:e0 s*16=s.t.length*aG s:=by unfold e0 aG;rw[Nat.mul_assoc,aB7 (2 ^s.z) 16]
  have E:(bj (aG s) a l k).c*aG s < s.t.length*aG s:=aE5
  exact Nat.lt_of_mul_lt_mul_right E
 .have E:=(uq (a:=a) (l:=l) (k:=k) c1).2 Z;rcases c1 with e |e |e |e <;>rw[e] at E <;>omega
def pk {s:bL} {a l:Nat} (ar:dS s a l=0):a+l<=e0 s:=by
 unfold dS at ar
 split at ar
 .cases ar
 .split at ar
  .cases ar
  .omega
def ic (s:bL) (a l:Nat):Nat->Nat
 |0=>0
 |k+1=>ic s a l k+(if hq s (bj (aG s) a l k).c=true then 1 else 0)
def pU (bs:aH3) (p:nd):aH3:=(bs.take (p.at_+p.b - p.a)).drop p.at_
def iU (s:bL) (a l:Nat) (bs:aH3) (y:Nat->aH3):Nat->bL
 |0=>s
 |k+1=>y2 (iU s a l bs y k) (bj (aG s) a l k) (pU bs (bj (aG s) a l k)) (y (bj (aG s) a l k).c)
def agh (s:bL) (a l k:Nat):ic s a l k<=k:=by
 induction k with
 |zero=>exact at0 _
 |succ k bk=>
  show ic s a l k+_<=k+1
  split <;>omega
abbrev L4 (s:bL) (bo:bp->bc) (bs:aH3) (b1 b2:Nat) (n:Nat):ay:=fY s bo++[(4,.cells [.ptr 1001 0]),(6,.cells [.d (.b' .u8 bs)]),(7,.cells [.d (.fn (186,[b1,b2]))]),(11,.cells [.d (.int .i64 (n:Int))])]
abbrev DU (s:bL) (bo:bp->bc) (bs:aH3) (b1 b2:Nat):ay:=fY s bo++[(4,.cells [.ptr 1001 0]),(6,.cells [.d (.b' .u8 bs)]),(7,.cells [.d (.fn (186,[b1,b2]))])]
abbrev L5 (a l:Nat):aW:=[(1,ab (a:Int)),(4,ap 4),(6,ap 6),(7,ap 7),(9,ab (l:Int))]
abbrev L6 (a l:Nat):aW:=[(1,ab (a:Int)),(4,ap 4),(6,ap 6),(7,ap 7),(9,ab (l:Int)),(11,ap 11)]
def agi (s:bL) (bo:bp->bc) (b1 b2:Nat) (ax:gk s) (a l:Nat) (bs:aH3) (fO:bs.length=16*l) (ar:dS s a l=0) (y:Nat->aH3) (r:Int) (s':bL) (gg:d0 s.l < ic s a l (cH (aG s) a l)->r=120/\s'=s) (L7:ic s a l (cH (aG s) a l)<=d0 s.l->r=0/\s'=iU s a l bs y (cH (aG s) a l))
  (ed:ic s a l (cH (aG s) a l)<=d0 s.l-> ∀k,k < cH (aG s) a l->Fn prog 189 [ap 1001,qK (bj (aG s) a l k),bE .u8 (pU bs (bj (aG s) a l k)),nG b1 b2] (fY (iU s a l bs y k) bo) [] g' (fY (iU s a l bs y (k+1)) bo)) (Bf:ic s a l (cH (aG s) a l)<=d0 s.l-> ∀k,k<=cH (aG s) a l->(iU s a l bs y k).z=s.z):
  Fn prog 126 [ap 1001,ab (a:Int),bE .u8 bs,nG b1 b2] (fY s bo) [] (ab r) (fY s' bo):=by
 have c1:=oA ax.z;have dM:=pk ar;have tb:e0 s<=2048:=ay8 ax.ez (jf ax.z).2;have a2:((bs.length:Nat):Int)/16=(l:Int):=aE5
 have aj:((bs.length:Nat):Int) % 16=0:=aE5
 refine aP [4,7,8,12,14,17] func126 ?_;refine⟨rfl,rfl,rfl,?_⟩;have m1:(0:Int)<=((bs.length:Nat):Int)/\(0:Int) < 16:=aE5
 have m2:c5 (((bs.length:Nat):Int)/16):=aE5
 have m3:c5 (((bs.length:Nat):Int) % 16):=aE5
 refine⟨m1,m2,m1,m3,?_⟩
 refine⟨fun h=>(by
  have h:(!decide ((((bs.length:Nat):Int)) % 16=0))=true:=h;rw[au1 aj] at h
  cases h),fun _=>?_⟩
 refine bw [7] (ac.sub (K':=[(1,ab (a:Int)),(4,ap 4),(6,ap 6),(7,ap 7),(9,ab (l:Int))]) (B':=DU s bo bs b1 b2) ⟨rfl,rfl,rfl,rfl,a2,trivial⟩ aA) <| av (xc s ax a l) ?_;rw[ar];refine dh <| bw [8] (bn) ⟨rfl,bw [] (cz (L6 a l) (L4 s bo bs b1 b2 0)) <| av (Bd s a l) <| bG.le (cz ((31,.c (.one (.c2 233 [.p 2001 0,.p 2002 0,.p 2003 0])))::L6 a l) (qL a l++L4 s bo bs b1 b2 0)) <| bG.range eY [] (pl:=[32]) rfl aE0 aE0 aE0 aE0 [1001,1002,1003,1004,9000,4,6,7,11] _ (L6 a l) (qL a l) (fun k:Nat=>L4 s bo bs b1 b2 (ic s a l k)) 1001 0 (cH (aG s) a l) (fun k aE ec=>k < cH (aG s) a l/\aE=[qK (bj (aG s) a l k)]/\ec=k+1) rfl aE9 rfl rfl ?_ ?_ ?_⟩
 .rintro k aE ec ⟨Z,rfl,rfl⟩;obtain⟨J,rW⟩:=rY ax dM Z;have w9:=agh s a l k;refine⟨rfl,rfl,rfl,rfl,av (LY s ax.ez _ J) ⟨fun hn=>?_,fun hn=>?_⟩⟩
  .have e:((ic s a l k:Nat):Int)+1=((ic s a l (k+1):Nat):Int):=by
    show _=((ic s a l k+_:Nat):Int);rw[vj hn];omega
   have iu:c5 (((ic s a l k:Nat):Int)+1):=aE5
   refine⟨iu,?_⟩;exact⟨rfl,ac.sub trivial ⟨rfl,rfl,rfl,rfl,rfl,rfl,rfl,rfl,by rw[<-e];rfl,trivial⟩⟩
  .have e:ic s a l (k+1)=ic s a l k:=by
    show ic s a l k+_=_;rw[mu (by rw[hn];decide)];exact aA0 _
   exact⟨rfl,ac.sub trivial ⟨rfl,rfl,rfl,rfl,rfl,rfl,rfl,rfl,by rw[e];rfl,trivial⟩⟩
 .intro y eI rX aD;exact Bc y (aG s) a l c1 aD7 aD7 eI (fun k=>rX _ _ _ k k (Fn.qI [(9000,.b5 1001 bo),(4,.cells [.ptr 1001 0]),(6,.cells [.d (.b' .u8 bs)]),(7,.cells [.d (.fn (186,[b1,b2]))]),(11,.cells [.d (.int .i64 (ic s a l k:Int))])] (qJ s ax.z) rfl rfl) rfl rfl) (fun k Z=>aD k _ (k+1) ⟨Z,rfl,rfl⟩)
 .have aM:d0 s.l<=512:=ay1 (LV _) ax.lJ;refine bw [14,17] (bn) ?_;refine av (S3 s (by have:=ax.lJ;omega)) ⟨rfl,fun h=>?_,fun h=>?_⟩
  .have h:((d0 s.l:Nat):Int) < ((ic s a l (cH (aG s) a l):Nat):Int):=gd h;obtain⟨rfl,rfl⟩:=gg aD7;exact bb
  have h: ¬((d0 s.l:Nat):Int) < ((ic s a l (cH (aG s) a l):Nat):Int):=oj h;have dL:ic s a l (cH (aG s) a l)<=d0 s.l:=aE5
  obtain⟨rfl,rfl⟩:=L7 dL;have ed:=ed dL;have Bf:=Bf dL;refine bw [17] (cz (L5 a l) (DU s bo bs b1 b2)) <| av (Bd s a l) <| bG.le (cz ((45,.c (.one (.c2 233 [.p 2001 0,.p 2002 0,.p 2003 0])))::L5 a l) (qL a l++DU s bo bs b1 b2)) <| bG.range eY [] (pl:=[46]) rfl aE0 aE0 aE0 aE0 [1001,1002,1003,1004,9000,4,6,7] _ (L5 a l) (qL a l) (fun k:Nat=>DU (iU s a l bs y k) bo bs b1 b2) 1001 0 (cH (aG s) a l) (fun k aE ec=>k < cH (aG s) a l/\aE=[qK (bj (aG s) a l k)]/\ec=k+1) rfl aE9 rfl rfl ?_ ?_ ?_
  .rintro k aE ec ⟨Z,rfl,rfl⟩;obtain⟨J,rW⟩:=rY ax dM Z;obtain⟨d3,cX,dJ,dN⟩:=rV c1 Z;have ed:=ed k Z;have hw:=up ax.z;refine⟨rfl,rfl,rfl,rfl,?_⟩
   have hx:pU bs (bj (aG s) a l k)=(bs.take (((bj (aG s) a l k).at_:Int)+((bj (aG s) a l k).b:Int) - ((bj (aG s) a l k).a:Int)).toNat).drop (((bj (aG s) a l k).at_:Int)).toNat:=by
    unfold pU;rw[show(((bj (aG s) a l k).at_:Int)+((bj (aG s) a l k).b:Int) - ((bj (aG s) a l k).a:Int)).toNat=(bj (aG s) a l k).at_+(bj (aG s) a l k).b - (bj (aG s) a l k).a by omega];rfl
   have iu:c5 (((bj (aG s) a l k).at_:Int)+((bj (aG s) a l k).b:Int)):=aE5
   have ur:c5 (((bj (aG s) a l k).at_:Int)+((bj (aG s) a l k).b:Int) - ((bj (aG s) a l k).a:Int)):=aE5
   have rZ:(0:Int)<=((bj (aG s) a l k).at_:Int)/\((bj (aG s) a l k).at_:Int)<=((bj (aG s) a l k).at_:Int)+((bj (aG s) a l k).b:Int) - ((bj (aG s) a l k).a:Int)/\((bj (aG s) a l k).at_:Int)+((bj (aG s) a l k).b:Int) - ((bj (aG s) a l k).a:Int)<=((bs.length:Nat):Int):=aE5
   rw[hx] at ed;exact⟨iu,ur,rZ,av ed ⟨rfl,rfl,ac.sub trivial aA⟩⟩
  .intro y5 eI rX aD
   have h:=Bc y5 (aG s) a l c1 aD7 aD7 (fun k=>eI (min k (cH (aG s) a l))) (fun k=>rX _ _ _ (min k (cH (aG s) a l)) (min k (cH (aG s) a l)) (by
    have O:=Bf (min k (cH (aG s) a l)) (Nat.min_le_right _ _);have G:=qJ (iU s a l bs y (min k (cH (aG s) a l))) (by rw[O];exact ax.z);rw[show aG (iU s a l bs y (min k (cH (aG s) a l)))=aG s from at2 (fun b=>16*2 ^b) O] at G
    exact Fn.qI [(9000,.b5 1001 bo),(4,.cells [.ptr 1001 0]),(6,.cells [.d (.b' .u8 bs)]),(7,.cells [.d (.fn (186,[b1,b2]))])] G rfl rfl) rfl rfl) (fun k Z=>by
    have h:=aD k _ (k+1) ⟨Z,rfl,rfl⟩;rw[Nat.min_eq_left aD7,Nat.min_eq_left aD7];exact h)
   simp only[Nat.zero_min,Nat.min_self] at h;exact h
  .show bG _ _ _ _ _ _ _;exact bw [] (bn) bb
def agj (s:bL) (bo:bp->bc) (b1 b2:Nat) (a:Int) (bs:aH3) (h:bs.length % 16≠0) (al:bs.length<=1000000000):Fn prog 126 [ap 1001,ab a,bE .u8 bs,nG b1 b2] (fY s bo) [] (ab 1) (fY s bo):=by
 have aj: ¬((bs.length:Nat):Int) % 16=0:=aE5
 refine aP [] func126 ?_;refine⟨rfl,rfl,rfl,?_⟩;have m1:(0:Int)<=((bs.length:Nat):Int)/\(0:Int) < 16:=aE5
 have m2:c5 (((bs.length:Nat):Int)/16):=aE5
 have m3:c5 (((bs.length:Nat):Int) % 16):=aE5
 refine⟨m1,m2,m1,m3,?_⟩
 refine⟨fun _=>?_,fun h=>(by
  have h:(!decide ((((bs.length:Nat):Int)) % 16=0))=false:=h;rw[ax2 aj] at h
  cases h)⟩
 exact bb
def agk (s:bL) (bo:bp->bc) (b1 b2:Nat) (ax:gk s) (a:Int) (l:Nat) (bs:aH3) (fO:bs.length=16*l) (al:l<=100000000) (ar:dS s a l≠0):Fn prog 126 [ap 1001,ab a,bE .u8 bs,nG b1 b2] (fY s bo) [] (ab (dS s a l)) (fY s bo):=by
 have a2:((bs.length:Nat):Int)/16=(l:Int):=aE5
 have aj:((bs.length:Nat):Int) % 16=0:=aE5
 refine aP [4] func126 ?_;refine⟨rfl,rfl,rfl,?_⟩;have m1:(0:Int)<=((bs.length:Nat):Int)/\(0:Int) < 16:=aE5
 have m2:c5 (((bs.length:Nat):Int)/16):=aE5
 have m3:c5 (((bs.length:Nat):Int) % 16):=aE5
 refine⟨m1,m2,m1,m3,?_⟩
 refine⟨fun h=>(by
  have h:(!decide ((((bs.length:Nat):Int)) % 16=0))=true:=h;rw[au1 aj] at h
  cases h),fun _=>?_⟩
 refine bw [] (ac.sub (K':=[(1,ab a),(4,ap 4),(9,ab (l:Int))]) (B':=DU s bo bs b1 b2) ⟨rfl,rfl,a2,trivial⟩ aA) <| av (xc s ax a l) ?_;exact⟨fun _=>bb,fun h=>at1 (show dS s a l=0 by have h:(!decide (dS s a l=0))=false:=h;simpa using h) ar⟩
def jT (s:bL) (a l:Nat):Nat->bL
 |0=>s
 |k+1=>if(bj (aG s) a l k).b - (bj (aG s) a l k).a=aG s then rU (jT s a l k) (bj (aG s) a l k).c b9 else jT s a l k
abbrev L8 (s:bL):ay:=dz s++[(3,.cells [.ptr 1001 0])]
abbrev Tg:aW:=[(3,ap 3)]
def agl (s:bL) (ax:gk s) (a l:Nat) (ar:dS s a l=0) (ed: ∀k,k < cH (aG s) a l->Fn prog 192 [ap 1001,ab ((bj (aG s) a l k).c:Int),.c (pR b9)] (dz (jT s a l k)) [] g' (dz (rU (jT s a l k) (bj (aG s) a l k).c b9))) (Bf: ∀k,k<=cH (aG s) a l->(jT s a l k).z=s.z):
  Fn prog 130 [ap 1001,ab (a:Int),ab (l:Int)] (dz s) [] (ab 0) (dz (jT s a l (cH (aG s) a l))):=by
 have c1:=oA ax.z;have hw:=up ax.z;have dM:=pk ar;have tb:e0 s<=2048:=ay8 ax.ez (jf ax.z).2;refine aP [4,8] func130 ?_;refine⟨rfl,av (xc s ax a l) ?_⟩;rw[ar];refine dh <| bw [8] (cz [(1,ab (a:Int)),(2,ab (l:Int)),(3,ap 3)] (L8 s)) <| av (Bd s a l) <| bG.le (cz ((19,.c (.one (.c2 233 [.p 2001 0,.p 2002 0,.p 2003 0])))::Tg) (qL a l++L8 s)) <| bG.range eY [] (pl:=[20]) rfl aE0 aE0 aE0 aE0 [1001,1002,1003,1004,3] _ Tg (qL a l) (fun k:Nat=>L8 (jT s a l k)) 1001 0 (cH (aG s) a l) (fun k aE ec=>k < cH (aG s) a l/\aE=[qK (bj (aG s) a l k)]/\ec=k+1) rfl aE9 rfl rfl ?_ ?_ ?_
 .rintro k aE ec ⟨Z,rfl,rfl⟩;obtain⟨d3,cX,dJ,dN⟩:=rV c1 Z;have ed:=ed k Z;have O:=Bf k (Nat.le_of_lt Z);have G:=qJ (jT s a l k) (by rw[O];exact ax.z);rw[show aG (jT s a l k)=aG s from at2 (fun b=>16*2 ^b) O] at G;have iu:c5 (((bj (aG s) a l k).b:Int) - ((bj (aG s) a l k).a:Int)):=aE5
  refine⟨rfl,rfl,rfl,rfl,iu,av G ⟨rfl,fun h=>?_,fun h=>?_⟩⟩
  .have h:((bj (aG s) a l k).b:Int) - ((bj (aG s) a l k).a:Int)=((aG s:Nat):Int):=gd h;have e:jT s a l (k+1)=rU (jT s a l k) (bj (aG s) a l k).c b9:=vj aD7;refine av (Fn.arg ed ⟨rfl,rfl,aA,trivial⟩) ?_;rw[e];exact⟨rfl,ac.sub trivial aA⟩
  .have h: ¬((bj (aG s) a l k).b:Int) - ((bj (aG s) a l k).a:Int)=((aG s:Nat):Int):=oj h;have e:jT s a l (k+1)=jT s a l k:=mu aD7;rw[e];exact⟨rfl,ac.sub trivial aA⟩
 .intro y5 eI rX aD
  have h:=Bc y5 (aG s) a l c1 aD7 aD7 (fun k=>eI (min k (cH (aG s) a l))) (fun k=>rX _ _ _ (min k (cH (aG s) a l)) (min k (cH (aG s) a l)) (by
   have O:=Bf (min k (cH (aG s) a l)) (Nat.min_le_right _ _);have G:=qJ (jT s a l (min k (cH (aG s) a l))) (by rw[O];exact ax.z);rw[show aG (jT s a l (min k (cH (aG s) a l)))=aG s from at2 (fun b=>16*2 ^b) O] at G
   exact Fn.qI [(3,.cells [.ptr 1001 0])] G rfl rfl) rfl rfl) (fun k Z=>by
   have h:=aD k _ (k+1) ⟨Z,rfl,rfl⟩;rw[Nat.min_eq_left aD7,Nat.min_eq_left aD7];exact h)
  simp only[Nat.zero_min,Nat.min_self] at h;exact h
 .show bG _ _ _ _ _ _ _;exact bw [] (bn) bb
def agm (s:bL) (ax:gk s) (a l:Int) (ar:dS s a l≠0):Fn prog 130 [ap 1001,ab a,ab l] (dz s) [] (ab (dS s a l)) (dz s):=by refine aP [] func130 ?_;refine⟨rfl,av (xc s ax a l) ?_⟩;exact⟨fun _=>bb,fun h=>at1 (show dS s a l=0 by have h:(!decide (dS s a l=0))=false:=h;simpa using h) ar⟩
end
section
def kZ (s:bL) (p:nd):Bool:=decide (p.b - p.a=aG s)
def Th (s:bL) (O:s.z<=3) (p:nd) (E:p.a<=p.b) (G:p.b<=1000):Fn prog 190 [qK p,ap 4] (dz s++[(4,.cells [.ptr 1001 0])]) [] (gb (kZ s p)) (dz s++[(4,.cells [.ptr 1001 0])]):=by
 have iu:c5 ((p.b:Int) - (p.a:Int)):=aE5
 refine aP [] func190 ?_;refine⟨rfl,iu,av (qJ s O) ⟨rfl,_,_,_,bn,rfl,?_,aA,rfl⟩⟩;show decide ((p.b:Int) - (p.a:Int)=((aG s:Nat):Int))=kZ s p;unfold kZ;exact decide_eq_decide.2 aD7
def oB (s:bL) (p:nd):Bool:= !kZ s p&&(decide ((s.t.getD p.c b9).1≠2)&&hq s p.c)
def hc (s:bL) (a l:Nat):Nat->Nat
 |0=>0
 |k+1=>hc s a l k+(if oB s (bj (aG s) a l k)=true then 1 else 0)
def agn (s:bL) (a l k:Nat):hc s a l k<=k:=by
 induction k with
 |zero=>exact at0 _
 |succ k bk=>
  show hc s a l k+_<=k+1
  split <;>omega
abbrev ut:e9:=((2:Int),(0:Int),false)
abbrev uu (n:Nat):aH3:=List.replicate n (0:UInt8)
def vM (s:bL) (p:nd) (y:aH3):bL:=if kZ s p=true then rU s p.c ut else if(s.t.getD p.c b9).1=2 then s else y2 s p (uu (p.b - p.a)) y
def ep (s:bL) (a l:Nat) (y:Nat->aH3):Nat->bL
 |0=>s
 |k+1=>vM (ep s a l y k) (bj (aG s) a l k) (y (bj (aG s) a l k).c)
abbrev y6 (s:bL) (bo:bp->bc) (b1 b2:Nat):ay:=fY s bo++[(4,.cells [.ptr 1001 0]),(7,.cells [.d (.fn (186,[b1,b2]))]),(10,.cells [.c2 190 [.p 4 0]])]
abbrev Hf (s:bL) (bo:bp->bc) (b1 b2:Nat) (n:Nat):ay:=fY s bo++[(4,.cells [.ptr 1001 0]),(7,.cells [.d (.fn (186,[b1,b2]))]),(10,.cells [.c2 190 [.p 4 0]]),(11,.cells [.d (.int .i64 (n:Int))])]
abbrev Hg (a l:Nat):aW:=[(1,ab (a:Int)),(2,ab (l:Int)),(4,ap 4),(7,ap 7),(10,ap 10)]
abbrev ago:aW:=[(1000000+136,.undef),(1000000+187,.undef)]
abbrev L9 (a l:Nat):aW:=ago++[(1,ab (a:Int)),(2,ab (l:Int)),(4,ap 4),(7,ap 7),(10,ap 10),(11,ap 11)]
def Bg (s:bL) (al:s.t.length<=256) (c:Nat) (J:c < s.t.length):Fn prog 136 [ap 1001,ab (c:Int)] (dz s) [] (ab (s.t.getD c b9).1) (dz s):=by
 have h:=af4 s al c J;have e:s.t[c]=s.t.getD c b9:=by rw[at3,as7 J];rfl
 rwa[e] at h
def agp (s:bL) (bo:bp->bc) (b1 b2:Nat) (ax:gk s) (a l:Nat) (ar:dS s a l=0) (y:Nat->aH3) (r:Int) (s':bL) (gg:d0 s.l < hc s a l (cH (aG s) a l)->r=120/\s'=s) (L7:hc s a l (cH (aG s) a l)<=d0 s.l->r=0/\s'=ep s a l y (cH (aG s) a l))
  (Hh:hc s a l (cH (aG s) a l)<=d0 s.l-> ∀k,k<=cH (aG s) a l->gk (ep s a l y k)/\(ep s a l y k).z=s.z/\(ep s a l y k).t.length=s.t.length)
  (hG:hc s a l (cH (aG s) a l)<=d0 s.l-> ∀k,k < cH (aG s) a l->kZ s (bj (aG s) a l k)=true->Fn prog 192 [ap 1001,ab ((bj (aG s) a l k).c:Int),.c (pR ut)] (dz (ep s a l y k)) [] g' (dz (ep s a l y (k+1))))
  (r0:hc s a l (cH (aG s) a l)<=d0 s.l-> ∀k,k < cH (aG s) a l->kZ s (bj (aG s) a l k)=false->((ep s a l y k).t.getD (bj (aG s) a l k).c b9).1≠2->Fn prog 189 [ap 1001,qK (bj (aG s) a l k),bE .u8 (uu ((bj (aG s) a l k).b - (bj (aG s) a l k).a)),nG b1 b2] (fY (ep s a l y k) bo) [] g' (fY (ep s a l y (k+1)) bo)):
  Fn prog 128 [ap 1001,ab (a:Int),ab (l:Int),nG b1 b2] (fY s bo) [] (ab r) (fY s' bo):=by
 have c1:=oA ax.z;have hw:=up ax.z;have dM:=pk ar;have tb:e0 s<=2048:=ay8 ax.ez (jf ax.z).2;refine aP [4,5,6,10,12,18] func128 ?_;refine⟨rfl,rfl,av (xc s ax a l) ?_⟩;rw[ar];refine dh <| bw [5,6] (bn) ⟨rfl,bw [6] (cz (Hg a l) (y6 s bo b1 b2)) ⟨rfl,bG.nB 187 aD8 (bG.nB 136 aD8 <| bw [] (ac.sub (K':=L9 a l) (B':=Hf s bo b1 b2 0) ⟨trivial,trivial,rfl,rfl,rfl,rfl,rfl,rfl,trivial⟩ aA) <| av (Bd s a l) <| bG.le (ac.sub (K':=(25,.c (.one (.c2 233 [.p 2001 0,.p 2002 0,.p 2003 0])))::L9 a l) (B':=qL a l++Hf s bo b1 b2 0) ⟨rfl,trivial,trivial,rfl,rfl,rfl,rfl,rfl,rfl,trivial⟩ aA) <| bG.range eY [9] (pl:=[26]) rfl aE0 aE0 aE0 aE0 [1001,1002,1003,1004,9000,4,7,10,11] _ (L9 a l) (qL a l) (fun k:Nat=>Hf s bo b1 b2 (hc s a l k)) 1001 0 (cH (aG s) a l) (fun k aE ec=>k < cH (aG s) a l/\aE=[qK (bj (aG s) a l k)]/\ec=k+1) rfl (by exact⟨trivial,trivial,rfl,rfl,rfl,rfl,rfl,rfl,trivial⟩) rfl rfl ?_ ?_ ?_)⟩⟩
 .rintro k aE ec ⟨Z,rfl,rfl⟩;obtain⟨J,rW⟩:=rY ax dM Z;obtain⟨d3,cX,dJ,dN⟩:=rV c1 Z;have w9:=agn s a l k
  have bC:oB s (bj (aG s) a l k)=false->hc s a l (k+1)=hc s a l k:=fun hn=>by
   show hc s a l k+_=_;rw[mu (by rw[hn];decide)];exact aA0 _
  have af:oB s (bj (aG s) a l k)=true->((hc s a l k:Nat):Int)+1=((hc s a l (k+1):Nat):Int):=fun hn=>by
   show _=((hc s a l k+_:Nat):Int);rw[vj hn];omega
  have iu:c5 (((hc s a l k:Nat):Int)+1):=aE5
  have Hi:=Th s ax.z (bj (aG s) a l k) d3 aD7;refine⟨rfl,rfl,rfl,rfl,av Hi ⟨fun hn=>?_,fun hn=>?_⟩⟩
  .have hn:kZ s (bj (aG s) a l k)=false:=by simpa using hn
   refine w2 rfl rfl rfl (Bg s ax.ez _ J) ⟨fun hI=>?_,fun hI=>?_⟩
   .have hI: ¬(s.t.getD (bj (aG s) a l k).c b9).1=2:=by
     have hI:(!decide ((s.t.getD (bj (aG s) a l k).c b9).1=2))=true:=hI;simpa using hI
    refine w2 rfl rfl rfl (LY s ax.ez _ J) ⟨fun GB=>?_,fun GB=>?_⟩
    .have aM:oB s (bj (aG s) a l k)=true:=by
      unfold oB;rw[hn,au1 hI,GB];rfl
     refine bw [] (cz [(11,ap 11)] (Hf s bo b1 b2 (hc s a l k))) ⟨iu,?_⟩;exact⟨rfl,ac.sub trivial ⟨rfl,rfl,rfl,rfl,rfl,rfl,rfl,rfl,by rw[<-af aM];rfl,trivial⟩⟩
    .have aM:oB s (bj (aG s) a l k)=false:=by
      unfold oB;rw[GB,Bool.and_false,Bool.and_false]
     exact⟨rfl,ac.sub trivial ⟨rfl,rfl,rfl,rfl,rfl,rfl,rfl,rfl,by rw[bC aM];rfl,trivial⟩⟩
   .have hI:(s.t.getD (bj (aG s) a l k).c b9).1=2:=by
     have hI:(!decide ((s.t.getD (bj (aG s) a l k).c b9).1=2))=false:=hI;simpa using hI
    have aM:oB s (bj (aG s) a l k)=false:=by
     unfold oB;rw[ax2 (fun h=>h hI),Bool.false_and,Bool.and_false]
    exact⟨rfl,ac.sub trivial ⟨rfl,rfl,rfl,rfl,rfl,rfl,rfl,rfl,by rw[bC aM];rfl,trivial⟩⟩
  .have hn:kZ s (bj (aG s) a l k)=true:=by simpa using hn
   have aM:oB s (bj (aG s) a l k)=false:=by
    unfold oB;rw[hn];rfl
   exact⟨rfl,ac.sub trivial ⟨rfl,rfl,rfl,rfl,rfl,rfl,rfl,rfl,by rw[bC aM];rfl,trivial⟩⟩
 .intro y5 eI rX aD;exact Bc y5 (aG s) a l c1 aD7 aD7 eI (fun k=>rX _ _ _ k k (Fn.qI [(9000,.b5 1001 bo),(4,.cells [.ptr 1001 0]),(7,.cells [.d (.fn (186,[b1,b2]))]),(10,.cells [.c2 190 [.p 4 0]]),(11,.cells [.d (.int .i64 (hc s a l k:Int))])] (qJ s ax.z) rfl rfl) rfl rfl) (fun k Z=>aD k _ (k+1) ⟨Z,rfl,rfl⟩)
 .have aM:d0 s.l<=512:=ay1 (LV _) ax.lJ;refine bw [12,18] (bn) ?_;refine av (S3 s (by have:=ax.lJ;omega)) ⟨rfl,fun h=>?_,fun h=>?_⟩
  .have h:((d0 s.l:Nat):Int) < ((hc s a l (cH (aG s) a l):Nat):Int):=gd h;obtain⟨rfl,rfl⟩:=gg aD7;exact bb
  have h: ¬((d0 s.l:Nat):Int) < ((hc s a l (cH (aG s) a l):Nat):Int):=oj h;have dL:hc s a l (cH (aG s) a l)<=d0 s.l:=aE5
  obtain⟨rfl,rfl⟩:=L7 dL;have Hh:=Hh dL;have hG:=hG dL;have r0:=r0 dL;refine bw [18] (cz (Hg a l) (y6 s bo b1 b2)) <| av (Bd s a l) <| bG.le (cz ((52,.c (.one (.c2 233 [.p 2001 0,.p 2002 0,.p 2003 0])))::Hg a l) (qL a l++y6 s bo b1 b2)) <| bG.range eY [15,16,17] (pl:=[53]) rfl aE0 aE0 aE0 aE0 [1001,1002,1003,1004,9000,4,7,10] _ (Hg a l) (qL a l) (fun k:Nat=>y6 (ep s a l y k) bo b1 b2) 1001 0 (cH (aG s) a l) (fun k aE ec=>k < cH (aG s) a l/\aE=[qK (bj (aG s) a l k)]/\ec=k+1) rfl aE9 rfl rfl ?_ ?_ ?_
  .rintro k aE ec ⟨Z,rfl,rfl⟩;obtain⟨J,rW⟩:=rY ax dM Z;obtain⟨d3,cX,dJ,dN⟩:=rV c1 Z;obtain⟨e8,gH,mA⟩:=Hh k (Nat.le_of_lt Z);have hG:=hG k Z;have r0:=r0 k Z;have Ti:aG (ep s a l y k)=aG s:=at2 (fun b=>16*2 ^b) gH;have Hi:=Th (ep s a l y k) e8.z (bj (aG s) a l k) d3 aD7;rw[show kZ (ep s a l y k) (bj (aG s) a l k)=kZ s (bj (aG s) a l k) by unfold kZ;rw[Ti]] at Hi
   have agq:kZ s (bj (aG s) a l k)=false->kZ (ep s a l y k) (bj (aG s) a l k)=false:=fun h=>by
    unfold kZ;rw[Ti];exact h
   have agr:ep s a l y (k+1)=vM (ep s a l y k) (bj (aG s) a l k) (y (bj (aG s) a l k).c):=rfl;refine⟨rfl,rfl,rfl,rfl,av Hi ⟨fun hn=>?_,fun hn=>?_⟩⟩
   .have hG:=hG hn;exact bw [] (cz [(4,ap 4),(13,ap 13)] ((13,.cells (vJ (bj (aG s) a l k)))::y6 (ep s a l y k) bo b1 b2)) <| av (Fn.arg hG ⟨rfl,rfl,aA,trivial⟩) ⟨rfl,ac.sub trivial aA⟩
   .show bG _ _ _ _ _ _ _;refine bw [17] (cz [(4,ap 4),(7,ap 7),(13,ap 13)] ((13,.cells (vJ (bj (aG s) a l k)))::y6 (ep s a l y k) bo b1 b2)) ?_;refine av (Bg (ep s a l y k) e8.ez _ (by rw[mA];exact J)) ⟨fun hI=>?_,fun hI=>?_⟩
    .have hI: ¬((ep s a l y k).t.getD (bj (aG s) a l k).c b9).1=2:=by
      have hI:(!decide (((ep s a l y k).t.getD (bj (aG s) a l k).c b9).1=2))=true:=hI;simpa using hI
     have r0:=r0 hn hI;have iu:c5 (((bj (aG s) a l k).b:Int) - ((bj (aG s) a l k).a:Int)):=aE5
     have ur:((bj (aG s) a l k).b:Int) - ((bj (aG s) a l k).a:Int)=((bj (aG s) a l k).b:Int) - ((bj (aG s) a l k).a:Int)/\(0:Int)<=((bj (aG s) a l k).b:Int) - ((bj (aG s) a l k).a:Int)/\((bj (aG s) a l k).b:Int) - ((bj (aG s) a l k).a:Int)<=4294967296:=aE5
     refine bw [] (cz [(4,ap 4),(7,ap 7),(13,ap 13)] ((13,.cells (vJ (bj (aG s) a l k)))::y6 (ep s a l y k) bo b1 b2)) ⟨iu,ur,rfl,?_⟩
     have hx:uu ((bj (aG s) a l k).b - (bj (aG s) a l k).a)=List.replicate (((bj (aG s) a l k).b:Int) - ((bj (aG s) a l k).a:Int)).toNat (0:UInt8):=by
      rw[show(((bj (aG s) a l k).b:Int) - ((bj (aG s) a l k).a:Int)).toNat=(bj (aG s) a l k).b - (bj (aG s) a l k).a by omega]
     rw[hx] at r0;exact av (Fn.own (d:=76) (args:=[ap 1001,qK (bj (aG s) a l k),dY 76,nG b1 b2]) (e:=5) (u:=.u8) (xs:=List.replicate (((bj (aG s) a l k).b:Int) - ((bj (aG s) a l k).a:Int)).toNat (0:UInt8)) r0 rfl) ⟨rfl,rfl,ac.sub trivial aA⟩
    .have hI:((ep s a l y k).t.getD (bj (aG s) a l k).c b9).1=2:=by
      have hI:(!decide (((ep s a l y k).t.getD (bj (aG s) a l k).c b9).1=2))=false:=hI;simpa using hI
     have e:ep s a l y (k+1)=ep s a l y k:=by
      rw[agr];unfold vM;rw[agq hn,mu aD8,vj hI]
     rw[e];exact⟨rfl,ac.sub trivial aA⟩
  .intro y5 eI rX aD
   have h:=Bc y5 (aG s) a l c1 aD7 aD7 (fun k=>eI (min k (cH (aG s) a l))) (fun k=>rX _ _ _ (min k (cH (aG s) a l)) (min k (cH (aG s) a l)) (by
    obtain⟨e8,O,mA⟩:=Hh (min k (cH (aG s) a l)) (Nat.min_le_right _ _);have G:=qJ (ep s a l y (min k (cH (aG s) a l))) (by rw[O];exact ax.z);rw[show aG (ep s a l y (min k (cH (aG s) a l)))=aG s from at2 (fun b=>16*2 ^b) O] at G
    exact Fn.qI [(9000,.b5 1001 bo),(4,.cells [.ptr 1001 0]),(7,.cells [.d (.fn (186,[b1,b2]))]),(10,.cells [.c2 190 [.p 4 0]])] G rfl rfl) rfl rfl) (fun k Z=>by
    have h:=aD k _ (k+1) ⟨Z,rfl,rfl⟩;rw[Nat.min_eq_left aD7,Nat.min_eq_left aD7];exact h)
   simp only[Nat.zero_min,Nat.min_self] at h;exact h
  .show bG _ _ _ _ _ _ _;exact bw [] (bn) bb
def Tj {l:aI7} {h:Nat} {n m:Int} (al:l[h]? =some n):d0 (l.set h m)+(if n=0 then 1 else 0)=d0 l+(if m=0 then 1 else 0):=by
 induction l generalizing h with
 |nil=>simp at al
 |cons x l bk=>
  match h with
  |0=>
   simp only[au4,at5] at al;subst al;simp only[List.set_cons_zero];unfold d0;rw[List.filter_cons,List.filter_cons]
   by_cases E:x=0 <;>by_cases G:m=0 <;>simp[E,G] <;>omega
  |h+1=>
   have al:l[h]? =some n:=by simpa using al
   have:=bk al;simp only[List.set_cons_succ];unfold d0 at*;rw[List.filter_cons,List.filter_cons]
   by_cases E:x=0 <;>simp[E] <;>omega
def ags {xs ys:aH3} {a n:Nat} (E:a+n<=xs.length) (G:ys.length=n):(laid xs a n ys).length=xs.length:=by unfold laid;rw[as9,as9,at9,at9,ax8];omega
structure DV (s s':bL) (p:nd) (bs y:aH3):Prop where
 ok:gk s'
 z:s'.z=s.z
 ez:s'.t.length=s.t.length
 lJ:s'.l.length=s.l.length
 jz: ∀c,c≠p.c->s'.t[c]? =s.t[c]? /\ ∀aH,eh s' c aH=eh s c aH
 DW: ∀aH,eh s' p.c aH=laid (eh s p.c (some y)) p.a (p.b - p.a) bs
 ko:hq s' p.c=false
 iH:d0 s'.l+(if hq s p.c=true then 1 else 0)=d0 s.l
def agt {s:bL} {c:Nat} {h:Int} {xs:aH3} (E:s.t[c]? =some ((1:Int),h,true)) (G:s.f h=some xs) (aH:Option aH3):eh s c aH=xs:=by unfold eh;rw[E];simp only[vj,G,az5]
def Ma {s s':bL} {c:Nat} (O:s'.z=s.z) (cq:s'.t[c]? =s.t[c]?) (hf: ∀h,s.t[c]? =some ((1:Int),h,true)->s'.f h=s.f h) (ax:gk s) (aH:Option aH3):eh s' c aH=eh s c aH:=by
 have aM:iH s'=iH s:=by unfold iH aG;rw[O]
 have hw:aG s'=aG s:=by unfold aG;rw[O]
 unfold eh;rw[cq]
 cases e:s.t[c]? with
 |none=>rfl
 |some q=>
  simp only;rcases ax.slot c q e with h |h |⟨h,ao,_⟩
  .rw[h,aM,hw];rfl
  .rw[h,aM];rfl
  .rw[ao] at e;rw[ao,hf _ e,aM,hw]
def agu {s:bL} {c:Nat} {h:Int} (E:s.t[c]? =some ((1:Int),h,true)):hq s c=false:=by unfold hq vG;rw[Bb E];rfl
def agv {s:bL} (ax:gk s) {c:Nat} (J:c < s.t.length) (y:aH3) (aM:hq s c=true->0 < d0 s.l):
  (nf s c y).z=s.z/\(nf s c y).l.length=s.l.length/\(∀d,d≠c->(nf s c y).t[d]? =s.t[d]? /\ ∀h,s.t[d]? =some ((1:Int),h,true)->(nf s c y).f h=s.f h)/\d0 (nf s c y).l+(if hq s c=true then 1 else 0)=d0 s.l:=by
 unfold nf
 by_cases hn:hq s c=true
 .rw[vj hn,vj hn];obtain⟨kS,rA⟩:=LZ (aM hn);refine⟨rfl,ay3,fun d H=>⟨ax4 (az2 H),fun h bd=>?_⟩,?_⟩
  .show(if h=(ib s.l:Int) then _ else s.f h)=s.f h;rw[mu];intro e;rcases ax.slot d _ bd with ao |ao |⟨h',ao,ah,_⟩
   .cases ao
   .cases ao
   .have:h=(h':Int):=by injection ao with _ ao;injection ao
    have:h'=ib s.l:=aE5
    rw[this,kS] at ah
    cases ah
  .have:=Tj (m:=1) kS;simpa using this
 .rw[mu hn,mu hn];exact⟨rfl,rfl,fun d _=>⟨rfl,fun _ _=>rfl⟩,rfl⟩
def Mb {s:bL} (ax:gk s) {p:nd} (J:p.c < s.t.length) {bs y:aH3} (E:p.a<=p.b) (G:p.b<=aG s) (ah:bs.length=p.b - p.a) (aM:hq s p.c=true->0 < d0 s.l):DV s (y2 s p bs y) p bs y:=by
 obtain⟨e8,gH,mA,h,vL,xb⟩:=Ta ax J y aM;obtain⟨r1,r2,fQ,j9⟩:=agv ax J y aM;have dR:=vK ax J (some y);unfold y2;generalize nf s p.c y=s' at*;generalize sU:eh s p.c (some y)=xs at*;have rn:=Bb vL
 have e:Hc s' p bs={s' with f:=jv s'.f (h:Int) (laid xs p.a (p.b - p.a) bs)}:=by
  unfold Hc;rw[rn];simp only[xb,az5]
 rw[e];have ll:=ags (xs:=xs) (ys:=bs) (a:=p.a) (n:=p.b - p.a) aD7 ah
 have agw: ∀(d:Nat) (k:Int),d≠p.c->s'.t[d]? =some ((1:Int),k,true)->jv s'.f (h:Int) (laid xs p.a (p.b - p.a) bs) k=s'.f k:=fun d k H Z=>by
  unfold jv;rw[mu];intro e;subst e;exact H (e8.inj d p.c _ Z vL)
 refine⟨⟨e8.z,e8.ez,e8.lJ,fun c q a2=>?_,e8.inj,e8.Ha,fun k Z=>?_,e8.Hb,S9 e8.dom (by rw[ll,dR];exact S8 ax.z)⟩,r1,mA,r2,fun c l2=>⟨(fQ c l2).1,fun aH=>?_⟩,fun aH=>by rw[sU];exact agt (s:={s' with f:=jv s'.f (h:Int) (laid xs p.a (p.b - p.a) bs)}) vL (vj rfl) aH,agu (s:={s' with f:=jv s'.f (h:Int) (laid xs p.a (p.b - p.a) bs)}) vL,j9⟩
 .rcases e8.slot c q a2 with e |e |⟨k,e,g1,ys,g2,cL⟩
  .exact .inl e
  .exact .inr (.inl e)
  .refine .inr (.inr ⟨k,e,g1,?_⟩)
   by_cases Z:(k:Int)=(h:Int)
   .exact⟨_,vj Z,by rw[ll,dR,<-gH];rfl⟩
   .exact⟨ys,(mu Z).trans g2,cL⟩
 .show(if(k:Int)=(h:Int) then _ else s'.f k)=none;rw[mu]
  .exact e8.Ba k Z
  .intro e;have:k=h:=aE5
   subst this;rcases e8.slot p.c _ vL with e |e |⟨j,e,g1,_⟩
   .cases e
   .cases e
   .have:(k:Int)=(j:Int):=by injection e with _ e;injection e
    have:k=j:=aE5
    rw[this,g1] at Z
    cases Z
 .refine Ma (s:=s) (s':={s' with f:=jv s'.f (h:Int) (laid xs p.a (p.b - p.a) bs)}) r1 (fQ c l2).1 (fun k Z=>?_) ax aH;rw[<-(fQ c l2).2 k Z];exact agw c k l2 ((fQ c l2).1.trans Z)
structure Mc (s s':bL) (c:Nat) (q:e9):Prop where
 ok:gk s'
 z:s'.z=s.z
 ez:s'.t.length=s.t.length
 lJ:s'.l.length=s.l.length
 jz: ∀d,d≠c->s'.t[d]? =s.t[d]? /\ ∀aH,eh s' d aH=eh s d aH
 DW:s'.t[c]? =some q
 iH:d0 s.l<=d0 s'.l
def Md {s:bL} (ax:gk s) {c:Nat} (J:c < s.t.length) {q:e9} (a2:q=b9\/q=ut):Mc s (rU s c q) c q:=by
 have m6:s.t[c]? =some (s.t.getD c b9):=by rw[at3,as7 J];rfl
 have vw: ∀h:Int,q≠((1:Int),h,true):=fun h e=>by rcases a2 with a2 |a2 <;>rw[a2] at e <;>cases e
 have Tk:q=b9\/q=((2:Int),(0:Int),false):=a2;unfold rU A9;rcases Hd ax J with⟨_,h⟩ |⟨_,h,E,G,xs,ah,aS⟩
 .have hn: ¬(s.t.getD c b9).1=1:=by rcases h with h |h <;>rw[h] <;>decide
  rw[mu hn];refine⟨⟨ax.z,by show(s.t.set _ _).length<=256;rw[ay3];exact ax.ez,ax.lJ,fun d r aj=>?_,fun d e k H U=>?_,ax.Ha,ax.Ba,fun k Z=>?_,ax.dom⟩,rfl,ay3,rfl,fun d H=>⟨ax4 (az2 H),fun aH=>Ma (s:=s) (s':={s with t:=s.t.set c q}) rfl (ax4 (az2 H)) (fun _ _=>rfl) ax aH⟩,ay7 J,at0 _⟩
  .rw[aA1] at aj
   split at aj
   .injection aj with aj
    rw[<-aj];exact Tk.imp id .inl
   .exact ax.slot d r aj
  .rw[aA1] at H U
   split at H
   .injection H with H;exact at1 H (vw k)
   .split at U
    .injection U with U;exact at1 U (vw k)
    .exact ax.inj d e k H U
  .obtain⟨d,H⟩:=ax.Hb k Z
   have a6:c≠d:=fun e=>by
    subst e;rw[m6] at H;injection H with H
    rw[H] at hn;exact hn rfl
   exact⟨d,(ax4 a6).trans H⟩
 .have aV:=Bb E;rw[aV,vj rfl];have bv:h < s.l.length:=(au0.1 G).1;have bC:((h:Int)).toNat=h:=rfl;simp only[bC]
  have other: ∀(d k:Nat),d≠c->s.t[d]? =some ((1:Int),(k:Int),true)->k≠h:=fun d k H Z e=>by
   subst e;exact H (ax.inj d c _ Z E)
  refine⟨⟨ax.z,by show(s.t.set _ _).length<=256;rw[ay3];exact ax.ez,by show(s.l.set _ _).length<=512;rw[ay3];exact ax.lJ,fun d r aj=>?_,fun d e k H U=>?_,fun k n Z=>?_,fun k Z=>?_,fun k Z=>?_,fun k xs Z=>ax.dom k xs (by
   have Z:(if k=(h:Int) then none else s.f k)=some xs:=Z
   split at Z
   .cases Z
   .exact Z)⟩,rfl,ay3,ay3,fun d H=>⟨ax4 (az2 H),fun aH=>Ma (s:=s) (s':={s with t:=s.t.set c q,l:=s.l.set h 0,f:=DC s.f (h:Int)}) rfl (ax4 (az2 H)) (fun k Z=>?_) ax aH⟩,ay7 J,?_⟩
  .rw[aA1] at aj
   split at aj
   .injection aj with aj
    rw[<-aj];exact Tk.imp id .inl
   .rename_i a6;rcases ax.slot d r aj with e |e |⟨k,e,g1,ys,g2,cL⟩
    .exact .inl e
    .exact .inr (.inl e)
    .have Z:=other d k (az2 a6) (e▸aj);exact .inr (.inr ⟨k,e,by show(s.l.set h 0)[k]? =some 1;rw[ax4 (az2 Z)];exact g1,ys,by show(if(k:Int)=(h:Int) then none else s.f k)=some ys;rw[mu aD7];exact g2,cL⟩)
  .rw[aA1] at H U
   split at H
   .injection H with H;exact at1 H (vw k)
   .split at U
    .injection U with U;exact at1 U (vw k)
    .exact ax.inj d e k H U
  .rw[aA1] at Z
   split at Z
   .injection Z with Z;exact .inl Z.symm
   .exact ax.Ha k n Z
  .show(if(k:Int)=(h:Int) then none else s.f k)=none
   by_cases e:k=h
   .rw[vj aD7]
   .rw[mu aD7];rw[ax4 (fun ao=>e ao.symm)] at Z;exact ax.Ba k Z
  .by_cases e:k=h
   .subst e;rw[ay7 bv] at Z
    cases Z
   .rw[ax4 (fun ao=>e ao.symm)] at Z;obtain⟨d,H⟩:=ax.Hb k Z
    have a6:c≠d:=fun ao=>by
     subst ao;rw[E] at H;injection H with H
     have:(h:Int)=(k:Int):=by injection H with _ H;injection H
     omega
    exact⟨d,(ax4 a6).trans H⟩
  .rcases ax.slot d _ Z with e |e |⟨j,e,_⟩
   .cases e
   .cases e
   .have V:k=(j:Int):=by injection e with _ e;injection e
    subst V;have:=other d j H Z;show(if(j:Int)=(h:Int) then none else s.f j)=s.f j;rw[mu aD7]
  .have:=Tj (m:=0) G;simp at this;show d0 s.l<=d0 (s.l.set h 0);omega
def DX {s s':bL} {c:Nat} (h:s'.t[c]? =s.t[c]?):hq s' c=hq s c:=by unfold hq;rw[at3,at3,h]
structure iv (s s':bL):Prop where
 ok:gk s'
 z:s'.z=s.z
 ez:s'.t.length=s.t.length
 lJ:s'.l.length=s.l.length
def iv.refl {s:bL} (h:gk s):iv s s:=⟨h,rfl,rfl,rfl⟩
def iv.trans {s s' DY:bL} (h:iv s s') (k:iv s' DY):iv s DY:=⟨k.ok,k.z.trans h.z,k.ez.trans h.ez,k.lJ.trans h.lJ⟩
def iv.aG {s s':bL} (h:iv s s'):aG s'=aG s:=at2 (fun b=>16*2 ^b) h.z
def DV.eq {s s':bL} {p:nd} {bs y:aH3} (h:DV s s' p bs y):iv s s':=⟨h.ok,h.z,h.ez,h.lJ⟩
def Mc.eq {s s':bL} {c:Nat} {q:e9} (h:Mc s s' c q):iv s s':=⟨h.ok,h.z,h.ez,h.lJ⟩
def qM (s s':bL) (c:Nat):Prop:=s'.t[c]? =s.t[c]? /\ ∀aH,eh s' c aH=eh s c aH
def qM.refl (s:bL) (c:Nat):qM s s c:=⟨rfl,fun _=>rfl⟩
def qM.trans {s s' DY:bL} {c:Nat} (h:qM s s' c) (k:qM s' DY c):qM s DY c:=⟨k.1.trans h.1,fun aH=>(k.2 aH).trans (h.2 aH)⟩
def Me (s:bL) (bo:bp->bc) (b1 b2:Nat) (y:Nat->aH3):Prop:= ∀s',iv s s'-> ∀(c:Nat) (h:c < s'.t.length),(s'.t[c]).1=0->G' s' bo b1 b2 c (y c)
def agx (s:bL) (a l:Nat) {j k:Nat} (h:j<=k):ic s a l j<=ic s a l k:=by
 induction k with
 |zero=>
    have:j=0:=aE5
    rw[this];exact at0 _
 |succ k bk=>
  by_cases e:j=k+1
  .rw[e];exact at0 _
  .have:=bk aD7;show ic s a l j<=ic s a l k+_;omega
def Tl {bs:aH3} {p:nd} (E:p.a<=p.b) (G:p.at_+(p.b - p.a)<=bs.length):(pU bs p).length=p.b - p.a:=by unfold pU;rw[ax8,at9];omega
structure Hj (s:bL) (a l:Nat) (bs:aH3) (y:Nat->aH3) (k:Nat):Prop where
 eq:iv s (iU s a l bs y k)
 iH:d0 (iU s a l bs y k).l+ic s a l k=d0 s.l
 jz: ∀c,(c < 16*a/aG s\/16*a/aG s+k<=c)->qM s (iU s a l bs y k) c
 done: ∀j,j < k->hq (iU s a l bs y k) (16*a/aG s+j)=false/\ ∀aH,eh (iU s a l bs y k) (16*a/aG s+j) aH=laid (eh s (16*a/aG s+j) (some (y (16*a/aG s+j)))) (bj (aG s) a l j).a ((bj (aG s) a l j).b - (bj (aG s) a l j).a) (pU bs (bj (aG s) a l j))
def Tm {s:bL} (ax:gk s) {a l:Nat} {bs:aH3} (fO:bs.length=16*l) (dM:a+l<=e0 s) {y:Nat->aH3} (dL:ic s a l (cH (aG s) a l)<=d0 s.l) {k:Nat} (h:Hj s a l bs y k) (Z:k < cH (aG s) a l):DV (iU s a l bs y k) (iU s a l bs y (k+1)) (bj (aG s) a l k) (pU bs (bj (aG s) a l k)) (y (bj (aG s) a l k).c)/\(hq (iU s a l bs y k) (bj (aG s) a l k).c=true->0 < d0 (iU s a l bs y k).l):=by
 have c1:=oA ax.z;obtain⟨d3,cX,dJ,dN⟩:=rV c1 Z;obtain⟨J,_⟩:=rY ax dM Z;have l8:=h.jz (16*a/aG s+k) (.inr (at0 _))
 have aM:hq (iU s a l bs y k) (bj (aG s) a l k).c=true->0 < d0 (iU s a l bs y k).l:=fun hn=>by
  have br:hq (iU s a l bs y k) (bj (aG s) a l k).c=hq s (bj (aG s) a l k).c:=DX l8.1;rw[br] at hn;have E:=agx s a l (show k+1<=cH (aG s) a l from Z)
  have G:ic s a l (k+1)=ic s a l k+1:=by
   show ic s a l k+_=_;rw[vj hn]
  have:=h.iH;omega
 exact⟨Mb h.eq.ok aG6 d3 (by rw[h.eq.aG];exact cX) (Tl d3 aD7) aM,aM⟩
def Bh {s:bL} (ax:gk s) {a l:Nat} {bs:aH3} (fO:bs.length=16*l) (dM:a+l<=e0 s) (y:Nat->aH3) (dL:ic s a l (cH (aG s) a l)<=d0 s.l): ∀k,k<=cH (aG s) a l->Hj s a l bs y k/\(k < cH (aG s) a l->DV (iU s a l bs y k) (iU s a l bs y (k+1)) (bj (aG s) a l k) (pU bs (bj (aG s) a l k)) (y (bj (aG s) a l k).c)/\(hq (iU s a l bs y k) (bj (aG s) a l k).c=true->0 < d0 (iU s a l bs y k).l))
 |0,Z=>by
  have ar:Hj s a l bs y 0:=⟨iv.refl ax,rfl,fun c _=>qM.refl s c,fun j V=>at1 V aD7⟩;exact⟨ar,fun Z=>Tm ax fO dM dL ar Z⟩
 |k+1,Z=>by
  obtain⟨h,aw⟩:=Bh ax fO dM y dL k aD7;have ey:k < cH (aG s) a l:=aE5
  obtain⟨ag,_⟩:=aw ey;have pV:(bj (aG s) a l k).c=16*a/aG s+k:=rfl;have l8:=h.jz (16*a/aG s+k) (.inr (at0 _))
  have E:Hj s a l bs y (k+1):=by
   refine⟨h.eq.trans ag.eq,?_,fun c J=>?_,fun j V=>?_⟩
   .have af:=ag.iH;have ao:=h.iH;have br:hq (iU s a l bs y k) (bj (aG s) a l k).c=hq s (bj (aG s) a l k).c:=DX l8.1;rw[br] at af;show d0 _+(ic s a l k+_)=_;omega
   .exact(h.jz c (J.imp id fun h=>by omega)).trans (ag.jz c (by rw[pV];omega))
   .by_cases e:j=k
    .subst e;refine⟨ag.ko,fun aH=>?_⟩;have:=ag.DW aH;rw[pV] at this;rw[this,l8.2]
    .obtain⟨g1,g2⟩:=h.done j aD7;have hf:=ag.jz (16*a/aG s+j) (by rw[pV];omega);exact⟨(DX hf.1).trans g1,fun aH=>(hf.2 aH).trans (g2 aH)⟩
  exact⟨E,fun Z=>Tm ax fO dM dL E Z⟩
def Bi (s:bL) (a l:Nat):Int:=if ic s a l (cH (aG s) a l)<=d0 s.l then 0 else 120
def xd (s:bL) (a l:Nat) (bs:aH3) (y:Nat->aH3):bL:=if ic s a l (cH (aG s) a l)<=d0 s.l then iU s a l bs y (cH (aG s) a l) else s
def agy (s:bL) (bo:bp->bc) (b1 b2:Nat) (ax:gk s) (a l:Nat) (bs:aH3) (fO:bs.length=16*l) (ar:dS s a l=0) (y:Nat->aH3) (de:Me s bo b1 b2 y):
  Fn prog 126 [ap 1001,ab (a:Int),bE .u8 bs,nG b1 b2] (fY s bo) [] (ab (Bi s a l)) (fY (xd s a l bs y) bo):=by
 have dM:=pk ar;refine agi s bo b1 b2 ax a l bs fO ar y _ _ (fun h=>⟨mu aD7,mu aD7⟩) (fun h=>⟨vj h,vj h⟩) (fun dL k Z=>?_) (fun dL k Z=>(Bh ax fO dM y dL k Z).1.eq.z);obtain⟨h,aw⟩:=Bh ax fO dM y dL k (Nat.le_of_lt Z);obtain⟨_,aM⟩:=aw Z;obtain⟨d3,cX,dJ,dN⟩:=rV (oA ax.z) Z;obtain⟨J,_⟩:=rY ax dM Z;have e3:(bj (aG s) a l k).c < (iU s a l bs y k).t.length:=aG6
 exact Tc (iU s a l bs y k) bo b1 b2 h.eq.ok (bj (aG s) a l k) e3 (pU bs (bj (aG s) a l k)) d3 (by rw[h.eq.aG];exact cX) (Tl d3 aD7) (y (bj (aG s) a l k).c) (fun e=>de _ h.eq _ e3 e) aM
def agz {s:bL} (ax:gk s) {a l:Nat} {bs:aH3} (fO:bs.length=16*l) (ar:dS s a l=0) (y:Nat->aH3):iv s (xd s a l bs y):=by
 unfold xd
 split
 .rename_i h;exact(Bh ax fO (pk ar) y h _ (at0 _)).1.eq
 .exact iv.refl ax
structure Mf (s:bL) (a l:Nat) (k:Nat):Prop where
 eq:iv s (jT s a l k)
 jz: ∀c,(c < 16*a/aG s\/16*a/aG s+k<=c)->qM s (jT s a l k) c
 done: ∀j,j < k->if(bj (aG s) a l j).b - (bj (aG s) a l j).a=aG s then(jT s a l k).t[16*a/aG s+j]? =some b9 else qM s (jT s a l k) (16*a/aG s+j)
def Bj {s:bL} (ax:gk s) {a l:Nat} (dM:a+l<=e0 s): ∀k,k<=cH (aG s) a l->Mf s a l k
 |0,_=>⟨iv.refl ax,fun c _=>qM.refl s c,fun j V=>at1 V aD7⟩
 |k+1,Z=>by
  have h:=Bj ax dM k aD7;have ey:k < cH (aG s) a l:=aE5
  obtain⟨J,_⟩:=rY ax dM ey;have pV:(bj (aG s) a l k).c=16*a/aG s+k:=rfl;have l8:=h.jz (16*a/aG s+k) (.inr (at0 _))
  by_cases e:(bj (aG s) a l k).b - (bj (aG s) a l k).a=aG s
  .have af:jT s a l (k+1)=rU (jT s a l k) (bj (aG s) a l k).c b9:=vj e;have ag:=Md h.eq.ok (c:=(bj (aG s) a l k).c) aG6 (q:=b9) (.inl rfl);rw[<-af] at ag;refine⟨h.eq.trans ag.eq,fun c J=>(h.jz c (J.imp id fun h=>by omega)).trans (ag.jz c (by rw[pV];omega)),fun j V=>?_⟩
   by_cases A6:j=k
   .subst A6;rw[vj e];exact ag.DW
   .have g:=h.done j aD7;have hf:=ag.jz (16*a/aG s+j) (by rw[pV];omega)
    split
    .rename_i ao;rw[vj ao] at g;exact hf.1.trans g
    .rename_i ao;rw[mu ao] at g;exact g.trans hf
  .have af:jT s a l (k+1)=jT s a l k:=mu e;rw[show Mf s a l (k+1)↔Mf s a l (k+1) from Iff.rfl];refine⟨by rw[af];exact h.eq,fun c J=>by rw[af];exact h.jz c (J.imp id fun h=>by omega),fun j V=>?_⟩;rw[af]
   by_cases A6:j=k
   .subst A6;rw[mu e];exact l8
   .exact h.done j aD7
def Bk (s:bL) (a l:Nat):bL:=jT s a l (cH (aG s) a l)
def Tn {s:bL} (ax:gk s) {c:Nat} (J:c < s.t.length):(s.t.getD c b9).1=1-> ∃h:Nat,(s.t.getD c b9).2.1=(h:Int)/\s.l[h]? =some 1:=fun E=>by
 rcases Hd ax J with⟨_,h⟩ |⟨_,h,g1,g2,_⟩
 .rcases h with h |h <;>rw[h] at E <;>cases E
 .exact⟨h,by rw[Bb g1],g2⟩
def agA (s:bL) (ax:gk s) (a l:Nat) (ar:dS s a l=0):Fn prog 130 [ap 1001,ab (a:Int),ab (l:Int)] (dz s) [] (ab 0) (dz (Bk s a l)):=by
 have dM:=pk ar;refine agl s ax a l ar (fun k Z=>?_) (fun k Z=>(Bj ax dM k Z).eq.z);have h:=Bj ax dM k (Nat.le_of_lt Z);obtain⟨J,_⟩:=rY ax dM Z;have e3:(bj (aG s) a l k).c < (jT s a l k).t.length:=aG6
 exact LX (jT s a l k) h.eq.ok.ez _ e3 b9 ⟨aD8,aD8⟩ rfl (Tn h.eq.ok e3)
structure To (s:bL) (a l:Nat) (y:Nat->aH3) (k:Nat):Prop where
 eq:iv s (ep s a l y k)
 iH:d0 s.l<=d0 (ep s a l y k).l+hc s a l k
 jz: ∀c,(c < 16*a/aG s\/16*a/aG s+k<=c)->qM s (ep s a l y k) c
def agB (s:bL) (a l:Nat) {j k:Nat} (h:j<=k):hc s a l j<=hc s a l k:=by
 induction k with
 |zero=>
    have:j=0:=aE5
    rw[this];exact at0 _
 |succ k bk=>
  by_cases e:j=k+1
  .rw[e];exact at0 _
  .have:=bk aD7;show hc s a l j<=hc s a l k+_;omega
def Hk {s s':bL} (h:iv s s') (p:nd):kZ s' p=kZ s p:=by unfold kZ;rw[h.aG]
def Mg {s:bL} {a l:Nat} {y:Nat->aH3} (dL:hc s a l (cH (aG s) a l)<=d0 s.l) {k:Nat} (h:To s a l y k) (Z:k < cH (aG s) a l) (hw:kZ s (bj (aG s) a l k)=false) (G:((ep s a l y k).t.getD (bj (aG s) a l k).c b9).1≠2):
  hq (ep s a l y k) (bj (aG s) a l k).c=true->0 < d0 (ep s a l y k).l:=fun hn=>by
 have l8:=h.jz (16*a/aG s+k) (.inr (at0 _));have br:hq (ep s a l y k) (bj (aG s) a l k).c=hq s (bj (aG s) a l k).c:=DX l8.1
 have c0:(ep s a l y k).t.getD (bj (aG s) a l k).c b9=s.t.getD (bj (aG s) a l k).c b9:=by
  rw[at3,at3];exact at2 (fun o=>o.getD b9) l8.1
 rw[br] at hn;rw[c0] at G
 have aM:oB s (bj (aG s) a l k)=true:=by
  unfold oB;rw[hw,au1 G,hn];rfl
 have E:=agB s a l (show k+1<=cH (aG s) a l from Z)
 have ah:hc s a l (k+1)=hc s a l k+1:=by
  show hc s a l k+_=_;rw[vj aM]
 have:=h.iH;omega
def y7 {s:bL} (ax:gk s) {a l:Nat} (dM:a+l<=e0 s) (y:Nat->aH3) (dL:hc s a l (cH (aG s) a l)<=d0 s.l): ∀k,k<=cH (aG s) a l->To s a l y k
 |0,_=>⟨iv.refl ax,Nat.le_add_right _ _,fun c _=>qM.refl s c⟩
 |k+1,Z=>by
  have h:=y7 ax dM y dL k aD7;have ey:k < cH (aG s) a l:=aE5
  obtain⟨J,_⟩:=rY ax dM ey;obtain⟨d3,cX,dJ,dN⟩:=rV (oA ax.z) ey;have pV:(bj (aG s) a l k).c=16*a/aG s+k:=rfl;have e3:(bj (aG s) a l k).c < (ep s a l y k).t.length:=aG6
  have l8:=h.jz (16*a/aG s+k) (.inr (at0 _));have wF:hc s a l (k+1)=hc s a l k+(if oB s (bj (aG s) a l k)=true then 1 else 0):=rfl;have af:ep s a l y (k+1)=vM (ep s a l y k) (bj (aG s) a l k) (y (bj (aG s) a l k).c):=rfl;unfold vM at af;rw[Hk h.eq] at af
  by_cases hw:kZ s (bj (aG s) a l k)=true
  .rw[vj hw] at af;have ag:=Md h.eq.ok (c:=(bj (aG s) a l k).c) e3 (q:=ut) (.inr rfl);rw[<-af] at ag;refine⟨h.eq.trans ag.eq,?_,fun c J=>(h.jz c (J.imp id fun h=>by omega)).trans (ag.jz c (by rw[pV];omega))⟩;have:=ag.iH;have:=h.iH;omega
  .have hw:kZ s (bj (aG s) a l k)=false:=by simpa using hw
   rw[hw,mu aD8] at af
   by_cases G:((ep s a l y k).t.getD (bj (aG s) a l k).c b9).1=2
   .rw[vj G] at af;refine⟨by rw[af];exact h.eq,?_,fun c J=>by rw[af];exact h.jz c (J.imp id fun h=>by omega)⟩;rw[af];have:=h.iH;omega
   .rw[mu G] at af;have ag:=Mb (y:=y (bj (aG s) a l k).c) (bs:=uu ((bj (aG s) a l k).b - (bj (aG s) a l k).a)) h.eq.ok e3 d3 (by rw[h.eq.aG];exact cX) au2 (Mg dL h ey hw G);rw[<-af] at ag;refine⟨h.eq.trans ag.eq,?_,fun c J=>(h.jz c (J.imp id fun h=>by omega)).trans (ag.jz c (by rw[pV];omega))⟩;have ft:=ag.iH;have br:hq (ep s a l y k) (bj (aG s) a l k).c=hq s (bj (aG s) a l k).c:=DX l8.1
    have c0:(ep s a l y k).t.getD (bj (aG s) a l k).c b9=s.t.getD (bj (aG s) a l k).c b9:=by
     rw[at3,at3];exact at2 (fun o=>o.getD b9) l8.1
    rw[c0] at G
    have aM:oB s (bj (aG s) a l k)=hq s (bj (aG s) a l k).c:=by
     unfold oB;rw[hw,au1 G];rfl
    rw[br,<-aM] at ft;have:=h.iH;omega
def Bl (s:bL) (a l:Nat):Int:=if hc s a l (cH (aG s) a l)<=d0 s.l then 0 else 120
def xe (s:bL) (a l:Nat) (y:Nat->aH3):bL:=if hc s a l (cH (aG s) a l)<=d0 s.l then ep s a l y (cH (aG s) a l) else s
def agC (s:bL) (bo:bp->bc) (b1 b2:Nat) (ax:gk s) (a l:Nat) (ar:dS s a l=0) (y:Nat->aH3) (de:Me s bo b1 b2 y):
  Fn prog 128 [ap 1001,ab (a:Int),ab (l:Int),nG b1 b2] (fY s bo) [] (ab (Bl s a l)) (fY (xe s a l y) bo):=by
 have dM:=pk ar;refine agp s bo b1 b2 ax a l ar y _ _ (fun h=>⟨mu aD7,mu aD7⟩) (fun h=>⟨vj h,vj h⟩) (fun dL k Z=>?_) (fun dL k Z hw=>?_) (fun dL k Z hw G=>?_)
 .have h:=(y7 ax dM y dL k Z).eq;exact⟨h.ok,h.z,h.ez⟩
 .have h:=y7 ax dM y dL k (Nat.le_of_lt Z);obtain⟨J,_⟩:=rY ax dM Z;have e3:(bj (aG s) a l k).c < (ep s a l y k).t.length:=aG6
  have af:ep s a l y (k+1)=rU (ep s a l y k) (bj (aG s) a l k).c ut:=vj ((Hk h.eq _).trans hw);rw[af];exact LX (ep s a l y k) h.eq.ok.ez _ e3 ut ⟨aD8,aD8⟩ rfl (Tn h.eq.ok e3)
 .have h:=y7 ax dM y dL k (Nat.le_of_lt Z);obtain⟨J,_⟩:=rY ax dM Z;obtain⟨d3,cX,dJ,dN⟩:=rV (oA ax.z) Z;have e3:(bj (aG s) a l k).c < (ep s a l y k).t.length:=aG6
  have af:ep s a l y (k+1)=y2 (ep s a l y k) (bj (aG s) a l k) (uu ((bj (aG s) a l k).b - (bj (aG s) a l k).a)) (y (bj (aG s) a l k).c):=by
   show vM _ _ _=_;unfold vM;rw[Hk h.eq,hw,mu aD8,mu G]
  rw[af];exact Tc (ep s a l y k) bo b1 b2 h.eq.ok (bj (aG s) a l k) e3 _ d3 (by rw[h.eq.aG];exact cX) au2 _ (fun e=>de _ h.eq _ e3 e) (Mg dL h Z hw G)
def agD {s:bL} (ax:gk s) {a l:Nat} (ar:dS s a l=0) (y:Nat->aH3):iv s (xe s a l y):=by
 unfold xe
 split
 .rename_i h;exact(y7 ax (pk ar) y h _ (at0 _)).eq
 .exact iv.refl ax
def agE (s:bL) (bo:bp->bc) (b1 b2:Nat) (ax:gk s) (a l:Int) (ar:dS s a l≠0):Fn prog 128 [ap 1001,ab a,ab l,nG b1 b2] (fY s bo) [] (ab (dS s a l)) (fY s bo):=by refine aP [] func128 ?_;refine⟨rfl,rfl,av (xc s ax a l) ?_⟩;exact⟨fun _=>bb,fun h=>at1 (show dS s a l=0 by have h:(!decide (dS s a l=0))=false:=h;simpa using h) ar⟩
def gl (z size R:Nat):bL:=⟨z,List.replicate size b9,List.replicate R (0:Int),Li⟩
def agF {z size R:Nat} (E:z<=3) (G:size<=256) (ah:R<=512):gk (gl z size R):=by
 have cq: ∀(c:Nat) (q:e9),(gl z size R).t[c]? =some q->q=b9:=fun c q h=>by
  have h:(List.replicate size b9)[c]? =some q:=h;rw[aB4] at h
  split at h
  .injection h with h;exact h.symm
  .cases h
 have al: ∀(h:Nat) n,(gl z size R).l[h]? =some n->n=0:=fun h n e=>by
  have e:(List.replicate R (0:Int))[h]? =some n:=e;rw[aB4] at e
  split at e
  .injection e with e;exact e.symm
  .cases e
 refine⟨E,by show(List.replicate size b9).length<=256;rw[au2];exact G,by show(List.replicate R (0:Int)).length<=512;rw[au2];exact ah,fun c q a2=>.inl (cq c q a2),fun c d h J H=>?_,fun h n hn=>.inl (al h n hn),fun h _=>rfl,fun h bd=>?_,fun k xs Z=>(by cases Z)⟩
 .have:=cq c _ J;cases this
 .have:=al h _ bd;cases this
def mB (z size R:Int):Bool:=decide (0<=size)&&decide (size<=256)&&(decide (0<=R)&&decide (R<=512))&&(decide (0<=z)&&decide (z<=3))
def agG (z size R:Nat) (E:z<=3) (G:size<=256) (ah:R<=512):Fn prog 117 [ab (z:Int),ab (size:Int),ab (R:Int)] [] [1001,1002,1003,1004] (.b4 [.one (.ptr 1001 0),dw 0]) (dz (gl z size R)):=by
 refine aP [3] func117 ?_;refine av (Fn.aT [(1001,1002),(1002,2002)] (LU size G)) <| av (Fn.aT [(1001,1003),(1002,2003)] (G6 (R:Int) aD7 aD7)) <| bw [] (cz [(0,ab (z:Int)),(8,ap 1002),(9,ab 0),(10,ap 1003),(11,ab 0)] [(1002,.az (rR (List.replicate size b9))),(1003,.az (rS (List.replicate R (0:Int))))]) <| dh <| dh ⟨fun h=>?_,fun h=>?_⟩
 .exfalso;have h:(z:Int) < 0:=gd h;omega
 refine⟨fun h=>?_,fun h=>?_⟩
 .exfalso;have h:(3:Int) < (z:Int):=gd h;omega
 exact⟨rfl,rfl,_,_,_,(ac.aT 41 1001 rfl).trans ((ac.aT 39 1004 rfl).trans (ac.Sg 1004 rfl)),rfl,aA,aA,rfl⟩
def agH {z size R:Int} (h:mB z size R=false): ¬(0<=size/\size<=256)\/ ¬(0<=R/\R<=512)\/ ¬(0<=z/\z<=3):=by
 unfold mB at h
 by_cases E:0<=size/\size<=256
 .by_cases G:0<=R/\R<=512
  .by_cases ah:0<=z/\z<=3
   .rw[au1 E.1,au1 E.2,au1 G.1,au1 G.2,au1 ah.1,au1 ah.2] at h
    cases h
   .exact .inr (.inr ah)
  .exact .inr (.inl G)
 .exact .inl E
def agI (z size R:Int) (h:mB z size R=false):Fn prog 117 [ab z,ab size,ab R] [] [] (.b4 [pL,dw 1]) []:=by
 have O:=agH h;refine aP [] func117 ?_
 by_cases E:0<=size/\size<=256
 .obtain⟨en,rfl⟩: ∃n:Nat,size=(n:Int):=⟨size.toNat,aD7⟩;refine av (Fn.aT [(1001,1002),(1002,2002)] (LU en aD7)) ?_
  by_cases G:0<=R/\R<=512
  .refine av (Fn.aT [(1001,1003),(1002,2003)] (G6 R aD7 aD7)) <| dh <| dh ⟨fun _=>?_,fun ah=>?_⟩
   .exact bb
   .refine⟨fun _=>?_,fun aS=>?_⟩
    .exact bb
    .exfalso;have ah: ¬z < 0:=oj ah;have aS: ¬(3:Int) < z:=oj aS;omega
  .exact av (S0 R G) <| dh <| fR bb
 .refine av (afN size E) ?_
  by_cases G:0<=R/\R<=512
  .exact av (Fn.aT [(1001,1003),(1002,2003)] (G6 R aD7 aD7)) <| fR bb
  .exact av (S0 R G) <| fR bb
end
section
structure aI where
 nm:aH3
 back:aH3
 ad:Nat
 am:Nat
 im:bL
 cT:Option (Nat->Nat)
abbrev aH6:=List aI
def k0 (d:aI):bc:=match d.cT with
 |none=>je d.im
 |some bs=>.nD (dz d.im) (fun c=>cond (Nat.beq c 1001) d.am (bs c))
abbrev ma (d:aI):aa .str×aa .aL:=((d.nm:aa .str),(some d.ad:aa .aL))
def cW (L:aH6):List (aa .str×aa .aL):=L.map ma
abbrev Hl (am:Nat) (back:aH3):List bA:=[.d (.aL (some am)),.d (.str back)]
def uv (am:Nat) (back:aH3):bc:=bc.ch (.cells (Hl am back)) (fun _=>rfl)
def jU (L:aH6):List (Nat×bc):=L.map fun d=>(d.ad,uv d.am d.back)
def gQ (L:aH6):List (Nat×bc):=L.map fun d=>(d.am,k0 d)
abbrev uw (z R:Int):List bA:=[.d (.int .i64 z),.d (.int .i64 R),.mp 1002]
abbrev bP (z R:Int) (L:aH6):ay:=[(1001,.cells (uw z R)),(1002,.map .str .aL (cW L)),(1003,.az (.bt (jU L))),(1004,.az (.bt (gQ L)))]
def dk (L:aH6) (nm:aH3):Option aI:=L.find? fun d=>decide (d.nm=nm)
def cP {L:aH6} {nm:aH3} {d:aI} (h:dk L nm=some d):d∈L/\d.nm=nm:=⟨aD3 h,by have:=List.find?_some h;simpa using this⟩
def jA (nm:aH3): ∀L:List aI,(bX (aF:=.str) (aJ:=.aL) (cW L) nm).getD (cO .aL)=((dk L nm).map (·.ad):Option Nat)
 | []=>rfl
 |d::L=>by
  have bk:=jA nm L;show(bX (aF:=.str) (aJ:=.aL) (ma d::cW L) nm).getD (cO .aL)=_;rw[show dk (d::L) nm=if decide (d.nm=nm)=true then some d else dk L nm by unfold dk;rw[List.find?_cons];split <;>rename_i h <;>rw[h] <;>rfl];rw[show bX (aF:=.str) (aJ:=.aL) (ma d::cW L) nm=match fT .str (nm:aa .str) (ma d).1 with |true=>some (ma d).2 |false=>bX (aF:=.str) (aJ:=.aL) (cW L) nm from rfl]
  by_cases e:d.nm=nm
  .rw[show fT .str (nm:aa .str) (ma d).1=true from(qD _ _).2 e.symm,show decide (d.nm=nm)=true from au1 e];rfl
  .rw[show fT .str (nm:aa .str) (ma d).1=false from rM (aF:=.str) qD (fun h=>e h.symm),show decide (d.nm=nm)=false from ax2 e];exact bk
def Mh {f:aI->Nat×bc}: ∀{L:aH6},(L.map fun d=>(f d).1).Nodup-> ∀{d:aI},d∈L->eZ (L.map f) (f d).1=some (f d).2
 | [],_,d,h=>by cases h
 |e::L,hn,d,h=>by
  rw[au9] at hn;obtain⟨cC,dg⟩:=aw6.1 hn;rw[au9];unfold eZ;rcases at7.1 h with rfl |h
  .rw[vj rfl]
  .rw[mu (fun e=>cC (by rw[e];exact aw1 (f:=fun d=>(f d).1) h))];exact Mh dg h
structure iI (L:aH6):Prop where
 kb:(L.map (·.nm)).Nodup
 nH:(L.map (·.ad)).Nodup
 y8:(L.map (·.am)).Nodup
def iI.D {L:aH6} (h:iI L) {d:aI} (H:d∈L):eZ (jU L) d.ad=some (uv d.am d.back):=Mh (f:=fun d=>(d.ad,uv d.am d.back)) h.nH H
def iI.M {L:aH6} (h:iI L) {d:aI} (H:d∈L):eZ (gQ L) d.am=some (k0 d):=Mh (f:=fun d=>(d.am,k0 d)) h.y8 H
def xf:(prog.info? 46).map (·.size)=some 1:=by kernel_rfl
def Hm:(prog.info? 9).map (·.size)=some 1:=by kernel_rfl
def Bm (z R:Int) (L:aH6) (b:aH3):Fn prog 118 [ap 1001,bN b] (bP z R L) [] (gb (decide (b=[])||(dk L b).isSome)) (bP z R L):=by
 have aV:=jA b L;refine aP [] func118 ?_;refine⟨fun h=>?_,fun h=>?_⟩
 .have h:b=[]:=gd h;exact ea bn rfl (show true=_ by rw[au1 h];rfl)
 .have h: ¬b=[]:=oj h;refine⟨fun d5 h'=>?_,fun h'=>?_⟩
  .have h':(bX (aF:=.str) (aJ:=.aL) (cW L) b).getD (cO .aL)=some d5:=h';rw[aV] at h'
   exact⟨_,_,_,bn,rfl,(show true=_ by rw[ax2 h];cases e:dk L b with
    |none=>rw[e] at h';cases h'
    |some d=>rfl),aA,rfl⟩
  .have h':(bX (aF:=.str) (aJ:=.aL) (cW L) b).getD (cO .aL)=none:=h';rw[aV] at h'
   exact⟨_,_,_,bn,rfl,(show false=_ by rw[ax2 h];cases e:dk L b with
    |none=>rfl
    |some d=>rw[e] at h';cases h'),aA,rfl⟩
def agJ {L:aH6} {nm:aH3} {d5:Nat} (h:(bX (aF:=.str) (aJ:=.aL) (cW L) nm).getD (cO .aL)=some d5): ∃d,dk L nm=some d/\d.ad=d5:=by
 rw[jA] at h
 cases e:dk L nm with
 |none=>rw[e] at h;cases h
 |some d=>
  rw[e] at h;injection h with h
  exact⟨d,rfl,h⟩
def nI {x:aI4} {b:Nat} (h:x=some b):aN.c (dQ.one (bA.d (D.aL x)))= .c (.one (.d (.aL (some b)))):=by rw[h]
def jV (z R:Int) (L:aH6) (eM:iI L) (nm:aH3) (d:aI) (H:dk L nm=some d):Fn prog 15 [ap 1001,bN nm] (bP z R L) [] (dd d.am) (bP z R L):=by
 obtain⟨pW,hd,he⟩:=lp xf;have cG:=eM.D (cP H).1;have h':(bX (aF:=.str) (aJ:=.aL) (cW L) nm).getD (cO .aL)=some d.ad:=by rw[jA,H];rfl
 refine aP [] func15 ?_;refine⟨fun d5 O=>bm (fun N=>kx (b:=d.ad) rfl (by exact nI h') N) ?_,fun O=>at1 (show(bX (aF:=.str) (aJ:=.aL) (cW L) nm).getD (cO .aL)=none from O) aF3⟩;refine bm (fun N=>kY rfl underlying106 rfl rfl hd aF4 rfl N) ?_;refine bm (my (q:=1003) rfl underlying46 rfl rfl rfl cG rfl) ?_;exact bb
def agK (z R:Int) (L:aH6) (nm:aH3) (H:dk L nm=none):Fn prog 15 [ap 1001,bN nm] (bP z R L) [] (.c pL) (bP z R L):=by
 have h':(bX (aF:=.str) (aJ:=.aL) (cW L) nm).getD (cO .aL)=none:=by rw[jA,H];rfl
 refine aP [] func15 ?_;exact⟨fun d5 O=>at1 (show(bX (aF:=.str) (aJ:=.aL) (cW L) nm).getD (cO .aL)=some d5 from O) aF3,fun _=>bb⟩
def agL (z R:Int) (L:aH6) (eM:iI L) (nm:aH3) (d:aI) (H:dk L nm=some d):Fn prog 134 [ap 1001,bN nm] (bP z R L) [] (.b4 [.one (.d (.str d.back)),dw 0]) (bP z R L):=by
 obtain⟨pW,hd,he⟩:=lp Hm;have cG:=eM.D (cP H).1;have h':(bX (aF:=.str) (aJ:=.aL) (cW L) nm).getD (cO .aL)=some d.ad:=by rw[jA,H];rfl
 refine aP [] func134 ?_;refine⟨fun d5 O=>bm (fun N=>kx (b:=d.ad) rfl (by exact nI h') N) ?_,fun O=>at1 (show(bX (aF:=.str) (aJ:=.aL) (cW L) nm).getD (cO .aL)=none from O) aF3⟩;refine bm (fun N=>kY rfl underlying106 rfl rfl hd aF4 rfl N) ?_;refine bm (my (q:=1003) rfl underlying9 rfl rfl rfl cG rfl) ?_;exact bb
def agM (z R:Int) (L:aH6) (nm:aH3) (H:dk L nm=none):Fn prog 134 [ap 1001,bN nm] (bP z R L) [] (.b4 [.one (.d (.str [])),dw 140]) (bP z R L):=by
 have h':(bX (aF:=.str) (aJ:=.aL) (cW L) nm).getD (cO .aL)=none:=by rw[jA,H];rfl
 refine aP [] func134 ?_;exact⟨fun d5 O=>at1 (show(bX (aF:=.str) (aJ:=.aL) (cW L) nm).getD (cO .aL)=some d5 from O) aF3,fun _=>bb⟩
inductive ef (L:aH6):aH3->Nat->Prop where
 |gone {nm}:dk L nm=none->ef L nm 0
 |base {nm d}:dk L nm=some d->d.back=[]->ef L nm 0
 |step {nm d k}:dk L nm=some d->d.back≠[]->ef L d.back k->ef L nm (k+1)
def c6 (L:aH6):Nat->aH3->List aH3
 |0,_=>[]
 |k+1,nm=>match dk L nm with
  |none=>[]
  |some d=>d.back::c6 L k d.back
def eN (L:aH6):Nat->aH3->aH3
 |0,nm=>nm
 |j+1,nm=>match dk L nm with
  |none=>nm
  |some d=>eN L j d.back
def Bn (L:aH6): ∀(j:Nat) (nm:aH3),eN L (j+1) nm=match dk L (eN L j nm) with
  |none=>eN L j nm
  |some d=>d.back
 |0,nm=>by
  show(match dk L nm with |none=>nm |some d=>d.back)=_;rfl
 |j+1,nm=>by
  show(match dk L nm with |none=>nm |some d=>eN L (j+1) d.back)=_
  cases e:dk L nm with
  |none=>
   simp only;rw[show eN L (j+1) nm=nm by show(match dk L nm with |none=>nm |some d=>eN L j d.back)=nm;rw[e]];rw[e]
  |some d=>
   simp only;rw[Bn L j d.back];rw[show eN L (j+1) nm=eN L j d.back by show(match dk L nm with |none=>nm |some d=>eN L j d.back)=_;rw[e]]
def Hn {L:aH6}: ∀{k:Nat} {nm:aH3},ef L nm k-> ∀j,j<=k->ef L (eN L j nm) (k - j)
 |_,_,h,0,_=>h
 |k+1,nm,.step (d:=d) E G ah,j+1,V=>by
  rw[show eN L (j+1) nm=eN L j d.back by show(match dk L nm with |none=>nm |some d=>eN L j d.back)=_;rw[E]];rw[Nat.add_sub_add_right];exact Hn ah j aD7
 |0,_,_,j+1,V=>at1 V aD7
def pX {L:aH6} {nm:aH3} {k:Nat} (h:ef L nm k):(c6 L k nm).length=k:=by
 induction h with
 |gone _=>rfl
 |base _ _=>rfl
 |step E G _ bk=>
  unfold c6;rw[E];simp only[aw7,bk]
def Ho {L:aH6}: ∀{k:Nat} {nm:aH3},ef L nm k-> ∀j,j < k->(c6 L k nm).take (j+1)=(c6 L k nm).take j++[eN L (j+1) nm]
 |k+1,nm,.step (d:=d) E G ah,0,_=>by
  unfold c6;rw[E];simp only[List.take_succ_cons,List.take_zero,aD4];rw[show eN L 1 nm=d.back by show(match dk L nm with |none=>nm |some d=>eN L 0 d.back)=_;rw[E];rfl]
 |k+1,nm,.step (d:=d) E G ah,j+1,V=>by
  have bk:=Ho ah j aD7;unfold c6;rw[E];simp only[List.take_succ_cons,List.cons_append];rw[bk];rw[show eN L (j+1+1) nm=eN L (j+1) d.back by show(match dk L nm with |none=>nm |some d=>eN L (j+1) d.back)=_;rw[E]]
 |0,_,_,j,V=>at1 V aD7
abbrev Bo (x:aI4):aN:=.c (.one (.d (.aL x)))
abbrev Tp (L:aH6) (nm:aH3) (j:Nat):aW:=[(0,ap 1001),(5,dY 5002),(6,Bo ((dk L (eN L j nm)).map (·.ad)))]
abbrev Tq (z R:Int) (L:aH6) (k:Nat) (nm:aH3) (j:Nat):ay:=bP z R L++[(5002,.row 9 .str ((c6 L k nm).take j))]
abbrev agN (L:aH6) (nm:aH3) (j:Nat):aW:=[(0,ap 1001),(5,dY 35),(6,Bo ((dk L (eN L j nm)).map (·.ad)))]
abbrev agO (z R:Int) (L:aH6) (k:Nat) (nm:aH3) (j:Nat):ay:=bP z R L++[(35,.row 9 .str ((c6 L k nm).take j))]
def Bp (z R:Int) (L:aH6) (eM:iI L) (nm:aH3) (k:Nat) (Z:ef L nm k) (hr:k<=1000000):Fn prog 119 [ap 1001,bN nm] (bP z R L) [] (bE .str (c6 L k nm)) (bP z R L):=by
 obtain⟨pW,hd,he⟩:=lp Hm;have fO:=pX Z;refine aP [2,7] func119 ?_;refine bw [7] (bn) <| dZ [6,4,7] (X:=Nat) (Tp L nm) (fun j=>Tq z R L k nm j) (fun j=>j<=k) (fun j=>k - j) 0 (at6 _) ?_ ?_
 .refine(ac.nil 5 5002 9 .str rfl rfl).trans (ac.sub ⟨rfl,rfl,?_,trivial⟩ aA);exact jA nm L
 intro j V;have jB:=Hn Z j V;have oh:k - j=0->(c6 L k nm).take j=c6 L k nm:=fun h=>ax3 aD7
 refine⟨fun d5 h'=>?_,fun h'=>?_⟩
 .obtain⟨d,H,rfl⟩: ∃d,dk L (eN L j nm)=some d/\d.ad=d5:=by
   have h':(dk L (eN L j nm)).map (·.ad)=some d5:=h'
   cases e:dk L (eN L j nm) with
   |none=>rw[e] at h';cases h'
   |some d=>rw[e] at h';injection h' with h';exact⟨d,rfl,h'⟩
  have cG:=eM.D (cP H).1;have hx:(dk L (eN L j nm)).map (·.ad)=some d.ad:=by rw[H];rfl
  refine bm (fun N=>kx (b:=d.ad) rfl aG3 N) ?_;refine bm (fun N=>kY rfl underlying106 rfl rfl hd aF4 rfl N) ?_;refine bm (my (q:=1003) rfl underlying9 rfl rfl rfl cG rfl) ?_;refine⟨fun O=>?_,fun O=>?_⟩
  .have O:d.back=[]:=gd O
   have ar:k - j=0:=by
    generalize k - j=m at jB
    cases jB with
    |gone h=>rfl
    |base _ _=>rfl
    |step E G _=>rw[H] at E;injection E with E;rw[<-E] at G;exact at1 O G
   have cq:=oh ar;exact bw [] (bn) ⟨_,_,_,ac.dH 5002 rfl,rfl,cq,aA,rfl⟩
  .have O: ¬d.back=[]:=oj O
   have jR:j < k:=by
    rcases aB8 j k with h |h
    .exact h
    .exfalso;have ar:k - j=0:=aE5
     rw[ar] at jB
     cases jB with
     |gone h=>rw[H] at h;cases h
     |base E G=>rw[H] at E;injection E with E;rw[<-E] at G;exact O G
   have Tr:eN L (j+1) nm=d.back:=by rw[Bn,H]
   have rE:=Ho Z j jR;rw[Tr] at rE;have ll:((c6 L k nm).take j).length+1<=4294967296:=aF0
   refine bw [4] (cz (Tp L nm j) (Tq z R L k nm j)) <| bm (fun N=>kx (b:=d.ad) rfl aG3 N) ?_;refine bm (fun N=>kY rfl underlying106 rfl rfl hd aF4 rfl N) ?_;refine bm (my (q:=1003) rfl underlying9 rfl rfl rfl cG rfl) ?_;refine⟨ll,rfl,bw [] (ac.sub (K':=agN L nm j) (B':=agO z R L k nm (j+1)) aA ⟨rfl,rfl,rfl,rfl,at2 (fun l:List aH3=>some (a8.row 9 .str l)) rE.symm,trivial⟩) <| bm (fun N=>kx (b:=d.ad) rfl aG3 N) ?_⟩;refine bm (fun N=>kY rfl underlying106 rfl rfl hd aF4 rfl N) ?_;refine bm (my (q:=1003) rfl underlying9 rfl rfl rfl cG rfl) ?_;refine⟨rfl,j+1,aD7,aD7,(ac.aT 35 5002 rfl).trans (ac.sub ⟨rfl,rfl,?_,trivial⟩ aA)⟩;rw[Tr];exact jA d.back L
 .have H:dk L (eN L j nm)=none:=by
   have h':(dk L (eN L j nm)).map (·.ad)=none:=h'
   cases e:dk L (eN L j nm) with
   |none=>rfl
   |some d=>rw[e] at h';cases h'
  have ar:k - j=0:=by
   generalize k - j=m at jB
   cases jB with
   |gone h=>rfl
   |base _ _=>rfl
   |step E G _=>rw[H] at E;cases E
  have cq:=oh ar;exact bw [] (bn) ⟨_,_,_,ac.dH 5002 rfl,rfl,cq,aA,rfl⟩
def h1 {f:aI9} {args:List aN} {res:aN} {d:aI} {M:List (Nat×bc)} (h:Fn prog f (ap 1001::args) (dz d.im) [] res (dz d.im)) (ak:eZ M d.am=some (k0 d)) (E:om 1001 [1002,1003,1004] (ap 1001::args) (dz d.im) [] [] []=true) (G:oo 1001 (m8 [1002,1003,1004] [] []) res (dz d.im) []=true)
  (ah:(args.all fun v=>v.iP [])=true) (aS:res.iP []=true):Fn prog f (dd d.am::args) [(1004,.az (.bt M))] [] res [(1004,.az (.bt M))]:=by
 have gg: ∀{v:aN},v.iP []=true->v.has 1001=false:=fun {v} aB=>by
  cases e:v.has 1001 with
  |false=>rfl
  |true=>exact at1 (aN.kW aB e) List.not_mem_nil
 cases ag:d.cT with
 |none=>
  rw[show k0 d=je d.im by unfold k0;rw[ag]] at ak;have J:Fn prog f (ap 1001::args) [(1001,.az (je d.im))] [] res [(1001,.az (je d.im))]:=Fn.close (bq:=dz d.im) (dI:=dz d.im) (aK:=[]) (aO:=[]) [1002,1003,1004] aE6 (fun _ _ _ _ h=>h) (fun _ _ _ _ h=>h) E G;have:=(cD.bt (c:=1001) (q:=1004) (b:=d.am) (args:=args) (aK:=[]) (ba:=[]) (X:=Unit) (res:=fun _=>res) (aO:=fun _=>[]) (o:=je d.im) (o':=fun _=>je d.im) (L:=M) J.x ak (av4.2 fun v aB=>by rw[gg (av4.1 ah v aB)];rfl) ⟨rfl,rfl⟩ rfl (fun _=>by rw[gg aS];rfl)).fn;rw[AU ak] at this;exact this
 |some bs=>
  rw[show k0 d= .nD (dz d.im) (fun c=>cond (Nat.beq c 1001) d.am (bs c)) by unfold k0;rw[ag]] at ak;exact Fn.aeJ (c:=1001) h ak rfl rfl ah aS
def agP {s:bL} (ax:gk s) {k:Nat} (Z:k < s.t.length):L2 s (k*2 ^s.z) (2 ^s.z)=eh s k none:=by
 have dR:=vK ax Z none;have ag:=jf ax.z;have c1:aG s=16*2 ^s.z:=rfl
 have bC:16*(k*2 ^s.z)/aG s=k:=by
  rw[c1,show 16*(k*2 ^s.z)=k*(16*2 ^s.z) by rw[aC5],Nat.mul_div_cancel _ aD7]
 have em:16*(k*2 ^s.z)=k*aG s:=by rw[c1,aC5]
 have af:cH (aG s) (k*2 ^s.z) (2 ^s.z)=1:=by
  have ar:=uq (a:=k*2 ^s.z) (l:=2 ^s.z) (k:=0) (oA ax.z);have E:=uq (a:=k*2 ^s.z) (l:=2 ^s.z) (k:=1) (oA ax.z);rw[bC,Nat.mul_add,em] at ar E;rw[aA0] at ar;rw[aA6] at E;have a0:=ar.1 ⟨aD7,aD7⟩
  have bM: ¬1 < cH (aG s) (k*2 ^s.z) (2 ^s.z):=fun h=>by
   have:=(E.2 h).2;omega
  omega
 unfold L2;rw[af];show[]++Be s (k*2 ^s.z) (2 ^s.z) 0=_;rw[aD4];unfold Be;have LH:(bj (aG s) (k*2 ^s.z) (2 ^s.z) 0).c=k:=by unfold bj;simp only[bC,aA0]
 have agQ:(bj (aG s) (k*2 ^s.z) (2 ^s.z) 0).a=0:=by
  show 16*(k*2 ^s.z) - (16*(k*2 ^s.z)/aG s+0)*aG s=0;rw[bC,aA0,em,Nat.sub_self]
 have vN:(bj (aG s) (k*2 ^s.z) (2 ^s.z) 0).b=aG s:=by
  show min (16*(k*2 ^s.z+2 ^s.z) - (16*(k*2 ^s.z)/aG s+0)*aG s) (aG s)=aG s;rw[bC,aA0,Nat.mul_add,em,show 16*2 ^s.z=aG s from rfl,Nat.add_sub_cancel_left,Nat.min_self]
 rw[LH,agQ,vN,List.drop_zero,ax3 aD7]
def agR {s:bL} (ax:gk s) {k:Nat} (Z:k < s.t.length):dS s ((k*2 ^s.z:Nat):Int) ((2 ^s.z:Nat):Int)=0:=by
 have h:k*2 ^s.z+2 ^s.z<=e0 s:=by
  have:=az6 (2 ^s.z) (show k+1<=s.t.length from Z);rw[aA6] at this;exact this
 unfold dS;generalize k*2 ^s.z=Q at*;generalize 2 ^s.z=P at*;rw[mu aD7,mu aD7]
structure nJ (z:Nat) (R:Nat) (L:aH6):Prop extends iI L where
 b3:z<=3
 xg:R<=512
 len:L.length<=16
 fK: ∀d,d∈L->gk d.im/\d.im.z=z/\d.im.l.length=R
 iw: ∀d,d∈L->d.back≠[]-> ∃e,dk L d.back=some e
 ne: ∀d,d∈L->d.nm≠[]
 ux: ∀d,d∈L-> ∃k,k<=8/\ef L d.nm k
def Mi {z R:Nat} {L:aH6} (h:nJ z R L) {nm:aH3} {k:Nat} (Z:ef L nm k): ∀n,n∈c6 L k nm-> ∃e,dk L n=some e:=by
 induction Z with
 |gone _=>intro n hn;cases hn
 |base _ _=>intro n hn;cases hn
 | @step nm d k E G ah bk=>
  intro n hn;unfold c6 at hn;rw[E] at hn;rcases at7.1 hn with rfl |hn
  .exact h.iw d (cP E).1 G
  .exact bk n hn
def hg (z:Nat) (L:aH6) (k:Nat):List aH3->Nat->aH3×Nat
 | [],_=>(List.replicate (16*2 ^z) 0,0)
 |n::ns,i=>match dk L n with
  |none=>([],0)
  |some d=>if k < d.im.t.length/\(d.im.t.getD k b9).1≠0 then(eh d.im k none,i+1) else hg z L k ns (i+1)
def Ts {z R:Nat} {L:aH6} (h:nJ z R L) (k:Nat): ∀(ns:aJ5) (i:Nat),(hg z L k ns i).1.length<=128
 | [],i=>by
  show(List.replicate (16*2 ^z) (0:UInt8)).length<=128;rw[au2];have:=jf h.b3;omega
 |n::ns,i=>by
  unfold hg
  cases e:dk L n with
  |none=>exact at6 _
  |some d=>
   simp only
   split
   .rename_i bd;obtain⟨e8,gH,_⟩:=h.fK d (cP e).1;rw[vK e8 bd.1 none];exact(up e8.z).2
   .exact Ts h k ns (i+1)
abbrev Hp (z:Nat) (k:Nat) (l:aJ5) (j:Nat):aW:=[(0,ap 1001),(2,ab (k:Int)),(8,ab ((2 ^z:Nat):Int)),(24,bE .str l),(25,ab (l.length:Nat)),(26,ab (j:Nat))]
abbrev agS (z:Nat) (nm:aH3) (k:Nat):aW:=[(1000000+(1000000+20),.undef),(0,ap 1001),(1,bN nm),(2,ab (k:Int)),(8,ab ((2 ^z:Nat):Int))]
def agT:(prog.info? 9).map (fun i=>(i.zero,i.size,i.bytes))=some (some (.string ⟨#[]⟩),1,16):=by kernel_rfl
def Tt (z R:Nat) (L:aH6) (dr:nJ z R L) (nm:aH3) (bI:aI) (ar:dk L nm=some bI) (cQ:Nat) (hp:ef L nm cQ) (pY:cQ<=100) (k:Nat) (Z:k<=100000):
  Fn prog 179 [ap 1001,bN nm,ab (k:Int)] (bP z R L) [] (.b4 [.one (.d (.b' .u8 (hg z L k (nm::c6 L cQ nm) 0).1)),.one (.d (.int .i64 (((hg z L k (nm::c6 L cQ nm) 0).2:Nat):Int)))]) (bP z R L):=by
 obtain⟨pW,hd,he⟩:=lp xf;obtain⟨asG,agU,agV,agW,asH⟩:=info_parts agT;have ag:=jf dr.b3;have bW:=pX hp
 have hs: ∀n,n∈nm::c6 L cQ nm-> ∃e,dk L n=some e:=fun n hn=>by
  rcases at7.1 hn with rfl |hn
  .exact⟨bI,ar⟩
  .exact Mi dr hp n hn
 have af:(1:Int)*((2 ^z:Nat):Int)=((2 ^z:Nat):Int):=Int.one_mul _;obtain⟨l,al⟩: ∃l,l=nm::c6 L cQ nm:=⟨_,rfl⟩;have ll:l.length=cQ+1:=by rw[al,aw7,bW]
 refine aP [2,5,6,7,8,10] func179 ?_;have m1:(0:Int)<=1/\(0:Int)<=(z:Int)/\(z:Int)<=64:=by have:=dr.b3;omega
 have m2:(-9223372036854775808:Int)<=1*((2 ^z:Nat):Int)/\(1:Int)*((2 ^z:Nat):Int)<=9223372036854775807:=by rw[af];omega
 refine⟨m1,m2,bG.ju 20 aD8 <| bw [5,6,7,8,10] (ac.sub (K':=agS z nm k) (B':=bP z R L) ⟨trivial,rfl,rfl,rfl,af,trivial⟩ aA) <| bm (aeg (d:=20) rfl underlying37 agU agV agW rfl) ?_⟩;refine av (Bp z R L dr.toiI nm cQ hp aD7) ?_;have gD: [nm].length+(c6 L cQ nm).length<=4294967296:=by rw[bW];simp;omega
 refine⟨gD,rfl,dZ [5,6,7,8,10] (X:=Nat) (Hp z k l) (fun _=>bP z R L) (fun j=>j<=l.length/\hg z L k (l.drop j) j=hg z L k l 0) (fun j=>l.length - j) 0 ⟨at6 _,by rw[List.drop_zero]⟩ ?_ ?_⟩
 .subst al;exact(ac.dH (e:=9) (u:=.str) (xs:=nm::c6 L cQ nm) 24 rfl).trans (ac.sub aA aA)
 rintro j ⟨V,jt⟩;rw[<-al];refine⟨fun h=>?_,fun h=>?_⟩
 .have h:decide ((j:Int) < (l.length:Nat))=true:=h;have fE:j < l.length:=aE6
  obtain⟨d,H⟩:=hs l[j] (by rw[<-al];exact av5 fE);have Hq:=(cP H).1;obtain⟨e8,gH,mA⟩:=dr.fK d Hq;have lq:=dr.toiI.D Hq;have fg:=dr.toiI.M Hq;have hx:(bX (aF:=.str) (aJ:=.aL) (cW L) l[j]).getD (cO .aL)=some d.ad:=by rw[jA,H];rfl
  have DO:l.drop j=l[j]::l.drop (j+1):=aA4 fE
  have y9:hg z L k (l.drop j) j=if k < d.im.t.length/\(d.im.t.getD k b9).1≠0 then(eh d.im k none,j+1) else hg z L k (l.drop (j+1)) (j+1):=by
   rw[DO];show(match dk L l[j] with |none=>([],0) |some d=>_)=_;rw[H]
  have m3:(0:Int)<=(j:Int):=aE5
  have rZ:c5 ((j:Int)+1):=aE5
  refine⟨m3,l[j],lE (n:=j) fE,?_⟩;generalize l[j]=n at*;refine bw [6,7,8,10] (cz ((9,ab (j:Nat))::(10,bN n)::Hp z k l j) (bP z R L)) <| bm (fun N=>kx (b:=d.ad) rfl aG3 N) ?_;refine bm (fun N=>kY rfl underlying106 rfl rfl hd aF4 rfl N) ?_;refine bm (my (q:=1003) rfl underlying46 rfl rfl rfl lq rfl) ?_;refine bw [7,8,10] (cz ((9,ab (j:Nat))::(11,dd d.am)::Hp z k l j) (bP z R L)) <| av (h1 (nc d.im) fg rfl rfl rfl rfl) ⟨fun E=>?_,fun E=>?_⟩
  .have E:(k:Int) < (d.im.t.length:Nat):=gd E;have cd:k < d.im.t.length:=aE5
   refine av (h1 (Bg d.im e8.ez k cd) fg rfl rfl rfl rfl) ⟨fun G=>?_,fun G=>?_⟩
   .have G:(d.im.t.getD k b9).1≠0:=by
     have G:(!decide ((d.im.t.getD k b9).1=0))=true:=G;simpa using G
    rw[y9,vj ⟨cd,G⟩] at jt;have dP:=agR e8 cd;have mb:=Tf d.im e8 (k*2 ^d.im.z) (2 ^d.im.z) dP;rw[agP e8 cd] at mb;rw[gH] at mb dP;have dE:((k*2 ^z:Nat):Int)=(k:Int)*((2 ^z:Nat):Int):=aB3 _ _;rw[dE] at mb
    have iu:c5 ((k:Int)*((2 ^z:Nat):Int)):=by
     rw[<-dE];have:=ay8 Z ag.2;omega
    refine bw [8,10] (cz ((9,ab (j:Nat))::(11,dd d.am)::Hp z k l j) (bP z R L)) ⟨iu,av (h1 mb fg rfl rfl rfl rfl) <| bw [] (bn) ?_⟩;have ur:c5 ((j:Int)+1):=aE5
    refine⟨ur,_,_,_,bn,rfl,⟨?_,?_,trivial⟩,aA,rfl⟩
    .exact at2 Prod.fst jt
    .show(j:Int)+1=_;rw[<-jt];rfl
   .have G:(d.im.t.getD k b9).1=0:=by
     have G:(!decide ((d.im.t.getD k b9).1=0))=false:=G;simpa using G
    rw[y9,mu (fun h=>h.2 G)] at jt;exact⟨rZ,j+1,⟨fE,jt⟩,aD7,ac.sub aA aA⟩
  .have E: ¬(k:Int) < (d.im.t.length:Nat):=oj E;rw[y9,mu (fun h=>E (by have:=h.1;omega))] at jt;exact⟨rZ,j+1,⟨fE,jt⟩,aD7,ac.sub aA aA⟩
 .have h:decide ((j:Int) < (l.length:Nat))=false:=h;have fE:j=l.length:=aH1
  subst fE;rw[List.drop_length] at jt;have Bq:((2 ^z:Nat):Int)*16=((16*2 ^z:Nat):Int):=aE5
  have Mj:c5 (((2 ^z:Nat):Int)*16):=by rw[Bq];omega
  have Mk:((2 ^z:Nat):Int)*16=((2 ^z:Nat):Int)*16/\(0:Int)<=((2 ^z:Nat):Int)*16/\((2 ^z:Nat):Int)*16<=4294967296:=by rw[Bq];omega
  refine bw [] (bn) ⟨Mj,Mk,rfl,_,_,_,ac.dH 65 rfl,rfl,⟨?_,?_,trivial⟩,aA,rfl⟩
  .have agX:List.replicate (((2 ^z:Nat):Int)*16).toNat (0:UInt8)=(hg z L k l 0).1:=by
    rw[<-jt,Bq];rfl
   exact agX
  .show(0:Int)=_;rw[<-jt];rfl
def agY {a b:Int} (E:0<=a) (G:a<=9223372036854775807) (ah:0<=b) (aS:b<=9223372036854775807):
  IntKind.i64.wrap (((BitVec.ofInt 64 a &&& BitVec.ofInt 64 b).toNat:Nat):Int)=((a.toNat &&& b.toNat:Nat):Int):=by
 have af:(BitVec.ofInt 64 a).toNat=a.toNat:=by rw[BitVec.toNat_ofInt];omega
 have ao:(BitVec.ofInt 64 b).toNat=b.toNat:=by rw[BitVec.toNat_ofInt];omega
 rw[BitVec.toNat_and,af,ao];have h:a.toNat &&& b.toNat < 2 ^63:=Nat.and_lt_two_pow _ aD7;exact Aj (by simp only[wI];omega)
def Ml {P:aI0} {ids:aH4} {K:aW} {B:ay} {o:Oper} {T gc:aI3} {x y:aI2} {a b:Int} (ai:o.op= .binOp .and T x y gc) (hx:a1 K x= .c (.one (.d (.int .i64 a)))) (aD:a1 K y= .c (.one (.d (.int .i64 b)))) (E:0<=a) (G:a<=9223372036854775807) (ah:0<=b) (aS:b<=9223372036854775807) (N:Nat):
  bx P N ids o K B (.c (.one (.d (.int .i64 ((a.toNat &&& b.toNat:Nat):Int))))) ⟨[],[],[]⟩:=by
 have m1:x∈o.op.operands:=aE4
 have m2:y∈o.op.operands:=aE4
 refine bx.val fun K' B' g1 g2 C ρ F fq w ak au=>?_
 have af:=au.int ((g1 x m1).trans hx);have ao:=au.int ((g1 y m2).trans aD);refine⟨_,?_,rfl⟩;have e:=agY E G ah aS
 have aw:Op.intBits .and .i64 a b=pure (.int .i64 ((a.toNat &&& b.toNat:Nat):Int)):=by
  exact at2 (fun aH:Int=>(pure (Value.int .i64 aH):Sem Value)) e
 simp only[execOp,ai,af,ao,eqGuard,binOp,aw];simp[go_sem]
def fl (z:Nat) (L:aH6) (nm:aH3) (cQ k:Nat):aH3:=(hg z L k (nm::c6 L cQ nm) 0).1
def Mm (z R:Nat) (L:aH6) (dr:nJ z R L) (nm:aH3) (bI:aI) (ar:dk L nm=some bI) (cQ:Nat) (hp:ef L nm cQ) (pY:cQ<=100) (k:Nat) (Z:k < bI.im.t.length):
  Fn prog 114 [ap 1001,bN nm,ab (k:Int)] (bP z R L) [] (bE .u8 (fl z L nm cQ k)) (bP z R L):=by
 obtain⟨pW,hd,he⟩:=lp xf;have H:=(cP ar).1;obtain⟨e8,gH,mA⟩:=dr.fK bI H;have lq:=dr.toiI.D H;have fg:=dr.toiI.M H;have hx:(bX (aF:=.str) (aJ:=.aL) (cW L) nm).getD (cO .aL)=some bI.ad:=aG2
 have lK:=e8.ez;refine aP [2,4] func114 ?_;refine bw [4] (bn) ?_;refine⟨fun d5 O=>⟨fun h=>at1 (gd h) aD7,fun _=>bm (fun N=>kx (b:=bI.ad) rfl aG3 N) ?_⟩,fun O=>at1 (show(bX (aF:=.str) (aJ:=.aL) (cW L) nm).getD (cO .aL)=none from O) aF2⟩;refine bm (fun N=>kY rfl underlying106 rfl rfl hd aF4 rfl N) ?_;refine bm (my (q:=1003) rfl underlying46 rfl rfl rfl lq rfl) ?_;refine av (h1 (nc bI.im) fg rfl rfl rfl rfl) ⟨fun h=>?_,fun _=>?_⟩
 .exfalso;have h:((bI.im.t.length:Nat):Int)<=(k:Int):=gd h;omega
 exact bw [] (cz [(0,ap 1001),(1,bN nm),(2,ab (k:Int))] (bP z R L)) <| av (Tt z R L dr nm bI ar cQ hp pY k aD7) bb
def agZ (z R:Nat) (E:z<=3) (ah:R<=512):Fn prog 61 [ab (z:Int),ab (R:Int)] [] [1001,1002,1003,1004] (.b4 [.one (.ptr 1001 0),dw 0]) (bP z R []):=by refine aP [2] func61 ?_;exact av (Fn.aT [(1001,2001),(1002,2002),(1003,2003),(1004,2004)] (agG z 0 R E aD8 ah)) <| bw [] (cz [(0,ab (z:Int)),(1,ab (R:Int)),(7,ab 0)] []) <| dh ⟨rfl,rfl,_,_,_,(ac.aT 21 1001 rfl).trans ((ac.aT 19 1002 rfl).trans ((ac.vy 1003 rfl).trans (ac.vy 1004 rfl))),rfl,aA,aA,rfl⟩
def jC (z:Nat) (L:aH6) (nm:aH3) (cQ s:Nat):aH3:=((fl z L nm cQ (s/2 ^z)).take (s % 2 ^z*16+16)).drop (s % 2 ^z*16)
def jD (z:Nat) (L:aH6) (nm:aH3) (cQ a:Nat):Nat->aH3
 |0=>[]
 |j+1=>jD z L nm cQ a j++jC z L nm cQ (a+j)
def Mn {z R:Nat} {L:aH6} (h:nJ z R L) (k:Nat): ∀(ns:aJ5) (i:Nat),(∀n,n∈ns-> ∃e,dk L n=some e)->(hg z L k ns i).1.length=16*2 ^z
 | [],i,_=>au2
 |n::ns,i,hn=>by
  obtain⟨d,e⟩:=hn n (au7 ..);unfold hg;rw[e];simp only
  split
  .rename_i bd;obtain⟨e8,gH,_⟩:=h.fK d (cP e).1;rw[vK e8 bd.1 none];show 16*2 ^d.im.z=_;rw[gH]
  .exact Mn h k ns (i+1) fun n aC=>hn n (at4 _ aC)
def za {z R:Nat} {L:aH6} (h:nJ z R L) {nm:aH3} {bI:aI} (ar:dk L nm=some bI) {cQ:Nat} (hp:ef L nm cQ) (k:Nat):(fl z L nm cQ k).length=16*2 ^z:=
 Mn h k _ 0 fun n hn=>by
  rcases at7.1 hn with rfl |hn
  .exact⟨bI,ar⟩
  .exact Mi h hp n hn
def zb {z R:Nat} {L:aH6} (h:nJ z R L) {nm:aH3} {bI:aI} (ar:dk L nm=some bI) {cQ:Nat} (hp:ef L nm cQ) (a:Nat): ∀j,(jD z L nm cQ a j).length=16*j
 |0=>rfl
 |j+1=>by
  have bk:=zb h ar hp a j;have J:=za h ar hp ((a+j)/2 ^z);have ag:=(jf h.b3).1;have aC:(a+j) % 2 ^z < 2 ^z:=Nat.mod_lt _ aD7;show(jD z L nm cQ a j++jC z L nm cQ (a+j)).length=_;rw[as9,bk];unfold jC;rw[ax8,at9,J];generalize(a+j) % 2 ^z=m at*;generalize 2 ^z=P at*;omega
abbrev Tu (nm:aH3) (a l j:Nat):aW:=[(0,ap 1001),(1,bN nm),(2,ab (a:Int)),(3,ab (l:Int)),(13,dY 5002),(14,ab ((a+j:Nat):Int))]
abbrev ag0 (nm:aH3) (a l j:Nat):aW:=[(0,ap 1001),(1,bN nm),(2,ab (a:Int)),(3,ab (l:Int)),(13,dY 70),(14,ab ((a+j:Nat):Int))]
abbrev Tv (z R:Int) (L:aH6) (acc:aH3):ay:=bP z R L++[(5002,.row 5 .u8 acc)]
abbrev ag1 (z R:Int) (L:aH6) (acc:aH3):ay:=bP z R L++[(70,.row 5 .u8 acc)]
def ag2 (z R:Nat) (L:aH6) (dr:nJ z R L) (nm:aH3) (bI:aI) (ar:dk L nm=some bI) (cQ:Nat) (hp:ef L nm cQ) (pY:cQ<=100) (a l:Nat) (dP:dS bI.im a l=0):
  Fn prog 57 [ap 1001,bN nm,ab (a:Int),ab (l:Int)] (bP z R L) [2001] (.b4 [.one (.own 2001),dw 0]) (bP z R L++[(2001,.row 5 .u8 (jD z L nm cQ a l))]):=by
 obtain⟨pW,hd,he⟩:=lp xf;have H:=(cP ar).1;obtain⟨e8,gH,mA⟩:=dr.fK bI H;have lq:=dr.toiI.D H;have fg:=dr.toiI.M H;have hx:(bX (aF:=.str) (aJ:=.aL) (cW L) nm).getD (cO .aL)=some bI.ad:=aG2
 have ag:=jf dr.b3;have dM:=pk dP;have tb:e0 bI.im<=2048:=ay8 e8.ez (jf e8.z).2;have xh:e0 bI.im=bI.im.t.length*2 ^z:=by unfold e0;rw[gH]
 refine aP [2,5,7,9,11,12] func57 ?_;refine bw [5,7,9,11,12] (bn) ?_;refine⟨fun d5 O=>bm (fun N=>kx (b:=bI.ad) rfl aG3 N) ?_,fun O=>at1 (show(bX (aF:=.str) (aJ:=.aL) (cW L) nm).getD (cO .aL)=none from O) aF2⟩;refine bm (fun N=>kY rfl underlying106 rfl rfl hd aF4 rfl N) ?_;refine bm (my (q:=1003) rfl underlying46 rfl rfl rfl lq rfl) ?_;refine av (h1 (Tf bI.im e8 a l dP) fg rfl rfl rfl rfl) <| bw [7,9,11,12] (cz [(0,ap 1001),(1,bN nm),(2,ab (a:Int)),(3,ab (l:Int)),(12,ab 0)] (bP z R L)) <| dh <| bw [9,11,12] (bn) <| dZ [11,12] (X:=Nat) (Tu nm a l) (fun j=>Tv z R L (jD z L nm cQ a j)) (fun j=>j<=l) (fun j=>l - j) 0 (at6 _) ?_ ?_
 .exact(ac.nil 13 5002 5 .u8 rfl rfl).trans (ac.sub aA aA)
 intro j V;have m1:c5 ((a:Int)+(l:Int)):=aE5
 refine⟨m1,fun h=>?_,fun h=>?_⟩
 .have h:((a+j:Nat):Int) < (a:Int)+(l:Int):=gd h;have sD:j < l:=aE5
  have Mo:=zb dr ar hp a j
  have cd:(a+j)/2 ^z < bI.im.t.length:=by
   rw[aA9 aD7,<-xh];omega
  have dR:=za dr ar hp ((a+j)/2 ^z);have P8:(a+j) % 2 ^z < 2 ^z:=Nat.mod_lt _ aD7;have ag3:=Mm z R L dr nm bI ar cQ hp pY ((a+j)/2 ^z) cd;have m2:(0:Int)<=((a+j:Nat):Int)/\(0:Int)<=(z:Int)/\(z:Int)<=64:=by have:=dr.b3;omega
  have m3:(0:Int)<=1/\(0:Int)<=(z:Int)/\(z:Int)<=64:=by have:=dr.b3;omega
  have af:(1:Int)*((2 ^z:Nat):Int)=((2 ^z:Nat):Int):=Int.one_mul _;have iu:(-9223372036854775808:Int)<=1*((2 ^z:Nat):Int)/\(1:Int)*((2 ^z:Nat):Int)<=9223372036854775807:=aH2
  have ur:(-9223372036854775808:Int)<=1*((2 ^z:Nat):Int) - 1/\(1:Int)*((2 ^z:Nat):Int) - 1<=9223372036854775807:=aH2
  refine bw [12] (bn) ⟨m2,m3,iu,ur,?_⟩;have et:(1*((2 ^z:Nat):Int) - 1).toNat=2 ^z - 1:=aH2
  have ev:(((((a+j:Nat):Int)).toNat &&& (1*((2 ^z:Nat):Int) - 1).toNat:Nat):Int)=(((a+j) % 2 ^z:Nat):Int):=by
   rw[et,show(((a+j:Nat):Int)).toNat=a+j from rfl,Nat.and_two_pow_sub_one_eq_mod]
  have Bq:(((((a+j:Nat):Int)).toNat &&& (1*((2 ^z:Nat):Int) - 1).toNat:Nat):Int)*16=(((a+j) % 2 ^z*16:Nat):Int):=by rw[ev];omega
  have ag4:((a+j:Nat):Int)/((2 ^z:Nat):Int)=(((a+j)/2 ^z:Nat):Int):=rfl
  have rZ:c5 ((((((a+j:Nat):Int)).toNat &&& (1*((2 ^z:Nat):Int) - 1).toNat:Nat):Int)*16):=by
   rw[Bq];generalize(a+j) % 2 ^z=m at*;generalize 2 ^z=P at*;omega
  refine bm (fun N=>Ml rfl rfl rfl m2.1 aD7 aH2 ur.2 N) ?_;refine⟨rZ,rfl,?_⟩
  have Mj:c5 ((((a+j) % 2 ^z*16:Nat):Int)+16):=by
   generalize(a+j) % 2 ^z=m at*;generalize 2 ^z=P at*;omega
  have Mk:(0:Int)<=(((a+j) % 2 ^z*16:Nat):Int)/\(((a+j) % 2 ^z*16:Nat):Int)<=(((a+j) % 2 ^z*16:Nat):Int)+16/\(((a+j) % 2 ^z*16:Nat):Int)+16<=(((fl z L nm cQ ((a+j)/2 ^z)).length:Nat):Int):=by
   rw[dR];generalize(a+j) % 2 ^z=m at*;generalize 2 ^z=P at*;omega
  have Mp:(jD z L nm cQ a j).length+(jC z L nm cQ (a+j)).length<=4294967296:=by
   have:=zb dr ar hp a (j+1);rw[show jD z L nm cQ a (j+1)=jD z L nm cQ a j++jC z L nm cQ (a+j) from rfl,as9] at this;omega
  refine bw [] (ac.sub (K':=(15,ab (((a+j)/2 ^z:Nat):Int))::(16,ab (((a+j) % 2 ^z*16:Nat):Int))::Tu nm a l j) (B':=Tv z R L (jD z L nm cQ a j)) ⟨ag4,Bq,rfl,rfl,rfl,rfl,rfl,rfl,trivial⟩ aA) <| av ag3 ⟨Mj,Mk,Mp,rfl,?_⟩;have ag5:c5 (((a+j:Nat):Int)+1):=aE5
  exact⟨ag5,j+1,aD7,aD7,ac.trans (cz (ag0 nm a l (j+1)) (ag1 z R L (jD z L nm cQ a (j+1)))) (ac.aT 70 5002 rfl)⟩
 .have h: ¬((a+j:Nat):Int) < (a:Int)+(l:Int):=oj h;have sD:j=l:=aE5
  subst sD;exact⟨_,_,_,ac.aT 5002 2001 rfl,rfl,aA,aA,rfl⟩
def ag6 (z R:Nat) (L:aH6) (dr:nJ z R L) (nm:aH3) (bI:aI) (ar:dk L nm=some bI) (cQ:Nat) (hp:ef L nm cQ) (pY:cQ<=100) (a l:Nat) (dP:dS bI.im a l=0):
  Fn prog 57 [ap 1001,bN nm,ab (a:Int),ab (l:Int)] (bP z R L) [] (.b4 [.one (.d (.b' .u8 (jD z L nm cQ a l))),dw 0]) (bP z R L):=
 Fn.S2 (d:=2001) (ag2 z R L dr nm bI ar cQ hp pY a l dP) rfl rfl rfl
def ag7 (z R:Int) (L:aH6) (nm:aH3) (ar:dk L nm=none) (a l:Int):
  Fn prog 57 [ap 1001,bN nm,ab a,ab l] (bP z R L) [] (.b4 [.one .dC,dw 140]) (bP z R L):=by
 have hx:(bX (aF:=.str) (aJ:=.aL) (cW L) nm).getD (cO .aL)=none:=aG2
 refine aP [] func57 ?_;exact⟨fun d5 O=>at1 (show(bX (aF:=.str) (aJ:=.aL) (cW L) nm).getD (cO .aL)=some d5 from O) aF2,fun _=>bb⟩
def ag8 (z R:Nat) (L:aH6) (dr:nJ z R L) (nm:aH3) (bI:aI) (ar:dk L nm=some bI) (a l:Int) (dP:dS bI.im a l≠0):
  Fn prog 57 [ap 1001,bN nm,ab a,ab l] (bP z R L) [] (.b4 [.one .dC,dw (dS bI.im a l)]) (bP z R L):=by
 obtain⟨pW,hd,he⟩:=lp xf;have H:=(cP ar).1;obtain⟨e8,gH,mA⟩:=dr.fK bI H;have lq:=dr.toiI.D H;have fg:=dr.toiI.M H;have hx:(bX (aF:=.str) (aJ:=.aL) (cW L) nm).getD (cO .aL)=some bI.ad:=aG2
 refine aP [] func57 ?_;refine⟨fun d5 O=>bm (fun N=>kx (b:=bI.ad) rfl aG3 N) ?_,fun O=>at1 (show(bX (aF:=.str) (aJ:=.aL) (cW L) nm).getD (cO .aL)=none from O) aF2⟩;refine bm (fun N=>kY rfl underlying106 rfl rfl hd aF4 rfl N) ?_;refine bm (my (q:=1003) rfl underlying46 rfl rfl rfl lq rfl) ?_;refine av (h1 (agf bI.im e8 a l dP) fg rfl rfl rfl rfl) ?_;exact⟨fun _=>bb,fun h=>at1 (show dS bI.im a l=0 by have h:(!decide (dS bI.im a l=0))=false:=h;simpa using h) dP⟩
end
section
open Go.RowKit Go.Proofs Go.Maps Go.Shelf Go.MapKept _root_.Go.Proofs.Tryz Tryz
open Go.WideElems (Fit rd rg pl rd_val rd_key rg_of)
def ag9 {aJ:bz} (p:aa .str×aa aJ):aH3:=p.1
def mc {aJ:bz} (es:List (aa .str×aa aJ)):List aH3:=es.map ag9
def pZ {aJ:bz} (es:List (aa .str×aa aJ)):List aH3:=(mc es).mergeSort leB
abbrev p0:Value->Option (DataW Unit×List MemPlace):=fun _=>some (.nil,[])
def Tw {I:Nat->Prop} {w:aH9} {aJ:bz}: ∀{l:List (aa .str×aa aJ)} {es:aJ1},io I w .str aJ l es->es.map (·.key)=(mc l).map encStr
 | [],_,h=>by rw[show _=[] from h];rfl
 |p::l,_,⟨e,r,h,E,_,ah⟩=>by
  rw[h,au9,Tw ah,E];rfl
def ag' {P:aI0} {k:aI3} (Z:P.underlying k=some .string) (s:aH3) (h:s.length<=maxLen):keyOf P k (encStr s)=some (.string s):=by simp only[keyOf,Z,encStr,mapKey,ByteArray.size,List.size_toArray];rw[vj h]
def Tx: ∀{l m:aJ5},l.map encStr=m.map encStr->l=m
 | [],[],_=>rfl
 | [],_::_,h=>by simp at h
 |_::_,[],h=>by simp at h
 |x::l,y::m,h=>by
  simp only[au9,List.cons.injEq] at h;rw[encStr_inj h.1,Tx h.2]
def Ty {P:aI0} {k:aI3} (Z:P.underlying k=some .string) {I:Nat->Prop} {w:aH9} {aJ:bz} {es:List (aa .str×aa aJ)} {bT:aJ1} {bY b:Nat} (O:w.heap[b]? =some (.map (List.toArray bT) bY))
  (aC:io I w .str aJ es bT) (de:mm bT bY) (hn:(mc es).Nodup) (al: ∀s∈mc es,s.length<=maxLen) (aw:es.length<=maxLen):
  ∃jE,w.ownsMap P k p0 b es.length jE/\Maps.size jE=es.length/\(strKeys jE).Perm (mc es):=by
 have bW:=CG aC;have zc:=Tw aC
 have DZ: ∀x∈bT,∃s:aH3,x.key=encStr s/\s.length<=maxLen/\rg P k p0 x=(.string s,.nil)/\ ∃y,rd P k p0 x=some y:=by
  intro x hx;have:x.key∈(mc es).map encStr:=by rw[<-zc];exact aw1 hx
  obtain⟨s,ag,U⟩:=av7.1 this;have Mq:keyOf P k x.key=some (.string s):=U▸ag' Z _ (al s ag);have mb:rd P k p0 x=some (.string s,.nil):=by simp[rd,Mq]
  exact⟨s,U.symm,al s ag,rg_of mb,_,mb⟩
 have pm:=Go.WideShapes.sorted_perm (bT.map (rg P k p0))
 have hp:(bT.map (rg P k p0)).map (fun p=>strOf p.1)=mc es:=by
  refine Tx ?_;rw[<-zc,ax7,ax7];refine aw2 fun x hx=>?_
  obtain⟨s,af,_,ao,_⟩:=DZ x hx;simp[ao,af,strOf]
 refine⟨.map ((bT.map (rg P k p0)).foldr DataW.insert []),⟨List.toArray bT,bY,O,⟨by simp[bW];exact aw,(stamped_iff _ _).2 ⟨de.2,de.1.imp fun h=>by omega,?_⟩,fun x hx=>(DZ x hx).choose_spec.2.2.2⟩,by simp[bW],rfl⟩,?_,?_⟩
 .have E:(bT.map (·.key)).Pairwise (· ≠ ·):=by
   rw[zc];exact List.pairwise_map.2 (hn.imp fun a6 e=>a6 (encStr_inj e))
  exact List.pairwise_map.1 E
 .show List.length _=_;rw[pm.length_eq,au3,bW]
 .show(List.map (fun p=>strOf (Prod.fst p)) _).Perm _;rw[<-hp];exact pm.map _
def aha (es:List (aa .str×aa .aL)):Fn prog 41 [.c (.one (.mp 1001))] [(1001,.map .str .aL es)] [2001] (.c (.one (.c2 99 [.p 2001 0]))) [(2001,.cells [.mp 1001]),(1001,.map .str .aL es)]:=by refine aP [] func41 ?_;exact⟨rfl,_,_,_,ac.aT 1 2001 rfl,rfl,rfl,aA,rfl⟩
def hS.Tz {I D:Nat->Prop} {w:aH9} {v:aI8} {l:aJ5} (h:hS D w 1 v l.length (l.map encStr)) (cw: ∀b,b < w.heap.size->D b->I b):cy I w (.ci .str) l (fun _=>some v):=by obtain⟨_,A,c,ar,E,G,ah⟩:=h;refine⟨A,c,at2 some ar,E,G,fun ag=>?_⟩;obtain⟨b,o,dO,O,bv,hx⟩:=ah ag;refine⟨b,o,dO,cw b bv O,fun i x hi=>?_⟩;have:=hx i (encStr x) (by rw[av1,show l[i]? =some x from hi];rfl);simpa[cy,aR,encStr] using this
def TA (m:Nat):AnyZ.SortsIn prog So Fence.wide m:=
 ⟨fun bf off cap hh W c' j7 cA=>callsIn_wide.2 (AnyM.slices_Sort_string Sq bf off cap hh W c' j7 cA),
  fun p cap W=>callsIn_wide.2 (AnyM.slices_Sort_string_none Sq p cap W)⟩
def ahb (es:List (aa .str×aa .aL)) (hn:(mc es).Nodup) (al: ∀s∈mc es,s.length<=maxLen) (aw:es.length<=4294967296):
  Fn prog 40 [.c (.one (.c2 99 [.p 2001 0]))] [(2001,.cells [.mp 1001]),(1001,.map .str .aL es)] [] (bE .str (pZ es)) [(2001,.cells [.mp 1001]),(1001,.map .str .aL es)]:=by
 refine⟨aE0,fun ρ F I w b0 a7 c' bg eE bW dG=>?_⟩
 match b0,bW with
 | [v],_=>
  obtain⟨aE,aB,gv,r,hJ,mC,aj⟩:=dG 0 _ v rfl rfl;have aj:r=[]:=aj;have mC:gv= .pointer (some ⟨(ρ 2001).bf,0,none⟩):=mC;subst aj mC hJ aB;obtain⟨_,aE,T,jx,hJ⟩:=c' 2001 _ rfl;obtain⟨x,r,hJ,hx,aj⟩:=hJ;have aj:r=[]:=aj;have hx:x= .map (some (ρ 1001).bf):=hx;subst aj hx hJ;obtain⟨_,bT,bY,iq,aC,de⟩:=c' 1001 _ rfl;have Hr:(4294967296:Nat)<=maxLen:=by decide
  obtain⟨jE,dV,cA,pm⟩:=Ty (P:=prog) (k:=9) aE0 iq aC de hn al aD7;have bv:(ρ 2001).bf < w.heap.size:=ml jx
  have vO:SeqGives Fence.wide 2 prog 99 #[.pointer (some ⟨(ρ 2001).bf,0,none⟩)] encStr (fun hh=>hh.Perm (strKeys jE)) (Maps.size jE) w:=
   AnyZ.keys_gives (ρ:=Sn) {aeO with} Fence.wide _ trivial rfl aD7 (ρ 2001).bf (ρ 1001).bf es.length jE w bv (o1 jx rfl) dV
  have J:=AnyZ.sorted_in Sp Fence.wide 5 trivial trivial trivial trivial rfl aD7 (TA _) (enters_of func98 aE0 rfl) 99 #[.pointer (some ⟨(ρ 2001).bf,0,none⟩)] trivial (enters_of func99 aE0 rfl) _ _ aG4 aG4 _ vO;refine(callsIn_wide.1 J).mono ?_;rintro e w' ⟨v,hh,rfl,au,fH,Br,gI⟩;have aY:cm I w (fun b=>b < w'.heap.size/\(I b\/w.heap.size<=b)) w':=fun b ix=>⟨⟨au8 (a7 b ix) gI.size,.inl ix⟩,gI.block b (a7 b ix)⟩
  refine⟨v,ρ,F,rfl,cU.rj gI,fun _ _=>rfl,_,aY,fun b h=>⟨h.1,h.2.imp id .inr⟩,fun c ch J=>Holds.cj aY (fun b O=>gI.block b (bg c ch J b O).1) gI.size ch (fun _ _=>rfl) (c' c ch J),fun c ch J b O=>?_,fun c cn ch ch' b E G=>eE c cn ch ch' b E G,?_⟩
  .have:=bg c ch J b O;exact⟨au8 this.1 gI.size,fun h=>(by rcases h.2 with h |h;exact this.2 h;omega),.inl ⟨c,ch,J,O⟩⟩
  .have Z:hh.mergeSort (fun x y=>decide (x<=y))=pZ es:=Go.mergeSort_of_perm (au.trans pm);rw[Z] at fH;have ir:=hS.tN fH;have vP:hh.length=(pZ es).length:=by rw[<-Z,List.length_mergeSort]
   rw[vP] at ir;exact(ir.zZ fun i _ hi=>(fH.lt i hi).1).Tz fun b E G=>⟨E,.inr G⟩
def D0 (L:aH6):mc (cW L)=L.map (·.nm):=by unfold mc cW;rw[ax7];rfl
def mD (L:aH6):List aH3:=pZ (cW L)
def ahc {L:aH6} {n:aH3} (h:n∈mD L): ∃d,dk L n=some d:=by
 unfold mD pZ at h;rw[List.mem_mergeSort,D0] at h;obtain⟨d,H,e⟩:=av7.1 h
 cases ao:dk L n with
 |some d=>exact⟨d,rfl⟩
 |none=>
  unfold dk at ao;have:=List.find?_eq_none.1 ao d H;simp[e] at this
def TB (L:aH6):(mD L).length=L.length:=by unfold mD pZ;rw[List.length_mergeSort,D0,au3]
def TC (z R:Int) (L:aH6) (eM:iI L) (al: ∀d,d∈L->d.nm.length<=100000) (p1:L.length<=100):Fn prog 12 [ap 1001] (bP z R L) [] (bE .str (mD L)) (bP z R L):=by
 have Z:(mc (cW L)).Nodup:=by rw[D0];exact eM.kb
 have aC: ∀s∈mc (cW L),s.length<=maxLen:=fun s aw=>by
  rw[D0] at aw;obtain⟨d,H,rfl⟩:=av7.1 aw;exact ay1 (al d H) aD8
 have aw:(cW L).length<=4294967296:=by unfold cW;rw[au3];omega
 refine aP [] func12 ?_;exact av (Fn.aT [(1001,1002),(2001,5001)] (aha (cW L))) <| av (Fn.aT [(1001,1002),(2001,5001)] (ahb (cW L) Z aC aw)) bb
def mE (L:aH6) (nm n:aH3):Bool:= !decide (nm=[])&&decide (((dk L n).map (·.back)).getD []=nm)
def r3 (L:aH6) (nm:aH3):List aH3:=(mD L).filter (mE L nm)
abbrev Mr (nm:aH3) (l:aJ5) (j:Nat):aW:=[(0,ap 1001),(1,bN nm),(5,dY 5002),(9,bE .str l),(10,ab (l.length:Nat)),(11,ab (j:Nat))]
abbrev ahd (nm:aH3) (l:aJ5) (j:Nat):aW:=[(0,ap 1001),(1,bN nm),(5,dY 33),(9,bE .str l),(10,ab (l.length:Nat)),(11,ab (j:Nat))]
abbrev Ms (z R:Int) (L:aH6) (x:aJ5):ay:=bP z R L++[(5002,.row 9 .str x)]
abbrev ahe (z R:Int) (L:aH6) (x:aJ5):ay:=bP z R L++[(33,.row 9 .str x)]
def ahf (z R:Int) (L:aH6) (eM:iI L) (al: ∀d,d∈L->d.nm.length<=100000) (p1:L.length<=100) (nm:aH3):Fn prog 135 [ap 1001,bN nm] (bP z R L) [] (bE .str (r3 L nm)) (bP z R L):=by
 obtain⟨pW,hd,he⟩:=lp Hm;have lj:=@ahc L;have bW:=TB L;have A4:=TC z R L eM al p1;unfold r3;generalize mD L=l at*;refine aP [5,6,8] func135 ?_;refine av A4 <| dZ [5,6,8] (X:=Nat) (Mr nm l) (fun j=>Ms z R L ((l.take j).filter (mE L nm))) (fun j=>j<=l.length) (fun j=>l.length - j) 0 (at6 _) ?_ ?_
 .exact(ac.nil 5 5002 9 .str rfl rfl).trans (ac.sub aA aA)
 intro j V;refine⟨fun h=>?_,fun h=>?_⟩
 .have h:decide ((j:Int) < (l.length:Nat))=true:=h;have fE:j < l.length:=aE6
  obtain⟨d,H⟩:=lj (av5 fE);have lq:=eM.D (cP H).1;have hx:(bX (aF:=.str) (aJ:=.aL) (cW L) l[j]).getD (cO .aL)=some d.ad:=by rw[jA,H];rfl
  have aZ:mE L nm l[j]=(!decide (nm=[])&&decide (d.back=nm)):=by unfold mE;rw[H];rfl
  have y9:(l.take (j+1)).filter (mE L nm)=(l.take j).filter (mE L nm)++(if mE L nm l[j]=true then[l[j]] else[]):=by
   rw[ay2 fE,List.filter_append]
   congr 1
   by_cases e:mE L nm l[j]=true
   .rw[vj e,List.filter_cons_of_pos e];rfl
   .rw[mu e,List.filter_cons_of_neg e];rfl
  have Mt:((l.take j).filter (mE L nm)).length<=j:=ay1 (List.length_filter_le _ _) aF0;have m3:(0:Int)<=(j:Int):=aE5
  have rZ:c5 ((j:Int)+1):=aE5
  have l0:mE L nm l[j]=false->(l.take (j+1)).filter (mE L nm)=(l.take j).filter (mE L nm):=fun e=>by rw[y9,mu (by rw[e];decide),av2]
  refine⟨m3,l[j],lE (n:=j) fE,?_⟩;generalize l[j]=n at*;refine bw [6,8] (cz ((7,bN n)::Mr nm l j) (Ms z R L ((l.take j).filter (mE L nm)))) ⟨fun E=>?_,fun E=>?_⟩
  .have E: ¬nm=[]:=by
    have E:(!decide (nm=[]))=true:=E;simpa using E
   refine bm (fun N=>kx (b:=d.ad) rfl aG3 N) ?_;refine bm (fun N=>kY rfl underlying106 rfl rfl hd aF4 rfl N) ?_;refine bm (my (q:=1003) rfl underlying9 rfl rfl rfl lq rfl) ?_;refine⟨fun G=>?_,fun G=>?_⟩
   .have G:d.back=nm:=gd G;have FV:mE L nm n=true:=by rw[aZ,ax2 E,au1 G];rfl
    rw[vj FV] at y9;have Mp:((l.take j).filter (mE L nm)).length+1<=4294967296:=aE5
    exact bw [] (cz ((7,bN n)::Mr nm l j) (Ms z R L ((l.take j).filter (mE L nm)))) ⟨Mp,rfl,rZ,j+1,fE,aD7,ac.trans (ac.sub (K':=ahd nm l (j+1)) (B':=ahe z R L ((l.take (j+1)).filter (mE L nm))) aA ⟨rfl,rfl,rfl,rfl,at2 (fun l:List aH3=>some (a8.row 9 .str l)) y9.symm,trivial⟩) (ac.aT 33 5002 rfl)⟩
   .have G: ¬d.back=nm:=oj G;have Z:=l0 (by rw[aZ,ax2 G,Bool.and_false]);exact⟨rZ,j+1,fE,aD7,ac.sub aA ⟨rfl,rfl,rfl,rfl,at2 (fun l:List aH3=>some (a8.row 9 .str l)) Z.symm,trivial⟩⟩
  .have E:nm=[]:=by
    have E:(!decide (nm=[]))=false:=E;simpa using E
   have Z:=l0 (by rw[aZ,au1 E];rfl);exact⟨rZ,j+1,fE,aD7,ac.sub aA ⟨rfl,rfl,rfl,rfl,at2 (fun l:List aH3=>some (a8.row 9 .str l)) Z.symm,trivial⟩⟩
 .have h:decide ((j:Int) < (l.length:Nat))=false:=h;have fE:j=l.length:=aH1
  subst fE;have cq:(l.take l.length).filter (mE L nm)=l.filter (mE L nm):=by rw[av0]
  exact bw [] (bn) ⟨_,_,_,ac.dH 5002 rfl,rfl,cq,aA,rfl⟩
def uy (d:aI) (L:aH6) (nm:aH3):dk (d::L) nm=if d.nm=nm then some d else dk L nm:=by
 unfold dk;rw[List.find?_cons]
 by_cases e:d.nm=nm
 .rw[au1 e,vj e]
 .rw[ax2 e,mu e]
end
section
def ahg:(prog.info? 5).map (fun i=>(i.zero,i.size,i.bytes))=some (some (.int .u8 0),1,1):=by kernel_rfl
def ahh (v:aI8) (l:aH3) (D:Nat->Prop) (w:aH9) (aB:pC D w v l) (aw:l.length<=4294967296):
  Calls prog 199 #[v] w fun e w'=> ∃dA,e= .returned dA/\pC (fun i=>w.heap.size<=i) w' dA l/\Below w.heap.size w w':=by
 obtain⟨A,c,rfl,eW,e3⟩:=aB.form;have TD:=Lib.hid aB;clear aB;generalize hn:l.length=n at*;have TE:=Lib.hid hn;clear hn;rcases A with _ |ad
 .have Br:=Lib.run_eql_slice_nil (P:=prog)
  have ar:l=[]:=by
   obtain⟨al,A',cn,U,_,_,ah⟩:=TD.out;rcases aC2 l.length with h |h
   .exact aw5 h
   .obtain⟨b,o,ha,_⟩:=ah h;subst ha;cases U
  have ahi:=Lib.hid ar;clear ar
  go_enter func199,ntmps199
  go_wp2_with fail
  go_ret
  refine⟨_,rfl,?_,Below.refl _ _⟩;rw[ahi.out];exact hS.nil _ _ _
 .have Br:=Lib.run_eql_slice_nil (P:=prog)
  go_enter func199,ntmps199
  clear e3 eW
  go_wp2_with (at_builtin;refine Zm _ rfl (.tmp 5) (.tmp 6) _ rfl w.heap.size 5 _ 1 1 underlying27 ahg rfl aD7 (.slice (some ⟨w.heap.size,0,none⟩) 0 0) 0 [] rfl ?cu D (.slice (some ad) n c) n (l.map gu) rfl ?cp (Jr l) ?fD ?uz ?D1 ?_)
  case cu=>exact⟨aD9,.inr ⟨w.heap.size,0,#[],rfl,at0 _,heap_alloc_new w _,at0 _,aD8,rfl,rfl⟩⟩
  case cp=>
   have h:=TD.out;unfold pC at h;rw[TE.out] at h;exact h.mono (uY.rj ((Below.refl _ _).alloc (at0 _) _)) aD9 (fun _ _ h=>h)
  case fD=>simp only[maxLen];omega
  case uz=>omega
  case D1=>simp
  intro dA cJ dV Mu jB
  go_wp2
  go_ret
  refine⟨dA,rfl,?_,?_⟩
  .unfold pC;rw[TE.out];have h:=hS.tN dV;exact h.zZ fun i _ hi=>(dV.lt i hi).1
  .exact((Below.refl _ _).alloc (at0 _) _).grown Mu aD9 (fun k Z=>by simp[Value.ownBlock] at Z;omega)
end
section
def qN (c:UInt8):Bool:=(97<=c.toNat&&c.toNat<=122)||(48<=c.toNat&&c.toNat<=57)||c.toNat == 46||c.toNat == 45
def zd (s:aJ7):Bool:=decide (1<=s.size)&&decide (s.size<=15)&&s.data.toList.all qN
def ahj (s:aJ7) (pos:Nat) (h:pos < s.size) (ha: ¬(s[pos]'h).toNat < 128):128<=(Utf8.decode s pos).1/\(Utf8.decode s pos).1<=1114111:=by
 have e:s.get! (pos+0)=s[pos]'h:=by
  show s.get! pos=_;simp[ByteArray.get!,getElem!_pos,h];rfl
 have O:(s[pos]'h).toNat < 256:=(s[pos]'h).toNat_lt;unfold Utf8.decode;simp only[e];rw[mu aD7]
 split
 .split <;>simp[Utf8.runeError] <;>omega
 .split
  .split
   .rename_i G;simp[Utf8.valid] at G;simp only;omega
   .simp[Utf8.runeError]
  .split
   .split
    .rename_i G;simp[Utf8.valid] at G;simp only;omega
    .simp[Utf8.runeError]
   .simp[Utf8.runeError]
def ahk {P:aI0} (w:aH9) (s:aJ7) (pos:Nat) (ty:aI3) (h:pos < s.size):
  (Instr.next (.pointer (some ⟨w.heap.size,0,none⟩)) true ty).run P (w.iter s pos)=
   .ok (.tuple #[.bool true,.int .i64 pos,.int .i32 (Utf8.decode s pos).1]) (w.iter s (pos+(Utf8.decode s pos).2)):=by
 simp only[Instr.next,getObj,setObj,aw3,Sem.run,World.iter_heap,Result.andThen,h,if_true];simp[goInt,World.iter_set]
def TF {s:aJ7} {j:Nat} (V:j < s.size) (h:qN (s[j]'V)=false):zd s=false:=by
 unfold zd
 have:s.data.toList.all qN=false:=by
  rw[List.all_eq_false];exact⟨s[j]'V,av5 aF8,by simp[h]⟩
 rw[this,Bool.and_false]
def Mv (B:Nat) (w:aH9):Nat:=match w.heap[B]? with |some (.stringIter _ p)=>p |_=>0
def TG (w:aH9) (s:aJ7) (k:Nat):Mv w.heap.size (w.iter s k)=k:=by simp[Mv,World.iter_heap]
def Mw (w:aH9) (s:aJ7) (k:Nat):Below w.heap.size w (w.iter s k):=(Below.refl _ _).alloc (at0 _) _
def ahl {s:aJ7} {k:Nat} (h: ∀j (V:j < s.size),j < k->qN (s[j]'V)=true) (Z:k < s.size) (E:qN (s[k]'Z)=true): ∀j (V:j < s.size),j < k+1->qN (s[j]'V)=true:=by
 intro j V bv
 by_cases e:j=k
 .subst e;exact E
 .exact h j V aD7
def ahm {s:aJ7} (h: ∀j (V:j < s.size),qN (s[j]'V)=true):zd s=(decide (1<=s.size)&&decide (s.size<=15)):=by
 unfold zd
 have:s.data.toList.all qN=true:=by
  rw[av4];intro x hx;obtain⟨j,V,rfl⟩:=aA5 hx;exact h j aF8
 rw[this,Bool.and_true]
def ahn (s:aJ7) (w:aH9) (aw:s.size<=maxLen):
  Calls prog 79 #[.string s] w fun e w'=>e= .returned (.bool (zd s))/\Below w.heap.size w w':=by
 unfold maxLen at aw
 go_enter func79,ntmps79
 go_wp2
 go_loopw [4,7,8,9,10,11,12,13,14,15,16,17,18,19,20,21,22,23,24,25,26,27,28,29,30,31] (fun _ _ _ _ _ _ _ _ _ _ _ _ _ _ _ _ _ _ _ _ _ _ _ _ _ _ wr=> ∃k:Nat,k<=s.size/\wr=w.iter s k/\ ∀j (V:j < s.size),j < k->qN (s[j]'V)=true) (fun _ _ _ _ _ _ _ _ _ _ _ _ _ _ _ _ _ _ _ _ _ _ _ _ _ _ wr=>s.size - Mv w.heap.size wr)
 case atStart=>exact⟨0,at6 _,rfl,fun _ _ h=>at1 h aD7⟩
 case round=>
  obtain⟨k,Z,rfl,dM⟩:=hrel;have Mx:=Lib.hid dM;clear dM
  by_cases bv:k < s.size
  .by_cases ha:(s[k]'bv).toNat < 128
   .have hn:=fun ty=>run_next_ascii (P:=prog) w s k ty bv ha
    go_wp2
    all_goals first
     |(
      refine⟨⟨k+1,bv,rfl,ahl Mx.out bv ?_⟩,?_⟩
      .clear hn;simp_all [qN];omega
      .rw[TG,TG];omega)
     |(
      go_ret
      refine⟨?_,Mw _ _ _⟩;rw[TF bv (by clear hn;simp_all [qN];omega)];rfl)
   .obtain⟨g9,ip⟩:=ahj s k bv ha;have hn:=fun ty=>ahk (P:=prog) w s k ty bv
    generalize Utf8.decode s k=d at*;have b1:(((d.1:Nat):Int) != 46)=true:=by rw[bne_iff_ne];omega
    have b2:(((d.1:Nat):Int) != 45)=true:=by rw[bne_iff_ne];omega
    go_wp2
    go_ret
    exact⟨by rw[TF bv (by clear hn;simp[qN];omega)];rfl,Mw _ _ _⟩
  .have hn:=fun ty=>run_next_end (P:=prog) w s k ty bv
   have ey:k=s.size:=aE5
   have aj:zd s=(decide (1<=s.size)&&decide (s.size<=15)):=ahm fun j V=>Mx.out j V aD7
   clear ey Mx;have aho:=Lib.hid aj;clear aj
   go_wp2
   all_goals
    go_ret
    refine⟨?_,Mw _ _ _⟩;rw[aho.out];refine at2 (fun b=>Ending.returned (.bool b)) ?_;rw[Bool.eq_iff_iff];simp;omega
end
section
def Fn.pure {P:aI0} {f:aI9} {args:List aN} {res:aN} (fP:jp P f=true)
  (h: ∀(ρ:Nat->bp) (I:Nat->Prop) (w:aH9) (b0:aH7),(∀b,I b->b < w.heap.size)->b0.length=args.length->(∀(i:Nat) (v:aN) (x:aI8),args[i]? =some v->b0[i]? =some x->cx ρ I w v x)->
   Calls P f b0.toArray w fun e w'=> ∃x,e= .returned x/\Below w.heap.size w w'/\ ∀I':Nat->Prop,cm I w I' w'->(∀b,w.heap.size<=b->b < w'.heap.size->I' b)->cx ρ I' w' res x):Fn P f args [] [] res []:=by
 refine⟨fP,?_⟩;intro ρ F I w b0 a7 _ _ _ bW dG;refine(h ρ I w b0 a7 bW dG).mono ?_;rintro e w' ⟨x,rfl,O,hx⟩;have aY:cm I w (fun b=>b < w'.heap.size/\(I b\/w.heap.size<=b)) w':=fun b ix=>⟨⟨au8 (a7 b ix) O.size,.inl ix⟩,O.block b (a7 b ix)⟩
 exact⟨x,ρ,F,rfl,cU.rj O,fun _ _=>rfl,_,aY,fun b h=>⟨h.1,h.2.imp id .inr⟩,fun c ch J=>(by simp[ae] at J),fun c ch J=>(by simp[ae] at J),fun c cn ch ch' b J=>(by simp[ae] at J),hx _ aY fun b E G=>⟨G,.inr E⟩⟩
def TH {P:aI0} {f:aI9} {s:aN} {res:aN} (fP:jp P f=true)
  (h: ∀(ρ:Nat->bp) (I:Nat->Prop) (w:aH9) (v:aI8),(∀b,I b->b < w.heap.size)->cx ρ I w s v->
   Calls P f #[v] w fun e w'=> ∃x,e= .returned x/\Below w.heap.size w w'/\ ∀I':Nat->Prop,cm I w I' w'->(∀b,w.heap.size<=b->b < w'.heap.size->I' b)->cx ρ I' w' res x):Fn P f [s] [] [] res []:=
 Fn.pure fP fun ρ I w b0 a7 al H=>by
  match b0,al with
  | [v],_=>exact h ρ I w v a7 (H 0 s v rfl rfl)
def cy.bytes {I:Nat->Prop} {w:aH9} {v:aI8} {l:aH3} (a7: ∀b,I b->b < w.heap.size) (h:cy I w (.ci .u8) l (fun _=>some v)):pC I w v l:=by
 obtain⟨A,cap,ar,E,G,ah⟩:=h;injection ar with ar
 refine⟨aD9,A,cap,ar,E,G,fun ag=>?_⟩;obtain⟨b,o,dO,O,hx⟩:=ah ag;refine⟨b,o,dO,O,a7 b O,fun j u aZ=>?_⟩;rw[av1] at aZ;obtain⟨x,yt,rfl⟩:=ax0.1 aZ;have:=hx j x yt;simpa[cy,aR,gu] using this
def pC.ahp {I D:Nat->Prop} {w:aH9} {v:aI8} {l:aH3} (h:pC D w v l) (cw: ∀b,b < w.heap.size->D b->I b):cy I w (.ci .u8) l (fun _=>some v):=by obtain⟨_,A,cap,ar,E,G,ah⟩:=h;refine⟨A,cap,at2 some ar,E,G,fun ag=>?_⟩;obtain⟨b,o,dO,O,bv,hx⟩:=ah ag;refine⟨b,o,dO,cw b bv O,fun i x hi=>?_⟩;have:=hx i (gu x) (by rw[av1,show l[i]? =some x from hi];rfl);simpa[cy,aR,gu] using this
def gZ (s:aH3):Bool:=decide (1<=s.length)&&decide (s.length<=15)&&s.all qN
def qO (s:aH3) (aw:s.length<=4294967296):Fn prog 79 [bN s] [] [] (gb (gZ s)) []:=
 TH aE0 fun ρ I w v a7 aB=>by
  rw[show v= .string ⟨s.toArray⟩ from aB];refine(ahn ⟨s.toArray⟩ w (by simp only[ByteArray.size,maxLen,List.size_toArray];omega)).mono ?_;rintro e w' ⟨rfl,O⟩;exact⟨_,rfl,O,fun I' _ _=>show Value.bool _=Value.bool _ by simp[zd,gZ,ByteArray.size]⟩
def My (l:aH3) (aw:l.length<=4294967296):Fn prog 199 [bE .u8 l] [] [] (bE .u8 l) []:=
 TH aE0 fun ρ I w v a7 aB=>by
  refine(ahh v l I w (cy.bytes a7 aB) aw).mono ?_;rintro e w' ⟨x,rfl,hx,O⟩;exact⟨x,rfl,O,fun I' _ hn=>hx.ahp fun b E G=>hn b G E⟩
end
end Go.Proofs.YtgclhiekndohdaaGreat
