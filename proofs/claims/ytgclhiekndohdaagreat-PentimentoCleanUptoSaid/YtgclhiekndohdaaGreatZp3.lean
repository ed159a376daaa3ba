/-
A part of the proof of this claim: lemmas, with no condition beyond what each says.
-/
import Derived.Shelf.SlIter.Nil
import Derived.Shelf.SlIterI.Nil
import Derived.Shelf.SortM.Plain
import Derived.Shelf.SortM.SortNone
import Derived.Shelf.SlMaps.Clone
import Derived.Ground.GgzProg
import Derived.Ground.SlgmProg
import Derived.Ground.SlmcProg
import Derived.Test.YtgclhiekndohdaaGreatProg
import Derived.DeepKeys
import Derived.Laws.MakeOwn
import Derived.Laws.StructEq
import Derived.Test.YtgclhiekndohdaaGreatZp2
set_option linter.all false
set_option maxRecDepth 100000
set_option maxHeartbeats 0
namespace Go.Proofs.YtgclhiekndohdaaGreat
open Go.RowKit Go.Proofs _root_.Go.Proofs.Tryz Tryz
section
def j3:List (Nat×bc)->Nat->List (Nat×bc)
 | [],_=>[]
 |(a,o)::L,b=>if a=b then L else(a,o)::j3 L b
def Jt {a b c:Prop}:(a\/b\/c)↔(b\/a\/c):=⟨fun h=>by
 rcases h with h |h |h
 .exact .inr (.inl h)
 .exact .inl h
 .exact .inr (.inr h),fun h=>by
 rcases h with h |h |h
 .exact .inr (.inl h)
 .exact .inl h
 .exact .inr (.inr h)⟩
def fz.mO {I:Nat->Prop} {w:aD8} {b:Nat} {o:bc}: ∀{L:List (Nat×bc)} {F:Nat->Prop},eN L b=some o->fz I w L F-> ∃(cF cN:Nat->Prop) (p:bm),(∀x,F x↔cF x\/cN x)/\(∀x,cF x-> ¬cN x)/\p.bh=b/\o.bn I cF w p/\fz I w (j3 L b) cN
 | [],F,h,_=>by cases h
 |(a,q)::L,F,h,⟨qC,sM,p,E,G,ag,aS,bG⟩=>by
  unfold eN at h;unfold j3
  split at h
  .rename_i e;injection h with h
   subst h;rw[vj e];exact⟨qC,sM,p,E,G,ag.trans e,aS,bG⟩
  .rename_i e;rw[mu e];obtain⟨cF,cN,d0,g1,g2,cX,jo,BG⟩:=fz.mO h bG;refine⟨cF,fun x=>qC x\/cN x,d0,fun x=>by rw[E,g1];exact Jt,fun x hx aC=>?_,cX,jo,qC,cN,p,fun x=>Iff.rfl,fun x hx aC=>G x hx ((g1 x).2 (.inr aC)),ag,aS,BG⟩;rcases aC with aC |aC
   .exact G x aC ((g1 x).2 (.inl hx))
   .exact g2 x hx aC
def fz.Ju {I:Nat->Prop} {w:aD8} {b:Nat} {o o':bc} {cF:Nat->Prop} {p:bm} (ai:o'.bn I cF w p) (ao:p.bh=b): ∀{L:List (Nat×bc)} {F:Nat->Prop},eN L b=some o->fz I w (j3 L b) F->(∀x,cF x-> ¬F x)->fz I w (gr L b o') (fun x=>cF x\/F x)
 | [],F,h,_,_=>by cases h
 |(a,q)::L,F,h,H,ew=>by
  unfold eN at h;unfold j3 at H;unfold gr
  split at h
  .rename_i e;rw[vj e] at H⊢;exact⟨cF,F,p,fun x=>Iff.rfl,ew,ao.trans e.symm,ai,H⟩
  .rename_i e;rw[mu e] at H⊢;obtain⟨qC,sM,r,E,G,ag,aS,bG⟩:=H
   refine⟨qC,fun x=>cF x\/sM x,r,fun x=>by
    show(cF x\/F x)↔(qC x\/(cF x\/sM x));rw[E];exact Jt,fun x hx aC=>?_,ag,aS,fz.Ju ai ao h bG fun x hx aC=>ew x hx ((E x).2 (.inr aC))⟩
   rcases aC with aC |aC
   .exact ew x aC ((E x).2 (.inl hx))
   .exact G x hx aC
def zb {o:bc} {b:Nat}: ∀{L:List (Nat×bc)},eN L b=some o->gr L b o=L
 | [],h=>by cases h
 |(a,q)::L,h=>by
  unfold eN at h;unfold gr
  split at h
  .rename_i e;injection h with h
   rw[vj e,h]
  .rename_i e;rw[mu e,zb h]
section
variable {ids:aD3} {K:aW} {B:av}
def ac.BZ (q c b:Nat) {o:bc} {L:List (Nat×bc)} (aY:ae B q=some (.aA (.bD L))) (cP:eN L b=some o) (J:gS ids K B c=true):ac ids K B K ((c,.aA (o.at b))::(q,.aA (.bD (j3 L b)))::B):=by
 rintro N C a w ⟨hn,H,ρ,F,ah,ar⟩;have f:=kK J;obtain⟨cF,cN,p,E,G,ag,aS,bG⟩:=fz.mO cP (ah.holds q _ aY:fz _ w L (F q))
 obtain⟨bK,a2⟩:=ah.split (K:=K) (iJ:=.aA (.bD (j3 L b))) (oc:=.aA (o.at b)) aY J p cN cF (fun x hx=>(E x).2 (.inr hx)) (fun x hx=>(E x).2 (.inl hx)) (fun x hx aC=>G x aC hx)
  (fun I aZ=>bG.cg aZ (ao9 _) (fun _ _=>rfl)) (fun I aZ=>⟨ag,o.cg _ _ _ _ _ _ aS aZ (fun _ _=>rfl) (ao9 _)⟩)
 exact⟨hn,H,_,_,bK,ar.mono a2 fun s d H=>dt _ _ (fun e=>by subst e;rw[f.1 s] at H;cases H)⟩
def ac.Qb (q c b:Nat) {o o':bc} {L:List (Nat×bc)} (aY:ae B q=some (.aA (.bD (j3 L b)))) (J:ae B c=some (.aA (o'.at b))) (cP:eN L b=some o) (a6:q≠c):ac ids K B K ((q,.aA (.bD (gr L b o')))::gJ B c):=by
 rintro N C a w ⟨hn,H,ρ,F,ah,ar⟩;have bk:fz (bX C B F w) w (j3 L b) (F q):=ah.holds q _ aY;have aq:(ρ c).bh=b/\o'.bn (bX C B F w) (F c) w (ρ c):=ah.holds c _ J
 obtain⟨bK,a2⟩:=ah.EQ (w':=w) (ch:=.aA (.bD (gr L b o'))) aY J a6 (fun x=>F c x\/F q x) (fun x hx=>hx.symm) (cR.refl _ _) fun I aZ=>
  (fz.Ju aq.2 aq.1 cP bk (fun x hx aC=>ah.e0 c q _ _ x J aY (au7 a6) hx aC)).cg aZ (ao9 _) fun _ _=>rfl
 exact⟨hn,H,ρ,_,bK,ar.mono a2 fun _ _ _=>rfl⟩
def ac.abU (q c b:Nat) {o:bc} {bp:av} {bs:Nat->Nat} {L:List (Nat×bc)} (aY:ae B q=some (.aA (.bD (j3 L b)))) (J:ae B c=some (.aA (.mP bp bs))) (cP:eN L b=some o) (a6:q≠c):ac ids K B K ((q,.aA (.bD (gr L b (.mP bp bs))))::gJ B c):=by
 rintro N C a w ⟨hn,H,ρ,F,ah,ar⟩;have bk:fz (bX C B F w) w (j3 L b) (F q):=ah.holds q _ aY;have aq:E2 bp bs (bX C B F w) (F c) w:=ah.holds c _ J
 obtain⟨bK,a2⟩:=ah.EQ (w':=w) (ch:=.aA (.bD (gr L b (.mP bp bs)))) aY J a6 (fun x=>F c x\/F q x) (fun x hx=>hx.symm) (cR.refl _ _) fun I aZ=>
  (fz.Ju (o':=.mP bp bs) (p:=⟨b,none,0,0⟩) aq rfl cP bk (fun x hx aC=>ah.e0 c q _ _ x J aY (au7 a6) hx aC)).cg aZ (ao9 _) fun _ _=>rfl
 exact⟨hn,H,ρ,_,bK,ar.mono a2 fun _ _ _=>rfl⟩
def Fn.abV {P:aD9} {f:aE8} {c q am:Nat} {args:List aN} {res:aN} {bp:av} {bs:Nat->Nat} {M:List (Nat×bc)} (h:Fn P f (.c (.one (.ptr c 0))::args) bp [] res bp) (ah:eN M am=some (.mP bp bs)) (J:bs c=am) (xh:(ae bp c).isSome=true) (ha:(args.all fun v=>v.iy [])=true) (aw:res.iy []=true):
  Fn P f (.c (.one (.d (.aM (some am))))::args) [(q,.aA (.bD M))] [] res [(q,.aA (.bD M))]:=by
 obtain⟨fH,h⟩:=h;refine⟨fH,fun ρ F I w bW aZ c9 bj ew bZ dz=>?_⟩;have aY:ae [(q,ba.aA (.bD M))] q=some (.aA (.bD M)):=aB7
 have xi: ∀{d ch},ae [(q,ba.aA (.bD M))] d=some ch->d=q/\ch= .aA (.bD M):=fun {d ch} H=>by
  rw[cn] at H
  split at H
  .rename_i e;injection H with H;exact⟨e.symm,H.symm⟩
  .cases H
 have bk:fz I w M (F q):=c9 q _ aY;obtain⟨cF,cN,p,co,cZ,ei,eI,t1⟩:=bk.out ah;obtain⟨za,cd,g1,g2,cX,jo⟩:E2 bp bs I cF w:=eI;have fx: ∀{v:aN},v.iy []=true-> ∀d,v.has d=true-> ∀(ρ ρ':Nat->bm),ρ' d=ρ d:=fun {v} ay d H _ _=>ap0 (aN.kp ay H) List.not_mem_nil
 have Jv: ∀y,(∃d ch,ae bp d=some ch/\cd d y)-> ∃d ch,ae [(q,ba.aA (.bD M))] d=some ch/\F d y:=fun y aC=>⟨q,_,aY,(co y).2 (.inl ((jo y).2 aC))⟩
 obtain⟨abW,nz⟩:=as5.1 xh
 match bW,bZ with
 |v0::bW,bZ=>
  have w8:v0= .pointer (some ⟨am,0,none⟩):=dz 0 _ v0 rfl rfl;refine(h za cd I w (v0::bW) aZ g2 (fun d ch H b O=>bj q _ aY b ((co b).2 (.inl ((jo b).2 ⟨d,ch,H,O⟩)))) cX (by simpa using bZ) ?_).mono ?_
  .intro i v x ay hx
   match i with
   |0=>
    simp only[aq2,ap5] at ay hx;subst ay hx;show v0= .pointer (some ⟨(za c).bh,0,none⟩);rw[g1 c abW nz,J];exact w8
   |i+1=>
    have oe:args[i]? =some v:=aB9
    have:=ar3.1 ha v (at9 oe);exact cv.mono (cj.refl _ _) v x (fun d H=>fx this d H _ _) (dz (i+1) v x aB9 hx)
  .rintro e w' ⟨x,ρ',F',rfl,cC,de,I',i0,gw,k1,aq,hB,rF⟩;have jZ: ∀y,cN y-> ¬ ∃d ch,ae bp d=some ch/\cd d y:=fun y aC lf=>cZ y ((jo y).2 lf) aC
   have rG: ∀y,cN y->y < w.heap.size/\ ¬I y:=fun y aC=>bj q _ aY y ((co y).2 (.inr aC))
   have mf: ∀y,cN y->w'.heap[y]? =w.heap[y]? :=fun y aC=>cC.block y (rG y aC).1 (jZ y aC)
   have vm: ∀y,(∃d ch,ae bp d=some ch/\F' d y)-> ¬cN y:=by
    rintro y ⟨d,ch,H,aC⟩ BI;rcases(aq d ch H y aC).2.2 with h |h
    .exact jZ y BI h
    .have:=(rG y BI).1;omega
   have og:=t1 I' w' (.mP bp bs) (fun y=> ∃d ch,ae bp d=some ch/\F' d y) p i0 cC.size mf ei
    ⟨ρ',F',fun d ch H=>by rw[de d List.not_mem_nil];exact g1 d ch H,k1,hB,fun b=>Iff.rfl⟩ vm
   rw[zb ah] at og;refine⟨x,ρ,fun d=>if d=q then(fun y=>(∃d ch,ae bp d=some ch/\F' d y)\/cN y) else F' d,rfl,cC.mono fun y _ aC=>Jv y aC,fun d _=>rfl,I',i0,fun y aC=>⟨(gw y aC).1,?_⟩,?_,?_,?_,?_⟩
   .rcases(gw y aC).2 with h |h |h
    .exact .inl h
    .exact .inr (.inl (Jv y h))
    .exact .inr (.inr h)
   .intro d ch H;obtain⟨rfl,rfl⟩:=xi H;simp only[if_true];exact og
   .intro d ch H y aC;obtain⟨rfl,rfl⟩:=xi H;simp only[if_true] at aC;rcases aC with⟨cY,ch',c1,aC⟩ |aC
    .obtain⟨bR,b',a3⟩:=aq cY ch' c1 y aC;exact⟨bR,b',a3.imp (Jv y) id⟩
    .refine⟨aq8 (rG y aC).1 cC.size,fun aG=>?_,.inl ⟨d,_,aY,(co y).2 (.inr aC)⟩⟩;rcases(gw y aG).2 with h |h |h
     .exact(rG y aC).2 h
     .exact jZ y aC h
     .have:=(rG y aC).1;omega
   .intro d cY ch ch' y H c1 a6;exact ap0 ((xi H).1.trans (xi c1).1.symm) a6
   .exact cv.mono (cj.refl _ _) res x (fun d H=>fx aw d H _ _) rF
end
end
section
def cz.nG {P:aD9} {f:aE8} {c b:Nat} {args:List aN} {bp aJ:av} {bb:aD3} {X:Type} {res:X->aN} {dD aP:X->av} (f2:aD3) (q:Nat)
  (h:cz P f (.c (.one (.ptr c 0))::args) (bp++aJ) bb res (fun g=>dD g++aP g))
  (E:nA c f2 (.c (.one (.ptr c 0))::args) bp aJ bb bb=true) (G: ∀g,nB c (mh f2 bb bb) (res g) (dD g) (aP g)=true)
  (ag:(args.all fun v=> !v.has c)=true) (aS:kj c aJ=true/\(ae aJ q).isNone=true) (bG:(bb.contains c||bb.contains q)=false) (eH: ∀g,(kj c (aP g)&&(ae (aP g) q).isNone&& !(res g).has c)=true):
  cz P f (.c (.one (.d (.aM (some b))))::args) ((q,.aA (.bD [(b,.iz c bp)]))::aJ) bb res (fun g=>(q,.aA (.bD [(b,.iz c (dD g))]))::aP g):=by
 have k:=cz.close (o:=.iz c bp) (o':=fun g=>.iz c (dD g)) f2 h (fun _ _ _ _ h=>h) (fun _ _ _ _ _ h=>h) E G;have cZ:=cz.bD (L:=[(b,.iz c bp)]) (b:=b) (q:=q) k (vj rfl) ag aS bG eH;have e: ∀g,gr [(b,bc.iz c bp)] b (bc.iz c (dD g))=[(b,.iz c (dD g))]:=fun g=>vj rfl
 simp only[e] at cZ;exact cZ
def Fn.nG {P:aD9} {f:aE8} {c b:Nat} {args:List aN} {bp dD:av} {res:aN} (f2:aD3) (q:Nat)
  (h:Fn P f (.c (.one (.ptr c 0))::args) bp [] res dD)
  (E:nA c f2 (.c (.one (.ptr c 0))::args) bp [] [] []=true:=by first |rfl |decide) (G:nB c (mh f2 [] []) res dD []=true:=by first |rfl |decide)
  (ag:(args.all fun v=> !v.has c)=true:=by first |rfl |decide) (aS:(!res.has c)=true:=by first |rfl |decide):
  Fn P f (.c (.one (.d (.aM (some b))))::args) [(q,.aA (.bD [(b,.iz c bp)]))] [] res [(q,.aA (.bD [(b,.iz c dD)]))]:=by
 refine cz.fn (cz.nG (X:=Unit) (aJ:=[]) (aP:=fun _=>[]) (dD:=fun _=>dD) (res:=fun _=>res) f2 q (by rw[at3];simp only[at3];exact h.x) E (fun _=>G) ag ⟨rfl,rfl⟩ rfl fun _=>?_);simp only[aS];rfl
def nH (b c d:Nat) (bp:av) (q:bm):bc where
 bn:=fun I F w _=> ∃(ρ:Nat->bm) (cd:Nat->Nat->Prop),(ρ c).bh=b/\ρ d=q/\(∀e ch,ae bp e=some ch->Holds ρ I (cd e) w (ρ e) ch)/\
  (∀e ca ch ch' x,ae bp e=some ch->ae bp ca=some ch'->e≠ca->cd e x-> ¬cd ca x)/\ ∀x,F x↔ ∃e ch,ae bp e=some ch/\cd e x
 cg:=fun I F w I' w' p ⟨ρ,cd,E,au,G,ag,aS⟩ U bj aO=>⟨ρ,cd,E,au,fun d ch H=>Holds.cg U (fun b O=>bj b ((aS b).2 ⟨d,ch,H,O⟩)) aO ch (fun _ _=>rfl) (G d ch H),ag,aS⟩
def Jw (c d q:Nat) (args:List aN) (aJ bp:av) (res:aN) (aP dD:av):Bool:=
 (ci bp).contains c&& !(ci bp).contains d&& !(ci bp).contains q&&((ci bp).all fun e=>kj e aJ&&kj e aP&& !res.has e&&args.all fun v=> !v.has e)&&
  (ae aJ q).isNone&&(ae aP q).isNone&&vb (d::ci bp) bp&&((ci dD).all fun e=>(ci bp).contains e)
def Fn.abX {P:aD9} {f:aE8} {c d q b:Nat} {args:List aN} {aJ bp aP dD:av} {res:aN} (h:Fn P f (.c (.one (.ptr c 0))::args) (aJ++bp) [] res (aP++dD)) (Z:Jw c d q args aJ bp res aP dD=true):
  Fn P f (.c (.one (.d (.aM (some b))))::args) (aJ++[(q,.bY d (nH b c d bp))]) [] res (aP++[(q,.bY d (nH b c d dD))]):=by
 obtain⟨fH,h⟩:=h;simp only[Jw,ao8,aq9,ay5] at Z;obtain⟨⟨⟨⟨⟨⟨⟨bR,b'⟩,a3⟩,a4⟩,a5⟩,ft⟩,qp⟩,EI⟩:=Z;have bR:=rH bR;have b':=vn b';have a3:=vn a3
 have xj: ∀e,e∈ci bp->kj e aJ=true/\kj e aP=true/\res.has e=false/\ ∀v,v∈args->v.has e=false:=fun e U=>by
  have:=ar3.1 a4 e U;simp only[ao8,aq9] at this;exact⟨this.1.1.1,this.1.1.2,this.1.2,fun v ay=>by simpa using ar3.1 this.2 v ay⟩
 have abY: ∀e,e∈ci dD->e∈ci bp:=fun e U=>rH (ar3.1 EI e U)
 have one: ∀(B:av) (ch:ba),ae B q=none->ae (B++[(q,ch)]) q=some ch:=fun B ch hn=>by rw[hQ,hn];simp[ae]
 have sO: ∀(B:av) (x:ba) {e:Nat} {ch:ba},ae (B++[(q,x)]) e=some ch->(ae B e=some ch)\/(ae B e=none/\e=q/\ch=x):=fun B x {e ch} U=>by
  rw[hQ] at U
  cases bf:ae B e with
  |some y=>rw[bf] at U;exact .inl U
  |none=>
   rw[bf] at U;simp only[cn] at U
   split at U
   .rename_i al;injection U with U;exact .inr ⟨rfl,al.symm,U.symm⟩
   .cases U
 have hp: ∀(B:av) (x:ba) {e:Nat} {ch:ba},ae B e=some ch->ae (B++[(q,x)]) e=some ch:=fun B x {e ch} U=>by rw[hQ,U]
 refine⟨fH,fun ρ F I w bW aZ c9 bj ew bZ dz=>?_⟩;have B0:=one aJ (.bY d (nH b c d bp)) a5;obtain⟨nC,cd,cE,Ik,cG,dG,e3⟩:(nH b c d bp (ρ d)).bn I (F q) w (ρ q):=c9 q _ B0;have eM: ∀{e ch},ae aJ e=some ch->e∉ci bp/\e≠q:=fun {e ch} U=>⟨fun Z=>(by rw[(tF (xj e Z).1).1] at U;cases U),fun al=>(by rw[al,a5] at U;cases U)⟩
 have ip: ∀{e ch},ae (aJ++bp) e=some ch->(ae bp e=some ch/\e∈ci bp)\/(e∉ci bp/\ae aJ e=some ch):=fun {e ch} U=>by
  rw[hQ] at U
  cases bf:ae aJ e with
  |some ch'=>
   rw[bf] at U;exact .inr ⟨(eM bf).1,U⟩
  |none=>
   rw[bf] at U;exact .inl ⟨U,f1.2 ⟨ch,U⟩⟩
 let t6:Nat->bm:=fun e=>if e∈ci bp then nC e else ρ e
 let iA:Nat->Nat->Prop:=fun e=>if e∈ci bp then cd e else F e
 have vu: ∀e,e∉ci bp->t6 e=ρ e:=fun e U=>mu U
 have w9: ∀e,e∈d::ci bp->t6 e=nC e:=fun e U=>by
  rcases ap7.1 U with rfl |U
  .rw[vu _ b',Ik]
  .exact vj U
 have mg: ∀y,(∃e ch,ae (aJ++bp) e=some ch/\iA e y)-> ∃e ch,ae (aJ++[(q,ba.bY d (nH b c d bp))]) e=some ch/\F e y:=by
  rintro y ⟨e,ch,U,aC⟩;rcases ip U with⟨af,al⟩ |⟨af,al⟩
  .have aC:cd e y:=by simpa only[iA,vj al] using aC
   exact⟨q,_,B0,(e3 y).2 ⟨e,ch,af,aC⟩⟩
  .have aC:F e y:=by simpa only[iA,mu af] using aC
   exact⟨e,ch,hp _ _ al,aC⟩
 match bW,bZ with
 |v0::bW,bZ=>
 have w8:v0= .pointer (some ⟨b,0,none⟩):=dz 0 _ v0 rfl rfl;refine(h t6 iA I w (v0::bW) aZ ?_ ?_ ?_ (by simpa using bZ) ?_).mono ?_
 .intro e ch U;rcases ip U with⟨af,al⟩ |⟨af,al⟩
  .rw[w9 e (ap4 _ al)];simp only[iA,vj al];exact Holds.cg (cj.refl _ _) (fun _ _=>rfl) (ao9 _) ch (fun j V=>w9 j (ba.kp (wV qp af) V)) (cG e ch af)
  .rw[vu e af];simp only[iA,mu af];exact Holds.cg (cj.refl _ _) (fun _ _=>rfl) (ao9 _) ch (fun j V=>vu j (fun kM=>by rw[(tF (xj j kM).1).2 e ch al] at V;cases V)) (c9 e ch (hp _ _ al))
 .intro e ch U x hx;rcases ip U with⟨af,al⟩ |⟨af,al⟩
  .simp only[iA,vj al] at hx;exact bj q _ B0 x ((e3 x).2 ⟨e,ch,af,hx⟩)
  .simp only[iA,mu af] at hx;exact bj e ch (hp _ _ al) x hx
 .intro e ca ch ch' x U hk a6 hx dF;rcases ip U with⟨af,al⟩ |⟨af,al⟩
  .simp only[iA,vj al] at hx;rcases ip hk with⟨k0,jp⟩ |⟨k0,jp⟩
   .simp only[iA,vj jp] at dF;exact dG e ca ch ch' x af k0 a6 hx dF
   .simp only[iA,mu k0] at dF;exact ew q ca _ ch' x B0 (hp _ _ jp) (au7 (eM jp).2) ((e3 x).2 ⟨e,ch,af,hx⟩) dF
  .simp only[iA,mu af] at hx;rcases ip hk with⟨k0,jp⟩ |⟨k0,jp⟩
   .simp only[iA,vj jp] at dF;exact ew q e _ ch x B0 (hp _ _ al) (au7 (eM al).2) ((e3 x).2 ⟨ca,ch',k0,dF⟩) hx
   .simp only[iA,mu k0] at dF;exact ew e ca ch ch' x (hp _ _ al) (hp _ _ jp) a6 hx dF
 .intro i v x ay hx
  match i with
  |0=>
   simp only[aq2,ap5] at ay hx;subst ay hx;show v0=_;rw[w9 c (ap4 _ bR),cE];exact w8
  |i+1=>
   have oe:args[i]? =some v:=aB9
   exact cv.mono (cj.refl _ _) v x (fun j V=>vu j (fun kM=>by rw[(xj j kM).2.2.2 v (at9 oe)] at V;cases V)) (dz (i+1) v x aB9 hx)
 .rintro e w' ⟨x,ρ',F',rfl,cC,de,I',i0,gw,k1,aq,hB,rF⟩;have abZ:ρ'=t6:=funext fun e=>de e az9
  subst abZ;have mM: ∀{e ch},ae aP e=some ch->e∉ci bp/\e≠q/\ae (aP++dD) e=some ch:=fun {e ch} U=>⟨fun Z=>(by rw[(tF (xj e Z).2.1).1] at U;cases U),fun al=>(by rw[al,ft] at U;cases U),by rw[hQ,U]⟩
  have oq: ∀{e ch},ae dD e=some ch->ae aP e=none/\ae (aP++dD) e=some ch:=fun {e ch} U=>by
   have hn:=(tF (xj e (abY e (f1.2 ⟨ch,U⟩))).2.1).1;exact⟨hn,by rw[hQ,hn];exact U⟩
  refine⟨x,ρ,fun e=>if e=q then(fun y=> ∃ca ch',ae dD ca=some ch'/\F' ca y) else F' e,rfl,cC.mono fun y _ aC=>mg y aC,fun _ _=>rfl,I',i0,fun y aC=>⟨(gw y aC).1,?_⟩,?_,?_,?_,?_⟩
  .rcases(gw y aC).2 with h |h |h
   .exact .inl h
   .exact .inr (.inl (mg y h))
   .exact .inr (.inr h)
  .intro e ch U;rcases sO _ _ U with U |⟨_,rfl,rfl⟩
   .obtain⟨af,al,bt⟩:=mM U;simp only[mu al];rw[<-vu e af];exact Holds.cg (cj.refl _ _) (fun _ _=>rfl) (ao9 _) ch (fun j V=>(vu j (fun kM=>by rw[(tF (xj j kM).2.1).2 e ch U] at V;cases V)).symm) (k1 e ch bt)
   .simp only[if_true];refine⟨t6,F',by rw[w9 c (ap4 _ bR),cE],vu d b',fun e ch U=>k1 e ch (oq U).2,fun e ca ch ch' x U hk a6=>hB e ca ch ch' x (oq U).2 (oq hk).2 a6,fun _=>Iff.rfl⟩
  .intro e ch U y aC;rcases sO _ _ U with U |⟨_,rfl,rfl⟩
   .obtain⟨af,al,bt⟩:=mM U;simp only[mu al] at aC;obtain⟨cy,cu,gl⟩:=aq e ch bt y aC;exact⟨cy,cu,gl.imp (mg y) id⟩
   .simp only[if_true] at aC;obtain⟨ca,ch',E,G⟩:=aC;obtain⟨cy,cu,gl⟩:=aq ca ch' (oq E).2 y G;exact⟨cy,cu,gl.imp (mg y) id⟩
  .intro e ca ch ch' y U hk a6 aC d2;rcases sO _ _ U with co |⟨_,rfl,rfl⟩
   .obtain⟨af,al,bt⟩:=mM co;simp only[mu al] at aC;rcases sO _ _ hk with cZ |⟨_,rfl,rfl⟩
    .obtain⟨k0,jp,y4⟩:=mM cZ;simp only[mu jp] at d2;exact hB e ca ch ch' y bt y4 a6 aC d2
    .simp only[if_true] at d2;obtain⟨hA,iJ,E,G⟩:=d2;exact hB e hA ch iJ y bt (oq E).2 (fun e=>by rw[e,(oq E).1] at co;cases co) aC G
   .rcases sO _ _ hk with cZ |⟨_,rfl,rfl⟩
    .obtain⟨k0,jp,y4⟩:=mM cZ;simp only[if_true] at aC;simp only[mu jp] at d2;obtain⟨hA,iJ,E,G⟩:=aC;exact hB hA ca iJ ch' y (oq E).2 y4 (fun e=>by rw[<-e,(oq E).1] at cZ;cases cZ) G d2
    .exact ap0 rfl a6
  .exact cv.mono (cj.refl _ _) res x (fun j V=>(vu j (fun kM=>by rw[(xj j kM).2.2.1] at V;cases V)).symm) rF
end
namespace Go.Proofs
open Go.Shelf
def Tryz.Qc:Go.Shelf.Ren:=⟨fun |7=>41 |10=>99 |n=>n,fun |23=>94 |26=>9 |3=>95 |28=>92 |0=>0 |27=>91 |33=>146 |4=>4 |n=>n,fun |n=>n⟩
theorem Tryz.ab0:Go.Proofs.SlLaysZ.n7 Tryz.prog Tryz.Qc:={
 mixed:=by kernel_rfl
 f7:=⟨Tryz.f41.name,by decide,Tryz.func41.trans (congrArg some (by kernel_rfl))⟩
 f10:=⟨Tryz.f99.name,by decide,Tryz.func99.trans (congrArg some (by kernel_rfl))⟩
 t0:=Tryz.underlying0
 a0:=Tryz.isAgg0
 z0:=Tryz.sizeOf0
 v0:=Tryz.zeroValue0
 t4:=Tryz.underlying4
 a4:=Tryz.isAgg4
 z4:=Tryz.sizeOf4
 v4:=Tryz.zeroValue4
 t23:=Tryz.underlying94
 a23:=Tryz.isAgg94
 z23:=Tryz.sizeOf94
 v23:=Tryz.zeroValue94
 t26:=Tryz.underlying9
 a26:=Tryz.isAgg9
 z26:=Tryz.sizeOf9
 v26:=Tryz.zeroValue9
 t27:=Tryz.underlying91
 a27:=Tryz.isAgg91
 z27:=Tryz.sizeOf91
 v27:=Tryz.zeroValue91
 t28:=Tryz.underlying92
 a28:=Tryz.isAgg92
 z28:=Tryz.sizeOf92
 v28:=Tryz.zeroValue92
 t33:=Tryz.underlying146
 a33:=Tryz.isAgg146
 z33:=Tryz.sizeOf146
 v33:=Tryz.zeroValue146}
def Tryz.Qd:Go.Shelf.Ren:=⟨fun |6=>40 |8=>97 |9=>98 |11=>164 |13=>166 |12=>165 |23=>225 |24=>226 |14=>216 |15=>217 |16=>218 |17=>219 |18=>220 |19=>221 |20=>222 |21=>223 |22=>224 |25=>254 |26=>255 |27=>256 |28=>257 |29=>258 |30=>259 |31=>282 |n=>n,fun |26=>9 |28=>92 |24=>37 |0=>0 |3=>3 |37=>186 |48=>321 |50=>323 |4=>4 |40=>313 |39=>312 |45=>318 |5=>5 |9=>9 |51=>341 |55=>345 |57=>359 |58=>360 |33=>146 |n=>n,fun |n=>n⟩
theorem Tryz.ab1:Go.Proofs.SlLaysZ.n6 Tryz.prog Tryz.Qd:={
 mixed:=by kernel_rfl
 f6:=⟨Tryz.f40.name,by decide,Tryz.func40.trans (congrArg some (by kernel_rfl))⟩
 f8:=⟨Tryz.f97.name,by decide,Tryz.func97.trans (congrArg some (by kernel_rfl))⟩
 f11:=⟨Tryz.f164.name,by decide,Tryz.func164.trans (congrArg some (by kernel_rfl))⟩
 t0:=Tryz.underlying0
 a0:=Tryz.isAgg0
 z0:=Tryz.sizeOf0
 v0:=Tryz.zeroValue0
 t24:=Tryz.underlying37
 a24:=Tryz.isAgg37
 z24:=Tryz.sizeOf37
 v24:=Tryz.zeroValue37
 t26:=Tryz.underlying9
 a26:=Tryz.isAgg9
 z26:=Tryz.sizeOf9
 v26:=Tryz.zeroValue9
 t28:=Tryz.underlying92
 a28:=Tryz.isAgg92
 z28:=Tryz.sizeOf92
 v28:=Tryz.zeroValue92
 i26:=by kernel_rfl}
def Tryz.ab2:Go.Shelf.Ren:=⟨fun |6=>98 |8=>166 |9=>165 |19=>225 |20=>226 |21=>216 |22=>217 |23=>218 |24=>219 |25=>220 |26=>221 |27=>222 |28=>223 |29=>224 |36=>254 |31=>255 |32=>256 |37=>257 |38=>258 |39=>259 |41=>282 |n=>n,fun |27=>37 |29=>9 |3=>3 |32=>186 |26=>37 |0=>0 |44=>321 |46=>323 |4=>4 |36=>313 |35=>312 |41=>318 |5=>5 |9=>9 |53=>341 |57=>345 |63=>359 |64=>360 |n=>n,fun |n=>n⟩
theorem Tryz.Qe:Go.Proofs.SlLaysM.n6 Tryz.prog Tryz.ab2:={
 mixed:=by kernel_rfl
 f6:=⟨Tryz.f98.name,by decide,Tryz.func98.trans (congrArg some (by kernel_rfl))⟩
 f8:=Tryz.func166.trans (congrArg some (by kernel_rfl))
 f9:=⟨Tryz.f165.name,by decide,Tryz.func165.trans (congrArg some (by kernel_rfl))⟩
 f19:=Tryz.func225.trans (congrArg some (by kernel_rfl))
 f20:=Tryz.func226.trans (congrArg some (by kernel_rfl))
 f21:=⟨Tryz.f216.name,by decide,Tryz.func216.trans (congrArg some (by kernel_rfl))⟩
 f22:=⟨Tryz.f217.name,by decide,Tryz.func217.trans (congrArg some (by kernel_rfl))⟩
 f23:=⟨Tryz.f218.name,by decide,Tryz.func218.trans (congrArg some (by kernel_rfl))⟩
 f24:=⟨Tryz.f219.name,by decide,Tryz.func219.trans (congrArg some (by kernel_rfl))⟩
 f25:=⟨Tryz.f220.name,by decide,Tryz.func220.trans (congrArg some (by kernel_rfl))⟩
 f26:=⟨Tryz.f221.name,by decide,Tryz.func221.trans (congrArg some (by kernel_rfl))⟩
 f27:=⟨Tryz.f222.name,by decide,Tryz.func222.trans (congrArg some (by kernel_rfl))⟩
 f28:=⟨Tryz.f223.name,by decide,Tryz.func223.trans (congrArg some (by kernel_rfl))⟩
 f29:=⟨Tryz.f224.name,by decide,Tryz.func224.trans (congrArg some (by kernel_rfl))⟩
 f31:=Tryz.func255.trans (congrArg some (by kernel_rfl))
 f32:=Tryz.func256.trans (congrArg some (by kernel_rfl))
 f36:=⟨Tryz.f254.name,by decide,Tryz.func254.trans (congrArg some (by kernel_rfl))⟩
 f37:=⟨Tryz.f257.name,by decide,Tryz.func257.trans (congrArg some (by kernel_rfl))⟩
 f38:=⟨Tryz.f258.name,by decide,Tryz.func258.trans (congrArg some (by kernel_rfl))⟩
 f39:=⟨Tryz.f259.name,by decide,Tryz.func259.trans (congrArg some (by kernel_rfl))⟩
 f41:=⟨Tryz.f282.name,by decide,Tryz.func282.trans (congrArg some (by kernel_rfl))⟩
 t0:=Tryz.underlying0
 a0:=Tryz.isAgg0
 z0:=Tryz.sizeOf0
 v0:=Tryz.zeroValue0
 t3:=Tryz.underlying3
 a3:=Tryz.isAgg3
 z3:=Tryz.sizeOf3
 v3:=Tryz.zeroValue3
 t4:=Tryz.underlying4
 a4:=Tryz.isAgg4
 z4:=Tryz.sizeOf4
 v4:=Tryz.zeroValue4
 t5:=Tryz.underlying5
 a5:=Tryz.isAgg5
 z5:=Tryz.sizeOf5
 v5:=Tryz.zeroValue5
 t9:=Tryz.underlying9
 a9:=Tryz.isAgg9
 z9:=Tryz.sizeOf9
 v9:=Tryz.zeroValue9
 t26:=Tryz.underlying37
 a26:=Tryz.isAgg37
 z26:=Tryz.sizeOf37
 v26:=Tryz.zeroValue37
 t27:=Tryz.underlying37
 a27:=Tryz.isAgg37
 z27:=Tryz.sizeOf37
 v27:=Tryz.zeroValue37
 t29:=Tryz.underlying9
 a29:=Tryz.isAgg9
 z29:=Tryz.sizeOf9
 v29:=Tryz.zeroValue9
 t32:=Tryz.underlying186
 a32:=Tryz.isAgg186
 z32:=Tryz.sizeOf186
 v32:=Tryz.zeroValue186
 t35:=Tryz.underlying312
 a35:=Tryz.isAgg312
 z35:=Tryz.sizeOf312
 v35:=Tryz.zeroValue312
 t36:=Tryz.underlying313
 a36:=Tryz.isAgg313
 z36:=Tryz.sizeOf313
 v36:=Tryz.zeroValue313
 t41:=Tryz.underlying318
 a41:=Tryz.isAgg318
 z41:=Tryz.sizeOf318
 v41:=Tryz.zeroValue318
 t44:=Tryz.underlying321
 a44:=Tryz.isAgg321
 z44:=Tryz.sizeOf321
 v44:=Tryz.zeroValue321
 t46:=Tryz.underlying323
 a46:=Tryz.isAgg323
 z46:=Tryz.sizeOf323
 v46:=Tryz.zeroValue323
 t53:=Tryz.underlying341
 a53:=Tryz.isAgg341
 z53:=Tryz.sizeOf341
 v53:=Tryz.zeroValue341
 t57:=Tryz.underlying345
 a57:=Tryz.isAgg345
 z57:=Tryz.sizeOf345
 v57:=Tryz.zeroValue345
 t63:=Tryz.underlying359
 a63:=Tryz.isAgg359
 z63:=Tryz.sizeOf359
 v63:=Tryz.zeroValue359
 t64:=Tryz.underlying360
 a64:=Tryz.isAgg360
 z64:=Tryz.sizeOf360
 v64:=Tryz.zeroValue360}
def Tryz.ab3:Go.Shelf.Ren:=⟨fun |5=>194 |7=>242 |n=>n,fun |23=>206 |25=>3 |3=>3 |4=>4 |20=>20 |n=>n,fun |n=>n⟩
theorem Tryz.ab4:Go.Proofs.SlLaysW.n5 Tryz.prog Tryz.ab3:={
 mixed:=by kernel_rfl
 f5:=⟨Tryz.f194.name,by decide,Tryz.func194.trans (congrArg some (by kernel_rfl))⟩
 f7:=Tryz.func242.trans (congrArg some (by kernel_rfl))
 t4:=Tryz.underlying4
 a4:=Tryz.isAgg4
 z4:=Tryz.sizeOf4
 v4:=Tryz.zeroValue4
 t20:=Tryz.underlying20
 a20:=Tryz.isAgg20
 z20:=Tryz.sizeOf20
 v20:=Tryz.zeroValue20
 t23:=Tryz.underlying206
 a23:=Tryz.isAgg206
 z23:=Tryz.sizeOf206
 v23:=Tryz.zeroValue206}
def Tryz.Jx:Go.Shelf.Ren:=⟨fun |7=>183 |10=>236 |n=>n,fun |23=>206 |26=>3 |3=>3 |28=>257 |0=>0 |27=>256 |33=>112 |4=>4 |n=>n,fun |n=>n⟩
theorem Tryz.Qf:Go.Proofs.SlLaysZI.n7 Tryz.prog Tryz.Jx:={
 mixed:=by kernel_rfl
 f7:=⟨Tryz.f183.name,by decide,Tryz.func183.trans (congrArg some (by kernel_rfl))⟩
 f10:=⟨Tryz.f236.name,by decide,Tryz.func236.trans (congrArg some (by kernel_rfl))⟩
 t0:=Tryz.underlying0
 a0:=Tryz.isAgg0
 z0:=Tryz.sizeOf0
 v0:=Tryz.zeroValue0
 t4:=Tryz.underlying4
 a4:=Tryz.isAgg4
 z4:=Tryz.sizeOf4
 v4:=Tryz.zeroValue4
 t23:=Tryz.underlying206
 a23:=Tryz.isAgg206
 z23:=Tryz.sizeOf206
 v23:=Tryz.zeroValue206
 t26:=Tryz.underlying3
 a26:=Tryz.isAgg3
 z26:=Tryz.sizeOf3
 v26:=Tryz.zeroValue3
 t27:=Tryz.underlying256
 a27:=Tryz.isAgg256
 z27:=Tryz.sizeOf256
 v27:=Tryz.zeroValue256
 t28:=Tryz.underlying257
 a28:=Tryz.isAgg257
 z28:=Tryz.sizeOf257
 v28:=Tryz.zeroValue257
 t33:=Tryz.underlying112
 a33:=Tryz.isAgg112
 z33:=Tryz.sizeOf112
 v33:=Tryz.zeroValue112}
def Tryz.ab5:Go.Shelf.Ren:=⟨fun |8=>227 |11=>260 |n=>n,fun |26=>3 |28=>257 |24=>42 |0=>0 |33=>112 |4=>4 |n=>n,fun |n=>n⟩
theorem Tryz.ab6:Go.Proofs.SlLaysZI.n8 Tryz.prog Tryz.ab5:={
 mixed:=by kernel_rfl
 f8:=⟨Tryz.f227.name,by decide,Tryz.func227.trans (congrArg some (by kernel_rfl))⟩
 f11:=⟨Tryz.f260.name,by decide,Tryz.func260.trans (congrArg some (by kernel_rfl))⟩
 t0:=Tryz.underlying0
 a0:=Tryz.isAgg0
 z0:=Tryz.sizeOf0
 v0:=Tryz.zeroValue0
 t24:=Tryz.underlying42
 a24:=Tryz.isAgg42
 z24:=Tryz.sizeOf42
 v24:=Tryz.zeroValue42
 t26:=Tryz.underlying3
 a26:=Tryz.isAgg3
 z26:=Tryz.sizeOf3
 v26:=Tryz.zeroValue3
 t28:=Tryz.underlying257
 a28:=Tryz.isAgg257
 z28:=Tryz.sizeOf257
 v28:=Tryz.zeroValue257
 i26:=by kernel_rfl}
def Tryz.Qg:Go.Shelf.Ren:=⟨fun |7=>198 |10=>243 |n=>n,fun |23=>165 |26=>3 |3=>27 |28=>257 |0=>0 |27=>256 |33=>112 |4=>4 |n=>n,fun |n=>n⟩
theorem Tryz.ab7:Go.Proofs.SlLaysZI.n7 Tryz.prog Tryz.Qg:={
 mixed:=by kernel_rfl
 f7:=⟨Tryz.f198.name,by decide,Tryz.func198.trans (congrArg some (by kernel_rfl))⟩
 f10:=⟨Tryz.f243.name,by decide,Tryz.func243.trans (congrArg some (by kernel_rfl))⟩
 t0:=Tryz.underlying0
 a0:=Tryz.isAgg0
 z0:=Tryz.sizeOf0
 v0:=Tryz.zeroValue0
 t4:=Tryz.underlying4
 a4:=Tryz.isAgg4
 z4:=Tryz.sizeOf4
 v4:=Tryz.zeroValue4
 t23:=Tryz.underlying165
 a23:=Tryz.isAgg165
 z23:=Tryz.sizeOf165
 v23:=Tryz.zeroValue165
 t26:=Tryz.underlying3
 a26:=Tryz.isAgg3
 z26:=Tryz.sizeOf3
 v26:=Tryz.zeroValue3
 t27:=Tryz.underlying256
 a27:=Tryz.isAgg256
 z27:=Tryz.sizeOf256
 v27:=Tryz.zeroValue256
 t28:=Tryz.underlying257
 a28:=Tryz.isAgg257
 z28:=Tryz.sizeOf257
 v28:=Tryz.zeroValue257
 t33:=Tryz.underlying112
 a33:=Tryz.isAgg112
 z33:=Tryz.sizeOf112
 v33:=Tryz.zeroValue112}
def Tryz.Qh:Go.Shelf.Ren:=⟨fun |6=>169 |8=>227 |9=>228 |11=>260 |13=>166 |12=>261 |23=>225 |24=>226 |14=>283 |15=>284 |16=>285 |17=>286 |18=>287 |19=>288 |20=>289 |21=>290 |22=>291 |25=>297 |26=>255 |27=>256 |28=>298 |29=>299 |30=>300 |31=>301 |n=>n,fun |26=>3 |28=>257 |24=>42 |0=>0 |3=>3 |37=>186 |48=>321 |50=>323 |4=>4 |40=>313 |39=>312 |45=>318 |5=>5 |9=>9 |51=>341 |55=>345 |57=>359 |58=>360 |33=>112 |n=>n,fun |n=>n⟩
theorem Tryz.Jy:Go.Proofs.SlLaysZI.n6 Tryz.prog Tryz.Qh:={
 mixed:=by kernel_rfl
 f6:=⟨Tryz.f169.name,by decide,Tryz.func169.trans (congrArg some (by kernel_rfl))⟩
 f8:=⟨Tryz.f227.name,by decide,Tryz.func227.trans (congrArg some (by kernel_rfl))⟩
 f11:=⟨Tryz.f260.name,by decide,Tryz.func260.trans (congrArg some (by kernel_rfl))⟩
 t0:=Tryz.underlying0
 a0:=Tryz.isAgg0
 z0:=Tryz.sizeOf0
 v0:=Tryz.zeroValue0
 t24:=Tryz.underlying42
 a24:=Tryz.isAgg42
 z24:=Tryz.sizeOf42
 v24:=Tryz.zeroValue42
 t26:=Tryz.underlying3
 a26:=Tryz.isAgg3
 z26:=Tryz.sizeOf3
 v26:=Tryz.zeroValue3
 t28:=Tryz.underlying257
 a28:=Tryz.isAgg257
 z28:=Tryz.sizeOf257
 v28:=Tryz.zeroValue257
 i26:=by kernel_rfl}
def Tryz.ab8:Go.Shelf.Ren:=⟨fun |5=>228 |8=>166 |7=>261 |19=>225 |20=>226 |10=>283 |11=>284 |12=>285 |13=>286 |14=>287 |15=>288 |16=>289 |17=>290 |18=>291 |30=>297 |31=>255 |32=>256 |33=>298 |34=>299 |35=>300 |40=>301 |n=>n,fun |23=>42 |25=>3 |3=>3 |32=>186 |22=>42 |0=>0 |44=>321 |46=>323 |4=>4 |36=>313 |35=>312 |41=>318 |5=>5 |9=>9 |53=>341 |57=>345 |63=>359 |64=>360 |n=>n,fun |n=>n⟩
theorem Tryz.Qi:Go.Proofs.SlLaysM.n5 Tryz.prog Tryz.ab8:={
 mixed:=by kernel_rfl
 f5:=⟨Tryz.f228.name,by decide,Tryz.func228.trans (congrArg some (by kernel_rfl))⟩
 f7:=⟨Tryz.f261.name,by decide,Tryz.func261.trans (congrArg some (by kernel_rfl))⟩
 f8:=Tryz.func166.trans (congrArg some (by kernel_rfl))
 f10:=⟨Tryz.f283.name,by decide,Tryz.func283.trans (congrArg some (by kernel_rfl))⟩
 f11:=⟨Tryz.f284.name,by decide,Tryz.func284.trans (congrArg some (by kernel_rfl))⟩
 f12:=⟨Tryz.f285.name,by decide,Tryz.func285.trans (congrArg some (by kernel_rfl))⟩
 f13:=⟨Tryz.f286.name,by decide,Tryz.func286.trans (congrArg some (by kernel_rfl))⟩
 f14:=⟨Tryz.f287.name,by decide,Tryz.func287.trans (congrArg some (by kernel_rfl))⟩
 f15:=⟨Tryz.f288.name,by decide,Tryz.func288.trans (congrArg some (by kernel_rfl))⟩
 f16:=⟨Tryz.f289.name,by decide,Tryz.func289.trans (congrArg some (by kernel_rfl))⟩
 f17:=⟨Tryz.f290.name,by decide,Tryz.func290.trans (congrArg some (by kernel_rfl))⟩
 f18:=⟨Tryz.f291.name,by decide,Tryz.func291.trans (congrArg some (by kernel_rfl))⟩
 f19:=Tryz.func225.trans (congrArg some (by kernel_rfl))
 f20:=Tryz.func226.trans (congrArg some (by kernel_rfl))
 f30:=⟨Tryz.f297.name,by decide,Tryz.func297.trans (congrArg some (by kernel_rfl))⟩
 f31:=Tryz.func255.trans (congrArg some (by kernel_rfl))
 f32:=Tryz.func256.trans (congrArg some (by kernel_rfl))
 f33:=⟨Tryz.f298.name,by decide,Tryz.func298.trans (congrArg some (by kernel_rfl))⟩
 f34:=⟨Tryz.f299.name,by decide,Tryz.func299.trans (congrArg some (by kernel_rfl))⟩
 f35:=⟨Tryz.f300.name,by decide,Tryz.func300.trans (congrArg some (by kernel_rfl))⟩
 f40:=⟨Tryz.f301.name,by decide,Tryz.func301.trans (congrArg some (by kernel_rfl))⟩
 t0:=Tryz.underlying0
 a0:=Tryz.isAgg0
 z0:=Tryz.sizeOf0
 v0:=Tryz.zeroValue0
 t3:=Tryz.underlying3
 a3:=Tryz.isAgg3
 z3:=Tryz.sizeOf3
 v3:=Tryz.zeroValue3
 t4:=Tryz.underlying4
 a4:=Tryz.isAgg4
 z4:=Tryz.sizeOf4
 v4:=Tryz.zeroValue4
 t5:=Tryz.underlying5
 a5:=Tryz.isAgg5
 z5:=Tryz.sizeOf5
 v5:=Tryz.zeroValue5
 t9:=Tryz.underlying9
 a9:=Tryz.isAgg9
 z9:=Tryz.sizeOf9
 v9:=Tryz.zeroValue9
 t22:=Tryz.underlying42
 a22:=Tryz.isAgg42
 z22:=Tryz.sizeOf42
 v22:=Tryz.zeroValue42
 t23:=Tryz.underlying42
 a23:=Tryz.isAgg42
 z23:=Tryz.sizeOf42
 v23:=Tryz.zeroValue42
 t25:=Tryz.underlying3
 a25:=Tryz.isAgg3
 z25:=Tryz.sizeOf3
 v25:=Tryz.zeroValue3
 t32:=Tryz.underlying186
 a32:=Tryz.isAgg186
 z32:=Tryz.sizeOf186
 v32:=Tryz.zeroValue186
 t35:=Tryz.underlying312
 a35:=Tryz.isAgg312
 z35:=Tryz.sizeOf312
 v35:=Tryz.zeroValue312
 t36:=Tryz.underlying313
 a36:=Tryz.isAgg313
 z36:=Tryz.sizeOf313
 v36:=Tryz.zeroValue313
 t41:=Tryz.underlying318
 a41:=Tryz.isAgg318
 z41:=Tryz.sizeOf318
 v41:=Tryz.zeroValue318
 t44:=Tryz.underlying321
 a44:=Tryz.isAgg321
 z44:=Tryz.sizeOf321
 v44:=Tryz.zeroValue321
 t46:=Tryz.underlying323
 a46:=Tryz.isAgg323
 z46:=Tryz.sizeOf323
 v46:=Tryz.zeroValue323
 t53:=Tryz.underlying341
 a53:=Tryz.isAgg341
 z53:=Tryz.sizeOf341
 v53:=Tryz.zeroValue341
 t57:=Tryz.underlying345
 a57:=Tryz.isAgg345
 z57:=Tryz.sizeOf345
 v57:=Tryz.zeroValue345
 t63:=Tryz.underlying359
 a63:=Tryz.isAgg359
 z63:=Tryz.sizeOf359
 v63:=Tryz.zeroValue359
 t64:=Tryz.underlying360
 a64:=Tryz.isAgg360
 z64:=Tryz.sizeOf360
 v64:=Tryz.zeroValue360}
def Tryz.ab9:Go.Shelf.Ren:=⟨fun |5=>208 |7=>242 |n=>n,fun |23=>296 |25=>3 |3=>301 |4=>4 |20=>20 |n=>n,fun |n=>n⟩
theorem Tryz.ab':Go.Proofs.SlLaysW.n5 Tryz.prog Tryz.ab9:={
 mixed:=by kernel_rfl
 f5:=⟨Tryz.f208.name,by decide,Tryz.func208.trans (congrArg some (by kernel_rfl))⟩
 f7:=Tryz.func242.trans (congrArg some (by kernel_rfl))
 t4:=Tryz.underlying4
 a4:=Tryz.isAgg4
 z4:=Tryz.sizeOf4
 v4:=Tryz.zeroValue4
 t20:=Tryz.underlying20
 a20:=Tryz.isAgg20
 z20:=Tryz.sizeOf20
 v20:=Tryz.zeroValue20
 t23:=Tryz.underlying296
 a23:=Tryz.isAgg296
 z23:=Tryz.sizeOf296
 v23:=Tryz.zeroValue296}
def Tryz.Qj:Go.Shelf.Ren:=⟨fun |7=>170 |10=>229 |n=>n,fun |23=>259 |26=>3 |3=>261 |28=>257 |0=>0 |27=>256 |33=>112 |4=>4 |n=>n,fun |n=>n⟩
theorem Tryz.aca:Go.Proofs.SlLaysZI.n7 Tryz.prog Tryz.Qj:={
 mixed:=by kernel_rfl
 f7:=⟨Tryz.f170.name,by decide,Tryz.func170.trans (congrArg some (by kernel_rfl))⟩
 f10:=⟨Tryz.f229.name,by decide,Tryz.func229.trans (congrArg some (by kernel_rfl))⟩
 t0:=Tryz.underlying0
 a0:=Tryz.isAgg0
 z0:=Tryz.sizeOf0
 v0:=Tryz.zeroValue0
 t4:=Tryz.underlying4
 a4:=Tryz.isAgg4
 z4:=Tryz.sizeOf4
 v4:=Tryz.zeroValue4
 t23:=Tryz.underlying259
 a23:=Tryz.isAgg259
 z23:=Tryz.sizeOf259
 v23:=Tryz.zeroValue259
 t26:=Tryz.underlying3
 a26:=Tryz.isAgg3
 z26:=Tryz.sizeOf3
 v26:=Tryz.zeroValue3
 t27:=Tryz.underlying256
 a27:=Tryz.isAgg256
 z27:=Tryz.sizeOf256
 v27:=Tryz.zeroValue256
 t28:=Tryz.underlying257
 a28:=Tryz.isAgg257
 z28:=Tryz.sizeOf257
 v28:=Tryz.zeroValue257
 t33:=Tryz.underlying112
 a33:=Tryz.isAgg112
 z33:=Tryz.sizeOf112
 v33:=Tryz.zeroValue112}
end Go.Proofs
section
abbrev sP (fn:aE8) (tmps:aF6) (bE:Array Nat) (assign body:Code) (D:Nat) (st:LoopState):Loop:={state:=st,pending:=none,fn:=fn,tmps:=tmps,params:=bE,assign:=assign,body:=body,defers:=D}
def E8 (l4:Nat->bm) (f4:aD3) (k5:Nat->Prop) (rQ:aD8) (l:Nat) (rec:Loop) (c:Nat) (B:av) (I F:Nat->Prop) (w:aD8) (p:bm):Prop:=
 cj k5 rQ I w/\w.heap[l]? =some (.loop rec)/\ ∃(ρ:Nat->bm) (cd:Nat->Nat->Prop),ρ c=p/\(∀d,d∈f4->ρ d=l4 d)/\(∀d ch,ae B d=some ch->Holds ρ I (cd d) w (ρ d) ch)/\
  (∀d cY ch ch' b,ae B d=some ch->ae B cY=some ch'->d≠cY->cd d b-> ¬cd cY b)/\(∀d ch,ae B d=some ch-> ¬cd d l)/\ ∀b,F b↔b=l\/ ∃d ch,ae B d=some ch/\cd d b
def bc.nq (l4:Nat->bm) (f4:aD3) (k5:Nat->Prop) (rQ:aD8) (l:Nat) (rec:Loop) (c:Nat) (B:av):bc where
 bn:=E8 l4 f4 k5 rQ l rec c B
 cg:=fun I F w I' w' p ⟨au,ak,ρ,cd,E,sB,G,ag,A9,aS⟩ U bj aO=>
  ⟨au.trans U,(bj l ((aS l).2 (.inl rfl))).trans ak,ρ,cd,E,sB,fun d ch H=>Holds.cg U (fun b O=>bj b ((aS b).2 (.inr ⟨d,ch,H,O⟩))) aO ch (fun _ _=>rfl) (G d ch H),ag,A9,aS⟩
def uc (l:aD3):List aN->Bool
 | []=>true
 |v::aB=>v.iy l&&uc l aB
def Jz {l:aD3}: ∀{aB:List aN},uc l aB=true-> ∀{i:Nat} {v:aN},aB[i]? =some v->v.iy l=true
 | [],_,i,v,h=>by simp at h
 |x::aB,h,i,v,ay=>by
  simp only[uc,ao8] at h
  match i with
  |0=>
   simp only[aq2,ap5] at ay;exact ay▸h.1
  |i+1=>exact Jz h.2 (i:=i) aB9
def zc (l:aD3):aW->Bool
 | []=>true
 |(_,v)::K=>v.iy l&&zc l K
def JA {l:aD3}: ∀{K:aW},zc l K=true-> ∀s,(dQ K s).iy l=true
 | [],_,s=>rfl
 |(t,v)::K,h,s=>by
  simp only[zc,ao8] at h;rw[ke]
  split
  .exact h.1
  .exact JA h.2 s
section
variable {P:aD9} {aQ:df} {N:Nat} {l4:Nat->bm} {f4:aD3} {k5:Nat->Prop} {rQ:aD8} {l:Nat} {rec:Loop} {c:Nat}
def ov {c:Nat} {ch:ba}:ae [(c,ch)] c=some ch:=aB7
def ud {c d:Nat} {ch ch':ba} (h:ae [(c,ch)] d=some ch'):d=c/\ch'=ch:=by
 rw[cn] at h
 split at h
 .rename_i e;injection h with h;exact⟨e.symm,h.symm⟩
 .cases h
def acb {f:aE8} {args:List aN} {res:aN} {oZ ow:av} (h:Fn P f args oZ [] res ow) (ha:uc [c] args=true) (aw:res.iy []=true):
  Fn P f args [(c,.aA (bc.nq l4 f4 k5 rQ l rec c oZ))] [] res [(c,.aA (bc.nq l4 f4 k5 rQ l rec c ow))]:=by
 refine⟨h.1,fun ρ F I w bW aZ c9 bj ew bZ dz=>?_⟩;have hF:E8 l4 f4 k5 rQ l rec c oZ I (F c) w (ρ c):=c9 c _ ov;obtain⟨au,ak,nC,cd,cE,vv,cG,dG,zd,e3⟩:=hF;have mc: ∀b,F c b->b < w.heap.size/\ ¬I b:=fun b O=>bj c _ ov b O
 have mm:l < w.heap.size:=l0 ak;have xk: ¬ ∃d ch,ae oZ d=some ch/\cd d l:=fun⟨d,ch,H,aV⟩=>zd d ch H aV
 refine(h.2 nC cd I w bW aZ cG (fun d ch H b O=>mc b ((e3 b).2 (.inr ⟨d,ch,H,O⟩))) dG bZ ?_).mono ?_
 .intro i v x ay hx;refine cv.mono (cj.refl _ _) v x (fun j V=>?_) (dz i v x ay hx);have:=aN.kp (Jz ha ay) V;rw[aq6] at this;subst this;exact cE
 .rintro e w' ⟨x,ρ',F',rfl,cC,de,I',i0,gw,k1,aq,hB,rF⟩;have gh:w'.heap[l]? =some (.loop rec):=(cC.block l mm xk).trans ak
  have ze: ¬I' l:=fun aG=>by
   rcases(gw l aG).2 with h |h |h
   .exact(mc l ((e3 l).2 (.inl rfl))).2 h
   .exact xk h
   .omega
  refine⟨x,ρ,fun d=>if d=c then(fun b=>b=l\/ ∃d ch,ae ow d=some ch/\F' d b) else F d,rfl,cC.mono fun b _ ⟨d,ch,H,aV⟩=>⟨c,_,ov,(e3 b).2 (.inr ⟨d,ch,H,aV⟩)⟩,fun _ _=>rfl,I',i0,fun b O=>⟨(gw b O).1,?_⟩,?_,?_,?_,?_⟩
  .rcases(gw b O).2 with h |⟨d,ch,H,aV⟩ |h
   .exact .inl h
   .exact .inr (.inl ⟨c,_,ov,(e3 b).2 (.inr ⟨d,ch,H,aV⟩)⟩)
   .exact .inr (.inr h)
  .intro d ch H;obtain⟨rfl,rfl⟩:=ud H;simp only[if_true];refine⟨au.trans i0,gh,ρ',F',(de _ az9).trans cE,fun d H=>(de d az9).trans (vv d H),k1,hB,fun d ch H aV=>?_,fun b=>Iff.rfl⟩;rcases(aq d ch H l aV).2.2 with h |h
   .exact xk h
   .omega
  .intro d ch H b O;obtain⟨rfl,rfl⟩:=ud H;simp only[if_true] at O;rcases O with rfl |⟨d,ch,H,O⟩
   .exact⟨l0 gh,ze,.inl ⟨_,_,ov,(e3 _).2 (.inl rfl)⟩⟩
   .obtain⟨r1,r2,fI⟩:=aq d ch H b O;exact⟨r1,r2,fI.imp (fun⟨d,ch,H,aV⟩=>⟨_,_,ov,(e3 b).2 (.inr ⟨d,ch,H,aV⟩)⟩) id⟩
  .intro d cY ch ch' b H c1 a6;exact ap0 ((ud H).1.trans (ud c1).1.symm) a6
  .exact cv.mono (cj.refl _ _) res x (fun j V=>by have:=aN.kp aw V;cases this) rF
def zf:aD3->List aN->aW->aW
 | [],_,K=>K
 |p::pl,aB,K=>match aB with
  | []=>K
  |v::aB=>zf pl aB ((p,v)::K)
def Qk {ρ:Nat->bm} {I:Nat->Prop} {w:aD8}: ∀(pl:aD3) (aB:List aN) (bW:aD7) (K:aW) (t:aF6),bW.length=aB.length->(∀p,p∈pl->p < t.size)->(∀(i:Nat) (v:aN) (x:aE7),aB[i]? =some v->bW[i]? =some x->cv ρ I w v x)->
  (∀s,cv ρ I w (dQ K s) (t.getD s undef))->(((pl.zip bW).foldl (fun t (p:Nat×Value)=>t.setIfInBounds p.1 p.2) t).size=t.size/\ ∀s,cv ρ I w (dQ (zf pl aB K) s) (((pl.zip bW).foldl (fun t (p:Nat×Value)=>t.setIfInBounds p.1 p.2) t).getD s undef))
 | [],aB,bW,K,t,_,_,_,h=>⟨rfl,h⟩
 |p::pl,[],[],K,t,_,_,_,h=>⟨rfl,h⟩
 |p::pl,[],_::_,K,t,ak,_,_,h=>by simp at ak
 |p::pl,_::_,[],K,t,ak,_,_,h=>by simp at ak
 |p::pl,v::aB,x::bW,K,t,ak,ao,ay,h=>by
  have acd:=ao p (aq4 ..)
  obtain⟨g1,g2⟩:=Qk pl aB bW ((p,v)::K) (t.setIfInBounds p x) (by simpa using ak) (fun q aY=>by rw[Array.size_setIfInBounds];exact ao q (ap4 _ aY)) (fun i u y a8 aC=>ay (i+1) u y (by simpa using a8) (by simpa using aC)) (fun s=>by
   rw[ke]
   by_cases e:p=s
   .subst e;rw[vj rfl];have:(t.setIfInBounds p x).getD p undef=x:=by simp[acd]
    rw[this];exact ay 0 v x rfl rfl
   .rw[mu e];have:(t.setIfInBounds p x).getD s undef=t.getD s undef:=by simp[av6 e]
    rw[this];exact h s)
  refine⟨?_,g2⟩;rw[List.zip_cons_cons,List.foldl_cons];exact g1.trans (Array.size_setIfInBounds)
def Mem.Ql {ids:aD3} {C:eZ} {B:av} {ρ:Nat->bm} {F:Nat->Nat->Prop} {w:aD8} (h:Mem ids C B ρ F w) (bj: ∀b,C.yl b-> ¬C.py b):cj C.yl C.gq (bX C B F w) w:=fun b O=>by
 have E:=h.kH.2.1 b (.inl O);refine⟨⟨aq8 E h.fr.size,.inl O,fun c ch J hf=>?_⟩,h.fr.block b E (bj b O)⟩;rcases(h.own c ch J b hf).2 with G |G
 .exact bj b O G
 .have:=G.1;omega
def ace (bk:d5 P aQ) {fn:aE8} {tmps:aF6} {bE:Array Nat} {pl:aD3} {assign body:Code} {D:Nat} (lh:bE.toList=pl) (gM: ∀p,p∈pl->p < N) (cL:tmps.size=N) (B1:iK P N assign=true) (xh:iK P N body=true)
  {iL:aW} (B2:zc f4 iL=true) (J:c∈f4) (h6: ∀s,cv l4 k5 rQ (dQ iL s) (tmps.getD s undef)) (stops:aD3) {aB:List aN} (qy:aB.length=pl.length) (I6:uc [] aB=true) {oZ ow:av}
  (acf:iI P aQ N (0::f4) stops assign (zf pl aB iL) oZ (fun e K B=>e= .gv/\iI P aQ N (0::f4) stops body K B (fun e K B=>e= .gv/\ac (0::f4) K B [] ow))):
  sL P l aB [(c,.aA (bc.nq l4 f4 k5 rQ l (sP fn tmps bE assign body D .ready) c oZ))] (fun _:Unit=>oa true) (fun _=>[(c,.aA (bc.nq l4 f4 k5 rQ l (sP fn tmps bE assign body D .ready) c ow))]):=by
 intro ρ F I w bW aZ c9 bj ew bZ dz;have hF:E8 l4 f4 k5 rQ l (sP fn tmps bE assign body D .ready) c oZ I (F c) w (ρ c):=c9 c _ ov;obtain⟨au,ak,nC,cd,cE,vv,cG,dG,zd,e3⟩:=hF;have mc: ∀b,F c b->b < w.heap.size/\ ¬I b:=fun b O=>bj c _ ov b O
 have mm:l < w.heap.size:=l0 ak;have xk: ¬ ∃d ch,ae oZ d=some ch/\cd d l:=fun⟨d,ch,H,aV⟩=>zd d ch H aV
 have acg: ¬I l:=(mc l ((e3 l).2 (.inl rfl))).2;have xl: ∀{d ch b},ae oZ d=some ch->cd d b->F c b:=fun {d ch b} H aV=>(e3 b).2 (.inr ⟨d,ch,H,aV⟩)
 have aC:=run_yield (P:=P) (args:=bW.toArray) ak (by rw[List.size_toArray,bZ,qy,<-lh,Array.length_toList]);refine⟨fn,_,assign,body,aC,roundIn_of_wpIn (F:=ob none) trivial ?_⟩
 have ach:((bE.zip bW.toArray).foldl (fun tmps (x:Nat×Value)=>tmps.setIfInBounds x.1 x.2) tmps)=(pl.zip bW).foldl (fun t (p:Nat×Value)=>t.setIfInBounds p.1 p.2) tmps:=by
  rw[<-lh,<-Array.foldl_toList]
  congr 1
  simp
 obtain⟨g1,g2⟩:=Qk (ρ:=nC) (I:=I) (w:=w) pl aB bW iL tmps bZ (fun p ao=>by rw[cL];exact gM p ao) (fun i v x ay hx=>cv.mono (cj.refl _ _) v x (fun j V=>by have:=aN.kp (Jz I6 ay) V;cases this) (dz i v x ay hx))
  (fun s=>cv.mono au _ _ (fun j V=>vv j (aN.kp (JA B2 s) V)) (h6 s))
 let qG:eZ:=⟨w,I,fun b=> ∃d ch,ae oZ d=some ch/\cd d b,nC,[]⟩
 have rD:cj I w (bX qG oZ cd w) w:=fun b O=>⟨⟨aZ b O,.inl O,fun d ch H aV=>(mc b (xl H aV)).2 O⟩,rfl⟩
 have ko:Mem (0::f4) qG oZ nC cd w:=⟨cR.refl _ _,fun d ch H=>Holds.cg rD (fun _ _=>rfl) (ao9 _) ch (fun _ _=>rfl) (cG d ch H),fun d ch H b O=>⟨(mc b (xl H O)).1,.inl ⟨d,ch,H,O⟩⟩,dG,fun _ _=>rfl,av1,
  fun b O=>O.elim (aZ b) fun⟨d,ch,H,aV⟩=>(mc b (xl H aV)).1,fun D cx=>by cases cx⟩
 have jb:eS N (0::f4) qG (zf pl aB iL) oZ ⟨(bE.zip bW.toArray).foldl (fun tmps (x:Nat×Value)=>tmps.setIfInBounds x.1 x.2) tmps,[]⟩ w:=by
  rw[ach];exact⟨g1.trans cL,rfl,nC,cd,ko,fun s=>cv.mono rD _ _ (fun _ _=>rfl) (g2 s)⟩
 refine yP bk (yX bk) stops assign _ _ _ B1 acf (some l) (fun h=>by simp[su] at h) qG _ ?_ _ w jb;rintro e O6 jr ds hL ⟨rfl,aci⟩ bR cp f0;have hL:ds=[]:=hL (by simp[su]);subst hL;obtain⟨c4,hA,rI,cF,i5,acj⟩:=f0;have i5:Mem (0::f4) qG jr rI cF cp:=i5;have sl:cp.heap[l]? =some (.loop (sP fn tmps bE assign body D .ready)):=(i5.fr.block l mm xk).trans ak;have ack:=l0 sl
 have ze: ¬bX qG jr cF cp l:=fun aG=>by
  rcases aG.2.1 with h |h |h
  .exact acg h
  .exact xk h
  .have h:w.heap.size<=l:=h.1;omega
 have E9: ∀d ch,ae jr d=some ch-> ¬cF d l:=fun d ch H hf=>by
  rcases(i5.own d ch H l hf).2 with h |h
  .exact xk h
  .have h:w.heap.size<=l:=h.1;omega
 refine⟨_,run_beginRound sl rfl,?_⟩;obtain⟨dK,B3⟩: ∃dK,dK=cp.putObj l (.loop {sP fn tmps bE assign body D .ready with state:=.busy}):=⟨_,rfl⟩;rw[<-B3];have B4:dK.heap.size=cp.heap.size:=by rw[B3,World.putObj_size]
 have JB: ∀b,b≠l->dK.heap[b]? =cp.heap[b]? :=fun b O=>by rw[B3];exact World.putObj_heap_other O
 have pB:dK.heap[l]? =some (.loop {sP fn tmps bE assign body D .ready with state:=.busy}):=by rw[B3];exact World.putObj_heap_same ack
 have JC:dK.os=cp.os/\dK.tape=cp.tape/\dK.output=cp.output:=by rw[B3];exact⟨rfl,rfl,rfl⟩
 let ox:eZ:=⟨dK,bX qG jr cF cp,fun b=> ∃d ch,ae jr d=some ch/\cF d b,rI,[]⟩
 have mJ:cj (bX qG jr cF cp) cp (bX ox jr cF dK) dK:=fun b O=>⟨⟨by rw[B4];exact O.1,.inl O,O.2.2⟩,JB b (fun e=>ze (e▸O))⟩
 have acl:Mem (0::f4) ox jr rI cF dK:=⟨cR.refl _ _,fun d ch H=>Holds.cg mJ (fun b O=>JB b (fun e=>E9 d ch H (e▸O))) (Nat.le_of_eq B4.symm) ch (fun _ _=>rfl) (i5.holds d ch H),fun d ch H b O=>⟨by rw[B4];exact(i5.own d ch H b O).1,.inl ⟨d,ch,H,O⟩⟩,i5.e0,fun _ _=>rfl,av1,
  fun b O=>by
   show b < dK.heap.size;rw[B4];exact O.elim (fun O=>O.1) fun⟨d,ch,H,aV⟩=>(i5.own d ch H b aV).1,fun D cx=>by cases cx⟩
 refine yP bk (yX bk) stops body _ _ _ xh aci (some l) (fun h=>by simp[su] at h) ox _ ?_ bR dK ⟨c4,hA,rI,cF,acl,acj.mono mJ fun _ _ _=>rfl⟩;rintro e aoy aoz ds hL ⟨rfl,hh⟩ a3 kP acm;have hL:ds=[]:=hL (by simp[su]);subst hL;obtain⟨mn,pA,y5,sQ,rR,aoA⟩:=hh N (ox.at []) a3 kP acm;have rR:Mem (0::f4) ox ow y5 sQ kP:=rR;have Qm:kP.heap[l]? =some (.loop {sP fn tmps bE assign body D .ready with state:=.busy}):=(rR.fr.block l (l0 pB) (fun⟨d,ch,H,aV⟩=>E9 d ch H aV)).trans pB;have Qn:=l0 Qm
 have Qo: ¬bX ox ow sQ kP l:=fun aG=>by
  rcases aG.2.1 with h |h |h
  .exact ze h
  .obtain⟨d,ch,H,aV⟩:=h;exact E9 d ch H aV
  .have h:dK.heap.size<=l:=h.1;omega
 have Qp: ∀d ch,ae ow d=some ch-> ¬sQ d l:=fun d ch H hf=>by
  rcases(rR.own d ch H l hf).2 with h |h
  .obtain⟨d,ch,H,aV⟩:=h;exact E9 d ch H aV
  .have h:dK.heap.size<=l:=h.1;omega
 obtain⟨iB,mR⟩: ∃iB,iB=kP.putObj l (.loop (sP fn tmps bE assign body D .ready)):=⟨_,rfl⟩;have d1:(Instr.endRound l none).run P kP= .ok (.bool true) iB:=by rw[mR];exact run_endRound none Qm
 refine⟨.bool true,iB,d1,?_⟩;have pN:iB.heap.size=kP.heap.size:=by rw[mR,World.putObj_size]
 have ue: ∀b,b≠l->iB.heap[b]? =kP.heap[b]? :=fun b O=>by rw[mR];exact World.putObj_heap_other O
 have acn:iB.heap[l]? =some (.loop (sP fn tmps bE assign body D .ready)):=by rw[mR];exact World.putObj_heap_same Qn
 have xm:iB.os=kP.os/\iB.tape=kP.tape/\iB.output=kP.output:=by rw[mR];exact⟨rfl,rfl,rfl⟩
 have aco:cj I w (bX qG jr cF cp) cp:=i5.Ql fun b O ⟨d,ch,H,aV⟩=>(mc b (xl H aV)).2 O
 have acp:cj (bX qG jr cF cp) cp (bX qG jr cF cp) dK:=fun b O=>⟨O,(mJ b O).2⟩
 have acq:cj (bX qG jr cF cp) dK (bX ox ow sQ kP) kP:=rR.Ql fun b O ⟨d,ch,H,aV⟩=>O.2.2 d ch H aV
 have Qq:cj (bX ox ow sQ kP) kP (bX ox ow sQ kP) iB:=fun b O=>⟨O,ue b (fun e=>Qo (e▸O))⟩
 have Qr:cj I w (bX ox ow sQ kP) iB:=aco.trans (acp.trans (acq.trans Qq));have Qs:=i5.fr.size;have Qs:w.heap.size<=cp.heap.size:=Qs;have z23:dK.heap.size<=kP.heap.size:=rR.fr.size
 have fd: ∀{b},(ox.py b\/ox.gq.heap.size<=b/\b∉ox.ds)->F c b\/w.heap.size<=b:=fun {b} h=>by
  rcases h with⟨d,ch,H,aV⟩ |h
  .rcases(i5.own d ch H b aV).2 with⟨d,ch,H,aV⟩ |h
   .exact .inl (xl H aV)
   .exact .inr h.1
  .have h:dK.heap.size<=b:=h.1;exact .inr az7
 refine⟨(),.bool true,ρ,fun d=>if d=c then(fun b=>b=l\/ ∃d ch,ae ow d=some ch/\sQ d b) else F d,rfl,?_,fun _=>rfl,bX ox ow sQ kP,Qr,fun b O=>⟨by rw[pN];exact O.1,?_⟩,?_,?_,?_,rfl⟩
 .have g3:cR (fun b=>F c b) w cp:=i5.fr.mono fun b _ ⟨d,ch,H,aV⟩=>xl H aV
  have io:cR (fun b=>b=l) cp dK:=⟨JC.1,JC.2.1,JC.2.2,Nat.le_of_eq B4.symm,fun b _ O=>JB b O⟩;have f3:cR ox.py dK kP:=rR.fr;have l8:cR (fun b=>b=l) kP iB:=⟨xm.1,xm.2.1,xm.2.2,Nat.le_of_eq pN.symm,fun b _ O=>ue b O⟩;have dI:F c l:=(e3 l).2 (.inl rfl)
  have f:cR (fun b=>F c b) w iB:=((g3.trans io fun b _ (O:b=l)=>by rw[O];exact dI).trans f3 fun b O hf=>by
   rcases fd (.inl hf) with h |h
   .exact h
   .omega).trans l8 fun b _ (O:b=l)=>by rw[O];exact dI
  exact f.mono fun b _ O=>⟨c,_,ov,O⟩
 .rcases O.2.1 with h |h
  .rcases h.2.1 with h |⟨d,ch,H,aV⟩ |h
   .exact .inl h
   .exact .inr (.inl ⟨c,_,ov,xl H aV⟩)
   .exact .inr (.inr h.1)
  .exact .inr ((fd h).imp (fun h=>⟨c,_,ov,h⟩) id)
 .intro d ch H;obtain⟨rfl,rfl⟩:=ud H;simp only[if_true];have Z: ∀d,d∈f4->y5 d=nC d:=fun d H=>(rR.l1 d (ap4 _ H)).trans (i5.l1 d (ap4 _ H))
  exact⟨au.trans Qr,acn,y5,sQ,(Z _ J).trans cE,fun d H=>(Z d H).trans (vv d H),fun d ch H=>Holds.cg Qq (fun b O=>ue b (fun e=>Qp d ch H (e▸O))) (Nat.le_of_eq pN.symm) ch (fun _ _=>rfl) (rR.holds d ch H),rR.e0,Qp,fun b=>Iff.rfl⟩
 .intro d ch H b O;obtain⟨rfl,rfl⟩:=ud H;simp only[if_true] at O;rcases O with rfl |⟨d,ch,H,O⟩
  .exact⟨by rw[pN];exact Qn,Qo,.inl ⟨_,_,ov,(e3 _).2 (.inl rfl)⟩⟩
  .obtain⟨r1,r2⟩:=rR.own d ch H b O;exact⟨by rw[pN];exact r1,fun aG=>aG.2.2 d ch H O,(fd r2).imp (fun h=>⟨_,_,ov,h⟩) id⟩
 .intro d cY ch ch' b H c1 a6;exact ap0 ((ud H).1.trans (ud c1).1.symm) a6
def acr {f:aE8} {w:aD8} {cs args:aF6} (hf:iX P f=true):(invoke (.fn (.func f) cs) args).run P w= .ok (.enter f (args++cs)) w:=by
 unfold iX at hf
 split at hf
 .rename_i fn j0;simp only[aq9,at1,beq_eq_false_iff_ne] at hf;have G: ¬fn.body=none:=fun e=>by rw[e] at hf;simp at hf
  simp[invoke,callFunc,go_sem,j0];rw[mu hf.1,mu G]
 .cases hf
abbrev k6 (i':List (Nat×bc)):av:=i'.map fun p=>(p.1,ba.aA p.2)
def Qt {d:Nat} {ch:ba}: ∀{i':List (Nat×bc)},ae (k6 i') d=some ch-> ∃o,(d,o)∈i'/\ch= .aA o
 | [],h=>by cases h
 |p::l,h=>by
  have h:ae ((p.1,ba.aA p.2)::k6 l) d=some ch:=h;rw[cn] at h
  split at h
  .rename_i e;injection h with h
   exact⟨p.2,by rw[<-e];exact aq4 ..,h.symm⟩
  .obtain⟨o,E,G⟩:=Qt h;exact⟨o,ap4 _ E,G⟩
def bB.Qu (bk:d5 P aQ) {ids:aD3} (stops:aD3) {s:Nat} {bE:Array Nat} {pl:aD3} {assign body:Code} (lh:bE.toList=pl) (B1:iK P N assign=true) (xh:iK P N body=true) (gM:(pl.all fun p=>Nat.blt p N)=true)
  {f:aE8} {zg:List kc} (hf:iX P f=true) (f4:aD3) (K iL:aW) (hY:av) {X:Type} (eT:X->av) (c:Nat) (gC mo:X) (Y:X->List aN->X->Prop) (i':List (Nat×bc)) (tQ:(i'.all fun p=>f4.contains p.1&& !Nat.beq p.1 c&& !(ci (eT mo)).contains p.1)=true)
  (JD:dQ K s= .c (.one (.cW f zg))) (B2:wX K iL)
  (Z:(f4.contains c&&zc f4 iL&&ids.all f4.contains&& !su ids)=true) (yS:((ci (eT gC)).all (fun d=> !(ci hY).contains d)&& !(ci hY).contains c)=true)
  (JE: ∀x aB k7,Y x aB k7->aB.length=pl.length/\uc [] aB=true/\iI P aQ N (0::f4) stops assign (zf pl aB iL) (eT x) (fun e K B=>e= .gv/\iI P aQ N (0::f4) stops body K B (fun e K B=>e= .gv/\ac (0::f4) K B [] (eT k7))))
  (JF: ∀(l:Nat) (dq:X->bc),(∀pI args res x k7,Fn P pI args (eT x) [] res (eT k7)->uc [c] args=true->res.iy []=true->Fn P pI args [(c,.aA (dq x))] [] res [(c,.aA (dq k7))])->
   (∀x aB k7,Y x aB k7->sL P l aB [(c,.aA (dq x))] (fun _:Unit=>oa true) (fun _=>[(c,.aA (dq k7))]))->
   Fn P f (.c (.one (.bH (.func (.yield l) #[] #[])))::nr zg) (hY++[(c,.aA (dq gC))]) [] (.cm []) (k6 i'++[(c,.aA (dq mo))]))
  {Q:nt->aW->av->Prop} (rE:Q .gv iL (k6 i'++eT mo)):bB P N ids (.rangeFunc (.tmp s) bE assign body) K (hY++eT gC) Q:=by
 intro r aw C il aY a w ax;simp only[ao8,aq9] at Z yS;obtain⟨⟨⟨cl,fO⟩,acs⟩,hid⟩:=Z;obtain⟨jd,iZ⟩:=yS;have cl:=rH cl;have Hx: ∀d,d∈ids->d∈f4:=fun d H=>rH (ar3.1 acs d H)
 have Qv:ae hY c=none:=by
  cases e:ae hY c with
  |none=>rfl
  |some ch=>have:=ar5.2 (f1.2 ⟨ch,e⟩);rw[iZ] at this;cases this
 have aw:=aw hid;subst aw;obtain⟨hn,H,ρ,F,ah,ar⟩:=ax
 have o0: ∀{d ch},ae (eT gC) d=some ch->ae (hY++eT gC) d=some ch/\ae hY d=none:=fun {d ch} h=>by
  have Z:=ar3.1 jd d (f1.2 ⟨ch,h⟩)
  have hn:ae hY d=none:=by
   cases e:ae hY d with
   |none=>rfl
   |some ch'=>rw[ar5.2 (f1.2 ⟨ch',e⟩)] at Z;cases Z
  exact⟨by rw[hQ,hn];exact h,hn⟩
 have qH: ∀{d ch},ae hY d=some ch->ae (hY++eT gC) d=some ch:=fun {d ch} h=>by rw[hQ,h]
 refine wpIn_rangeFunc fun fn _=>?_
 obtain⟨rec,ma⟩: ∃rec,rec=sP fn a.tmps bE assign body w.heap.size .ready:=⟨_,rfl⟩;obtain⟨cp,rK⟩: ∃cp,cp=(w.alloc (.deferred (some []))).alloc (.loop rec):=⟨_,rfl⟩;have pJ:Below w.heap.size w cp:=by rw[rK];exact((Below.refl _ w).alloc (ao9 _) _).alloc az9 _
 have aoB:cp.heap.size=w.heap.size+2:=by rw[rK];simp
 have JG:cp.heap[w.heap.size+1]? =some (.loop rec):=by rw[rK];have:=World.alloc_heap_new (w.alloc (.deferred (some []))) (.loop rec);rwa[World.size_alloc] at this
 have JH:cp.heap[w.heap.size]? =some (.deferred (some [])):=by rw[rK];exact(Below.heap_alloc _ _ _ az9).trans (World.alloc_heap_new w _)
 obtain⟨l,mS⟩: ∃l,l=w.heap.size+1:=⟨_,rfl⟩;rw[<-mS] at JG
 let k5:=bX C (hY++eT gC) F w
 have mQ:cj k5 w k5 cp:=fun b O=>⟨O,pJ.block b O.1⟩
 let dq:=fun x=>bc.nq ρ f4 k5 cp l rec c (eT x)
 have ay:=ar s;rw[JD] at ay;obtain⟨cs,ev,w6⟩:=ay;obtain⟨acu,acv⟩:=hK.bW zg cs w6
 have h6: ∀t,cv ρ k5 cp (dQ iL t) (a.tmps.getD t undef):=fun t=>by
  rcases IF B2 t with h |h
  .exact cv.mono mQ _ _ (fun _ _=>rfl) (vc h (ar t))
  .rw[h];trivial
 have j0:=JF l dq (fun pI args res x k7 h ha aw=>acb h ha aw) (fun x aB k7 aC=>by
  obtain⟨tY,vg,Bz⟩:=JE x aB k7 aC;show sL P l aB [(c,.aA (bc.nq ρ f4 k5 cp l rec c (eT x)))] (fun _:Unit=>oa true) (fun _=>[(c,.aA (bc.nq ρ f4 k5 cp l rec c (eT k7)))]);rw[ma];exact ace bk lh (fun p ao=>by have:=ar3.1 gM p ao;simpa[Nat.blt_eq] using this) hn B1 xh fO cl h6 stops tY vg Bz)
 refine⟨l,[wx w.heap.size],cp,{target:=.fn (.func f) cs.toArray,args:= #[.func (.yield l) #[] #[]]},cp,f,#[.func (.yield l) #[] #[]]++cs.toArray,cp,?_,?_,fun _ _=>trivial,acr hf,fun h=>ap0 h az9,OW ?_⟩
 .rw[rK,mS,ma];exact run_enterLoop_outer _ _ _ _ _
 .have acw:a.eval (.tmp s)= .func (.func f) #[] cs.toArray:=ev;simp only[resolve,acw];simp[go_sem]
 have acx: #[Value.func (.yield l) #[] #[]]++cs.toArray=(Value.func (.yield l) #[] #[]::cs).toArray:=by simp
 rw[acx];have EX: ∀b,(∃d ch,ae (eT gC) d=some ch/\F d b)->b < w.heap.size:=fun b ⟨d,ch,H,O⟩=>(ah.own d ch (o0 H).1 b O).1
 let cF:Nat->Nat->Prop:=fun d=>if d=c then(fun b=>b=l\/ ∃d ch,ae (eT gC) d=some ch/\F d b) else F d
 have ip: ∀{d ch},ae (hY++[(c,ba.aA (dq gC))]) d=some ch->(d=c/\ch= .aA (dq gC))\/(d≠c/\ae hY d=some ch):=fun {d ch} h=>by
  rw[hQ] at h
  cases e:ae hY d with
  |some ch'=>
   rw[e] at h;exact .inr ⟨fun JI=>(by rw[JI,Qv] at e;cases e),h⟩
  |none=>
   rw[e] at h;obtain⟨af,al⟩:=ud h;exact .inl ⟨af,al⟩
 have dI:ae (hY++[(c,ba.aA (dq gC))]) c=some (.aA (dq gC)):=by rw[hQ,Qv];exact ov
 have vw:cF c=(fun b=>b=l\/ ∃d ch,ae (eT gC) d=some ch/\F d b):=vj rfl;have sR: ∀{d},d≠c->cF d=F d:=fun {d} h=>mu h
 have aoC:w.heap.size<=l:=aA5
 refine(j0.2 ρ cF k5 cp _ (fun b O=>by have:=O.1;omega) ?_ ?_ ?_ (by simp[acu]) ?_).mono ?_
 .intro d ch H;rcases ip H with⟨rfl,rfl⟩ |⟨e,H⟩
  .rw[vw]
   exact⟨cj.refl _ _,JG,ρ,F,rfl,fun _ _=>rfl,fun d ch H=>Holds.cg mQ (fun b O=>pJ.block b (ah.own d ch (o0 H).1 b O).1) pJ.size ch (fun _ _=>rfl) (ah.holds d ch (o0 H).1),fun d cY ch ch' b E G=>ah.e0 d cY ch ch' b (o0 E).1 (o0 G).1,
    fun d ch H O=>by have:=(ah.own d ch (o0 H).1 l O).1;omega,fun b=>Iff.rfl⟩
  .rw[sR e];exact Holds.cg mQ (fun b O=>pJ.block b (ah.own d ch (qH H) b O).1) pJ.size ch (fun _ _=>rfl) (ah.holds d ch (qH H))
 .intro d ch H b O;rcases ip H with⟨rfl,rfl⟩ |⟨e,H⟩
  .rw[vw] at O;rcases O with rfl |⟨d,ch,H,O⟩
   .exact⟨l0 JG,fun aG=>by have:=aG.1;omega⟩
   .have:=(ah.own d ch (o0 H).1 b O).1;exact⟨az7,fun aG=>aG.2.2 d ch (o0 H).1 O⟩
  .rw[sR e] at O;have:=(ah.own d ch (qH H) b O).1;exact⟨az7,fun aG=>aG.2.2 d ch (qH H) O⟩
 .intro d cY ch ch' b H c1 a6 O c7
  have key: ∀{d ch b},ae hY d=some ch->F d b-> ¬(b=l\/ ∃d ch,ae (eT gC) d=some ch/\F d b):=fun {af cy b1} co cZ hx=>by
   rcases hx with hx |⟨iY,oc,ei,eI⟩
   .have:=(ah.own af cy (qH co) _ cZ).1;omega
   .exact ah.e0 af iY cy oc b1 (qH co) (o0 ei).1 (fun e=>by rw[e,(o0 ei).2] at co;cases co) cZ eI
  rcases ip H with⟨e,_⟩ |⟨e,H⟩ <;>rcases ip c1 with⟨ca,_⟩ |⟨ca,c1⟩
  .exact a6 (e.trans ca.symm)
  .rw[e,vw] at O;rw[sR ca] at c7;exact key c1 c7 O
  .rw[sR e] at O;rw[ca,vw] at c7;exact key H O c7
  .rw[sR e] at O;rw[sR ca] at c7;exact ah.e0 d cY ch ch' b (qH H) (qH c1) a6 O c7
 .intro i v x ay hx
  match i with
  |0=>
   simp only[aq2,ap5] at ay hx;subst ay hx;rfl
  |i+1=>exact cv.mono mQ v x (fun _ _=>rfl) (acv i v x aB9 aC7)
 rintro e dK ⟨x,ρ',F',rfl,cC,de,I',i0,gw,k1,aq,hB,-⟩
 have ix: ∀{d ch},ae (k6 i') d=some ch->d∈f4/\d≠c/\ae (eT mo) d=none/\ ∃o,ch= .aA o:=fun {d ch} h=>by
  obtain⟨o,E,G⟩:=Qt h;have:=ar3.1 tQ _ E;simp only[ao8,aq9] at this;refine⟨rH this.1.1,Nat.ne_of_beq_eq_false this.1.2,?_,o,G⟩
  cases e:ae (eT mo) d with
  |none=>rfl
  |some ch'=>have ag:=ar5.2 (f1.2 ⟨ch',e⟩);rw[this.2] at ag;cases ag
 have acy:ae (k6 i') c=none:=by
  cases e:ae (k6 i') c with
  |none=>rfl
  |some ch=>exact ap0 rfl (ix e).2.1
 have JJ:ae (k6 i'++[(c,ba.aA (dq mo))]) c=some (.aA (dq mo)):=by rw[hQ,acy];exact ov
 have zh: ∀{d ch},ae (k6 i') d=some ch->ae (k6 i'++[(c,ba.aA (dq mo))]) d=some ch:=fun {d ch} h=>by rw[hQ,h]
 have hF:E8 ρ f4 k5 cp l rec c (eT mo) I' (F' c) dK (ρ' c):=k1 c _ JJ;obtain⟨au,ak,nC,cd,cE,vv,cG,dG,zd,e3⟩:=hF;have mm:=l0 ak;obtain⟨iB,mR⟩: ∃iB,iB=dK.putObj l (.loop {rec with state:=.exhausted}):=⟨_,rfl⟩
 have d1:(Instr.endLoop l).run P dK= .ok none iB:=by
  have E:=run_endLoop (P:=P) ak (by rw[ma];simp);have G:rec.pending=none:=by rw[ma]
  rw[mR,E,G]
 refine⟨none,iB,d1,?_⟩;show il .normal {a with defers:=[wx w.heap.size]++a.defers} iB;have pN:iB.heap.size=dK.heap.size:=by rw[mR,World.putObj_size]
 have ue: ∀b,b≠l->iB.heap[b]? =dK.heap[b]? :=fun b O=>by rw[mR];exact World.putObj_heap_other O
 have xm:iB.os=dK.os/\iB.tape=dK.tape/\iB.output=dK.output:=by rw[mR];exact⟨rfl,rfl,rfl⟩
 have aoD:=cC.size
 have JK: ∀{d ch b},ae (k6 i'++[(c,ba.aA (dq mo))]) d=some ch->F' d b->b < dK.heap.size/\ ¬I' b/\(b=l\/(∃d ch,ae (hY++eT gC) d=some ch/\F d b)\/cp.heap.size<=b):=fun {d ch b} dd O=>by
  obtain⟨r1,r2,fI⟩:=aq d ch dd b O;refine⟨r1,r2,?_⟩;rcases fI with⟨d,ch,H,hf⟩ |fI
  .rcases ip H with⟨rfl,rfl⟩ |⟨e,H⟩
   .rw[vw] at hf;exact hf.imp id fun⟨d,ch,H,hf⟩=>.inl ⟨d,ch,(o0 H).1,hf⟩
   .rw[sR e] at hf;exact .inr (.inl ⟨d,ch,qH H,hf⟩)
  .exact .inr (.inr fI)
 have JL: ∀{b},F' c b->b < dK.heap.size/\ ¬I' b/\(b=l\/(∃d ch,ae (hY++eT gC) d=some ch/\F d b)\/cp.heap.size<=b):=fun {b} O=>JK JJ O
 have vx: ∀{d ch b},ae (k6 i') d=some ch->F' d b-> ¬F' c b:=fun {d ch b} H O=>hB d c _ _ b (zh H) JJ (ix H).2.1 O
 obtain⟨zi,Qw⟩: ∃zi:Nat->Nat->Prop,zi=fun d=>if(ae (k6 i') d).isSome=true then F' d else cd d:=⟨_,rfl⟩
 have xn: ∀{d ch},ae (k6 i') d=some ch->zi d=F' d:=fun {d ch} h=>by rw[Qw];show(if _ then _ else _)=_;rw[h];rfl
 have xo: ∀{d},ae (k6 i') d=none->zi d=cd d:=fun {d} h=>by rw[Qw];show(if _ then _ else _)=_;rw[h];rfl
 have fZ: ∀{d ch},ae (k6 i'++eT mo) d=some ch->(ae (k6 i') d=some ch)\/(ae (k6 i') d=none/\ae (eT mo) d=some ch):=fun {d ch} h=>by
  rw[hQ] at h
  cases e:ae (k6 i') d with
  |some ch'=>rw[e] at h;exact .inl h
  |none=>rw[e] at h;exact .inr ⟨rfl,h⟩
 have ze: ¬I' l:=(JL ((e3 l).2 (.inl rfl))).2.1
 have JM: ∀{b},((∃d ch,ae (hY++eT gC) d=some ch/\F d b)\/cp.heap.size<=b)->(C.py b\/C.gq.heap.size<=b/\b∉w.heap.size::C.ds):=fun {b} h=>by
  rcases h with⟨d,ch,H,hf⟩ |h
  .obtain⟨r1,r2⟩:=ah.own d ch H b hf;exact r2.imp id fun x=>⟨x.1,fun aD=>(ap7.1 aD).elim (fun e=>by omega) x.2⟩
  .have:=ah.fresh (b:=b) az7;exact .inr ⟨this.1,fun aD=>(ap7.1 aD).elim (fun e=>by omega) this.2⟩
 have acz: ∀{b},(k5 b\/(∃d ch,ae (hY++eT gC) d=some ch/\F d b)\/cp.heap.size<=b)->(C.yl b\/C.py b\/C.gq.heap.size<=b/\b∉w.heap.size::C.ds):=fun {b} h=>by
  rcases h with h |h
  .have E:=h.1;exact h.2.1.imp id fun x=>x.imp id fun x=>⟨x.1,fun aD=>(ap7.1 aD).elim (fun e=>by omega) x.2⟩
  .exact .inr (JM h)
 have zj:cj I' dK (bX (C.at (w.heap.size::C.ds)) (k6 i'++eT mo) zi iB) iB:=fun b O=>by
  have a6:b≠l:=fun e=>ze (e▸O)
  obtain⟨r1,r2⟩:=gw b O
  refine⟨⟨by rw[pN];exact r1,acz ?_,fun d ch H aV=>by
   rcases fZ H with H |⟨au,H⟩
   .rw[xn H] at aV;exact(JK (zh H) aV).2.1 O
   .rw[xo au] at aV;exact(JL ((e3 b).2 (.inr ⟨d,ch,H,aV⟩))).2.1 O⟩,ue b a6⟩
  rcases r2 with r2 |⟨d,ch,H,hf⟩ |r2
  .exact .inl r2
  .rcases ip H with⟨rfl,rfl⟩ |⟨e,H⟩
   .rw[vw] at hf;rcases hf with hf |⟨d,ch,H,hf⟩
    .exact ap0 hf a6
    .exact .inr (.inl ⟨d,ch,(o0 H).1,hf⟩)
   .rw[sR e] at hf;exact .inr (.inl ⟨d,ch,qH H,hf⟩)
  .exact .inr (.inr r2)
 refine aY .gv iL (k6 i'++eT mo) (w.heap.size::C.ds) (fun h=>by rw[hid] at h;cases h) rE _ _ ⟨hn,?_,nC,zi,⟨?_,?_,?_,?_,?_,?_,ah.kH.2.1,?_⟩,?_⟩
 .show[wx w.heap.size]++a.defers=List.map wx (w.heap.size::C.ds);rw[H];rfl
 .refine(ah.fr.trans (S':=fun b=>b=l\/ ∃d ch,ae (hY++eT gC) d=some ch/\F d b) ?_ fun b O h=>?_)
  .have g3:cR (fun b=>b=l\/ ∃d ch,ae (hY++eT gC) d=some ch/\F d b) w cp:=cR.qh pJ;have l8:cR (fun b=>b=l) dK iB:=⟨xm.1,xm.2.1,xm.2.2,Nat.le_of_eq pN.symm,fun b _ O=>ue b O⟩;refine(g3.trans cC ?_).trans l8 fun b _ O=>.inl O
   rintro b _ ⟨d,ch,H,hf⟩;rcases ip H with⟨rfl,rfl⟩ |⟨e,H⟩
   .rw[vw] at hf;exact hf.imp id fun⟨d,ch,H,hf⟩=>⟨d,ch,(o0 H).1,hf⟩
   .rw[sR e] at hf;exact .inr ⟨d,ch,qH H,hf⟩
  .have z0:=ah.fr.size;rcases h with h |⟨d,ch,H,hf⟩
   .omega
   .rcases(ah.own d ch H b hf).2 with h |h
    .exact h
    .have:=h.1;omega
 .intro d ch H;rcases fZ H with H |⟨au,H⟩
  .obtain⟨co,cZ,ei,o,rfl⟩:=ix H;rw[xn H];have bG:Holds ρ' I' (F' d) dK (ρ' d) (.aA o):=k1 d _ (zh H);rw[de d az9,<-vv d co] at bG;exact Holds.cg (ρ:=nC) zj (fun b O=>ue b (fun e=>vx H O ((e3 b).2 (.inl e)))) (Nat.le_of_eq pN.symm) (.aA o) (fun _ _=>rfl) bG
  .rw[xo au];exact Holds.cg zj (fun b O=>ue b (fun e=>zd d ch H (e▸O))) (Nat.le_of_eq pN.symm) ch (fun _ _=>rfl) (cG d ch H)
 .intro d ch H b O;rcases fZ H with H |⟨au,H⟩
  .rw[xn H] at O;obtain⟨r1,r2,fI⟩:=JK (zh H) O;exact⟨by rw[pN];exact r1,JM (fI.resolve_left fun e=>vx H O ((e3 b).2 (.inl e)))⟩
  .rw[xo au] at O;obtain⟨r1,r2,fI⟩:=JL ((e3 b).2 (.inr ⟨d,ch,H,O⟩));have a6:b≠l:=fun e=>zd d ch H (e▸O)
   exact⟨by rw[pN];exact r1,JM (fI.resolve_left a6)⟩
 .intro d cY ch ch' b H c1 a6 O c7;rcases fZ H with H |⟨au,H⟩ <;>rcases fZ c1 with c1 |⟨Qx,c1⟩
  .rw[xn H] at O;rw[xn c1] at c7;exact hB d cY ch ch' b (zh H) (zh c1) a6 O c7
  .rw[xn H] at O;rw[xo Qx] at c7;exact vx H O ((e3 b).2 (.inr ⟨cY,ch',c1,c7⟩))
  .rw[xo au] at O;rw[xn c1] at c7;exact vx c1 c7 ((e3 b).2 (.inr ⟨d,ch,H,O⟩))
  .rw[xo au] at O;rw[xo Qx] at c7;exact dG d cY ch ch' b H c1 a6 O c7
 .exact fun d H=>(vv d (Hx d H)).trans (ah.l1 d H)
 .exact as2.2 ⟨fun h=>by have:=(ah.kH.2.2 _ h).1;omega,ah.kH.1⟩
 .intro D cx
  have JN:D≠l/\D < cp.heap.size/\cp.heap[D]? =some (.deferred (some []))/\C.gq.heap.size<=D:=by
   rcases ap7.1 cx with rfl |cx
   .exact⟨az7,az7,JH,ah.fr.size⟩
   .obtain⟨r1,r2,fI⟩:=ah.kH.2.2 D cx;exact⟨az7,az7,(pJ.block D r1).trans r2,fI⟩
  obtain⟨kZ,bF,tI,Bb⟩:=JN
  have zk: ¬ ∃d ch,ae (hY++[(c,ba.aA (dq gC))]) d=some ch/\cF d D:=by
   rintro⟨d,ch,H,hf⟩
   have bG: ∃d ch,ae (hY++eT gC) d=some ch/\F d D:=by
    rcases ip H with⟨rfl,rfl⟩ |⟨e,H⟩
    .rw[vw] at hf;rcases hf with hf |⟨d,ch,H,hf⟩
     .exact ap0 hf kZ
     .exact⟨d,ch,(o0 H).1,hf⟩
    .rw[sR e] at hf;exact⟨d,ch,qH H,hf⟩
   obtain⟨d,ch,H,hf⟩:=bG;obtain⟨r1,r2⟩:=ah.own d ch H D hf;rcases ap7.1 cx with rfl |cx
   .omega
   .rcases r2 with r2 |r2
    .have:=ah.kH.2.1 D (.inr r2);omega
    .exact r2.2 cx
  exact⟨by rw[pN];omega,(ue D kZ).trans ((cC.block D bF zk).trans tI),Bb⟩
 .intro t;exact cv.mono (i0.trans zj) _ _ (fun j V=>vv j (aN.kp (JA fO t) V)) (h6 t)
def bB.range (bk:d5 P aQ) {ids:aD3} (stops:aD3) {s:Nat} {bE:Array Nat} {pl:aD3} {assign body:Code} (lh:bE.toList=pl) (B1:iK P N assign=true) (xh:iK P N body=true) (gM:(pl.all fun p=>Nat.blt p N)=true)
  {f:aE8} {zg:List kc} (hf:iX P f=true) (f4:aD3) (K iL:aW) (hY:av) {X:Type} (eT:X->av) (c:Nat) (gC mo:X) (Y:X->List aN->X->Prop)
  (JD:dQ K s= .c (.one (.cW f zg))) (B2:wX K iL)
  (Z:(f4.contains c&&zc f4 iL&&ids.all f4.contains&& !su ids)=true) (yS:((ci (eT gC)).all (fun d=> !(ci hY).contains d)&& !(ci hY).contains c)=true)
  (JE: ∀x aB k7,Y x aB k7->aB.length=pl.length/\uc [] aB=true/\iI P aQ N (0::f4) stops assign (zf pl aB iL) (eT x) (fun e K B=>e= .gv/\iI P aQ N (0::f4) stops body K B (fun e K B=>e= .gv/\ac (0::f4) K B [] (eT k7))))
  (JF: ∀(l:Nat) (dq:X->bc),(∀pI args res x k7,Fn P pI args (eT x) [] res (eT k7)->uc [c] args=true->res.iy []=true->Fn P pI args [(c,.aA (dq x))] [] res [(c,.aA (dq k7))])->
   (∀x aB k7,Y x aB k7->sL P l aB [(c,.aA (dq x))] (fun _:Unit=>oa true) (fun _=>[(c,.aA (dq k7))]))->
   Fn P f (.c (.one (.bH (.func (.yield l) #[] #[])))::nr zg) (hY++[(c,.aA (dq gC))]) [] (.cm []) [(c,.aA (dq mo))])
  {Q:nt->aW->av->Prop} (rE:Q .gv iL (eT mo)):bB P N ids (.rangeFunc (.tmp s) bE assign body) K (hY++eT gC) Q:=
 bB.Qu bk stops lh B1 xh gM hf f4 K iL hY eT c gC mo Y [] rfl JD B2 Z yS JE JF rE
end
end
section
def JO:bw->Value
 | .d (.int k n)=>.int k n
 | .d (.bool b)=>.bool b
 | .d (.lit b)=>.bool b
 | .d (.str s)=>.string ⟨List.toArray s⟩
 |_=>.nilFunc
def zl:bw->Lit
 | .d (.int k n)=>.int k n
 | .d (.bool b)=>.bool b
 | .d (.lit b)=>.bool b
 | .d (.str s)=>.string s
 |_=>.nil
def JP:bw->Bool
 | .d (.int _ _)=>true
 | .d (.bool _)=>true
 | .d (.lit _)=>true
 | .d (.str _)=>true
 |_=>false
def oy:List bw->List Value
 | []=>[]
 |s::l=>JO s::oy l
def jL:List bw->List Lit
 | []=>[]
 |s::l=>zl s::jL l
def B5:List bw->Bool
 | []=>true
 |s::l=>JP s&&B5 l
def JQ {ρ:Nat->bm} {I:Nat->Prop} {w:aD8}: ∀{l:List bw} {aB:aD7},B5 l=true->cb ρ I w l aB->aB=oy l
 | [],aB,_,h=>h
 |s::l,aB,ao,⟨v,r,e,E,G⟩=>by
  simp only[B5,ao8] at ao;have ag:=JQ ao.2 G;subst ag e
  have:v=JO s:=by
   cases s with
   |d x=>cases x <;>first |exact E |(simp[JP] at ao;done)
   |_=>simp[JP] at ao
  rw[this];rfl
section
variable {P:aD9} {aQ:df} {ids:aD3} {K:aW} {B:av}
def JR {o:Oper} {T fY:aE4} {x y:aE0} {lx ly:List bw} {m D:Nat} (ai:o.op= .binOp .eql T x y fY) (aV:P.eqGuardType P.depth T=false) (Z:P.keyTypeAt m T=true) (aD:m<=10000)
  (hx:a1 K x= .c (.agg lx)) (aC:a1 K y= .c (.agg ly)) (gM:(B5 lx&&B5 ly)=true) (acA:(Value.agg (List.toArray (oy lx))).formed P T=true) (acB:(Value.agg (List.toArray (oy ly))).formed P T=true)
  (acC:P.keyLits D T (oy lx)=some (jL lx)) (zm:P.keyLits D T (oy ly)=some (jL ly)) {r:Bool} (aw:r=true↔jL lx=jL ly) (N:Nat):bC P N ids o K B (.c (.one (.d (.bool r)))) ⟨[],[],[]⟩:=by
 have m1:x∈o.op.operands:=aA4
 have m2:y∈o.op.operands:=aA4
 simp only[ao8] at gM;refine bC.val fun K' B' g1 g2 C ρ F a w ah ar=>?_
 obtain⟨aB,af,E⟩:=ar.ev ((g1 x m1).trans hx);obtain⟨us,al,G⟩:=ar.ev ((g1 y m2).trans aC);have E:=JQ gM.1 E;have G:=JQ gM.2 G;subst E G;obtain⟨q,aY,qo⟩:=run_equalIn_deep (P:=P) (10000 - m) m T Z w D D (.agg (List.toArray (oy lx))) (.agg (List.toArray (oy ly))) (jL lx) (jL ly) acA acB (by simpa[Value.cells] using acC) (by simpa[Value.cells] using zm);rw[show 10000 - m+m=10000 by omega] at aY
 have bu:q=r:=by
  cases q <;>cases r
  .rfl
  .exact ap0 (qo.2 (aw.1 rfl)) az9
  .exact ap0 (aw.2 (qo.1 rfl)) az9
  .rfl
 subst bu;refine⟨.bool q,?_,rfl⟩;simp only[execOp,ai,af,al,as8,run_eqGuard_agg w .eql T x y _ _ aV,ar0,run_eql_struct,aY,at8]
def JS {o:Oper} {T:aE4} {x:aE0} {f:Nat} {l:List bw} {fs:Array Field} {jG:Field} {d:aF3} {s:bw} (ai:o.op= .field T x f) (b4:P.underlying T=some (.struct fs)) (tH:fs[f]? =some jG) (H:P.underlying jG.type=some d) (fN:d.isRow=false)
  (hx:a1 K x= .c (.agg l)) (ax:l[jG.offset]? =some s) (N:Nat):bC P N ids o K B (.c (.one s)) ⟨[],[],[]⟩:=by
 have m1:x∈o.op.operands:=aA4
 refine bC.val fun K' B' g1 g2 C ρ F a w ah ar=>?_
 obtain⟨aB,af,E⟩:=ar.ev ((g1 x m1).trans hx);obtain⟨v,ay,dz⟩:=cb.get _ _ E jG.offset s ax;refine⟨v,?_,dz⟩;have JT:(Go.isAgg jG.type).run P w= .ok false w:=by cases d <;>first |(simp[TypeDesc.isRow] at fN;done) |simp[Go.isAgg,run_underlying H]
 have hm:(List.toArray aB)[jG.offset]? =some v:=aB9
 simp only[execOp,ai,af,Instr.field,as8,run_underlying b4,ar0,tH,asAgg,at8,part,JT,Bool.false_eq_true,if_false,hm]
def JU {n:Nat} {u:bz} (g:List (aa u)) (i q:Nat) (aY:q < aR u):fq (.arr n u) g (i*aR u+q)=fq u (List.getD g i (cM u)) q:=by show fq u (List.getD g ((i*aR u+q)/aR u) (cM u)) ((i*aR u+q) % aR u)=_;rw[show(i*aR u+q)/aR u=i by rw[ax5,Nat.mul_add_div az7,Nat.div_eq_of_lt aY,aw0],show(i*aR u+q) % aR u=q by rw[ax5,Nat.mul_add_mod,Nat.mod_eq_of_lt aY]]
def Qy {o:Oper} {T:aE4} {x i:aE0} {n e:Nat} {c':aF2} {d:aF3} {u:bz} {g:List (aa u)} {j:Int} (ai:o.op= .index T x i) (b4:P.underlying T=some (.array n e)) (U:P.underlying e=some d) (fN:d.isRow=true) (aG:P.info? e=some c') (aO:c'.size=aR u)
  (hx:a1 K x= .c (.agg (fE (.arr n u) g 0 (n*aR u)))) (V:a1 K i= .c (.one (.d (.int .i64 j)))) (au:0<=j) (E:j < n) (N:Nat):bC P N ids o K B (.c (.agg (fE u (List.getD g j.toNat (cM u)) 0 (aR u)))) ⟨[],[],[]⟩:=by
 have m1:x∈o.op.operands:=aA4
 have m2:i∈o.op.operands:=aA4
 refine bC.val fun K' B' g1 g2 C ρ F a w ah ar=>?_
 obtain⟨aB,af,H⟩:=ar.ev ((g1 x m1).trans hx);have al:=ar.int ((g1 i m2).trans V);have bZ:aB.length=n*aR u:=(cb.length _ _ H).trans (sy (.arr n u) g _ _);have JT:(Go.isAgg e).run P w= .ok true w:=by cases d <;>first |(simp[TypeDesc.isRow] at fN;done) |simp[Go.isAgg,run_underlying U]
 have cL:(sizeOf e).run P w= .ok (aR u) w:=by simp[sizeOf,typeInfo,aG,aO]
 have hh:j.toNat*aR u+aR u<=n*aR u:=by
  have:=av5 (aR u) (show j.toNat+1<=n by omega);rw[aw7] at this;exact this
 refine⟨.agg ((List.toArray aB).extract (j.toNat*aR u) (j.toNat*aR u+aR u)),?_,(aB.drop (j.toNat*aR u)).take (aR u),by simp[List.extract],?_⟩
 .simp[execOp,ai,af,al,Instr.index,asIntOf,run_underlying b4,au,E,cL,part,JT]
 .have key: ∀(m gD:Nat),gD+m<=aR u->cb ρ (bX C B' F w) w (fE u (List.getD g j.toNat (cM u)) gD m) ((aB.drop (j.toNat*aR u+gD)).take m):=fun m=>by
   induction m with
   |zero=>intro gD _;simp[fE,cb]
   |succ m bl=>
    intro gD aD;have br:j.toNat*aR u+gD < n*aR u:=aA5
    obtain⟨v,ay,sE⟩:=cb.get _ _ H _ _ (yE (.arr n u) g (n*aR u) 0 (j.toNat*aR u+gD) br)
    have B6:aB.drop (j.toNat*aR u+gD)=v::aB.drop (j.toNat*aR u+(gD+1)):=by
     obtain⟨ak,oe⟩:=ap6.1 ay;rw[aw3 ak,oe,Nat.add_assoc]
    rw[B6,List.take_succ_cons];refine⟨v,_,rfl,?_,bl (gD+1) az7⟩
    have J:fq (.arr n u) g (0+(j.toNat*aR u+gD))=fq u (List.getD g j.toNat (cM u)) gD:=by
     rw[at5];exact JU g _ _ az7
    rw[J] at sE;exact sE
  exact key (aR u) 0 az7
def ac.acD (c:Nat) {u:bz} {x:aa u} (hw:n3 u x) (J:ae B c=some (.cells (fE u x 0 (aR u)))):ac ids K B K ((c,.val u x)::B):=by
 rintro N C a w ⟨hn,H,ρ,F,ah,ar⟩;obtain⟨bj,aB,T,O,dz⟩:=ah.holds c _ J;obtain⟨bK,a2⟩:=ah.hz (w':=w) (ch:=.val u x) J (cR.refl _ _) fun I aZ=>⟨bj,aB,T,O,by rw[cb.length _ _ dz,sy],A8 hw (cb.mono (ρ':=ρ) aZ _ _ (fun _ _=>rfl) dz)⟩
 exact⟨hn,H,ρ,F,bK,ar.mono a2 fun _ _ _=>rfl⟩
def acE {o:Oper} {T:aE4} {x i:aE0} {n e c:Nat} {c':aF2} {s:Nat} {j:Int} (ai:o.op= .indexAddr T x i) (b4:P.underlying T=some (.array n e)) (aG:P.info? e=some c') (aO:c'.size=s)
  (hx:a1 K x= .c (.one (.ptr c 0))) (V:a1 K i= .c (.one (.d (.int .i64 j)))) (au:0<=j) (E:j < n) (N:Nat):bC P N ids o K B (.c (.one (.fX c s j.toNat 0))) ⟨[],[],[]⟩:=by
 have m1:x∈o.op.operands:=aA4
 have m2:i∈o.op.operands:=aA4
 refine bC.val fun K' B' g1 g2 C ρ F a w ah ar=>?_
 have af:=ar.ptr ((g1 x m1).trans hx);have al:=ar.int ((g1 i m2).trans V);have cL:(sizeOf e).run P w= .ok s w:=by simp[sizeOf,typeInfo,aG,aO]
 refine⟨.pointer (some ⟨(ρ c).bh,j.toNat*s,none⟩),?_,rfl⟩;simp[execOp,ai,af,al,Instr.indexAt,asIntOf,run_underlying b4,au,E,cL,Instr.sureAddr,qi]
def acF {I:Nat->Prop} {w:aD8} {n:Nat} {u:bz} {g:List (aa u)} {c:Nat->Option Value} (H:cw I w (.arr n u) g c) {y:aa u} {j:Nat} {cs:aD7} (ak:cs.length=aR u) (aC:cw I w u y (fun i=>cs[i]?)) (V:j < n):
  cw I w (.arr n u) (g.set j y) (fun i=>if j*aR u<=i/\i < j*aR u+aR u then cs[i - j*aR u]? else c i):=by
 obtain⟨E,G⟩:=H;refine⟨by rw[at7];exact E,fun i aF aO=>?_⟩;unfold fi at aO;rw[aw1] at aO
 split at aO
 .rename_i e;subst e
  split at aO
  .injection aO with aO
   subst aO;refine cw.mono (cj.refl _ _) u y _ _ (fun q v ay=>?_) aC;have aY:q < aR u:=by rw[<-ak];exact(ap6.1 ay).1
   simp only;rw[vj ⟨az7,az7⟩,show j*aR u+q - j*aR u=q by omega];exact ay
  .cases aO
 .rename_i a6;have mT:=G i aF aO;rcases ay1 (aR u) with au |au
  .refine cw.mono (cj.refl _ _) u aF _ _ (fun q v ay=>?_) mT;simp only;rw[mu az7];exact ay
  .refine cw.mk u aF _ (cw.wf u aF _ mT) fun q aY=>?_
   obtain⟨v,ay,sE⟩:=cw.cell u aF _ q mT aY;refine⟨v,?_,sE⟩;simp only;rw[mu ?_]
   .exact ay
   .rintro⟨bR,b'⟩;rcases Nat.lt_or_gt_of_ne a6 with br |tJ
    .have:=av5 (aR u) (show j+1<=i by omega);rw[aw7] at this;omega
    .have:=av5 (aR u) (show i+1<=j by omega);rw[aw7] at this;omega
def acG {o:Oper} {T:aE4} {x v:aE0} {c n j:Nat} {u:bz} {g:List (aa u)} {y:aa u} {c':aF2} (ai:o.op= .store T x v) (aG:P.info? T=some c') (aO:c'.size=aR u) (hx:a1 K x= .c (.one (.fX c (aR u) j 0))) (V:j < n)
  (J:ae B c=some (.val (.arr n u) g)) (ay:a1 K v= .c (.agg (fE u y 0 (aR u)))) (hw:n3 u y) (N:Nat):bC P N ids o K B .undef ⟨[c],[],[(c,some (.val (.arr n u) (g.set j y)))]⟩:=by
 have m1:x∈o.op.operands:=aA4
 have m2:v∈o.op.operands:=aA4
 refine bC.hz J fun K' B' g1 C ρ F a w ah ar gh=>?_
 obtain⟨bj,aB,eL,O,bZ,dz⟩:=ah.holds c _ gh;have af:=ar.fX ((g1 x m1).trans hx);obtain⟨us,al,G⟩:=ar.ev ((g1 v m2).trans ay);have JV:us.length=aR u:=by rw[cb.length _ _ G,sy]
 have Qz:=A8 hw G
 have oP:j*aR u+us.length<=aB.length:=by
  have:=av5 (aR u) (show j+1<=n by omega);rw[aw7] at this;rw[bZ,JV];exact this
 have tG: ∀aF,aF∈us->aF.oneCell'=true:=fun aF aO=>by
  obtain⟨q,aY,rfl⟩:=aw4 aO;obtain⟨z',qx,sn⟩:=cw.one u y _ Qz q az7;rw[ao7 aY] at qx;injection qx with qx
  rw[qx];exact sn
 have d1:=A7 (P:=P) (o:=o) (ev:=a.eval) (w:=w) (us:=us) ai (by rw[af,aw0]) (by rw[al];rfl) aG (aO.trans JV.symm) O oP tG;have hj:(w.setRow (ρ c).bh (List.toArray (aB.take (j*aR u)++us++aB.drop (j*aR u+us.length)))).heap[(ρ c).bh]? =some (.cells (List.toArray (aB.take (j*aR u)++us++aB.drop (j*aR u+us.length))) eL (0,0)):=setRow_heap w _ _ _ eL _ O;refine⟨_,d1,⟨rfl,rfl,rfl,by simp[World.setRow],fun k _ Z=>setRow_other w _ k _ (fun e=>Z ((bj k).2 e))⟩,fun I a2=>⟨bj,_,eL,hj,?_,?_⟩⟩
 .rw[ap3,ap3,aq0,au8];omega
 .refine cw.mk (.arr n u) (g.set j y) _ ?_ ?_
  .have QA:=cw.wf (.arr n u) g _ dz;refine⟨by rw[at7];exact QA.1,fun aF aO=>?_⟩;rcases List.mem_or_eq_of_mem_set aO with aO |rfl
   .exact QA.2 aF aO
   .exact hw
  .intro q aY;have og:=acF dz (y:=y) (j:=j) JV Qz V;obtain⟨aF,aO,yo⟩:=cw.cell (.arr n u) _ _ q og aY;refine⟨aF,?_,gA.mono a2 _ _ yo⟩;rw[<-aO];have EM:q < aB.length:=by rw[bZ];exact aY
   split
   .rename_i dW;rw[av2,as3 aB8,aq0,as0 az7]
    congr 1
    omega
   .rename_i lG;rcases ax6 q (j*aR u) with br |uY
    .rw[av2,as0 aB8,au4,vj br]
    .have:j*aR u+aR u<=q:=by
      rcases ax6 q (j*aR u+aR u) with h |h
      .exact ap0 ⟨uY,h⟩ lG
      .exact h
     rw[as3 (by rw[ap3,aq0];omega),ap3,aq0,ay2]
     congr 1
     omega
def QB {o:Oper} {T:aE4} {x:aE0} {c:Nat} {u:bz} {y:aa u} {c':aF2} {d:aF3} (ai:o.op= .load T x) (b4:P.underlying T=some d) (fN:d.isRow=true) (aG:P.info? T=some c') (aO:c'.size=aR u) (hx:a1 K x= .c (.one (.ptr c 0)))
  (J:ae B c=some (.val u y)) (N:Nat):bC P N ids o K B (.c (.agg (fE u y 0 (aR u)))) ⟨[c],[],[]⟩:=by
 have m1:x∈o.op.operands:=aA4
 refine bC.val fun K' B' g1 g2 C ρ F a w ah ar=>?_
 obtain⟨bj,aB,eL,O,bZ,dz⟩:=ah.holds c _ ((g2 c az9).trans J);have af:=ar.ptr ((g1 x m1).trans hx);obtain⟨us,E,G⟩:=D4 (ρ:=ρ) dz (aR u) 0 az7;refine⟨_,D2 (cs:=us) ai af b4 fN aG (by rw[cb.length _ _ E,sy];exact aO) (fun j v V=>?_),us,rfl,E⟩;have:=G j v V;exact od O this
def acH {aQ:df} (bk:d5 P aQ) {o:Oper} {T n e:Nat} {ti:b5} (ai:o.op= .build T #[]) (cq:aQ.find T=some ti) (b4:P.underlying T=some (.array n e)) {E':aF2} (acI:P.info? e=some E') (fN:ti.row=true) (N:Nat):bC P N ids o K B (.c (.agg ti.zero)) ⟨[],[],[]⟩:=by
 refine bC.val fun K' B' g1 g2 C ρ F a w ah ar=>?_
 obtain⟨i,d,bv⟩:=bk.at_ cq;obtain⟨aF,aO,oh⟩:=bv.zero;obtain⟨kl,qv⟩:=u7 (ρ:=ρ) (I:=bX C B' F w) (w:=w) _ _ oh;refine⟨.agg aF.cells,?_,aF.cells.toList,az9,kl⟩;simp[execOp,ai,Instr.build,zeroValue,typeInfo,bv.jW,aO,run_underlying b4,sizeOf,acI,Instr.fill]
def QC {o:Oper} {T e d:Nat} {x y:aE0} {c':aF2} {n:Int} (ai:o.op= .makeSlice T x y) (b4:P.underlying T=some (.slice e)) (aG:P.info? e=some c') (aO:c'.zero=some (.int .i64 0)) (ax:c'.size=1) (O:c'.bytes=8)
  (hx:a1 K x= .c (.one (.d (.int .i64 n)))) (aC:a1 K y= .c (.one (.d (.int .i64 n)))) (au:0<=n) (E:n<=1000000) (N:Nat):bC P N ids o K B (.c (.one (.own d))) ⟨[],[d],[(d,some (.row e (.int .i64) (List.replicate n.toNat (0:Int))))]⟩:=by
 have m1:x∈o.op.operands:=aA4
 have m2:y∈o.op.operands:=aA4
 refine bC.make (fun d h=>Bc h) fun K' B' g1 g2 C ρ F a w ah ar hn=>?_
 have dF:=ar.int ((g1 x m1).trans hx);have d2:=ar.int ((g1 y m2).trans aC);have d1:=run_make (P:=P) w T e c' _ b4 aG aO .i64 .i64 n n au (Int.le_refl _) (by rw[O];omega) az7
 have AQ:madeCells (Value.int .i64 0).cells (n.toNat*c'.size)=(List.replicate n.toNat (Value.int .i64 0)).toArray:=by
  rw[ax];simp[madeCells,Value.cells];apply Array.ext
  .simp
  .intro i E G;simp[Nat.mod_one]
 rw[AQ] at d1;refine⟨.slice (some ⟨w.heap.size,0,none⟩) n.toNat n.toNat,w.alloc (.cells (List.replicate n.toNat (.int .i64 0)).toArray e),⟨w.heap.size,some ⟨w.heap.size,0,none⟩,n.toNat,n.toNat⟩,fun b=>b=w.heap.size,?_,uZ w _,fun b O=>?_,fun I a2 aZ=>⟨⟨?_,?_,List.replicate n.toNat (.int .i64 0),?_,?_⟩,?_⟩⟩
 .simp only[execOp,ai,as8,dF,d2,d1,ar0,at8]
 .subst O;simp
 .intro b;simp[bm.fa,Value.ownBlock,eq_comm]
 .intro b O;simp[bm.fa,Value.ownBlock] at O;exact O.symm
 .have:=D' w e 1 n.toNat (List.replicate n.toNat (.int .i64 0)) az9 (by simp only[maxLen];omega);have af:List.length (α:=aa (.int .i64)) (List.replicate n.toNat (0:Int))=n.toNat:=aq7;rw[af];exact this
 .intro i aF aO;obtain⟨aG,qx⟩:=ap6.1 aO;have sD:aF=(0:Int):=by rw[<-qx];exact List.getElem_replicate ..
  subst sD
  have aG:i < n.toNat:=by
   have E:i < List.length (α:=Int) (List.replicate n.toNat (0:Int)):=aG;rw[aq7] at E;exact E
  show(List.replicate n.toNat (Value.int .i64 0))[i*1+0]? =some (.int .i64 0);simp[aG]
 .simp only[cv,gu,dU,dr];rfl
def QD (w:aD8) {T:aE4} {bE i6:Array TypeId} {tD:Bool} (b4:P.underlying T=some (.func bE i6 tD)) (f:Go.Fn) (a b:aF6):(binOp .eql T (.func f a b) .nilFunc).run P w= .ok (.bool false) w/\(binOp .neq T (.func f a b) .nilFunc).run P w= .ok (.bool true) w:=by
 have au: ∀d,(Op.equalIn (d+1) T (.func f a b) .nilFunc).run P w= .ok false w:=fun d=>by simp[Op.equalIn,run_underlying b4]
 have h:(Op.equalIn 10000 T (.func f a b) .nilFunc).run P w= .ok false w:=au 9999;constructor
 .simp only[binOp];simp[Op.equal,Op.maxDepth,h]
 .simp only[binOp];simp[Op.equal,Op.maxDepth,h]
def acJ {o:Oper} {T fY:aE4} {x:aE0} {op:BinOp} {y:Nat×aD3} {b:Bool} {bE i6:Array TypeId} {tD:Bool} (vf:(op= .eql/\b=false)\/(op= .neq/\b=true)) (ai:o.op= .binOp op T x (.const .nilFunc) fY) (b4:P.underlying T=some (.func bE i6 tD))
  (hx:a1 K x= .c (.one (.d (.fn y)))) (N:Nat):bC P N ids o K B (.c (.one (.d (.lit b)))) ⟨[],[],[]⟩:=by
 have m1:x∈o.op.operands:=aA4
 refine bC.val fun K' B' g1 g2 C ρ F a w ah ar=>?_
 have af:a.eval x=l2 y:=ar.ev ((g1 x m1).trans hx);refine⟨.bool b,?_,rfl⟩;have al:a.eval (.const .nilFunc)= .nilFunc:=rfl;rcases vf with⟨rfl,rfl⟩ |⟨rfl,rfl⟩
 .have h:=(QD (P:=P) w b4 (.func y.1) #[] (List.toArray (qm y.2))).1;simp[execOp,ai,af,al,eqGuard,l2,h]
 .have h:=(QD (P:=P) w b4 (.func y.1) #[] (List.toArray (qm y.2))).2;simp[execOp,ai,af,al,eqGuard,l2,h]
def QE (w:aD8) {T:aE4} {bE i6:Array TypeId} {tD:Bool} (b4:P.underlying T=some (.func bE i6 tD)):(binOp .eql T .nilFunc .nilFunc).run P w= .ok (.bool true) w/\(binOp .neq T .nilFunc .nilFunc).run P w= .ok (.bool false) w:=by
 have au: ∀d,(Op.equalIn (d+1) T .nilFunc .nilFunc).run P w= .ok true w:=fun d=>by simp[Op.equalIn,run_underlying b4]
 have h:(Op.equalIn 10000 T .nilFunc .nilFunc).run P w= .ok true w:=au 9999;constructor
 .simp only[binOp];simp[Op.equal,Op.maxDepth,h]
 .simp only[binOp];simp[Op.equal,Op.maxDepth,h]
def acK {o:Oper} {T fY:aE4} {x:aE0} {op:BinOp} {b:Bool} {bE i6:Array TypeId} {tD:Bool} (vf:(op= .eql/\b=true)\/(op= .neq/\b=false)) (ai:o.op= .binOp op T x (.const .nilFunc) fY) (b4:P.underlying T=some (.func bE i6 tD))
  (hx:a1 K x= .c (.one (.bH .nilFunc))) (N:Nat):bC P N ids o K B (.c (.one (.d (.lit b)))) ⟨[],[],[]⟩:=by
 have m1:x∈o.op.operands:=aA4
 refine bC.val fun K' B' g1 g2 C ρ F a w ah ar=>?_
 have af:=ar.bH ((g1 x m1).trans hx);refine⟨.bool b,?_,rfl⟩;have al:a.eval (.const .nilFunc)= .nilFunc:=rfl;rcases vf with⟨rfl,rfl⟩ |⟨rfl,rfl⟩
 .have h:=(QE (P:=P) w b4).1;simp[execOp,ai,af,al,eqGuard,h]
 .have h:=(QE (P:=P) w b4).2;simp[execOp,ai,af,al,eqGuard,h]
end
end
section
abbrev qI:bz:=.bT (.int .i64) (.bT (.int .i64) .bool)
abbrev dL:bz:=.arr 16 qI
abbrev aE1:=List (aa aj×aa dL)
abbrev d7:=Int×Int×Bool
abbrev aF9:=List d7
abbrev o1 (s:d7):List bw:=[.d (.int .i64 s.1),.d (.int .i64 s.2.1),.d (.bool s.2.2)]
abbrev mU (s:d7):dH:=.agg (o1 s)
abbrev b7:d7:=(0,0,false)
def sS (s:d7):Prop:=(-1000000<=s.1/\s.1<=1000000)/\ -1000000<=s.2.1/\s.2.1<=1000000
def pO:List d7:=List.replicate 16 b7
abbrev mq (n:Int) (es:aE1):av:=[(1001,.cells [.d (.int .i64 n),.mp 1002]),(1002,.map aj dL es)]
def fK (es:aE1) (k:Int):List d7:=(bV (aI:=aj) (aK:=dL) es k).getD pO
structure jM (t:aF9) (es:aE1):Prop where
 ho:e5 es
 wf: ∀p,p∈es->List.length (α:=d7) p.2=16
 ok: ∀k i,sS ((fK es k).getD i b7)
 at_: ∀c (h:c < t.length),(fK es ((c/16:Nat):Int)).getD (c % 16) b7=t[c]
 zm: ∀p,p∈es-> ∃j:Nat,p.1=(j:Int)/\16*j < t.length
 fL: ∀c,t.length<=c->(fK es ((c/16:Nat):Int)).getD (c % 16) b7=b7
def jM.len {t:aF9} {es:aE1} (h:jM t es) (k:Int):(fK es k).length=16:=by
 unfold fK
 cases e:bV (aI:=aj) (aK:=dL) es k with
 |none=>rfl
 |some g=>exact h.wf _ (P0 oW e)
def acL (es:aE1) (k:Int) (g:aF9):fK (dw (aI:=aj) (aK:=dL) es k g) k=g/\ ∀j,j≠k->fK (dw (aI:=aj) (aK:=dL) es k g) j=fK es j:=by obtain⟨E,G⟩:=y7 (aI:=aj) (aK:=dL) oW k g es;refine⟨by unfold fK;rw[E];rfl,fun j V=>?_⟩;unfold fK;rw[G j V]
def acM {es:aE1} (hn:e5 es) (k:Int):fK (gB (aI:=aj) (aK:=dL) es k) k=pO/\ ∀j,j≠k->fK (gB (aI:=aj) (aK:=dL) es k) j=fK es j:=by obtain⟨E,G⟩:=BT (aI:=aj) (aK:=dL) oW k es hn;refine⟨by unfold fK;rw[E];rfl,fun j V=>?_⟩;unfold fK;rw[G j V]
def pP (es:aE1) (c:Nat) (s:d7):List (aa aj×aa dL):=
 if(fK es ((c/16:Nat):Int)).set (c % 16) s=pO then gB (aI:=aj) (aK:=dL) es ((c/16:Nat):Int) else dw (aI:=aj) (aK:=dL) es ((c/16:Nat):Int) ((fK es ((c/16:Nat):Int)).set (c % 16) s)
def acN {t:aF9} {es:aE1} (h:jM t es) (c:Nat) (s:d7):fK (pP es c s) ((c/16:Nat):Int)=(fK es ((c/16:Nat):Int)).set (c % 16) s/\ ∀j,j≠((c/16:Nat):Int)->fK (pP es c s) j=fK es j:=by
 unfold pP
 split
 .rename_i e;obtain⟨E,G⟩:=acM h.ho ((c/16:Nat):Int);exact⟨E.trans e.symm,G⟩
 .exact acL es _ _
def jM.set {t:aF9} {es:aE1} (h:jM t es) (c:Nat) (J:c < t.length) (s:d7) (ax:sS s):jM (t.set c s) (pP es c s):=by
 obtain⟨g1,g2⟩:=acN h c s;refine⟨?_,?_,fun k i=>?_,fun d H=>?_,?_,fun d H=>?_⟩
 .unfold pP
  split
  .exact e5.mO h.ho
  .exact e5.put oW h.ho
 .intro p ao;unfold pP at ao
  split at ao
  .exact h.wf p (xf ao)
  .rcases EN ao with rfl |ao
   .show List.length (α:=d7) ((fK es ((c/16:Nat):Int)).set (c % 16) s)=16;rw[at7];exact h.len _
   .exact h.wf p ao
 .by_cases e:k=((c/16:Nat):Int)
  .rw[e,g1,ap2,aw1]
   split
   .split
    .exact ax
    .exact⟨az8,az8⟩
   .rw[<-ap2];exact h.ok _ _
  .rw[g2 _ e];exact h.ok _ _
 .rw[at7] at H;have ak:=h.len ((c/16:Nat):Int)
  by_cases e:d/16=c/16
  .rw[e,g1]
   by_cases al:d=c
   .subst al;rw[List.getElem_set_self,ap2,au1 (by rw[ak];omega)];rfl
   .have a6:c % 16≠d % 16:=fun h=>al az7
    rw[List.getElem_set_ne (au7 al),ap2,as6 a6,<-ap2,<-e];exact h.at_ d H
  .have a6:((d/16:Nat):Int)≠((c/16:Nat):Int):=fun h=>e az7
   rw[g2 _ a6,List.getElem_set_ne (fun al=>e (by rw[al]))];exact h.at_ d H
 .rw[at7];intro p ao;unfold pP at ao
  split at ao
  .exact h.zm p (xf ao)
  .rcases EN ao with rfl |ao
   .exact⟨c/16,rfl,az7⟩
   .exact h.zm p ao
 .rw[at7] at H
  by_cases e:d/16=c/16
  .rw[e,g1,ap2,as6 az7,<-ap2,<-e];exact h.fL d H
  .rw[g2 _ az7];exact h.fL d H
def JW:(prog.info? 176).map (·.size)=some 3:=by kernel_rfl
def qJ (s:d7):Bool:=if s.1=1 then decide (0<=s.2.1)&&decide (s.2.1 < 512) else decide (s=b7)||decide (s=(2,0,false))
def QF (s q:d7):decide (s=q)=true↔jL (o1 s)=jL (o1 q):=by
 rw[decide_eq_true_iff];simp only[jL,zl,o1,List.cons.injEq,Lit.int.injEq,Lit.bool.injEq,true_and,and_true];constructor
 .intro h;subst h;exact⟨rfl,rfl,rfl⟩
 .rintro⟨E,G,ag⟩;exact Prod.ext E (Prod.ext G ag)
def QG {n:Int} (h: -1000000<=n/\n<=1000000):(Lit.int .i64 n).wf=true:=by
 simp only[Lit.wf,ao8,as1];have E:IntKind.min .i64= -9223372036854775808:=by decide
 have G:IntKind.max .i64=9223372036854775807:=by decide
 rw[E,G];omega
def QH (d:Nat) {n:Int} (h: -1000000<=n/\n<=1000000):prog.keyLits (d+1) 3 [.int .i64 n]=some [.int .i64 n]:=by unfold Program.keyLits;simp only[underlying3];have hw:=QG h;simp[hw]
def lp (d:Nat) {s:d7} (h:sS s):prog.keyLits (d+2) 176 (oy (o1 s))=some (jL (o1 s)):=by
 have cy:prog.cellsOf 176=3:=by kernel_rfl
 have cu:prog.cellsOf 3=1:=by kernel_rfl
 have gl:prog.cellsOf 4=1:=by kernel_rfl
 have co:=QH d h.1;have cZ:=QH d h.2
 have ei:prog.keyLits (d+1) 4 [.bool s.2.2]=some [.bool s.2.2]:=by
  unfold Program.keyLits;simp only[underlying4]
 unfold Program.keyLits;simp only[underlying176,cy];simp[oy,JO,o1,cu,gl,co,cZ,ei,jL,zl]
def acO (s:d7) (ax:sS s):Fn prog 265 [.c (mU s)] [] [] (gT (qJ s)) []:=by
 refine aU [] func265 ?_;refine⟨rfl,fun E=>?_,fun E=>?_⟩
 .have E:=gd E;refine⟨fun G=>?_,fun G=>?_⟩
  .refine⟨_,_,_,bu,rfl,?_,trivial,rfl⟩;show decide (s.2.1 < 512)=qJ s;unfold qJ;have G:decide (0<=s.2.1)=true:=G;rw[vj E,G,ax8]
  .refine⟨_,_,_,bu,rfl,?_,trivial,rfl⟩;show false=qJ s;unfold qJ;have G:decide (0<=s.2.1)=false:=G;rw[vj E,G,Bool.false_and]
 .have E:=oj E;refine bo (fun N=>JR (m:=5) (D:=5) (lx:=o1 s) (ly:=[.d (.int .i64 0),.d (.int .i64 0),.d (.lit false)]) rfl aA0 aA0 az8 rfl rfl rfl rfl rfl (lp 3 ax) (lp 3 (s:=b7) ⟨az8,az8⟩) (QF s b7) N) ?_;refine⟨fun G=>?_,fun G=>?_⟩
  .refine⟨_,_,_,bu,rfl,?_,trivial,rfl⟩;show true=qJ s;unfold qJ;rw[mu E,G,Bool.true_or]
  .refine bo (fun N=>JR (m:=5) (D:=5) (lx:=o1 s) (ly:=[.d (.int .i64 2),.d (.int .i64 0),.d (.lit false)]) rfl aA0 aA0 az8 rfl rfl rfl rfl rfl (lp 3 ax) (lp 3 (s:=(2,0,false)) ⟨az8,az8⟩) (QF s (2,0,false)) N) ?_;refine⟨_,_,_,bu,rfl,?_,trivial,rfl⟩;show decide (s=(2,0,false))=qJ s;unfold qJ;rw[mu E,G,Bool.false_or]
def uf (s:d7):Bool:=decide (s.1=1)&&s.2.2
def acP (s:d7):Fn prog 237 [.c (mU s)] [] [] (gT (uf s)) []:=by
 refine aU [] func237 ?_;refine⟨rfl,fun E=>?_,fun E=>?_⟩
 .refine⟨_,_,_,bu,rfl,?_,trivial,rfl⟩;show s.2.2=uf s;unfold uf;have E:decide (s.1=1)=true:=E;rw[E,ax8]
 .refine⟨_,_,_,bu,rfl,?_,trivial,rfl⟩;show false=uf s;unfold uf;have E:decide (s.1=1)=false:=E;rw[E,Bool.false_and]
def QI (n:Int):Fn prog 234 [ab n] [] [] (gT (decide (0<=n)&&decide (n<=256))) []:=by
 refine aU [] func234 ?_;refine⟨fun h=>?_,fun h=>?_⟩
 .refine⟨_,_,_,bu,rfl,?_,trivial,rfl⟩;show decide (n<=256)=_;have h:decide (0<=n)=true:=h;rw[h,ax8]
 .refine⟨_,_,_,bu,rfl,?_,trivial,rfl⟩;show false=_;have h:decide (0<=n)=false:=h;rw[h,Bool.false_and]
def acQ (n:Int) (es:aE1):Fn prog 193 [ap 1001] (mq n es) [] (ab n) (mq n es):=by refine aU [] func193 ?_;exact bd
def QJ {t:aF9} {es:aE1} (eu:jM t es) (ak:t.length<=256) (c:Nat) (J:c < t.length):Fn prog 195 [ap 1001,ab (c:Int)] (mq (t.length:Nat) es) [] (.c (mU t[c])) (mq (t.length:Nat) es):=by
 have aV:(fK es ((c:Int)/16)).getD ((c:Int) % 16).toNat b7=t[c]:=by
  rw[<-eu.at_ c J]
  congr 1
 obtain⟨QK,xp,zn⟩: ∃i,prog.info? 176=some i/\i.size=3:=by
  have:=JW
  cases e:prog.info? 176 with
  |none=>rw[e] at this;cases this
  |some i=>rw[e] at this;exact⟨i,rfl,by simpa using this⟩
 refine aU [] func195 ?_;refine⟨rfl,fun E=>ap0 (gd E) az7,fun E=>⟨fun E=>ap0 (gd E) az7,fun E=>⟨⟨az7,az7⟩,⟨az7,az7⟩,⟨az7,az7⟩,⟨az7,az7⟩,bo (fun N=>Qy (n:=16) (e:=176) (u:=qI) (g:=fK es ((c:Int)/16)) (j:=(c:Int) % 16) rfl underlying261 underlying176 rfl xp zn rfl rfl az7 az7 N) ?_⟩⟩⟩;refine⟨_,_,_,bu,rfl,?_,aE,rfl⟩;show sr (.c (.agg (fE qI ((fK es ((c:Int)/16)).getD ((c:Int) % 16).toNat b7) 0 3))) _;rw[aV];exact aE
def acR (g gW:aF9) (ak:g.length=16) (gh:gW.length=16):jL (fE dL g 0 48)=jL (fE dL gW 0 48)->g=gW:=by
 intro h
 have l9: ∀(l:List bw) (j:Nat),(jL l)[j]? =(l[j]?).map zl:=fun l=>by
  induction l with
  |nil=>intro j;simp[jL]
  |cons s l bl=>
   intro j
   match j with
   |0=>rfl
   |j+1=>simpa[jL] using bl j
 have J: ∀i,i < 16-> ∀q,q < 3->zl (.d (fq qI (g.getD i b7) q))=zl (.d (fq qI (gW.getD i b7) q)):=fun i aG q aY=>by
  have E:=ap1 (fun l=>l[i*3+q]?) h;simp only[l9] at E;have af:=yE dL g 48 0 (i*3+q) az7;have al:=yE dL gW 48 0 (i*3+q) az7;rw[af,al] at E;simp only[av4,ap5,at5] at E;have cy:fq dL g (i*3+q)=fq qI (g.getD i b7) q:=JU (u:=qI) (n:=16) g i q aY;have cu:fq dL gW (i*3+q)=fq qI (gW.getD i b7) q:=JU (u:=qI) (n:=16) gW i q aY;rw[cy,cu] at E;exact E
 refine List.ext_getElem (ak.trans gh.symm) fun i E G=>?_
 have a0:=J i az7 0 az7;have bR:=J i az7 1 az7;have b':=J i az7 2 az7;have af:g.getD i b7=g[i]:=by rw[ap2,ao7 E];rfl
 have al:gW.getD i b7=gW[i]:=by rw[ap2,ao7 G];rfl
 rw[af,al] at a0 bR b';have ey:Lit.int .i64 (g[i]).1=Lit.int .i64 (gW[i]).1:=a0;have b1:Lit.int .i64 (g[i]).2.1=Lit.int .i64 (gW[i]).2.1:=bR;have b2:Lit.bool (g[i]).2.2=Lit.bool (gW[i]).2.2:=b';injection ey with _ ey
 injection b1 with _ b1
 injection b2 with b2
 exact Prod.ext ey (Prod.ext b1 b2)
def QL {α mj:Type} {f:α->Option mj} {g:α->mj}: ∀{l:List α},(∀a,a∈l->f a=some (g a))->l.mapM f=some (l.map g)
 | [],_=>rfl
 |a::l,h=>by
  rw[List.mapM_cons,h a (aq4 ..),QL fun b O=>h b (ap4 _ O)];rfl
def QM (d:Nat) (g:aF9) (h: ∀i,i < 16->sS (g.getD i b7)):prog.keyLits (d+3) 261 (oy (fE dL g 0 48))=some (jL (fE dL g 0 48)):=by
 have cy:prog.cellsOf 261=48:=by kernel_rfl
 have cu:prog.cellsOf 176=3:=by kernel_rfl
 have key: ∀i,i < 16->prog.keyLits (d+2) 176 (((oy (fE dL g 0 48)).drop (i*3)).take 3)=some (jL (o1 (g.getD i b7))):=by
  intro i aG
  match i,aG with
  |0,_=>exact lp d (h 0 az7)
  |1,_=>exact lp d (h 1 az7)
  |2,_=>exact lp d (h 2 az7)
  |3,_=>exact lp d (h 3 az7)
  |4,_=>exact lp d (h 4 az7)
  |5,_=>exact lp d (h 5 az7)
  |6,_=>exact lp d (h 6 az7)
  |7,_=>exact lp d (h 7 az7)
  |8,_=>exact lp d (h 8 az7)
  |9,_=>exact lp d (h 9 az7)
  |10,_=>exact lp d (h 10 az7)
  |11,_=>exact lp d (h 11 az7)
  |12,_=>exact lp d (h 12 az7)
  |13,_=>exact lp d (h 13 az7)
  |14,_=>exact lp d (h 14 az7)
  |15,_=>exact lp d (h 15 az7)
  |n+16,aG=>exact ap0 aG az7
 unfold Program.keyLits;simp only[underlying261,cy,cu];have ak:(oy (fE dL g 0 48)).length=48:=rfl;have aw:((List.range 16).map fun i=>jL (o1 (g.getD i b7))).flatten=jL (fE dL g 0 48):=rfl;generalize oy (fE dL g 0 48)=aoE at ak key⊢;rw[vj ak,QL (g:=fun i=>jL (o1 (g.getD i b7))) fun i aG=>key i (List.mem_range.1 aG)];exact ap1 some aw
def acS:(prog.info? 261).map (·.size)=some 48:=by kernel_rfl
def k8 {T n:Nat} (h:(prog.info? T).map (·.size)=some n): ∃i,prog.info? T=some i/\i.size=n:=by
 cases e:prog.info? T with
 |none=>rw[e] at h;cases h
 |some i=>rw[e] at h;exact⟨i,rfl,by simpa using h⟩
def JX (i:Nat):pO.getD i b7=b7:=by
 unfold pO;rw[ap2,ax0]
 split <;>rfl
abbrev nI:List bw:=[.d (.int .i64 0),.d (.int .i64 0),.d (.lit false)]
abbrev Fa:List bw:=nI++(nI++(nI++(nI++(nI++(nI++(nI++(nI++(nI++(nI++(nI++(nI++(nI++(nI++(nI++nI))))))))))))))
def acT:prog.keyLits 5 261 (oy Fa)=some (jL Fa):=QM 2 pO fun i _=>by rw[JX];exact⟨az8,az8⟩
abbrev acU (c:Nat):aW:=[(0,ap 1001),(1,ab (c:Int)),(5,ap 5),(6,ap 6)]
abbrev acV (n:Int) (es:aE1) (s:d7) (g:aF9):av:=[(6,.val dL g),(5,.cells (o1 s)),(1001,.cells [.d (.int .i64 n),.mp 1002]),(1002,.map aj dL es)]
def acW {t:aF9} {es:aE1} (eu:jM t es) (n:Int) (c:Nat) (J:c < 100000) (s:d7) (ax:sS s):Fn prog 266 [ap 1001,ab (c:Int),.c (mU s)] (mq n es) [] gU (mq n (pP es c s)):=by
 obtain⟨QK,xp,zn⟩:=k8 JW;obtain⟨aoF,QN,QO⟩:=k8 acS;have bZ:=eu.len ((c:Int)/16);have dy:((c/16:Nat):Int)=(c:Int)/16:=aA5
 have zo:((c:Int) % 16).toNat=c % 16:=aA5
 have QP:(fK es ((c:Int)/16)).set (c % 16) s=pO->pP es c s=gB (aI:=aj) (aK:=dL) es ((c:Int)/16):=fun h=>by
  unfold pP;rw[dy,vj h];rfl
 have QQ: ¬(fK es ((c:Int)/16)).set (c % 16) s=pO->pP es c s=dw (aI:=aj) (aK:=dL) es ((c:Int)/16) ((fK es ((c:Int)/16)).set (c % 16) s):=fun h=>by
  unfold pP;rw[dy,mu h];rfl
 have ug:((fK es ((c:Int)/16)).set (c % 16) s).length=16:=by rw[at7];exact bZ
 have QR: ∀i,i < 16->sS (((fK es ((c:Int)/16)).set (c % 16) s).getD i b7):=fun i _=>by
  rw[ap2,aw1]
  split
  .split
   .exact ax
   .exact⟨az8,az8⟩
  .rw[<-ap2];exact eu.ok _ _
 obtain⟨gW,qK⟩: ∃gW:List d7,gW=(fK es ((c:Int)/16)).set (c % 16) s:=⟨_,rfl⟩;rw[<-qK] at QP QQ QR ug
 have rv:decide (gW=pO)=true↔jL (fE dL gW 0 48)=jL Fa:=by
  rw[decide_eq_true_iff];exact⟨fun h=>by rw[h];rfl,acR gW pO ug rfl⟩
 refine aU [2] func266 ?_;refine⟨rfl,⟨az7,az7⟩,⟨az7,az7⟩,rfl,bx [] ((ac.acD 6 (u:=dL) (x:=fK es ((c:Int)/16)) ⟨bZ,fun _ _=>⟨trivial,trivial,trivial⟩⟩ rfl).trans (cH (acU c) (acV n es s (fK es ((c:Int)/16))))) ⟨⟨az7,az7⟩,⟨az7,az7⟩,bo (fun N=>acE (s:=3) (j:=(c:Int) % 16) rfl underlying261 xp zn rfl rfl az7 az7 N) ?_⟩⟩;rw[zo];refine⟨_,⟨[6],[],[(6,some (.val dL gW))]⟩,fun N=>by rw[qK];exact acG (n:=16) (u:=qI) (g:=fK es ((c:Int)/16)) (y:=s) rfl xp zn rfl az7 rfl rfl ⟨trivial,trivial,trivial⟩ N,rfl,?_⟩;refine bo (QB (u:=dL) (y:=gW) rfl underlying261 rfl QN QO rfl rfl) ?_;refine bo (acH eC rfl rfl underlying261 xp rfl) ?_;refine bo (fun N=>JR (m:=5) (D:=5) (r:=decide (gW=pO)) (lx:=fE dL gW 0 48) (ly:=Fa) rfl aA0 aA0 az8 rfl rfl rfl rfl rfl (QM 2 gW QR) acT (rv) N) ?_;refine⟨fun h=>?_,fun h=>?_⟩
 .have h:=gd h;refine⟨⟨az7,az7⟩,⟨az7,az7⟩,?_⟩;rw[QP h];exact bd
 .have h:=oj h;refine⟨⟨az7,az7⟩,⟨az7,az7⟩,bo (QB (u:=dL) (y:=gW) rfl underlying261 rfl QN QO rfl rfl) ?_⟩;refine⟨gW,⟨⟨ug,fun _ _=>⟨trivial,trivial,trivial⟩⟩,rfl⟩,rfl,?_⟩;rw[QQ h];exact bd
def acX {t:aF9} {es:aE1} (eu:jM t es) (ak:t.length<=256) (c:Nat) (J:c < t.length) (s:d7) (ax:sS s) (aw:qJ s=true):
  Fn prog 240 [ap 1001,ab (c:Int),.c (mU s)] (mq (t.length:Nat) es) [] (.cm [mU t[c],dJ 0]) (mq (t.length:Nat) (pP es c s)):=by
 refine aU [] func240 ?_;refine⟨rfl,rfl,fun E=>ap0 (gd E) az7,fun E=>⟨fun E=>ap0 (gd E) az7,fun E=>az (acO s ax) ?_⟩⟩;exact⟨fun E=>ap0 E (by rw[aw];decide),fun _=>az (QJ eu ak c J) ⟨rfl,az (acW eu (t.length:Nat) c az7 s ax) <| er bu rfl ⟨aE,rfl,trivial⟩⟩⟩
def lL (t:aF9):bc where
 bn:=fun I F w p=> ∃es,jM t es/\j1 1001 (mq (t.length:Nat) es) I F w p
 cg:=fun I F w I' w' p ⟨es,h,aV⟩ U bj aO=>⟨es,h,(bc.iz 1001 (mq (t.length:Nat) es)).cg I F w I' w' p aV U bj aO⟩
def jM.new (n:Nat):jM (List.replicate n b7) []:=by
 have aV: ∀k i,(fK [] k).getD i b7=b7:=fun k i=>JX i
 refine⟨.nil,fun p ao=>(by cases ao),fun k i=>?_,fun c J=>?_,fun p ao=>(by cases ao),fun c _=>aV _ _⟩
 .rw[aV];exact⟨az8,az8⟩
 .rw[aV,List.getElem_replicate]
def acY (n:Int) (h: ¬(0<=n/\n<=256)):Fn prog 180 [ab n] [] [] (.cm [oV,dJ 1]) []:=by
 have O:(decide (0<=n)&&decide (n<=256))=false:=by
  rw[Bool.and_eq_false_iff,decide_eq_false_iff_not,decide_eq_false_iff_not];omega
 refine aU [] func180 ?_;refine az (QI n) ?_;rw[O];exact⟨fun _=>bd,fun E=>ap0 E az8⟩
def JY (n:Nat) (h:n<=256):Fn prog 180 [ab (n:Int)] [] [1001] (.cm [.one (.ptr 1001 0),dJ 0]) [(1001,.aA (lL (List.replicate n b7)))]:=by
 have O:(decide ((0:Int)<=n)&&decide ((n:Int)<=256))=true:=by
  rw[ao8,decide_eq_true_iff,decide_eq_true_iff];omega
 have ak:((List.replicate n b7).length:Nat)=n:=aq7;refine aU [] func180 ?_;refine az (QI n) ?_;rw[O];refine⟨fun E=>ap0 E az8,fun _=>⟨rfl,rfl,?_⟩⟩;refine⟨_,_,_,(ac.a7 10 1001 rfl).trans ((ac.a7 8 1002 rfl).trans (ac.close 1001 (mq (n:Nat) []) (o:=lL (List.replicate n b7)) aE rfl fun _ _ _ _ h=>⟨[],jM.new n,by rw[ak];exact h⟩)),rfl,aE,aE,rfl⟩
end
section
abbrev lq (l:aE5):av:=[(1001,.cells [.own 1002]),(1002,.row 3 aj l)]
def ju (l:aE5):bc:=.iz 1001 (lq l)
def QS:(prog.info? 3).map (fun i=>(i.zero,i.size,i.bytes))=some (some (.int .i64 0),1,8):=by kernel_rfl
def QT (n:Int) (h: ¬(0<=n/\n<=512)):Fn prog 181 [ab n] [] [] (.cm [oV,dJ 1]) []:=by
 refine aU [] func181 ?_;refine⟨fun E=>?_,fun E=>?_⟩
 .exact bd
 refine⟨fun G=>?_,fun G=>?_⟩
 .exact bd
 .exfalso;simp at E G;omega
def Fb (n:Int) (au:0<=n) (hn:n<=512):Fn prog 181 [ab n] [] [1001] (.cm [.one (.ptr 1001 0),dJ 0]) [(1001,.aA (ju (List.replicate n.toNat (0:Int))))]:=by
 obtain⟨c',i1,i2,i3,i4⟩:=info_parts QS;refine aU [] func181 ?_;refine⟨fun E=>?_,fun E=>?_⟩
 .exfalso;simp at E;omega
 refine⟨fun G=>?_,fun G=>?_⟩
 .exfalso;simp at G;omega
 refine bo (fun N=>QC (d:=11) rfl underlying42 i1 i2 i3 i4 rfl rfl au az7 N) ?_;exact⟨rfl,_,_,_,(ac.a7 13 1001 rfl).trans ((ac.a7 11 1002 rfl).trans (ac.close 1001 (lq (List.replicate n.toNat (0:Int))) (o:=ju (List.replicate n.toNat (0:Int))) aE rfl fun _ _ _ _ h=>h)),rfl,aE,aE,rfl⟩
def QU (l:aE5) (h:Int):Fn prog 101 [ap 1001,ab h] (lq l) [] (gT (decide (0<=h)&&decide (h < l.length))) (lq l):=by
 refine aU [] func101 ?_;refine⟨fun E=>?_,fun E=>?_⟩
 .refine⟨_,_,_,bu,rfl,?_,aE,rfl⟩;show decide (h < (l.length:Nat))=(decide (0<=h)&&decide (h < (l.length:Nat)));have E:decide (0<=h)=true:=E;rw[E,ax8]
 .refine⟨_,_,_,bu,rfl,?_,aE,rfl⟩;show false=(decide (0<=h)&&decide (h < (l.length:Nat)));have E:decide (0<=h)=false:=E;rw[E,Bool.false_and]
def acZ (n:Int) (h:n≠0):Fn prog 293 [ab n] [] [] (ab 0) []:=by refine aU [] func293 ?_;exact⟨fun E=>ap0 (gd E) h,fun E=>bd⟩
def ac0 (l:aE5) (h:Nat) (n:Int) (hn:l[h]? =some n) (E:1<=n) (G:n<=65535):Fn prog 292 [ap 1001,ab (h:Int),ab (-1),mH (.cW 293 [])] (lq l) [] (ab 0) (lq (l.set h (n - 1))):=by
 have ak:h < l.length:=(ap6.1 hn).1;refine aU [] func292 ?_;refine az (QU l h) ?_;have m1:(0:Int)<=(h:Int):=aA5
 have m2:(h:Int) < (l.length:Nat):=aA5
 refine⟨fun _=>?_,fun hf=>?_⟩
 .exact⟨⟨m1,m2⟩,n,hn,az (acZ n az7) <| gV ⟨⟨m1,m2⟩,n,hn,⟨az7,az7⟩,⟨m1,m2⟩,⟨trivial,ak⟩,bd⟩⟩
 .exfalso;have hf:(decide ((0:Int)<=h)&&decide ((h:Int) < l.length))=false:=hf;rw[aq1 az7,aq1 az7] at hf
  cases hf
def ac1 (l:aE5) (h:Nat) (n:Int) (hn:l[h]? =some n) (E:1<=n) (G:n<=65535):Fn prog 267 [ap 1001,ab (h:Int)] (lq l) [] (.cm [.one (.d (.int .i64 (n - 1))),dJ 0]) (lq (l.set h (n - 1))):=by
 have ak:h < l.length:=(ap6.1 hn).1;refine aU [] func267 ?_;refine az (ac0 l h n hn E G) <| dR ?_;have pB:h < (l.set h (n - 1)).length:=by rw[at7];exact ak
 have m1:(0:Int)<=(h:Int):=aA5
 have m2:(h:Int) < ((l.set h (n - 1)).length:Nat):=aA5
 have m3:(l.set h (n - 1))[h]? =some (n - 1):=by rw[au1 ak]
 exact⟨⟨m1,m2⟩,n - 1,m3,bd⟩
def dS (l:aE5):Nat:=(l.filter fun x=>decide (x=0)).length
def JZ (l:aE5):dS l<=l.length:=List.length_filter_le _ _
def ac2 {l:aE5} {k:Nat} (h:k < l.length):dS (l.take (k+1))=dS (l.take k)+(if l[k]=0 then 1 else 0):=by
 unfold dS;rw[at2 h,List.filter_append,ap3]
 congr 1
 by_cases e:l[k]=0
 .simp[e]
 .simp[e]
abbrev ac3 (l:aE5) (k:Nat):aW:=[(3,ab (dS (l.take k):Nat)),(9,eX 1002),(10,ab (l.length:Nat)),(11,ab (k:Nat))]
def ac4 (l:aE5) (ak:l.length<=1000000):Fn prog 238 [ap 1001] (lq l) [] (ab (dS l:Nat)) (lq l):=by
 refine aU [] func238 ?_;refine ed [] (X:=Nat) (ac3 l) (fun _=>lq l) (fun k=>k<=l.length) (fun k=>l.length - k) 0 (ap9 _) ?_ ?_
 .exact ac.sub aE aE
 intro k Z;have aO:=JZ (l.take k);have sD:(l.take k).length<=l.length:=aB8
 refine⟨fun h=>?_,fun h=>?_⟩
 .have h:decide ((k:Int) < (l.length:Nat))=true:=h;have fO:k < l.length:=aA6
  have ax:=ac2 fO;have m1:(0:Int)<=(k:Int):=aA5
  have m2:(k:Int) < (l.length:Nat):=aA5
  refine⟨⟨m1,m2⟩,l[k],j2 (n:=k) fO,fun au=>?_,fun au=>?_⟩
  .have au:=gd au;refine⟨az7,az7,k+1,az7,az7,ac.sub ⟨?_,rfl,rfl,rfl,trivial⟩ aE⟩;show((dS (l.take k):Nat):Int)+1=(dS (l.take (k+1)):Nat);rw[ax,vj au];omega
  .have au:=oj au;refine⟨az7,k+1,az7,az7,ac.sub ⟨?_,rfl,rfl,rfl,trivial⟩ aE⟩;show((dS (l.take k):Nat):Int)=(dS (l.take (k+1)):Nat);rw[ax,mu au];omega
 .have h:decide ((k:Int) < (l.length:Nat))=false:=h;have fO:k=l.length:=aD0
  subst fO;refine⟨_,_,_,bu,rfl,?_,aE,rfl⟩;show((dS (l.take l.length):Nat):Int)=_;rw[ar2]
abbrev ac5 (l:aE5) (k:Nat):aW:=[(0,ap 1001),(9,ab (l.length:Nat)),(10,ab (k:Nat))]
def ac6 (l:aE5) (ak:l.length<=1000000) (h:Nat) (bf:l[h]? =some 0) (hf: ∀j,j < h->l[j]? ≠some 0):Fn prog 239 [ap 1001] (lq l) [] (.cm [.one (.d (.int .i64 (h:Int))),dJ 0]) (lq (l.set h 1)):=by
 have br:h < l.length:=(ap6.1 bf).1;refine aU [] func239 ?_;refine ed [] (X:=Nat) (ac5 l) (fun _=>lq l) (fun k=>k<=h) (fun k=>l.length - k) 0 (ap9 _) ?_ ?_
 .exact ac.sub aE aE
 intro k Z;refine⟨fun _=>?_,fun E=>?_⟩
 .have fO:k < l.length:=aA5
  have m1:(0:Int)<=(k:Int):=aA5
  have m2:(k:Int) < (l.length:Nat):=aA5
  refine⟨⟨m1,m2⟩,l[k],j2 (n:=k) fO,fun au=>?_,fun au=>?_⟩
  .have au:=gd au
   have QV:k=h:=by
    rcases ax6 k h with ag |ag
    .exact ap0 (by rw[ao7 fO,au]) (hf k ag)
    .omega
   subst QV;exact⟨⟨m1,m2⟩,⟨trivial,fO⟩,bd⟩
  .have au:=oj au
   have QV:k≠h:=fun e=>by
    subst e;rw[ao7 fO] at bf;exact au (by injection bf)
   exact⟨az7,k+1,az7,az7,ac.sub aE aE⟩
 .exfalso;have E:decide ((k:Int) < (l.length:Nat))=false:=E;simp at E;omega
end
section
def zp (l:aD3):av->Bool
 | []=>true
 |(c,ch)::B=> !l.contains c&&(l.all fun d=> !ch.has d)&&zp l B
def Fc {l:aD3}: ∀{B:av},zp l B=true-> ∀{c ch},ae B c=some ch->c∉l/\ ∀d,d∈l->ch.has d=false
 | [],_,c,ch,J=>by cases J
 |(e,x)::B,h,c,ch,J=>by
  simp only[zp,ao8,aq9] at h;obtain⟨⟨E,G⟩,ag⟩:=h;rw[cn] at J
  split at J
  .rename_i e;injection J with J
   subst e J;refine⟨fun aD=>(by rw[ar5.2 aD] at E;cases E),fun d H=>?_⟩;have:=ar3.1 G d H;simpa using this
  .exact Fc ag J
def Fn.pQ {P:aD9} {f:aE8} {args:List aN} {aJ:av} {bb:aD3} {res:aN} {aP:av} (o2:av) (h:Fn P f args aJ bb res aP) (E:((ci o2).all fun d=> !(ci aJ).contains d&& !(ci aP).contains d)=true) (G:zp bb o2=true):
  Fn P f args (aJ++o2) bb res (aP++o2):=by
 have co: ∀{c ch},ae o2 c=some ch->ae aJ c=none/\ae aP c=none:=fun {c ch} J=>by
  have:=ar3.1 E c (f1.2 ⟨ch,J⟩);simp only[ao8,aq9] at this;constructor
  .cases e:ae aJ c with
   |none=>rfl
   |some x=>rw[ar5.2 (f1.2 ⟨x,e⟩)] at this;cases this.1
  .cases e:ae aP c with
   |none=>rfl
   |some x=>rw[ar5.2 (f1.2 ⟨x,e⟩)] at this;cases this.2
 have vy: ∀{c ch},ae aJ c=some ch->ae (aJ++o2) c=some ch:=fun {c ch} J=>by rw[hQ,J]
 have uh: ∀{c ch},ae o2 c=some ch->ae (aJ++o2) c=some ch:=fun {c ch} J=>by rw[hQ,(co J).1];exact J
 have Fd: ∀{c ch},ae (aP++o2) c=some ch->ae aP c=some ch\/ae o2 c=some ch:=fun {c ch} J=>by
  rw[hQ] at J
  cases e:ae aP c with
  |none=>rw[e] at J;exact .inr J
  |some x=>rw[e] at J;exact .inl J
 refine⟨h.1,fun ρ F I w bW bR b' a3 a4 a5 ft=>(h.2 ρ F I w bW bR (fun c ch J=>b' c ch (vy J)) (fun c ch J=>a3 c ch (vy J)) (fun c ck ch ch' b J c0=>a4 c ck ch ch' b (vy J) (vy c0)) a5 ft).mono ?_⟩;rintro e w' ⟨x,ρ',F',r1,r2,fI,I',jI,ll,lJ,lm,mi,nD⟩
 let cN:Nat->Nat->Prop:=fun c=>if(ae o2 c).isSome=true then F c else F' c
 have g3: ∀{c ch},ae o2 c=some ch->cN c=F c:=fun {c ch} J=>vj (by rw[J];rfl)
 have io: ∀{c ch},ae aP c=some ch->cN c=F' c:=fun {c ch} J=>mu (fun ax=>by
  cases e:ae o2 c with
  |none=>rw[e] at ax;cases ax
  |some x=>rw[(co e).2] at J;cases J)
 have Fe: ∀{c ch} {b:Nat},ae o2 c=some ch->F c b-> ¬ ∃d ch',ae aJ d=some ch'/\F d b:=fun {c ch b} J O=>by
  rintro⟨d,ch',H,c7⟩;refine a4 c d ch ch' b (uh J) (vy H) (fun e=>?_) O c7;subst e;rw[(co J).1] at H
  cases H
 refine⟨x,ρ',cN,r1,r2.mono fun b _ ⟨c,ch,J,O⟩=>⟨c,ch,vy J,O⟩,fI,I',jI,fun b O=>⟨(ll b O).1,(ll b O).2.imp id (Or.imp (fun⟨c,ch,J,O⟩=>⟨c,ch,vy J,O⟩) id)⟩,fun c ch J=>?_,fun c ch J b O=>?_,fun c ck ch ch' b J c0 a6 O c7=>?_,nD⟩
 .rcases Fd J with J |J
  .rw[io J];exact lJ c ch J
  .rw[g3 J];obtain⟨g1,g2⟩:=Fc G J;rw[fI c g1];exact Holds.cg jI (fun b O=>r2.block b (a3 c ch (uh J) b O).1 (Fe J O)) r2.size ch (fun d H=>fI d fun aD=>by rw[g2 d aD] at H;cases H) (b' c ch (uh J))
 .rcases Fd J with J |J
  .rw[io J] at O;obtain⟨g1,g2,cX⟩:=lm c ch J b O;exact⟨g1,g2,cX.imp (fun⟨d,ch',H,O⟩=>⟨d,ch',vy H,O⟩) id⟩
  .rw[g3 J] at O;obtain⟨g1,g2⟩:=a3 c ch (uh J) b O;refine⟨aq8 g1 r2.size,fun aZ=>?_,.inl ⟨c,ch,uh J,O⟩⟩;rcases(ll b aZ).2 with h |h |h
   .exact g2 h
   .exact Fe J O h
   .omega
 .rcases Fd J with J |J <;>rcases Fd c0 with c0 |c0
  .rw[io J] at O;rw[io c0] at c7;exact mi c ck ch ch' b J c0 a6 O c7
  .rw[io J] at O;rw[g3 c0] at c7;rcases(lm c ch J b O).2.2 with h |h
   .exact Fe c0 c7 h
   .have:=(a3 ck ch' (uh c0) b c7).1;omega
  .rw[g3 J] at O;rw[io c0] at c7;rcases(lm ck ch' c0 b c7).2.2 with h |h
   .exact Fe J O h
   .have:=(a3 c ch (uh J) b O).1;omega
  .rw[g3 J] at O;rw[g3 c0] at c7;exact a4 c ck ch ch' b (uh J) (uh c0) a6 O c7
def Fn.dX {P:aD9} {f:aE8} {args:List aN} {aJ:av} {bb:aD3} {d:Nat} {e:aE4} {u:bz} {xs:List (aa u)} {aP:av} (h:Fn P f args aJ (d::bb) (.c (.one (.own d))) (aP++[(d,.row e u xs)])) (E:(ci aP).contains d=false) (G:zp [d] aP=true):
  Fn P f args aJ bb (.c (.one (.d (.cr u xs)))) aP:=by
 have co:ae aP d=none:=by
  cases e:ae aP d with
  |none=>rfl
  |some x=>rw[ar5.2 (f1.2 ⟨x,e⟩)] at E;cases E
 have qL:ae (aP++[(d,ba.row e u xs)]) d=some (.row e u xs):=by rw[hQ,co];simp[ae]
 have hp: ∀{c ch},ae aP c=some ch->ae (aP++[(d,ba.row e u xs)]) c=some ch:=fun {c ch} J=>by rw[hQ,J]
 have a6: ∀{c ch},ae aP c=some ch->c≠d:=fun {c ch} J e=>by rw[e,co] at J;cases J
 refine⟨h.1,fun ρ F I w bW bR b' a3 a4 a5 ft=>(h.2 ρ F I w bW bR b' a3 a4 a5 ft).mono ?_⟩;rintro ex w' ⟨x,ρ',F',r1,r2,fI,I',jI,ll,lJ,lm,mi,nD⟩;have fN:=lJ d _ qL;have sH: ∀b,I' b->(fun b=>I' b\/F' d b) b:=fun b O=>.inl O
 have a2:cj I' w' (fun b=>I' b\/F' d b) w':=fun b O=>⟨.inl O,rfl⟩
 have dz:gA (fun b=>I' b\/F' d b) w' (.cr u xs) (ρ' d).fa:=Ba fN sH (fun b O=>.inr O);refine⟨x,dm ρ' d (ρ d),F',r1,r2,fun c J=>?_,fun b=>I' b\/F' d b,fun b O=>⟨.inl (jI b O).1,(jI b O).2⟩,fun b O=>?_,fun c ch J=>?_,fun c ch J b O=>?_,fun c ck ch ch' b J c0=>mi c ck ch ch' b (hp J) (hp c0),?_⟩
 .by_cases e:c=d
  .rw[e,dr]
  .rw[dt _ _ e];exact fI c (fun aD=>by rcases ap7.1 aD with h |h;exact e h;exact J h)
 .rcases O with O |O
  .exact ll b O
  .obtain⟨g1,g2,cX⟩:=lm d _ qL b O;exact⟨g1,.inr cX⟩
 .have rM:=a6 J;obtain⟨_,g2⟩:=Fc G J;rw[dt _ _ rM];exact Holds.cg a2 (fun _ _=>rfl) (ao9 _) ch (fun j V=>dt _ _ fun e=>by rw[e,g2 d (aq6.2 rfl)] at V;cases V) (lJ c ch (hp J))
 .obtain⟨g1,g2,cX⟩:=lm c ch (hp J) b O;refine⟨g1,fun aZ=>?_,cX⟩;rcases aZ with aZ |aZ
  .exact g2 aZ
  .exact mi c d ch _ b (hp J) qL (a6 J) O aZ
 .have hx:x=(ρ' d).fa:=nD;rw[hx];exact dz
def Fn.ac7 {P:aD9} {f:aE8} {args:List aN} {aJ:av} {bb:aD3} {d:Nat} {e:aE4} {u:bz} {xs:List (aa u)} {res:aN} {aP:av} (h:Fn P f args aJ (d::bb) res (aP++[(d,.row e u xs)])) (E:(ci aP).contains d=false) (G:zp [d] aP=true) (ag:(res.dX d (.cr u xs)).has d=false):
  Fn P f args aJ bb (res.dX d (.cr u xs)) aP:=by
 have co:ae aP d=none:=by
  cases e:ae aP d with
  |none=>rfl
  |some x=>rw[ar5.2 (f1.2 ⟨x,e⟩)] at E;cases E
 have qL:ae (aP++[(d,ba.row e u xs)]) d=some (.row e u xs):=by rw[hQ,co];simp[ae]
 have hp: ∀{c ch},ae aP c=some ch->ae (aP++[(d,ba.row e u xs)]) c=some ch:=fun {c ch} J=>by rw[hQ,J]
 have a6: ∀{c ch},ae aP c=some ch->c≠d:=fun {c ch} J e=>by rw[e,co] at J;cases J
 refine⟨h.1,fun ρ F I w bW bR b' a3 a4 a5 ft=>(h.2 ρ F I w bW bR b' a3 a4 a5 ft).mono ?_⟩;rintro ex w' ⟨x,ρ',F',r1,r2,fI,I',jI,ll,lJ,lm,mi,nD⟩;have fN:=lJ d _ qL;have sH: ∀b,I' b->(fun b=>I' b\/F' d b) b:=fun b O=>.inl O
 have a2:cj I' w' (fun b=>I' b\/F' d b) w':=fun b O=>⟨.inl O,rfl⟩
 have dz:gA (fun b=>I' b\/F' d b) w' (.cr u xs) (ρ' d).fa:=Ba fN sH (fun b O=>.inr O);refine⟨x,dm ρ' d (ρ d),F',r1,r2,fun c J=>?_,fun b=>I' b\/F' d b,fun b O=>⟨.inl (jI b O).1,(jI b O).2⟩,fun b O=>?_,fun c ch J=>?_,fun c ch J b O=>?_,fun c ck ch ch' b J c0=>mi c ck ch ch' b (hp J) (hp c0),?_⟩
 .by_cases e:c=d
  .rw[e,dr]
  .rw[dt _ _ e];exact fI c (fun aD=>by rcases ap7.1 aD with h |h;exact e h;exact J h)
 .rcases O with O |O
  .exact ll b O
  .obtain⟨g1,g2,cX⟩:=lm d _ qL b O;exact⟨g1,.inr cX⟩
 .have rM:=a6 J;obtain⟨_,g2⟩:=Fc G J;rw[dt _ _ rM];exact Holds.cg a2 (fun _ _=>rfl) (ao9 _) ch (fun j V=>dt _ _ fun e=>by rw[e,g2 d (aq6.2 rfl)] at V;cases V) (lJ c ch (hp J))
 .obtain⟨g1,g2,cX⟩:=lm c ch (hp J) b O;refine⟨g1,fun aZ=>?_,cX⟩;rcases aZ with aZ |aZ
  .exact g2 aZ
  .exact mi c d ch _ b (hp J) qL (a6 J) O aZ
 .have ay:cv ρ' (fun b=>I' b\/F' d b) w' (res.dX d (.cr u xs)) x:=cv.dX a2 dz res x nD;exact cv.mono (cj.refl _ _) _ _ (fun c J=>dt _ _ fun e=>by subst e;rw[ag] at J;cases J) ay
def Fn.own {P:aD9} {f:aE8} {args:List aN} {aJ:av} {bb:aD3} {d:Nat} {e:aE4} {u:bz} {xs:List (aa u)} {res:aN} {aP:av} (h:Fn P f (args.map (aN.dX d (.cr u xs))) aJ bb res aP) (E:(ci aJ).contains d=false):
  Fn P f args (aJ++[(d,.row e u xs)]) bb res aP:=by
 have co:ae aJ d=none:=by
  cases e:ae aJ d with
  |none=>rfl
  |some x=>rw[ar5.2 (f1.2 ⟨x,e⟩)] at E;cases E
 have qL:ae (aJ++[(d,ba.row e u xs)]) d=some (.row e u xs):=by rw[hQ,co];simp[ae]
 have hp: ∀{c ch},ae aJ c=some ch->ae (aJ++[(d,ba.row e u xs)]) c=some ch:=fun {c ch} J=>by rw[hQ,J]
 have a6: ∀{c ch},ae aJ c=some ch->c≠d:=fun {c ch} J e=>by rw[e,co] at J;cases J
 refine⟨h.1,fun ρ F I w bW bR b' a3 a4 a5 ft=>?_⟩;have fN:=b' d _ qL;have a2:cj I w (fun b=>I b\/F d b) w:=fun b O=>⟨.inl O,rfl⟩
 have dz:gA (fun b=>I b\/F d b) w (.cr u xs) (ρ d).fa:=Ba fN (fun b O=>.inl O) (fun b O=>.inr O)
 refine(h.2 ρ F (fun b=>I b\/F d b) w bW (fun b O=>O.elim (bR b) fun O=>(a3 d _ qL b O).1) (fun c ch J=>Holds.cg a2 (fun _ _=>rfl) (ao9 _) ch (fun _ _=>rfl) (b' c ch (hp J)))
  (fun c ch J b O=>⟨(a3 c ch (hp J) b O).1,fun aZ=>aZ.elim (a3 c ch (hp J) b O).2 fun H=>a4 c d ch _ b (hp J) qL (a6 J) O H⟩) (fun c ck ch ch' b J c0=>a4 c ck ch ch' b (hp J) (hp c0)) (by rw[aq3];exact a5) (fun i v x ay hx=>?_)).mono ?_
 .rw[ar1] at ay;obtain⟨s,ax,rfl⟩:=as4.1 ay;exact cv.dX a2 dz s x (ft i s x ax hx)
 .rintro ex w' ⟨x,ρ',F',r1,r2,fI,I',jI,ll,lJ,lm,mi,nD⟩;refine⟨x,ρ',F',r1,r2.mono fun b _ ⟨c,ch,J,O⟩=>⟨c,ch,hp J,O⟩,fI,I',fun b O=>jI b (.inl O),fun b O=>⟨(ll b O).1,?_⟩,lJ,fun c ch J b O=>?_,mi,nD⟩
  .rcases(ll b O).2 with h |⟨c,ch,J,O⟩ |h
   .exact h.elim .inl fun h=>.inr (.inl ⟨d,_,qL,h⟩)
   .exact .inr (.inl ⟨c,ch,hp J,O⟩)
   .exact .inr (.inr h)
  .obtain⟨g1,g2,cX⟩:=lm c ch J b O;exact⟨g1,g2,cX.imp (fun⟨c,ch,J,O⟩=>⟨c,ch,hp J,O⟩) id⟩
end
section
structure bA where
 z:Nat
 t:List d7
 l:List Int
 f:k3
abbrev ac8 (n:Int):List bw:=[.d (.int .i64 n),.ptr 1002 0,.ptr 1003 0,.mp 1004,.dc]
abbrev c8 (s:bA):av:=[(1001,.cells (ac8 s.z)),(1002,.aA (lL s.t)),(1003,.aA (ju s.l)),(1004,.aA (lo s.f))]
def iN (s:bA):bc:=.iz 1001 (c8 s)
def ac9 (t:aF9):Fn prog 193 [ap 1001] [(1001,.aA (lL t))] [] (ab (t.length:Nat)) [(1001,.aA (lL t))]:=
 Fn.BN (qD:=fun es:{es//jM t es}=>.iz 1001 (mq (t.length:Nat) es.1)) aA0 (fun _ _ _ _ ⟨es,h,aV⟩=>⟨⟨es,h⟩,aV⟩) fun es=>
  Fn.close [1002] (acQ _ es.1) (fun _ _ _ _ h=>h) (fun _ _ _ _ h=>⟨es.1,es.2,h⟩) rfl rfl
def B7 (t:aF9) (ak:t.length<=256) (c:Nat) (J:c < t.length):Fn prog 195 [ap 1001,ab (c:Int)] [(1001,.aA (lL t))] [] (.c (mU t[c])) [(1001,.aA (lL t))]:=
 Fn.BN (qD:=fun es:{es//jM t es}=>.iz 1001 (mq (t.length:Nat) es.1)) aA0 (fun _ _ _ _ ⟨es,h,aV⟩=>⟨⟨es,h⟩,aV⟩) fun es=>
  Fn.close [1002] (QJ es.2 ak c J) (fun _ _ _ _ h=>h) (fun _ _ _ _ h=>⟨es.1,es.2,h⟩) rfl rfl
def ac' (t:aF9) (ak:t.length<=256) (c:Nat) (J:c < t.length) (s:d7) (ax:sS s) (aw:qJ s=true):
  Fn prog 240 [ap 1001,ab (c:Int),.c (mU s)] [(1001,.aA (lL t))] [] (.cm [mU t[c],dJ 0]) [(1001,.aA (lL (t.set c s)))]:=
 Fn.BN (qD:=fun es:{es//jM t es}=>.iz 1001 (mq (t.length:Nat) es.1)) aA0 (fun _ _ _ _ ⟨es,h,aV⟩=>⟨⟨es,h⟩,aV⟩) fun es=>
  Fn.close [1002] (acX es.2 ak c J s ax aw) (fun _ _ _ _ h=>h) (fun _ _ _ _ h=>⟨_,es.2.set c J s ax,by rw[at7];exact h⟩) rfl rfl
def ada (l:aE5) (h:Nat) (n:Int) (hn:l[h]? =some n) (E:1<=n) (G:n<=65535):Fn prog 267 [ap 1001,ab (h:Int)] [(1001,.aA (ju l))] [] (.cm [.one (.d (.int .i64 (n - 1))),dJ 0]) [(1001,.aA (ju (l.set h (n - 1))))]:=
 Fn.close [1002] (ac1 l h n hn E G) (fun _ _ _ _ h=>h) (fun _ _ _ _ h=>h) rfl rfl
def adb (l:aE5) (ak:l.length<=1000000):Fn prog 238 [ap 1001] [(1001,.aA (ju l))] [] (ab (dS l:Nat)) [(1001,.aA (ju l))]:=
 Fn.close [1002] (ac4 l ak) (fun _ _ _ _ h=>h) (fun _ _ _ _ h=>h) rfl rfl
def adc (l:aE5) (ak:l.length<=1000000) (h:Nat) (bf:l[h]? =some 0) (hf: ∀j,j < h->l[j]? ≠some 0):Fn prog 239 [ap 1001] [(1001,.aA (ju l))] [] (.cm [.one (.d (.int .i64 (h:Int))),dJ 0]) [(1001,.aA (ju (l.set h 1)))]:=
 Fn.close [1002] (ac6 l ak h bf hf) (fun _ _ _ _ h=>h) (fun _ _ _ _ h=>h) rfl rfl
def aH (s:bA):Nat:=16*2 ^s.z
def iO {b:Nat} (h:b<=3):1<=2 ^b/\2 ^b<=8:=by
 match b,h with
 |0,_=>decide
 |1,_=>decide
 |2,_=>decide
 |3,_=>decide
def sU {s:bA} (h:s.z<=3):16<=aH s/\aH s<=128:=by have:=iO h;unfold aH;omega
def pR (s:bA) (O:s.z<=3):Fn prog 191 [ap 1001] (c8 s) [] (ab (aH s:Nat)) (c8 s):=by
 have h:=iO O;have e:(16:Int)*((2 ^s.z:Nat):Int)=((aH s:Nat):Int):=by unfold aH;omega
 refine aU [] func191 ?_;have m:(0:Int)<=16/\(0:Int)<=(s.z:Int)/\(s.z:Int)<=64:=aA5
 have m2:(-9223372036854775808:Int)<=16*((2 ^s.z:Nat):Int)/\(16:Int)*((2 ^s.z:Nat):Int)<=9223372036854775807:=aA5
 exact⟨m,m2,er bu rfl e⟩
def mV (s:bA):Fn prog 131 [ap 1001] (c8 s) [] (ab (s.t.length:Nat)) (c8 s):=by refine aU [] func131 ?_;exact az (Fn.a7 [(1001,1002)] (ac9 s.t)) bd
def ade (s:bA) (ak:s.t.length<=256) (c:Nat) (J:c < s.t.length):Fn prog 136 [ap 1001,ab (c:Int)] (c8 s) [] (ab (s.t[c]).1) (c8 s):=by refine aU [] func136 ?_;refine az (Fn.a7 [(1001,1002)] (B7 s.t ak c J)) <| bo (JS rfl underlying176 rfl underlying3 rfl rfl rfl) ?_;exact bd
def QW (s:bA) (ak:s.l.length<=1000000):Fn prog 188 [ap 1001] (c8 s) [] (ab (dS s.l:Nat)) (c8 s):=by refine aU [] func188 ?_;exact az (Fn.a7 [(1001,1003),(1002,2003)] (adb s.l ak)) bd
def QX (x:aD2) (hx:x.length<=4294967296):Fn prog 199 [eX 1001] [(1001,.row 5 .u8 x)] [1002] (eX 1002) [(1001,.row 5 .u8 x),(1002,.row 5 .u8 x)]:=by
 refine aU [1] func199 ?_;refine bB.hP eC aA0 ⟨_,PY (c:=1001) rfl rfl rfl underlying27,fun v e h=>?_⟩;obtain⟨b,O,rfl,rfl⟩:=h
 cases b
 .refine⟨rfl,?_⟩;have m1:([]:aD2).length+x.length<=4294967296:=aB1
  exact⟨m1,rfl,_,_,_,ac.a7 7 1002 rfl,rfl,rfl,aE,rfl⟩
 .have O:=O rfl;subst O;exact⟨_,_,_,ac.nil 2 1002 5 .u8 rfl rfl,rfl,rfl,aE,rfl⟩
def adf (x:aD2) (hx:x.length<=4294967296):Fn prog 199 [b0 .u8 x] [] [2001] (eX 2001) [(2001,.row 5 .u8 x)]:=by
 refine aU [1] func199 ?_;refine bB.hP eC aA0 ⟨_,PZ rfl rfl underlying27,fun v e h=>?_⟩;obtain⟨b,O,rfl,rfl⟩:=h
 cases b
 .refine⟨rfl,?_⟩;have ak:0+x.length<=4294967296:=aA5
  exact⟨ak,rfl,_,_,_,ac.a7 7 2001 rfl,rfl,rfl,aE,rfl⟩
 .have O:=O rfl;subst O;exact⟨_,_,_,ac.nil 2 2001 5 .u8 rfl rfl,rfl,rfl,aE,rfl⟩
def QY {f:k3} {k:Int} {xs:aD2} (h:f k=some xs):ja f k xs=f:=funext fun j=>by
 unfold ja
 split
 .rename_i e;rw[e,h]
 .rfl
def J0:(prog.info? 27).map (fun i=>(i.zero,i.size,i.bytes))=some (some (.slice none 0 0),1,24):=by kernel_rfl
def iq (s:bA):aD2:=List.replicate (aH s) 0
def ee (s:bA) (c:Nat) (y:Option aD2):aD2:=match s.t[c]? with
 |some q=>if q.1=1 then(s.f q.2.1).getD [] else if q.1=0 then(match y with
  |some y=>if y.length=aH s then y else iq s
  |none=>iq s) else iq s
 |none=>[]
def adg (s:bA) (O:s.z<=3) (ak:s.t.length<=256) (c:Nat) (J:c < s.t.length) (hf:(s.t[c]).1=1-> ∃xs,s.f (s.t[c]).2.1=some xs/\xs.length<=128):
  Fn prog 178 [ap 1001,ab (c:Int),.c (.one (.bH .nilFunc))] (c8 s) [2001] (eX 2001) (c8 s++[(2001,.row 5 .u8 (ee s c none))]):=by
 obtain⟨c',i1,i2,i3,i4⟩:=info_parts J0;have hw:=sU O
 have dI:ee s c none=if(s.t[c]).1=1 then(s.f (s.t[c]).2.1).getD [] else iq s:=by
  unfold ee;rw[ao7 J];simp
 refine aU [] func178 ?_;refine az (Fn.a7 [(1001,1002)] (B7 s.t ak c J)) ⟨rfl,fun h=>?_,fun h=>?_⟩
 .have h:=gd h;obtain⟨xs,hx,tM⟩:=hf h;rw[vj h,hx] at dI;refine bo (EU (d:=5001) (k:=(s.t[c]).2.1) rfl underlying165 underlying3 rfl i1 i2 rfl rfl rfl hx) ?_;refine az (Fn.a7 [(1001,5001),(1002,2001)] (QX xs az7)) ⟨rfl,?_⟩;exact⟨_,_,_,ac.EV 1004 5001 (QY hx) rfl rfl az8 (by rw[hx];rfl),rfl,rfl,⟨rfl,rfl,rfl,rfl,by rw[dI];rfl,trivial⟩,rfl⟩
 .have h:=oj h;rw[mu h] at dI;have m:(0:Int)<=(aH s:Nat)/\((aH s:Nat):Int)<=4294967296:=aA5
  refine⟨fun au=>?_,fun au=>?_⟩
  .refine bo (acK (.inr ⟨rfl,rfl⟩) rfl underlying202 rfl) ?_;refine az (pR s O) ⟨⟨rfl,m⟩,rfl,?_⟩;exact⟨_,_,_,ac.a7 45 2001 rfl,rfl,rfl,⟨rfl,rfl,rfl,rfl,by rw[dI];rfl,trivial⟩,rfl⟩
  .refine az (pR s O) ⟨⟨rfl,m⟩,rfl,?_⟩;exact⟨_,_,_,ac.a7 45 2001 rfl,rfl,rfl,⟨rfl,rfl,rfl,rfl,by rw[dI];rfl,trivial⟩,rfl⟩
abbrev mW (b1 b2:Nat):aN:=.c (.one (.d (.fn (186,[b1,b2]))))
abbrev fP (s:bA) (bn:bm->bc):av:=c8 s++[(9000,.bY 1001 bn)]
def Ff (s:bA) (bn:bm->bc) (b1 b2:Nat) (c:Nat) (y:aD2):Prop:=
 y.length<=1000000/\Fn prog 186 [ab (c:Int),di b1,di b2] (fP s bn) [] (b0 .u8 y) (fP s bn)
def adh (s:bA) (bn:bm->bc) (b1 b2:Nat) (O:s.z<=3) (ak:s.t.length<=256) (c:Nat) (J:c < s.t.length) (hf:(s.t[c]).1=1-> ∃xs,s.f (s.t[c]).2.1=some xs/\xs.length<=128) (y:aD2) (dh:(s.t[c]).1=0->Ff s bn b1 b2 c y):
  Fn prog 178 [ap 1001,ab (c:Int),mW b1 b2] (fP s bn) [2001] (eX 2001) (fP s bn++[(2001,.row 5 .u8 (ee s c (some y)))]):=by
 obtain⟨c',i1,i2,i3,i4⟩:=info_parts J0;have hw:=sU O
 have dI:ee s c (some y)=if(s.t[c]).1=1 then(s.f (s.t[c]).2.1).getD [] else if(s.t[c]).1=0 then(if y.length=aH s then y else iq s) else iq s:=by
  unfold ee;rw[ao7 J]
 refine aU [7,8] func178 ?_;refine az (Fn.a7 [(1001,1002)] (B7 s.t ak c J)) ⟨rfl,fun h=>?_,fun h=>?_⟩
 .have h:=gd h;obtain⟨xs,hx,tM⟩:=hf h;rw[vj h,hx] at dI;refine bo (EU (d:=5001) (k:=(s.t[c]).2.1) rfl underlying165 underlying3 rfl i1 i2 rfl rfl rfl hx) ?_;refine az (Fn.a7 [(1001,5001),(1002,2001)] (QX xs az7)) ⟨rfl,?_⟩;exact⟨_,_,_,ac.EV 1004 5001 (QY hx) rfl rfl az8 (by rw[hx];rfl),rfl,rfl,⟨rfl,rfl,rfl,rfl,rfl,by rw[dI];rfl,trivial⟩,rfl⟩
 .have h:=oj h;rw[mu h] at dI;have m:(0:Int)<=(aH s:Nat)/\((aH s:Nat):Int)<=4294967296:=aA5
  refine⟨fun au=>?_,fun au=>?_⟩
  .have au:=gd au;obtain⟨QZ,dh⟩:=dh au;rw[vj au] at dI;refine bo (acJ (.inr ⟨rfl,rfl⟩) rfl underlying202 rfl) ?_;refine az dh <| az (pR s O) ⟨fun G=>?_,fun G=>?_⟩
   .have G:(y.length:Int)=(aH s:Nat):=gd G;have G:y.length=aH s:=aA5
    rw[vj G] at dI;refine bx [] (cH [(8,b0 .u8 y)] (fP s bn)) <| az (adf y az7) ?_;exact rL bu rfl rfl ⟨rfl,rfl,rfl,rfl,rfl,by rw[dI];rfl,trivial⟩ rfl
   .have G: ¬(y.length:Int)=(aH s:Nat):=oj G;have G: ¬y.length=aH s:=aA5
    rw[mu G] at dI;refine bx [] (cH [(0,ap 1001)] (fP s bn)) <| az (pR s O) ⟨⟨rfl,m⟩,rfl,?_⟩;exact⟨_,_,_,ac.a7 45 2001 rfl,rfl,rfl,⟨rfl,rfl,rfl,rfl,rfl,by rw[dI];rfl,trivial⟩,rfl⟩
  .have au:=oj au;rw[mu au] at dI;refine bx [] (cH [(0,ap 1001)] (fP s bn)) <| az (pR s O) ⟨⟨rfl,m⟩,rfl,?_⟩;exact⟨_,_,_,ac.a7 45 2001 rfl,rfl,rfl,⟨rfl,rfl,rfl,rfl,rfl,by rw[dI];rfl,trivial⟩,rfl⟩
def zq (s:bA) (q:d7):bA:=if q.1=1 then {s with l:=s.l.set q.2.1.toNat 0,f:=BU s.f q.2.1} else s
def adi (s:bA) (q:d7) (aY:q.1=1-> ∃h:Nat,q.2.1=(h:Int)/\s.l[h]? =some 1):Fn prog 241 [ap 1001,.c (mU q)] (c8 s) [] gU (c8 (zq s q)):=by
 refine aU [] func241 ?_;refine⟨rfl,fun E=>?_,fun E=>?_⟩
 .have E: ¬q.1=1:=by
   have E:(!decide (q.1=1))=true:=E;simpa using E
  rw[show zq s q=s from mu E];exact bd
 .have E:q.1=1:=by
   have E:(!decide (q.1=1))=false:=E;simpa using E
  obtain⟨h,e,ak⟩:=aY E;rw[show zq s q={s with l:=s.l.set q.2.1.toNat 0,f:=BU s.f q.2.1} from vj E];obtain⟨k,x,o⟩:=q;simp only at e;subst e;refine az (Fn.a7 [(1001,1003),(1002,2003)] (ada s.l h 1 ak az8 az8)) ⟨rfl,gV <| bo (abD (k:=(h:Int)) rfl underlying165 underlying3 rfl rfl rfl rfl) ?_⟩;exact⟨rfl,bd⟩
def qM (s:bA) (c:Nat) (q:d7):bA:=zq {s with t:=s.t.set c q} (s.t.getD c b7)
def J1 (s:bA) (ak:s.t.length<=256) (c:Nat) (J:c < s.t.length) (q:d7) (ax:sS q) (aw:qJ q=true) (aY:(s.t.getD c b7).1=1-> ∃h:Nat,(s.t.getD c b7).2.1=(h:Int)/\s.l[h]? =some 1):
  Fn prog 192 [ap 1001,ab (c:Int),.c (mU q)] (c8 s) [] gU (c8 (qM s c q)):=by
 have e:s.t[c]=s.t.getD c b7:=by rw[ap2,ao7 J];rfl
 have hj:=ac' s.t ak c J q ax aw;unfold qM;rw[e] at hj;generalize s.t.getD c b7=qn at aY hj;refine aU [] func192 ?_;refine⟨rfl,az (Fn.a7 [(1001,1002)] hj) ⟨rfl,rfl,?_⟩⟩;exact az (adi {s with t:=s.t.set c q} qn aY) bd
structure mr where
 c:Nat
 a:Nat
 b:Nat
 at_:Nat
abbrev ui (p:mr):List bw:=[.d (.int .i64 (p.c:Int)),.d (.int .i64 (p.a:Int)),.d (.int .i64 (p.b:Int)),.d (.int .i64 (p.at_:Int))]
abbrev pS (p:mr):aN:=.c (.agg (ui p))
def g6 (s:bA) (c:Nat):Bool:= !uf (s.t.getD c b7)
def J2 (s:bA) (ak:s.t.length<=256) (p:mr) (J:p.c < s.t.length):Fn prog 187 [ap 1001,pS p] (c8 s) [] (gT (g6 s p.c)) (c8 s):=by
 have e:s.t[p.c]=s.t.getD p.c b7:=by rw[ap2,ao7 J];rfl
 have l9:=B7 s.t ak p.c J;unfold g6;rw[e] at l9;refine aU [] func187 ?_;exact⟨rfl,az (Fn.a7 [(1001,1002)] l9) <| az (acP (s.t.getD p.c b7)) ⟨rfl,bd⟩⟩
structure e6 (s:bA):Prop where
 z:s.z<=3
 ez:s.t.length<=256
 ku:s.l.length<=512
 slot: ∀(c:Nat) (q:d7),s.t[c]? =some q->q=b7\/q=((2:Int),(0:Int),false)\/ ∃h:Nat,q=((1:Int),(h:Int),true)/\s.l[h]? =some 1/\ ∃xs,s.f (h:Int)=some xs/\xs.length=aH s
 inj: ∀(c d:Nat) (h:Int),s.t[c]? =some ((1:Int),h,true)->s.t[d]? =some ((1:Int),h,true)->c=d
 B8: ∀(h:Nat) n,s.l[h]? =some n->n=0\/n=1
 zr: ∀h:Nat,s.l[h]? =some 0->s.f (h:Int)=none
 B9: ∀h:Nat,s.l[h]? =some 1-> ∃c:Nat,s.t[c]? =some ((1:Int),(h:Int),true)
 dom: ∀(k:Int) xs,s.f k=some xs->xs.length<=128
def hS (l:aE5):Nat:=l.findIdx fun n=>decide (n=0)
def J3 {l:aE5} (h:0 < dS l):l[hS l]? =some 0/\ ∀j,j < hS l->l[j]? ≠some 0:=by
 have br:hS l < l.length:=by
  unfold hS;rw[List.findIdx_lt_length];unfold dS at h;obtain⟨x,hx⟩:=List.exists_mem_of_length_pos h;rw[ay0] at hx;exact⟨x,hx.1,hx.2⟩
 refine⟨?_,fun j V e=>?_⟩
 .have:=List.findIdx_getElem (xs:=l) (p:=fun n=>decide (n=0)) (w:=br);rw[ao7 br];exact ap1 some (gd this)
 .have fM:j < l.length:=aA5
  have:=List.not_of_lt_findIdx (p:=fun n=>decide (n=0)) (xs:=l) V;rw[ao7 fM] at e;injection e with e
  simp[e] at this
def ms (s:bA) (c:Nat) (y:aD2):bA:=
 if g6 s c=true then {s with t:=s.t.set c ((1:Int),(hS s.l:Int),true),l:=s.l.set (hS s.l) 1,f:=ja s.f (hS s.l:Int) (ee s c (some y))} else s
def Fg (s:bA) (p:mr) (bs:aD2):bA:={s with f:=ja s.f (s.t.getD p.c b7).2.1 (laid ((s.f (s.t.getD p.c b7).2.1).getD []) p.a (p.b - p.a) bs)}
def xq (s:bA) (p:mr) (bs:aD2) (y:aD2):bA:=Fg (ms s p.c y) p bs
abbrev Q0 (bs:aD2):aW:=[(0,ap 1001),(2,b0 .u8 bs),(5,ap 5)]
abbrev Q1 (s:bA) (bn:bm->bc) (p:mr):av:=(5,.cells (ui p))::fP s bn
def zs {t:aF9} {c:Nat} {q:d7} (h:t[c]? =some q):t.getD c b7=q:=by rw[ap2,h];rfl
def uj {s:bA} (aq:e6 s) {c:Nat} (J:c < s.t.length) (y:Option aD2):(ee s c y).length=aH s:=by
 have aO:(iq s).length=aH s:=aq7;have aV:s.t[c]? =some s.t[c]:=ao7 J;unfold ee;rw[aV];simp only;rcases aq.slot c _ aV with e |e |⟨h,e,_,xs,hx,ak⟩
 .rw[e,mu az8,vj az8]
  split
  .split
   .rename_i h;exact h
   .exact aO
  .exact aO
 .rw[e,mu az8,mu az8];exact aO
 .rw[e,vj rfl];simp only[hx,av3];exact ak
def Fh {s:bA} (aq:e6 s) {c:Nat} (J:c < s.t.length):(g6 s c=true/\(s.t.getD c b7=b7\/s.t.getD c b7=((2:Int),(0:Int),false)))\/(g6 s c=false/\ ∃h:Nat,s.t[c]? =some ((1:Int),(h:Int),true)/\s.l[h]? =some 1/\ ∃xs,s.f (h:Int)=some xs/\xs.length=aH s):=by
 have aV:s.t[c]? =some s.t[c]:=ao7 J;have H:=zs aV;unfold g6 uf;rw[H];rcases aq.slot c _ aV with e |e |⟨h,e,G⟩
 .rw[e];exact .inl ⟨rfl,.inl rfl⟩
 .rw[e];exact .inl ⟨rfl,.inr rfl⟩
 .rw[e] at aV⊢;exact .inr ⟨rfl,h,aV,G⟩
def Q2 {s:bA} (h:s.z<=3):aH s<=128:=by have:=iO h;show 16*2 ^s.z<=128;omega
def Q3 {f:k3} (h: ∀(k:Int) xs,f k=some xs->xs.length<=128) {Fi:Int} {ys:aD2} (aC:ys.length<=128): ∀(k:Int) xs,ja f Fi ys k=some xs->xs.length<=128:=fun k xs Z=>by
 unfold ja at Z
 split at Z
 .injection Z with Z
  rw[<-Z];exact aC
 .exact h k xs Z
def Q4 {s:bA} (aq:e6 s) {c:Nat} (J:c < s.t.length) (y:aD2) (aO:g6 s c=true->0 < dS s.l):
  e6 (ms s c y)/\aH (ms s c y)=aH s/\(ms s c y).t.length=s.t.length/\ ∃h:Nat,(ms s c y).t[c]? =some ((1:Int),(h:Int),true)/\(ms s c y).f (h:Int)=some (ee s c (some y)):=by
 rcases Fh aq J with⟨hn,aY⟩ |⟨hn,h,E,G,xs,ag,aS⟩
 .obtain⟨kl,qv⟩:=J3 (aO hn);have br:hS s.l < s.l.length:=(ap6.1 kl).1;have j0:=aq.zr _ kl;have dI:=uj aq J (some y);have mf:s.t[c]? =some (s.t.getD c b7):=by rw[ap2,ao7 J];rfl
  rw[show ms s c y={s with t:=s.t.set c ((1:Int),(hS s.l:Int),true),l:=s.l.set (hS s.l) 1,f:=ja s.f (hS s.l:Int) (ee s c (some y))} from vj hn];generalize ee s c (some y)=xs at dI;generalize hS s.l=au at*
  have Q5: ∀(d:Nat),s.t[d]? ≠some ((1:Int),(au:Int),true):=fun d e=>by
   rcases aq.slot d _ e with al |al |⟨h,al,ag,_⟩
   .cases al
   .cases al
   .have:(au:Int)=(h:Int):=by injection al with _ al;injection al
    have:au=h:=aA5
    subst this;rw[kl] at ag
    cases ag
  refine⟨⟨aq.z,by show(s.t.set _ _).length<=256;rw[at7];exact aq.ez,by show(s.l.set _ _).length<=512;rw[at7];exact aq.ku,fun d q aY=>?_,fun d e h H U=>?_,fun h n hn=>?_,fun h bf=>?_,fun h bf=>?_,Q3 aq.dom (by rw[dI];exact Q2 aq.z)⟩,rfl,at7,au,?_,vj rfl⟩
  .rw[aw1] at aY
   split at aY
   .rename_i e;subst e;injection aY with aY
    exact .inr (.inr ⟨au,aY.symm,by rw[au1 br],xs,vj rfl,dI⟩)
   .rcases aq.slot d q aY with e |e |⟨h,e,g1,ys,g2,cX⟩
    .exact .inl e
    .exact .inr (.inl e)
    .have a6:au≠h:=fun e=>by subst e;rw[kl] at g1;cases g1
     exact .inr (.inr ⟨h,e,by rw[as6 a6];exact g1,ys,by show(if(h:Int)=(au:Int) then some xs else s.f h)=some ys;rw[mu az7];exact g2,cX⟩)
  .rw[aw1] at H U
   split at H
   .rename_i af
    split at U
    .rename_i al;rw[<-af,<-al]
    .have:(au:Int)=h:=by injection H with H;injection H with _ H;injection H
     subst this;exact ap0 U (Q5 e)
   .split at U
    .rename_i al;have:(au:Int)=h:=by injection U with H;injection H with _ H;injection H
     subst this;exact ap0 H (Q5 d)
    .exact aq.inj d e h H U
  .rw[aw1] at hn
   split at hn
   .rename_i e;injection hn with hn
    exact .inr hn.symm
   .exact aq.B8 h n hn
  .rw[aw1] at bf
   split at bf
   .rename_i e;injection bf with bf
    exact ap0 bf az8
   .rename_i e;show(if(h:Int)=(au:Int) then some xs else s.f h)=none;rw[mu az7];exact aq.zr h bf
  .by_cases e:au=h
   .subst e;exact⟨c,au1 J⟩
   .rw[as6 e] at bf;obtain⟨d,H⟩:=aq.B9 h bf
    have a6:c≠d:=fun al=>by
     subst al;rw[mf] at H;injection H with H
     rw[H] at aY;rcases aY with aY |aY <;>cases aY
    exact⟨d,by rw[as6 a6];exact H⟩
  .exact au1 J
 .have e:ms s c y=s:=mu (by rw[hn];decide);rw[e];refine⟨aq,rfl,rfl,h,E,?_⟩;unfold ee;rw[E];simp only[vj,ag,av3]
def Q6 (s:bA) (bn:bm->bc) (b1 b2:Nat) (aq:e6 s) (p:mr) (J:p.c < s.t.length) (bs:aD2) (E:p.a<=p.b) (G:p.b<=aH s) (ag:bs.length=p.b - p.a) (y:aD2) (dh:(s.t[p.c]).1=0->Ff s bn b1 b2 p.c y) (aO:g6 s p.c=true->0 < dS s.l):
  Fn prog 189 [ap 1001,pS p,b0 .u8 bs,mW b1 b2] (fP s bn) [] gU (fP (xq s p bs y) bn):=by
 obtain⟨c',i1,i2,i3,i4⟩:=info_parts J0;have hw:=sU aq.z;have e:s.t[p.c]=s.t.getD p.c b7:=by rw[ap2,ao7 J];rfl
 obtain⟨fd,gD,mt,e1,uk,vz⟩:=Q4 aq J y aO;have dI:=uj aq J (some y);unfold xq
 have fZ:=adh s bn b1 b2 aq.z aq.ez p.c J (fun h=>by
  rcases aq.slot p.c _ (ao7 J) with al |al |⟨h,al,_,xs,hx,ak⟩
  .rw[al] at h;cases h
  .rw[al] at h;cases h
  .rw[al];exact⟨xs,hx,az7⟩) y dh
 generalize d6:ms s p.c y=s' at fd gD mt uk vz;have qk:=zs uk
 have uY:s'.t[p.c]'az7=((1:Int),(e1:Int),true):=by
  have:=ao7 (l:=s'.t) (i:=p.c) az7;rw[uk] at this;injection this with this
  exact this.symm
 have J4:=B7 s'.t fd.ez p.c az7;rw[uY] at J4;unfold Fg;rw[qk];simp only[vz,av3];have m:(0:Int)<=(p.a:Int)/\(p.a:Int)<=(p.b:Int)/\(p.b:Int)<=(((ee s p.c (some y)).length:Nat):Int):=aA5
 have m2:p.a+(p.b - p.a)<=(ee s p.c (some y)).length:=aA5
 have u':ja s'.f (e1:Int) (laid (ee s p.c (some y)) p.a (p.b - p.a) bs)=ja s'.f (e1:Int) (laid (ee s p.c (some y)) p.a (p.b - p.a) bs):=rfl;refine aU [3,5,6] func189 ?_;refine⟨rfl,az (J2 s aq.ez p J) ⟨fun hn=>?_,fun hn=>?_⟩⟩
 .obtain⟨kl,qv⟩:=J3 (aO hn);refine az fZ <| bx [5,6] (cH [(0,ap 1001),(2,b0 .u8 bs),(5,ap 5),(8,eX 2001)] ((5,.cells (ui p))::(2001,.row 5 .u8 (ee s p.c (some y)))::fP s bn)) ?_;refine az (Fn.a7 [(1001,1003),(1002,2003)] (adc s.l (by have:=aq.ku;omega) (hS s.l) kl qv)) <| bo (fun N=>abB (d:=2001) (k:=(hS s.l:Int)) rfl underlying165 underlying3 rfl rfl rfl rfl rfl rfl az8 (aq.zr _ kl) N) ?_;refine bx [6] (cH [(0,ap 1001),(2,b0 .u8 bs),(5,ap 5),(9,ab (hS s.l:Nat))] ((5,.cells (ui p))::fP {s with l:=s.l.set (hS s.l) 1,f:=ja s.f (hS s.l:Int) (ee s p.c (some y))} bn)) ?_
  have hj:Fn prog 192 [ap 1001,ab (p.c:Int),.c (mU ((1:Int),(hS s.l:Int),true))] (c8 {s with l:=s.l.set (hS s.l) 1,f:=ja s.f (hS s.l:Int) (ee s p.c (some y))}) [] gU (c8 s'):=by
   have br:hS s.l < s.l.length:=(ap6.1 kl).1;have mm:=aq.ku
   have vm: ¬(s.t.getD p.c b7).1=1:=by
    rcases Fh aq J with⟨_,h⟩ |⟨h,_⟩
    .rcases h with h |h <;>rw[h] <;>decide
    .rw[hn] at h;cases h
   have h:=J1 {s with l:=s.l.set (hS s.l) 1,f:=ja s.f (hS s.l:Int) (ee s p.c (some y))} aq.ez p.c J ((1:Int),(hS s.l:Int),true) ⟨⟨by show(-1000000:Int)<=1;decide,by show(1:Int)<=1000000;decide⟩,by show(-1000000:Int)<=(hS s.l:Int);omega,by show((hS s.l:Nat):Int)<=1000000;omega⟩ (by
    show(if(1:Int)=1 then decide (0<=(hS s.l:Int))&&decide ((hS s.l:Int) < 512) else _)=true;rw[vj rfl,aq1 az7,aq1 az7];rfl) (fun h=>ap0 h vm)
   rwa[show qM {s with l:=s.l.set (hS s.l) 1,f:=ja s.f (hS s.l:Int) (ee s p.c (some y))} p.c ((1:Int),(hS s.l:Int),true)=s' by
    rw[<-d6];unfold qM zq ms;rw[mu vm,vj hn]] at h
  refine az (Fn.arg hj ⟨rfl,rfl,aE,trivial⟩) <| bx [] (cH (Q0 bs) (Q1 s' bn p)) <| az (Fn.a7 [(1001,1002)] J4) <| bo (JS rfl underlying176 rfl underlying3 rfl rfl rfl) ?_;refine bo (EU (d:=5001) (k:=(e1:Int)) rfl underlying165 underlying3 rfl i1 i2 rfl rfl rfl vz) ?_;refine⟨m,m2,rfl,?_⟩;exact⟨_,_,_,ac.EV 1004 5001 u' rfl rfl az8 (by rw[vz];rfl),rfl,trivial,aE,rfl⟩
 .have f0:s=s':=by rw[<-d6];unfold ms;rw[mu (by rw[hn];decide)]
  subst f0;refine bx [] (cH (Q0 bs) (Q1 s bn p)) <| az (Fn.a7 [(1001,1002)] J4) <| bo (JS rfl underlying176 rfl underlying3 rfl rfl rfl) ?_;refine bo (EU (d:=5001) (k:=(e1:Int)) rfl underlying165 underlying3 rfl i1 i2 rfl rfl rfl vz) ?_;refine⟨m,m2,rfl,?_⟩;exact⟨_,_,_,ac.EV 1004 5001 u' rfl rfl az8 (by rw[vz];rfl),rfl,trivial,aE,rfl⟩
def eU (s:bA):Nat:=s.t.length*2 ^s.z
def dY (s:bA) (at_ aT:Int):Int:=if aT < 0 then 1 else if at_ < 0\/aT >eU s\/at_ >eU s - aT then 121 else 0
def vA (s:bA) (aq:e6 s) (at_ aT:Int):Fn prog 176 [ap 1001,ab at_,ab aT] (c8 s) [] (ab (dY s at_ aT)) (c8 s):=by
 have ao:=iO aq.z;have mX:=aq.ez;have E:s.t.length*2 ^s.z<=256*8:=au6 mX ao.2;have e:((s.t.length:Nat):Int)*((2 ^s.z:Nat):Int)=((eU s:Nat):Int):=by unfold eU;rw[aw9]
 have dA:eU s<=2048:=E;refine aU [1,2] func176 ?_;refine bB.nF 131 az8 <| bx [2] (bu) <| vq rfl rfl rfl (mV s) ?_;have m1:(0:Int)<=(s.t.length:Nat)/\(0:Int)<=(s.z:Int)/\(s.z:Int)<=64:=by have:=aq.z;omega
 have m2:c5 (((s.t.length:Nat):Int)*((2 ^s.z:Nat):Int)):=by rw[e];omega
 refine⟨m1,m2,rfl,bx [] (ac.sub (K':=[(1,ab at_),(2,ab aT),(7,ab (eU s:Nat))]) (B':=c8 s) ⟨rfl,rfl,e,trivial⟩ aE) ⟨fun h=>?_,fun h=>?_⟩⟩
 .have h:aT < 0:=gd h;exact er bu rfl (show(1:Int)=dY s at_ aT by unfold dY;rw[vj h])
 .have h: ¬aT < 0:=oj h;have J5: ∀(_:at_ < 0\/aT >eU s\/at_ >eU s - aT),(121:Int)=dY s at_ aT:=fun G=>by unfold dY;rw[mu h,vj G]
  refine⟨fun E=>?_,fun E=>?_⟩
  .have E:at_ < 0:=gd E;exact er bu rfl (J5 (.inl E))
  .have E: ¬at_ < 0:=oj E;refine⟨fun G=>?_,fun G=>?_⟩
   .have G:((eU s:Nat):Int) < aT:=gd G;exact er bu rfl (J5 (.inr (.inl G)))
   .have G: ¬((eU s:Nat):Int) < aT:=oj G;have m3:c5 (((eU s:Nat):Int) - aT):=aA5
    refine⟨m3,fun ag=>?_,fun ag=>?_⟩
    .have ag:((eU s:Nat):Int) - aT < at_:=gd ag;exact er bu rfl (J5 (.inr (.inr ag)))
    .have ag: ¬((eU s:Nat):Int) - aT < at_:=oj ag;exact er bu rfl (show(0:Int)=dY s at_ aT by unfold dY;rw[mu h,mu az7])
def bg (W a l k:Nat):mr:=⟨16*a/W+k,16*a - (16*a/W+k)*W,min (16*(a+l) - (16*a/W+k)*W) W,(16*a/W+k)*W+(16*a - (16*a/W+k)*W) - 16*a⟩
def cD (W a l:Nat):Nat:=if l=0 then 0 else(16*(a+l)+W - 1)/W - 16*a/W
def xr (W:Nat):Prop:=W=16\/W=32\/W=64\/W=128
def nJ {s:bA} (h:s.z<=3):xr (aH s):=by
 unfold xr aH;generalize s.z=b at h
 match b,h with
 |0,_=>exact .inl rfl
 |1,_=>exact .inr (.inl rfl)
 |2,_=>exact .inr (.inr (.inl rfl))
 |3,_=>exact .inr (.inr (.inr rfl))
def sV {W a l k:Nat} (cV:xr W):(0 < l/\(16*a/W+k)*W < 16*(a+l))↔k < cD W a l:=by unfold cD;rcases cV with rfl |rfl |rfl |rfl <;>(split <;>omega)
def qN {W a l k:Nat} (cV:xr W) (Z:k < cD W a l):(bg W a l k).a<=(bg W a l k).b/\(bg W a l k).b<=W/\(bg W a l k).at_+((bg W a l k).b - (bg W a l k).a)<=16*l/\(bg W a l k).c*W < 16*(a+l):=by have h:=(sV (a:=a) (l:=l) (k:=k) cV).2 Z;unfold bg;simp only;rcases cV with rfl |rfl |rfl |rfl <;>omega
abbrev vB (l:Nat):aN:=.c (.one (.bH (.func (.yield l) #[] #[])))
abbrev pT (a l:Int):av:=[(2001,.cells [.ptr 1001 0]),(2002,.cells [.d (.int .i64 a)]),(2003,.cells [.d (.int .i64 l)])]
abbrev Q7 (y W a l k:Nat):aW:=[(0,vB y),(1,ap 2001),(2,ap 2002),(3,ap 2003),(5,ab (W:Nat)),(6,ab ((16*a:Nat):Int)),(7,ab ((16*(a+l):Nat):Int)),(8,ab ((16*a/W+k:Nat):Int))]
abbrev Fj (a l:Nat) (o:bc):av:=[(2001,.cells [.ptr 1001 0]),(2002,.cells [.d (.int .i64 (a:Int))]),(2003,.cells [.d (.int .i64 (l:Int))]),(1001,.aA o)]
abbrev adj (y W:Nat):aW:=[(0,vB y),(1,ap 2001),(2,ap 2002),(3,ap 2003),(5,ab (W:Nat))]
def adk {W a l k:Nat} (cV:xr W):(((16*a/W+k:Nat):Int))*(W:Int)=(((16*a/W+k)*W:Nat):Int)/\max (((16*a:Nat):Int) - (((16*a/W+k)*W:Nat):Int)) 0=((bg W a l k).a:Int)/\(k < cD W a l->min (((16*(a+l):Nat):Int) - (((16*a/W+k)*W:Nat):Int)) (W:Int)=((bg W a l k).b:Int))/\(((16*a/W+k)*W:Nat):Int)+((bg W a l k).a:Int) - ((16*a:Nat):Int)=((bg W a l k).at_:Int):=by
 refine⟨by rw[aw9],?_,fun Z=>?_,?_⟩
 .unfold bg;simp only;omega
 .have h:=(sV (a:=a) (l:=l) (k:=k) cV).2 Z;unfold bg;simp only;omega
 .unfold bg;simp only;rcases cV with rfl |rfl |rfl |rfl <;>omega
def zt (y W a l:Nat) (cV:xr W) (ha:a<=10000) (ak:l<=10000) (dq:Nat->bc) (O: ∀k,Fn prog 191 [ap 1001] [(1001,.aA (dq k))] [] (ab (W:Nat)) [(1001,.aA (dq k))])
  (aC: ∀k,k < cD W a l->sL prog y [pS (bg W a l k)] [(1001,.aA (dq k))] (fun _:Unit=>oa true) (fun _=>[(1001,.aA (dq (k+1)))])):
  Fn prog 233 [vB y,ap 2001,ap 2002,ap 2003] (Fj a l (dq 0)) [] (.cm []) [(1001,.aA (dq (cD W a l)))]:=by
 have adl:16<=W/\W<=128:=by rcases cV with rfl |rfl |rfl |rfl <;>omega
 refine aU [1,7] func233 ?_;refine az (O 0) <| bx [7] (cH (adj y W) (Fj a l (dq 0))) ?_;have m1:c5 ((a:Int)*16):=aA5
 have m2:c5 ((a:Int)+(l:Int)):=aA5
 have m3:c5 (((a:Int)+(l:Int))*16):=aA5
 refine⟨m1,m2,m3,rfl,?_⟩;have bI:((a:Int)*16)/(W:Int)=((16*a/W+0:Nat):Int):=by rcases cV with rfl |rfl |rfl |rfl <;>omega
 have jf:(0:Int)<=(a:Int)*16/\(0:Int) < (W:Int):=aA5
 have va:16*a/W<=10000:=by rcases cV with rfl |rfl |rfl |rfl <;>omega
 have sW:c5 (((a:Int)*16)/(W:Int)):=by rw[bI];generalize 16*a/W=q at va;omega
 refine⟨jf,sW,ed [7] (X:=Nat) (Q7 y W a l) (fun k=>Fj a l (dq k)) (fun k=>k<=cD W a l) (fun k=>cD W a l - k) 0 (ap9 _) ?_ ?_⟩
 .exact ac.sub ⟨rfl,rfl,rfl,rfl,rfl,(by show(a:Int)*16=((16*a:Nat):Int);omega),(by show((a:Int)+(l:Int))*16=((16*(a+l):Nat):Int);omega),bI,trivial⟩ aE
 intro k Z;obtain⟨g1,g2,cX,jo⟩:=adk (a:=a) (l:=l) (k:=k) cV;have qo:=sV (a:=a) (l:=l) (k:=k) cV
 have fc:cD W a l<=30000:=by
  unfold cD;rcases cV with rfl |rfl |rfl |rfl <;>(split <;>omega)
 have dI:(16*a/W+k)*W<=40000*128:=au6 az7 adl.2;have out: ∀(h: ¬k < cD W a l),k=cD W a l:=fun h=>by omega
 refine⟨fun E=>?_,fun E=>?_⟩
 .have E:(0:Int) < (l:Int):=gd E;have c4:c5 (((16*a/W+k:Nat):Int)*(W:Int)):=by rw[g1];omega
  refine⟨c4,fun G=>?_,fun G=>?_⟩
  .have G:((16*a/W+k:Nat):Int)*(W:Int) < ((16*(a+l):Nat):Int):=gd G;have qO:k < cD W a l:=qo.1 ⟨az7,by rw[g1] at G;omega⟩;have ec:c5 (((16*a:Nat):Int) - ((16*a/W+k:Nat):Int)*(W:Int)):=by rw[g1];omega
   have mn:c5 (((16*(a+l):Nat):Int) - ((16*a/W+k:Nat):Int)*(W:Int)):=by rw[g1];omega
   refine⟨c4,ec,c4,mn,rfl,?_⟩;have rS:c5 (((16*a/W+k:Nat):Int)*(W:Int)+max (((16*a:Nat):Int) - ((16*a/W+k:Nat):Int)*(W:Int)) 0):=by rw[g1];omega
   have n5:c5 (((16*a/W+k:Nat):Int)*(W:Int)+max (((16*a:Nat):Int) - ((16*a/W+k:Nat):Int)*(W:Int)) 0 - ((16*a:Nat):Int)):=by rw[g1];omega
   refine⟨c4,rS,n5,?_⟩
   have fZ: [bw.d (.int .i64 ((16*a/W+k:Nat):Int)),.d (.int .i64 (max (((16*a:Nat):Int) - ((16*a/W+k:Nat):Int)*(W:Int)) 0)),.d (.int .i64 (min (((16*(a+l):Nat):Int) - ((16*a/W+k:Nat):Int)*(W:Int)) (W:Int))),.d (.int .i64 (((16*a/W+k:Nat):Int)*(W:Int)+max (((16*a:Nat):Int) - ((16*a/W+k:Nat):Int)*(W:Int)) 0 - ((16*a:Nat):Int)))]=ui (bg W a l k):=by
    rw[g1,g2,cX qO,jo];rfl
   refine bB.le (ac.sub (K':=(9,ap 9)::Q7 y W a l k) (B':=(9,.cells (ui (bg W a l k)))::Fj a l (dq k)) aE ⟨?_,rfl,rfl,rfl,rfl,trivial⟩) ?_
   .exact ap1 (fun l=>some (ba.cells l)) fZ
   refine bB.hP eC aA0 ⟨Unit,_,_,_,aC k qO,aE,fun _=>rfl,fun _=>?_⟩;have n6:c5 (((16*a/W+k:Nat):Int)+1):=by generalize 16*a/W=q at va;omega
   refine⟨n6,k+1,qO,az7,ac.sub aE aE⟩
  .have G: ¬((16*a/W+k:Nat):Int)*(W:Int) < ((16*(a+l):Nat):Int):=oj G;have qO:k=cD W a l:=out fun h=>G (by have:=(qo.2 h).2;rw[g1];omega)
   subst qO;exact bd
 .have E: ¬(0:Int) < (l:Int):=oj E;have qO:k=cD W a l:=out fun h=>E (by have:=(qo.2 h).1;omega)
  subst qO;exact bd
def zu (s:bA) (a l:Int):Fn prog 177 [ap 1001,ab a,ab l] (c8 s) [2001,2002,2003] (.c (.one (.cW 233 [.p 2001 0,.p 2002 0,.p 2003 0]))) (c8 s++pT a l):=by refine aU [] func177 ?_;exact⟨rfl,rfl,rfl,_,_,_,(ac.a7 3 2001 rfl).trans ((ac.a7 4 2002 rfl).trans (ac.a7 5 2003 rfl)),rfl,rfl,aE,rfl⟩
def adm (s:bA) (aq:e6 s) (c:Nat) (J:c < s.t.length):Fn prog 178 [ap 1001,ab (c:Int),.c (.one (.bH .nilFunc))] (c8 s) [] (b0 .u8 (ee s c none)) (c8 s):=
 Fn.dX (adg s aq.z aq.ez c J fun h=>by
  rcases aq.slot c _ (ao7 J) with al |al |⟨h,al,_,xs,hx,ak⟩
  .rw[al] at h;cases h
  .rw[al] at h;cases h
  .rw[al];exact⟨xs,hx,by have:=(sU aq.z).2;omega⟩) rfl rfl
def zv (s:bA) (a l k:Nat):aD2:=((ee s (bg (aH s) a l k).c none).take (bg (aH s) a l k).b).drop (bg (aH s) a l k).a
def xt (s:bA) (a l:Nat):Nat->aD2
 |0=>[]
 |k+1=>xt s a l k++zv s a l k
def J6 (s:bA) (a l:Nat):aD2:=xt s a l (cD (aH s) a l)
abbrev adn:aW:=[(3,ap 3),(9,ap 9)]
abbrev J7 (s:bA) (acc:aD2):av:=c8 s++[(3,.cells [.ptr 1001 0]),(9,.cells [.own 5002]),(5002,.row 5 .u8 acc)]
abbrev ado (s:bA) (acc:aD2):av:=c8 s++[(3,.cells [.ptr 1001 0]),(9,.cells [.own 33]),(33,.row 5 .u8 acc)]
def Q8 {s:bA} (aq:e6 s) {a l:Nat}: ∀k,(xt s a l k).length<=k*128
 |0=>ao9 _
 |k+1=>by
  have h:=Q8 aq (a:=a) (l:=l) k
  have G:(zv s a l k).length<=128:=by
   unfold zv;rw[au8,aq0]
   have ag:(bg (aH s) a l k).b<=128:=by
    unfold bg;simp only;have:=(sU aq.z).2;omega
   omega
  show(xt s a l k++zv s a l k).length<=_;rw[ap3];omega
def Q9 (s:bA) (aq:e6 s) (a l:Nat) (au:dY s a l=0):Fn prog 113 [ap 1001,ab (a:Int),ab (l:Int)] (c8 s) [] (.cm [.one (.d (.cr .u8 (J6 s a l))),dJ 0]) (c8 s):=by
 have cV:=nJ aq.z
 have dA:(a:Int)+(l:Int)<=(eU s:Nat):=by
  unfold dY at au
  split at au
  .cases au
  .split at au
   .cases au
   .omega
 have xu:eU s<=2048:=au6 aq.ez (iO aq.z).2;refine aU [4,5] func113 ?_;refine⟨rfl,az (vA s aq a l) ?_⟩;rw[au];refine dR <| bx [5] (bu) ⟨rfl,bx [] ((ac.yR 9 0 5002 5 .u8 rfl rfl rfl).trans (cH [(1,ab (a:Int)),(2,ab (l:Int)),(3,ap 3),(9,ap 9)] (J7 s []))) <| az (zu s a l) <| bB.le (cH [(21,.c (.one (.cW 233 [.p 2001 0,.p 2002 0,.p 2003 0]))),(3,ap 3),(9,ap 9)] (pT a l++J7 s [])) <| bB.range eC [] (pl:=[22]) rfl aA0 aA0 aA0 aA0 [1001,1002,1003,1004,3,9] _ adn (pT a l) (fun k:Nat=>J7 s (xt s a l k)) 1001 0 (cD (aH s) a l) (fun k aB d4=>k < cD (aH s) a l/\aB=[pS (bg (aH s) a l k)]/\d4=k+1) rfl aA9 rfl rfl ?_ ?_ ?_⟩
 .rintro k aB d4 ⟨Z,rfl,rfl⟩;obtain⟨d0,cU,dB,dE⟩:=qN cV Z
  have J:(bg (aH s) a l k).c < s.t.length:=by
   have e:eU s*16=s.t.length*aH s:=by unfold eU aH;rw[Nat.mul_assoc,ax5 (2 ^s.z) 16]
   have E:(bg (aH s) a l k).c*aH s < s.t.length*aH s:=aA5
   exact Nat.lt_of_mul_lt_mul_right E
  have dI:=uj aq J none;have bZ:=Q8 aq (a:=a) (l:=l) k
  have qO:k<=3000:=by
   have E:=(sV (a:=a) (l:=l) (k:=k) cV).2 Z;rcases cV with e |e |e |e <;>rw[e] at E <;>omega
  have m1:(0:Int)<=((bg (aH s) a l k).a:Int)/\((bg (aH s) a l k).a:Int)<=((bg (aH s) a l k).b:Int)/\((bg (aH s) a l k).b:Int)<=(((ee s (bg (aH s) a l k).c none).length:Nat):Int):=aA5
  have m2:(xt s a l k).length+(((ee s (bg (aH s) a l k).c none).take (bg (aH s) a l k).b).drop (bg (aH s) a l k).a).length<=4294967296:=by
   rw[au8,aq0];omega
  have adp:=adm s aq _ J;exact⟨rfl,rfl,rfl,rfl,az adp ⟨m1,m2,rfl,rfl,rfl,(cH [] (ado s (xt s a l (k+1)))).trans (ac.a7 33 5002 rfl)⟩⟩
 .intro y dq pU aC;exact zt y (aH s) a l cV az7 az7 dq (fun k=>pU _ _ _ k k (Fn.pQ _ (pR s aq.z) rfl rfl) rfl rfl) (fun k Z=>aC k _ (k+1) ⟨Z,rfl,rfl⟩)
 .refine⟨_,_,_,ac.dX 5002 rfl,rfl,aE,aE,rfl⟩
def adq (s:bA) (aq:e6 s) (a l:Int) (au:dY s a l≠0):Fn prog 113 [ap 1001,ab a,ab l] (c8 s) [] (.cm [.one .dc,dJ (dY s a l)]) (c8 s):=by refine aU [] func113 ?_;refine⟨rfl,az (vA s aq a l) ?_⟩;exact⟨fun _=>bd,fun h=>ap0 (show dY s a l=0 by have h:(!decide (dY s a l=0))=false:=h;simpa using h) au⟩
def qP {s:bA} (aq:e6 s) {a l:Nat} (dA:a+l<=eU s) {k:Nat} (Z:k < cD (aH s) a l):(bg (aH s) a l k).c < s.t.length/\k<=3000:=by
 have cV:=nJ aq.z;have xu:eU s<=2048:=au6 aq.ez (iO aq.z).2;obtain⟨d0,cU,dB,dE⟩:=qN cV Z;refine⟨?_,?_⟩
 .have e:eU s*16=s.t.length*aH s:=by unfold eU aH;rw[Nat.mul_assoc,ax5 (2 ^s.z) 16]
  have E:(bg (aH s) a l k).c*aH s < s.t.length*aH s:=aA5
  exact Nat.lt_of_mul_lt_mul_right E
 .have E:=(sV (a:=a) (l:=l) (k:=k) cV).2 Z;rcases cV with e |e |e |e <;>rw[e] at E <;>omega
def oz {s:bA} {a l:Nat} (au:dY s a l=0):a+l<=eU s:=by
 unfold dY at au
 split at au
 .cases au
 .split at au
  .cases au
  .omega
def hT (s:bA) (a l:Nat):Nat->Nat
 |0=>0
 |k+1=>hT s a l k+(if g6 s (bg (aH s) a l k).c=true then 1 else 0)
def o3 (bs:aD2) (p:mr):aD2:=(bs.take (p.at_+p.b - p.a)).drop p.at_
def iC (s:bA) (a l:Nat) (bs:aD2) (y:Nat->aD2):Nat->bA
 |0=>s
 |k+1=>xq (iC s a l bs y k) (bg (aH s) a l k) (o3 bs (bg (aH s) a l k)) (y (bg (aH s) a l k).c)
def adr (s:bA) (a l k:Nat):hT s a l k<=k:=by
 induction k with
 |zero=>exact ao9 _
 |succ k bl=>
  show hT s a l k+_<=k+1
  split <;>omega
abbrev J8 (s:bA) (bn:bm->bc) (bs:aD2) (b1 b2:Nat) (n:Nat):av:=fP s bn++[(4,.cells [.ptr 1001 0]),(6,.cells [.d (.cr .u8 bs)]),(7,.cells [.d (.fn (186,[b1,b2]))]),(11,.cells [.d (.int .i64 (n:Int))])]
abbrev Ca (s:bA) (bn:bm->bc) (bs:aD2) (b1 b2:Nat):av:=fP s bn++[(4,.cells [.ptr 1001 0]),(6,.cells [.d (.cr .u8 bs)]),(7,.cells [.d (.fn (186,[b1,b2]))])]
abbrev J9 (a l:Nat):aW:=[(1,ab (a:Int)),(4,ap 4),(6,ap 6),(7,ap 7),(9,ab (l:Int))]
abbrev J' (a l:Nat):aW:=[(1,ab (a:Int)),(4,ap 4),(6,ap 6),(7,ap 7),(9,ab (l:Int)),(11,ap 11)]
def ads (s:bA) (bn:bm->bc) (b1 b2:Nat) (aq:e6 s) (a l:Nat) (bs:aD2) (fG:bs.length=16*l) (au:dY s a l=0) (y:Nat->aD2) (r:Int) (s':bA) (fx:dS s.l < hT s a l (cD (aH s) a l)->r=120/\s'=s) (Ka:hT s a l (cD (aH s) a l)<=dS s.l->r=0/\s'=iC s a l bs y (cD (aH s) a l))
  (e1:hT s a l (cD (aH s) a l)<=dS s.l-> ∀k,k < cD (aH s) a l->Fn prog 189 [ap 1001,pS (bg (aH s) a l k),b0 .u8 (o3 bs (bg (aH s) a l k)),mW b1 b2] (fP (iC s a l bs y k) bn) [] gU (fP (iC s a l bs y (k+1)) bn)) (zw:hT s a l (cD (aH s) a l)<=dS s.l-> ∀k,k<=cD (aH s) a l->(iC s a l bs y k).z=s.z):
  Fn prog 126 [ap 1001,ab (a:Int),b0 .u8 bs,mW b1 b2] (fP s bn) [] (ab r) (fP s' bn):=by
 have cV:=nJ aq.z;have dA:=oz au;have xu:eU s<=2048:=au6 aq.ez (iO aq.z).2;have aY:((bs.length:Nat):Int)/16=(l:Int):=aA5
 have aw:((bs.length:Nat):Int) % 16=0:=aA5
 refine aU [4,7,8,12,14,17] func126 ?_;refine⟨rfl,rfl,rfl,?_⟩;have m1:(0:Int)<=((bs.length:Nat):Int)/\(0:Int) < 16:=aA5
 have m2:c5 (((bs.length:Nat):Int)/16):=aA5
 have m3:c5 (((bs.length:Nat):Int) % 16):=aA5
 refine⟨m1,m2,m1,m3,?_⟩
 refine⟨fun h=>(by
  have h:(!decide ((((bs.length:Nat):Int)) % 16=0))=true:=h;rw[aq1 aw] at h
  cases h),fun _=>?_⟩
 refine bx [7] (ac.sub (K':=[(1,ab (a:Int)),(4,ap 4),(6,ap 6),(7,ap 7),(9,ab (l:Int))]) (B':=Ca s bn bs b1 b2) ⟨rfl,rfl,rfl,rfl,aY,trivial⟩ aE) <| az (vA s aq a l) ?_;rw[au];refine dR <| bx [8] (bu) ⟨rfl,bx [] (cH (J' a l) (J8 s bn bs b1 b2 0)) <| az (zu s a l) <| bB.le (cH ((31,.c (.one (.cW 233 [.p 2001 0,.p 2002 0,.p 2003 0])))::J' a l) (pT a l++J8 s bn bs b1 b2 0)) <| bB.range eC [] (pl:=[32]) rfl aA0 aA0 aA0 aA0 [1001,1002,1003,1004,9000,4,6,7,11] _ (J' a l) (pT a l) (fun k:Nat=>J8 s bn bs b1 b2 (hT s a l k)) 1001 0 (cD (aH s) a l) (fun k aB d4=>k < cD (aH s) a l/\aB=[pS (bg (aH s) a l k)]/\d4=k+1) rfl aA9 rfl rfl ?_ ?_ ?_⟩
 .rintro k aB d4 ⟨Z,rfl,rfl⟩;obtain⟨J,qO⟩:=qP aq dA Z;have vx:=adr s a l k;refine⟨rfl,rfl,rfl,rfl,az (J2 s aq.ez _ J) ⟨fun hn=>?_,fun hn=>?_⟩⟩
  .have e:((hT s a l k:Nat):Int)+1=((hT s a l (k+1):Nat):Int):=by
    show _=((hT s a l k+_:Nat):Int);rw[vj hn];omega
   have jf:c5 (((hT s a l k:Nat):Int)+1):=aA5
   refine⟨jf,?_⟩;exact⟨rfl,ac.sub trivial ⟨rfl,rfl,rfl,rfl,rfl,rfl,rfl,rfl,by rw[<-e];rfl,trivial⟩⟩
  .have e:hT s a l (k+1)=hT s a l k:=by
    show hT s a l k+_=_;rw[mu (by rw[hn];decide)];exact aw0 _
   exact⟨rfl,ac.sub trivial ⟨rfl,rfl,rfl,rfl,rfl,rfl,rfl,rfl,by rw[e];rfl,trivial⟩⟩
 .intro y dq pU aC;exact zt y (aH s) a l cV az7 az7 dq (fun k=>pU _ _ _ k k (Fn.pQ [(9000,.bY 1001 bn),(4,.cells [.ptr 1001 0]),(6,.cells [.d (.cr .u8 bs)]),(7,.cells [.d (.fn (186,[b1,b2]))]),(11,.cells [.d (.int .i64 (hT s a l k:Int))])] (pR s aq.z) rfl rfl) rfl rfl) (fun k Z=>aC k _ (k+1) ⟨Z,rfl,rfl⟩)
 .have aO:dS s.l<=512:=av9 (JZ _) aq.ku;refine bx [14,17] (bu) ?_;refine az (QW s (by have:=aq.ku;omega)) ⟨rfl,fun h=>?_,fun h=>?_⟩
  .have h:((dS s.l:Nat):Int) < ((hT s a l (cD (aH s) a l):Nat):Int):=gd h;obtain⟨rfl,rfl⟩:=fx az7;exact bd
  have h: ¬((dS s.l:Nat):Int) < ((hT s a l (cD (aH s) a l):Nat):Int):=oj h;have dx:hT s a l (cD (aH s) a l)<=dS s.l:=aA5
  obtain⟨rfl,rfl⟩:=Ka dx;have e1:=e1 dx;have zw:=zw dx;refine bx [17] (cH (J9 a l) (Ca s bn bs b1 b2)) <| az (zu s a l) <| bB.le (cH ((45,.c (.one (.cW 233 [.p 2001 0,.p 2002 0,.p 2003 0])))::J9 a l) (pT a l++Ca s bn bs b1 b2)) <| bB.range eC [] (pl:=[46]) rfl aA0 aA0 aA0 aA0 [1001,1002,1003,1004,9000,4,6,7] _ (J9 a l) (pT a l) (fun k:Nat=>Ca (iC s a l bs y k) bn bs b1 b2) 1001 0 (cD (aH s) a l) (fun k aB d4=>k < cD (aH s) a l/\aB=[pS (bg (aH s) a l k)]/\d4=k+1) rfl aA9 rfl rfl ?_ ?_ ?_
  .rintro k aB d4 ⟨Z,rfl,rfl⟩;obtain⟨J,qO⟩:=qP aq dA Z;obtain⟨d0,cU,dB,dE⟩:=qN cV Z;have e1:=e1 k Z;have hw:=sU aq.z;refine⟨rfl,rfl,rfl,rfl,?_⟩
   have hx:o3 bs (bg (aH s) a l k)=(bs.take (((bg (aH s) a l k).at_:Int)+((bg (aH s) a l k).b:Int) - ((bg (aH s) a l k).a:Int)).toNat).drop (((bg (aH s) a l k).at_:Int)).toNat:=by
    unfold o3;rw[show(((bg (aH s) a l k).at_:Int)+((bg (aH s) a l k).b:Int) - ((bg (aH s) a l k).a:Int)).toNat=(bg (aH s) a l k).at_+(bg (aH s) a l k).b - (bg (aH s) a l k).a by omega];rfl
   have jf:c5 (((bg (aH s) a l k).at_:Int)+((bg (aH s) a l k).b:Int)):=aA5
   have sW:c5 (((bg (aH s) a l k).at_:Int)+((bg (aH s) a l k).b:Int) - ((bg (aH s) a l k).a:Int)):=aA5
   have qQ:(0:Int)<=((bg (aH s) a l k).at_:Int)/\((bg (aH s) a l k).at_:Int)<=((bg (aH s) a l k).at_:Int)+((bg (aH s) a l k).b:Int) - ((bg (aH s) a l k).a:Int)/\((bg (aH s) a l k).at_:Int)+((bg (aH s) a l k).b:Int) - ((bg (aH s) a l k).a:Int)<=((bs.length:Nat):Int):=aA5
   rw[hx] at e1;exact⟨jf,sW,qQ,az e1 ⟨rfl,rfl,ac.sub trivial aE⟩⟩
  .intro xv dq pU aC
   have h:=zt xv (aH s) a l cV az7 az7 (fun k=>dq (min k (cD (aH s) a l))) (fun k=>pU _ _ _ (min k (cD (aH s) a l)) (min k (cD (aH s) a l)) (by
    have O:=zw (min k (cD (aH s) a l)) (Nat.min_le_right _ _);have G:=pR (iC s a l bs y (min k (cD (aH s) a l))) (by rw[O];exact aq.z);rw[show aH (iC s a l bs y (min k (cD (aH s) a l)))=aH s from ap1 (fun b=>16*2 ^b) O] at G
    exact Fn.pQ [(9000,.bY 1001 bn),(4,.cells [.ptr 1001 0]),(6,.cells [.d (.cr .u8 bs)]),(7,.cells [.d (.fn (186,[b1,b2]))])] G rfl rfl) rfl rfl) (fun k Z=>by
    have h:=aC k _ (k+1) ⟨Z,rfl,rfl⟩;rw[Nat.min_eq_left az7,Nat.min_eq_left az7];exact h)
   simp only[Nat.zero_min,Nat.min_self] at h;exact h
  .show bB _ _ _ _ _ _ _;exact bx [] (bu) bd
def adt (s:bA) (bn:bm->bc) (b1 b2:Nat) (a:Int) (bs:aD2) (h:bs.length % 16≠0) (ak:bs.length<=1000000000):Fn prog 126 [ap 1001,ab a,b0 .u8 bs,mW b1 b2] (fP s bn) [] (ab 1) (fP s bn):=by
 have aw: ¬((bs.length:Nat):Int) % 16=0:=aA5
 refine aU [] func126 ?_;refine⟨rfl,rfl,rfl,?_⟩;have m1:(0:Int)<=((bs.length:Nat):Int)/\(0:Int) < 16:=aA5
 have m2:c5 (((bs.length:Nat):Int)/16):=aA5
 have m3:c5 (((bs.length:Nat):Int) % 16):=aA5
 refine⟨m1,m2,m1,m3,?_⟩
 refine⟨fun _=>?_,fun h=>(by
  have h:(!decide ((((bs.length:Nat):Int)) % 16=0))=false:=h;rw[as7 aw] at h
  cases h)⟩
 exact bd
def adu (s:bA) (bn:bm->bc) (b1 b2:Nat) (aq:e6 s) (a:Int) (l:Nat) (bs:aD2) (fG:bs.length=16*l) (ak:l<=100000000) (au:dY s a l≠0):Fn prog 126 [ap 1001,ab a,b0 .u8 bs,mW b1 b2] (fP s bn) [] (ab (dY s a l)) (fP s bn):=by
 have aY:((bs.length:Nat):Int)/16=(l:Int):=aA5
 have aw:((bs.length:Nat):Int) % 16=0:=aA5
 refine aU [4] func126 ?_;refine⟨rfl,rfl,rfl,?_⟩;have m1:(0:Int)<=((bs.length:Nat):Int)/\(0:Int) < 16:=aA5
 have m2:c5 (((bs.length:Nat):Int)/16):=aA5
 have m3:c5 (((bs.length:Nat):Int) % 16):=aA5
 refine⟨m1,m2,m1,m3,?_⟩
 refine⟨fun h=>(by
  have h:(!decide ((((bs.length:Nat):Int)) % 16=0))=true:=h;rw[aq1 aw] at h
  cases h),fun _=>?_⟩
 refine bx [] (ac.sub (K':=[(1,ab a),(4,ap 4),(9,ab (l:Int))]) (B':=Ca s bn bs b1 b2) ⟨rfl,rfl,aY,trivial⟩ aE) <| az (vA s aq a l) ?_;exact⟨fun _=>bd,fun h=>ap0 (show dY s a l=0 by have h:(!decide (dY s a l=0))=false:=h;simpa using h) au⟩
def jv (s:bA) (a l:Nat):Nat->bA
 |0=>s
 |k+1=>if(bg (aH s) a l k).b - (bg (aH s) a l k).a=aH s then qM (jv s a l k) (bg (aH s) a l k).c b7 else jv s a l k
abbrev Kb (s:bA):av:=c8 s++[(3,.cells [.ptr 1001 0])]
abbrev Ra:aW:=[(3,ap 3)]
def adv (s:bA) (aq:e6 s) (a l:Nat) (au:dY s a l=0) (e1: ∀k,k < cD (aH s) a l->Fn prog 192 [ap 1001,ab ((bg (aH s) a l k).c:Int),.c (mU b7)] (c8 (jv s a l k)) [] gU (c8 (qM (jv s a l k) (bg (aH s) a l k).c b7))) (zw: ∀k,k<=cD (aH s) a l->(jv s a l k).z=s.z):
  Fn prog 130 [ap 1001,ab (a:Int),ab (l:Int)] (c8 s) [] (ab 0) (c8 (jv s a l (cD (aH s) a l))):=by
 have cV:=nJ aq.z;have hw:=sU aq.z;have dA:=oz au;have xu:eU s<=2048:=au6 aq.ez (iO aq.z).2;refine aU [4,8] func130 ?_;refine⟨rfl,az (vA s aq a l) ?_⟩;rw[au];refine dR <| bx [8] (cH [(1,ab (a:Int)),(2,ab (l:Int)),(3,ap 3)] (Kb s)) <| az (zu s a l) <| bB.le (cH ((19,.c (.one (.cW 233 [.p 2001 0,.p 2002 0,.p 2003 0])))::Ra) (pT a l++Kb s)) <| bB.range eC [] (pl:=[20]) rfl aA0 aA0 aA0 aA0 [1001,1002,1003,1004,3] _ Ra (pT a l) (fun k:Nat=>Kb (jv s a l k)) 1001 0 (cD (aH s) a l) (fun k aB d4=>k < cD (aH s) a l/\aB=[pS (bg (aH s) a l k)]/\d4=k+1) rfl aA9 rfl rfl ?_ ?_ ?_
 .rintro k aB d4 ⟨Z,rfl,rfl⟩;obtain⟨d0,cU,dB,dE⟩:=qN cV Z;have e1:=e1 k Z;have O:=zw k (Nat.le_of_lt Z);have G:=pR (jv s a l k) (by rw[O];exact aq.z);rw[show aH (jv s a l k)=aH s from ap1 (fun b=>16*2 ^b) O] at G;have jf:c5 (((bg (aH s) a l k).b:Int) - ((bg (aH s) a l k).a:Int)):=aA5
  refine⟨rfl,rfl,rfl,rfl,jf,az G ⟨rfl,fun h=>?_,fun h=>?_⟩⟩
  .have h:((bg (aH s) a l k).b:Int) - ((bg (aH s) a l k).a:Int)=((aH s:Nat):Int):=gd h;have e:jv s a l (k+1)=qM (jv s a l k) (bg (aH s) a l k).c b7:=vj az7;refine az (Fn.arg e1 ⟨rfl,rfl,aE,trivial⟩) ?_;rw[e];exact⟨rfl,ac.sub trivial aE⟩
  .have h: ¬((bg (aH s) a l k).b:Int) - ((bg (aH s) a l k).a:Int)=((aH s:Nat):Int):=oj h;have e:jv s a l (k+1)=jv s a l k:=mu az7;rw[e];exact⟨rfl,ac.sub trivial aE⟩
 .intro xv dq pU aC
  have h:=zt xv (aH s) a l cV az7 az7 (fun k=>dq (min k (cD (aH s) a l))) (fun k=>pU _ _ _ (min k (cD (aH s) a l)) (min k (cD (aH s) a l)) (by
   have O:=zw (min k (cD (aH s) a l)) (Nat.min_le_right _ _);have G:=pR (jv s a l (min k (cD (aH s) a l))) (by rw[O];exact aq.z);rw[show aH (jv s a l (min k (cD (aH s) a l)))=aH s from ap1 (fun b=>16*2 ^b) O] at G
   exact Fn.pQ [(3,.cells [.ptr 1001 0])] G rfl rfl) rfl rfl) (fun k Z=>by
   have h:=aC k _ (k+1) ⟨Z,rfl,rfl⟩;rw[Nat.min_eq_left az7,Nat.min_eq_left az7];exact h)
  simp only[Nat.zero_min,Nat.min_self] at h;exact h
 .show bB _ _ _ _ _ _ _;exact bx [] (bu) bd
def adw (s:bA) (aq:e6 s) (a l:Int) (au:dY s a l≠0):Fn prog 130 [ap 1001,ab a,ab l] (c8 s) [] (ab (dY s a l)) (c8 s):=by refine aU [] func130 ?_;refine⟨rfl,az (vA s aq a l) ?_⟩;exact⟨fun _=>bd,fun h=>ap0 (show dY s a l=0 by have h:(!decide (dY s a l=0))=false:=h;simpa using h) au⟩
end
section
def kv (s:bA) (p:mr):Bool:=decide (p.b - p.a=aH s)
def Rb (s:bA) (O:s.z<=3) (p:mr) (E:p.a<=p.b) (G:p.b<=1000):Fn prog 190 [pS p,ap 4] (c8 s++[(4,.cells [.ptr 1001 0])]) [] (gT (kv s p)) (c8 s++[(4,.cells [.ptr 1001 0])]):=by
 have jf:c5 ((p.b:Int) - (p.a:Int)):=aA5
 refine aU [] func190 ?_;refine⟨rfl,jf,az (pR s O) ⟨rfl,_,_,_,bu,rfl,?_,aE,rfl⟩⟩;show decide ((p.b:Int) - (p.a:Int)=((aH s:Nat):Int))=kv s p;unfold kv;exact decide_eq_decide.2 az7
def nK (s:bA) (p:mr):Bool:= !kv s p&&(decide ((s.t.getD p.c b7).1≠2)&&g6 s p.c)
def gX (s:bA) (a l:Nat):Nat->Nat
 |0=>0
 |k+1=>gX s a l k+(if nK s (bg (aH s) a l k)=true then 1 else 0)
def adx (s:bA) (a l k:Nat):gX s a l k<=k:=by
 induction k with
 |zero=>exact ao9 _
 |succ k bl=>
  show gX s a l k+_<=k+1
  split <;>omega
abbrev sX:d7:=((2:Int),(0:Int),false)
abbrev sY (n:Nat):aD2:=List.replicate n (0:UInt8)
def ul (s:bA) (p:mr) (y:aD2):bA:=if kv s p=true then qM s p.c sX else if(s.t.getD p.c b7).1=2 then s else xq s p (sY (p.b - p.a)) y
def ek (s:bA) (a l:Nat) (y:Nat->aD2):Nat->bA
 |0=>s
 |k+1=>ul (ek s a l y k) (bg (aH s) a l k) (y (bg (aH s) a l k).c)
abbrev xw (s:bA) (bn:bm->bc) (b1 b2:Nat):av:=fP s bn++[(4,.cells [.ptr 1001 0]),(7,.cells [.d (.fn (186,[b1,b2]))]),(10,.cells [.cW 190 [.p 4 0]])]
abbrev Fk (s:bA) (bn:bm->bc) (b1 b2:Nat) (n:Nat):av:=fP s bn++[(4,.cells [.ptr 1001 0]),(7,.cells [.d (.fn (186,[b1,b2]))]),(10,.cells [.cW 190 [.p 4 0]]),(11,.cells [.d (.int .i64 (n:Int))])]
abbrev Fl (a l:Nat):aW:=[(1,ab (a:Int)),(2,ab (l:Int)),(4,ap 4),(7,ap 7),(10,ap 10)]
abbrev ady:aW:=[(1000000+136,.undef),(1000000+187,.undef)]
abbrev Kc (a l:Nat):aW:=ady++[(1,ab (a:Int)),(2,ab (l:Int)),(4,ap 4),(7,ap 7),(10,ap 10),(11,ap 11)]
def zx (s:bA) (ak:s.t.length<=256) (c:Nat) (J:c < s.t.length):Fn prog 136 [ap 1001,ab (c:Int)] (c8 s) [] (ab (s.t.getD c b7).1) (c8 s):=by
 have h:=ade s ak c J;have e:s.t[c]=s.t.getD c b7:=by rw[ap2,ao7 J];rfl
 rwa[e] at h
def adz (s:bA) (bn:bm->bc) (b1 b2:Nat) (aq:e6 s) (a l:Nat) (au:dY s a l=0) (y:Nat->aD2) (r:Int) (s':bA) (fx:dS s.l < gX s a l (cD (aH s) a l)->r=120/\s'=s) (Ka:gX s a l (cD (aH s) a l)<=dS s.l->r=0/\s'=ek s a l y (cD (aH s) a l))
  (Fm:gX s a l (cD (aH s) a l)<=dS s.l-> ∀k,k<=cD (aH s) a l->e6 (ek s a l y k)/\(ek s a l y k).z=s.z/\(ek s a l y k).t.length=s.t.length)
  (hj:gX s a l (cD (aH s) a l)<=dS s.l-> ∀k,k < cD (aH s) a l->kv s (bg (aH s) a l k)=true->Fn prog 192 [ap 1001,ab ((bg (aH s) a l k).c:Int),.c (mU sX)] (c8 (ek s a l y k)) [] gU (c8 (ek s a l y (k+1))))
  (qR:gX s a l (cD (aH s) a l)<=dS s.l-> ∀k,k < cD (aH s) a l->kv s (bg (aH s) a l k)=false->((ek s a l y k).t.getD (bg (aH s) a l k).c b7).1≠2->Fn prog 189 [ap 1001,pS (bg (aH s) a l k),b0 .u8 (sY ((bg (aH s) a l k).b - (bg (aH s) a l k).a)),mW b1 b2] (fP (ek s a l y k) bn) [] gU (fP (ek s a l y (k+1)) bn)):
  Fn prog 128 [ap 1001,ab (a:Int),ab (l:Int),mW b1 b2] (fP s bn) [] (ab r) (fP s' bn):=by
 have cV:=nJ aq.z;have hw:=sU aq.z;have dA:=oz au;have xu:eU s<=2048:=au6 aq.ez (iO aq.z).2;refine aU [4,5,6,10,12,18] func128 ?_;refine⟨rfl,rfl,az (vA s aq a l) ?_⟩;rw[au];refine dR <| bx [5,6] (bu) ⟨rfl,bx [6] (cH (Fl a l) (xw s bn b1 b2)) ⟨rfl,bB.nF 187 az8 (bB.nF 136 az8 <| bx [] (ac.sub (K':=Kc a l) (B':=Fk s bn b1 b2 0) ⟨trivial,trivial,rfl,rfl,rfl,rfl,rfl,rfl,trivial⟩ aE) <| az (zu s a l) <| bB.le (ac.sub (K':=(25,.c (.one (.cW 233 [.p 2001 0,.p 2002 0,.p 2003 0])))::Kc a l) (B':=pT a l++Fk s bn b1 b2 0) ⟨rfl,trivial,trivial,rfl,rfl,rfl,rfl,rfl,rfl,trivial⟩ aE) <| bB.range eC [9] (pl:=[26]) rfl aA0 aA0 aA0 aA0 [1001,1002,1003,1004,9000,4,7,10,11] _ (Kc a l) (pT a l) (fun k:Nat=>Fk s bn b1 b2 (gX s a l k)) 1001 0 (cD (aH s) a l) (fun k aB d4=>k < cD (aH s) a l/\aB=[pS (bg (aH s) a l k)]/\d4=k+1) rfl (by exact⟨trivial,trivial,rfl,rfl,rfl,rfl,rfl,rfl,trivial⟩) rfl rfl ?_ ?_ ?_)⟩⟩
 .rintro k aB d4 ⟨Z,rfl,rfl⟩;obtain⟨J,qO⟩:=qP aq dA Z;obtain⟨d0,cU,dB,dE⟩:=qN cV Z;have vx:=adx s a l k
  have bI:nK s (bg (aH s) a l k)=false->gX s a l (k+1)=gX s a l k:=fun hn=>by
   show gX s a l k+_=_;rw[mu (by rw[hn];decide)];exact aw0 _
  have af:nK s (bg (aH s) a l k)=true->((gX s a l k:Nat):Int)+1=((gX s a l (k+1):Nat):Int):=fun hn=>by
   show _=((gX s a l k+_:Nat):Int);rw[vj hn];omega
  have jf:c5 (((gX s a l k:Nat):Int)+1):=aA5
  have Fo:=Rb s aq.z (bg (aH s) a l k) d0 az7;refine⟨rfl,rfl,rfl,rfl,az Fo ⟨fun hn=>?_,fun hn=>?_⟩⟩
  .have hn:kv s (bg (aH s) a l k)=false:=by simpa using hn
   refine vq rfl rfl rfl (zx s aq.ez _ J) ⟨fun hl=>?_,fun hl=>?_⟩
   .have hl: ¬(s.t.getD (bg (aH s) a l k).c b7).1=2:=by
     have hl:(!decide ((s.t.getD (bg (aH s) a l k).c b7).1=2))=true:=hl;simpa using hl
    refine vq rfl rfl rfl (J2 s aq.ez _ J) ⟨fun EK=>?_,fun EK=>?_⟩
    .have aO:nK s (bg (aH s) a l k)=true:=by
      unfold nK;rw[hn,aq1 hl,EK];rfl
     refine bx [] (cH [(11,ap 11)] (Fk s bn b1 b2 (gX s a l k))) ⟨jf,?_⟩;exact⟨rfl,ac.sub trivial ⟨rfl,rfl,rfl,rfl,rfl,rfl,rfl,rfl,by rw[<-af aO];rfl,trivial⟩⟩
    .have aO:nK s (bg (aH s) a l k)=false:=by
      unfold nK;rw[EK,Bool.and_false,Bool.and_false]
     exact⟨rfl,ac.sub trivial ⟨rfl,rfl,rfl,rfl,rfl,rfl,rfl,rfl,by rw[bI aO];rfl,trivial⟩⟩
   .have hl:(s.t.getD (bg (aH s) a l k).c b7).1=2:=by
     have hl:(!decide ((s.t.getD (bg (aH s) a l k).c b7).1=2))=false:=hl;simpa using hl
    have aO:nK s (bg (aH s) a l k)=false:=by
     unfold nK;rw[as7 (fun h=>h hl),Bool.false_and,Bool.and_false]
    exact⟨rfl,ac.sub trivial ⟨rfl,rfl,rfl,rfl,rfl,rfl,rfl,rfl,by rw[bI aO];rfl,trivial⟩⟩
  .have hn:kv s (bg (aH s) a l k)=true:=by simpa using hn
   have aO:nK s (bg (aH s) a l k)=false:=by
    unfold nK;rw[hn];rfl
   exact⟨rfl,ac.sub trivial ⟨rfl,rfl,rfl,rfl,rfl,rfl,rfl,rfl,by rw[bI aO];rfl,trivial⟩⟩
 .intro xv dq pU aC;exact zt xv (aH s) a l cV az7 az7 dq (fun k=>pU _ _ _ k k (Fn.pQ [(9000,.bY 1001 bn),(4,.cells [.ptr 1001 0]),(7,.cells [.d (.fn (186,[b1,b2]))]),(10,.cells [.cW 190 [.p 4 0]]),(11,.cells [.d (.int .i64 (gX s a l k:Int))])] (pR s aq.z) rfl rfl) rfl rfl) (fun k Z=>aC k _ (k+1) ⟨Z,rfl,rfl⟩)
 .have aO:dS s.l<=512:=av9 (JZ _) aq.ku;refine bx [12,18] (bu) ?_;refine az (QW s (by have:=aq.ku;omega)) ⟨rfl,fun h=>?_,fun h=>?_⟩
  .have h:((dS s.l:Nat):Int) < ((gX s a l (cD (aH s) a l):Nat):Int):=gd h;obtain⟨rfl,rfl⟩:=fx az7;exact bd
  have h: ¬((dS s.l:Nat):Int) < ((gX s a l (cD (aH s) a l):Nat):Int):=oj h;have dx:gX s a l (cD (aH s) a l)<=dS s.l:=aA5
  obtain⟨rfl,rfl⟩:=Ka dx;have Fm:=Fm dx;have hj:=hj dx;have qR:=qR dx;refine bx [18] (cH (Fl a l) (xw s bn b1 b2)) <| az (zu s a l) <| bB.le (cH ((52,.c (.one (.cW 233 [.p 2001 0,.p 2002 0,.p 2003 0])))::Fl a l) (pT a l++xw s bn b1 b2)) <| bB.range eC [15,16,17] (pl:=[53]) rfl aA0 aA0 aA0 aA0 [1001,1002,1003,1004,9000,4,7,10] _ (Fl a l) (pT a l) (fun k:Nat=>xw (ek s a l y k) bn b1 b2) 1001 0 (cD (aH s) a l) (fun k aB d4=>k < cD (aH s) a l/\aB=[pS (bg (aH s) a l k)]/\d4=k+1) rfl aA9 rfl rfl ?_ ?_ ?_
  .rintro k aB d4 ⟨Z,rfl,rfl⟩;obtain⟨J,qO⟩:=qP aq dA Z;obtain⟨d0,cU,dB,dE⟩:=qN cV Z;obtain⟨fd,gD,mt⟩:=Fm k (Nat.le_of_lt Z);have hj:=hj k Z;have qR:=qR k Z;have Rc:aH (ek s a l y k)=aH s:=ap1 (fun b=>16*2 ^b) gD;have Fo:=Rb (ek s a l y k) fd.z (bg (aH s) a l k) d0 az7;rw[show kv (ek s a l y k) (bg (aH s) a l k)=kv s (bg (aH s) a l k) by unfold kv;rw[Rc]] at Fo
   have adA:kv s (bg (aH s) a l k)=false->kv (ek s a l y k) (bg (aH s) a l k)=false:=fun h=>by
    unfold kv;rw[Rc];exact h
   have adB:ek s a l y (k+1)=ul (ek s a l y k) (bg (aH s) a l k) (y (bg (aH s) a l k).c):=rfl;refine⟨rfl,rfl,rfl,rfl,az Fo ⟨fun hn=>?_,fun hn=>?_⟩⟩
   .have hj:=hj hn;exact bx [] (cH [(4,ap 4),(13,ap 13)] ((13,.cells (ui (bg (aH s) a l k)))::xw (ek s a l y k) bn b1 b2)) <| az (Fn.arg hj ⟨rfl,rfl,aE,trivial⟩) ⟨rfl,ac.sub trivial aE⟩
   .show bB _ _ _ _ _ _ _;refine bx [17] (cH [(4,ap 4),(7,ap 7),(13,ap 13)] ((13,.cells (ui (bg (aH s) a l k)))::xw (ek s a l y k) bn b1 b2)) ?_;refine az (zx (ek s a l y k) fd.ez _ (by rw[mt];exact J)) ⟨fun hl=>?_,fun hl=>?_⟩
    .have hl: ¬((ek s a l y k).t.getD (bg (aH s) a l k).c b7).1=2:=by
      have hl:(!decide (((ek s a l y k).t.getD (bg (aH s) a l k).c b7).1=2))=true:=hl;simpa using hl
     have qR:=qR hn hl;have jf:c5 (((bg (aH s) a l k).b:Int) - ((bg (aH s) a l k).a:Int)):=aA5
     have sW:((bg (aH s) a l k).b:Int) - ((bg (aH s) a l k).a:Int)=((bg (aH s) a l k).b:Int) - ((bg (aH s) a l k).a:Int)/\(0:Int)<=((bg (aH s) a l k).b:Int) - ((bg (aH s) a l k).a:Int)/\((bg (aH s) a l k).b:Int) - ((bg (aH s) a l k).a:Int)<=4294967296:=aA5
     refine bx [] (cH [(4,ap 4),(7,ap 7),(13,ap 13)] ((13,.cells (ui (bg (aH s) a l k)))::xw (ek s a l y k) bn b1 b2)) ⟨jf,sW,rfl,?_⟩
     have hx:sY ((bg (aH s) a l k).b - (bg (aH s) a l k).a)=List.replicate (((bg (aH s) a l k).b:Int) - ((bg (aH s) a l k).a:Int)).toNat (0:UInt8):=by
      rw[show(((bg (aH s) a l k).b:Int) - ((bg (aH s) a l k).a:Int)).toNat=(bg (aH s) a l k).b - (bg (aH s) a l k).a by omega]
     rw[hx] at qR;exact az (Fn.own (d:=76) (args:=[ap 1001,pS (bg (aH s) a l k),eX 76,mW b1 b2]) (e:=5) (u:=.u8) (xs:=List.replicate (((bg (aH s) a l k).b:Int) - ((bg (aH s) a l k).a:Int)).toNat (0:UInt8)) qR rfl) ⟨rfl,rfl,ac.sub trivial aE⟩
    .have hl:((ek s a l y k).t.getD (bg (aH s) a l k).c b7).1=2:=by
      have hl:(!decide (((ek s a l y k).t.getD (bg (aH s) a l k).c b7).1=2))=false:=hl;simpa using hl
     have e:ek s a l y (k+1)=ek s a l y k:=by
      rw[adB];unfold ul;rw[adA hn,mu az8,vj hl]
     rw[e];exact⟨rfl,ac.sub trivial aE⟩
  .intro xv dq pU aC
   have h:=zt xv (aH s) a l cV az7 az7 (fun k=>dq (min k (cD (aH s) a l))) (fun k=>pU _ _ _ (min k (cD (aH s) a l)) (min k (cD (aH s) a l)) (by
    obtain⟨fd,O,mt⟩:=Fm (min k (cD (aH s) a l)) (Nat.min_le_right _ _);have G:=pR (ek s a l y (min k (cD (aH s) a l))) (by rw[O];exact aq.z);rw[show aH (ek s a l y (min k (cD (aH s) a l)))=aH s from ap1 (fun b=>16*2 ^b) O] at G
    exact Fn.pQ [(9000,.bY 1001 bn),(4,.cells [.ptr 1001 0]),(7,.cells [.d (.fn (186,[b1,b2]))]),(10,.cells [.cW 190 [.p 4 0]])] G rfl rfl) rfl rfl) (fun k Z=>by
    have h:=aC k _ (k+1) ⟨Z,rfl,rfl⟩;rw[Nat.min_eq_left az7,Nat.min_eq_left az7];exact h)
   simp only[Nat.zero_min,Nat.min_self] at h;exact h
  .show bB _ _ _ _ _ _ _;exact bx [] (bu) bd
def Rd {l:aE5} {h:Nat} {n m:Int} (ak:l[h]? =some n):dS (l.set h m)+(if n=0 then 1 else 0)=dS l+(if m=0 then 1 else 0):=by
 induction l generalizing h with
 |nil=>simp at ak
 |cons x l bl=>
  match h with
  |0=>
   simp only[aq2,ap5] at ak;subst ak;simp only[List.set_cons_zero];unfold dS;rw[List.filter_cons,List.filter_cons]
   by_cases E:x=0 <;>by_cases G:m=0 <;>simp[E,G] <;>omega
  |h+1=>
   have ak:l[h]? =some n:=by simpa using ak
   have:=bl ak;simp only[List.set_cons_succ];unfold dS at*;rw[List.filter_cons,List.filter_cons]
   by_cases E:x=0 <;>simp[E] <;>omega
def adC {xs ys:aD2} {a n:Nat} (E:a+n<=xs.length) (G:ys.length=n):(laid xs a n ys).length=xs.length:=by unfold laid;rw[ap3,ap3,aq0,aq0,au8];omega
structure Cb (s s':bA) (p:mr) (bs y:aD2):Prop where
 ok:e6 s'
 z:s'.z=s.z
 ez:s'.t.length=s.t.length
 ku:s'.l.length=s.l.length
 jg: ∀c,c≠p.c->s'.t[c]? =s.t[c]? /\ ∀aF,ee s' c aF=ee s c aF
 Cc: ∀aF,ee s' p.c aF=laid (ee s p.c (some y)) p.a (p.b - p.a) bs
 jV:g6 s' p.c=false
 iq:dS s'.l+(if g6 s p.c=true then 1 else 0)=dS s.l
def adD {s:bA} {c:Nat} {h:Int} {xs:aD2} (E:s.t[c]? =some ((1:Int),h,true)) (G:s.f h=some xs) (aF:Option aD2):ee s c aF=xs:=by unfold ee;rw[E];simp only[vj,G,av3]
def Kd {s s':bA} {c:Nat} (O:s'.z=s.z) (cq:s'.t[c]? =s.t[c]?) (hf: ∀h,s.t[c]? =some ((1:Int),h,true)->s'.f h=s.f h) (aq:e6 s) (aF:Option aD2):ee s' c aF=ee s c aF:=by
 have aO:iq s'=iq s:=by unfold iq aH;rw[O]
 have hw:aH s'=aH s:=by unfold aH;rw[O]
 unfold ee;rw[cq]
 cases e:s.t[c]? with
 |none=>rfl
 |some q=>
  simp only;rcases aq.slot c q e with h |h |⟨h,al,_⟩
  .rw[h,aO,hw];rfl
  .rw[h,aO];rfl
  .rw[al] at e;rw[al,hf _ e,aO,hw]
def adE {s:bA} {c:Nat} {h:Int} (E:s.t[c]? =some ((1:Int),h,true)):g6 s c=false:=by unfold g6 uf;rw[zs E];rfl
def adF {s:bA} (aq:e6 s) {c:Nat} (J:c < s.t.length) (y:aD2) (aO:g6 s c=true->0 < dS s.l):
  (ms s c y).z=s.z/\(ms s c y).l.length=s.l.length/\(∀d,d≠c->(ms s c y).t[d]? =s.t[d]? /\ ∀h,s.t[d]? =some ((1:Int),h,true)->(ms s c y).f h=s.f h)/\dS (ms s c y).l+(if g6 s c=true then 1 else 0)=dS s.l:=by
 unfold ms
 by_cases hn:g6 s c=true
 .rw[vj hn,vj hn];obtain⟨kl,qv⟩:=J3 (aO hn);refine⟨rfl,at7,fun d H=>⟨as6 (au7 H),fun h bf=>?_⟩,?_⟩
  .show(if h=(hS s.l:Int) then _ else s.f h)=s.f h;rw[mu];intro e;rcases aq.slot d _ bf with al |al |⟨h',al,ag,_⟩
   .cases al
   .cases al
   .have:h=(h':Int):=by injection al with _ al;injection al
    have:h'=hS s.l:=aA5
    rw[this,kl] at ag
    cases ag
  .have:=Rd (m:=1) kl;simpa using this
 .rw[mu hn,mu hn];exact⟨rfl,rfl,fun d _=>⟨rfl,fun _ _=>rfl⟩,rfl⟩
def Ke {s:bA} (aq:e6 s) {p:mr} (J:p.c < s.t.length) {bs y:aD2} (E:p.a<=p.b) (G:p.b<=aH s) (ag:bs.length=p.b - p.a) (aO:g6 s p.c=true->0 < dS s.l):Cb s (xq s p bs y) p bs y:=by
 obtain⟨fd,gD,mt,h,uk,vz⟩:=Q4 aq J y aO;obtain⟨r1,r2,fI,jI⟩:=adF aq J y aO;have dI:=uj aq J (some y);unfold xq;generalize ms s p.c y=s' at*;generalize rC:ee s p.c (some y)=xs at*;have qk:=zs uk
 have e:Fg s' p bs={s' with f:=ja s'.f (h:Int) (laid xs p.a (p.b - p.a) bs)}:=by
  unfold Fg;rw[qk];simp only[vz,av3]
 rw[e];have mm:=adC (xs:=xs) (ys:=bs) (a:=p.a) (n:=p.b - p.a) az7 ag
 have adG: ∀(d:Nat) (k:Int),d≠p.c->s'.t[d]? =some ((1:Int),k,true)->ja s'.f (h:Int) (laid xs p.a (p.b - p.a) bs) k=s'.f k:=fun d k H Z=>by
  unfold ja;rw[mu];intro e;subst e;exact H (fd.inj d p.c _ Z uk)
 refine⟨⟨fd.z,fd.ez,fd.ku,fun c q aY=>?_,fd.inj,fd.B8,fun k Z=>?_,fd.B9,Q3 fd.dom (by rw[mm,dI];exact Q2 aq.z)⟩,r1,mt,r2,fun c lg=>⟨(fI c lg).1,fun aF=>?_⟩,fun aF=>by rw[rC];exact adD (s:={s' with f:=ja s'.f (h:Int) (laid xs p.a (p.b - p.a) bs)}) uk (vj rfl) aF,adE (s:={s' with f:=ja s'.f (h:Int) (laid xs p.a (p.b - p.a) bs)}) uk,jI⟩
 .rcases fd.slot c q aY with e |e |⟨k,e,g1,ys,g2,cX⟩
  .exact .inl e
  .exact .inr (.inl e)
  .refine .inr (.inr ⟨k,e,g1,?_⟩)
   by_cases Z:(k:Int)=(h:Int)
   .exact⟨_,vj Z,by rw[mm,dI,<-gD];rfl⟩
   .exact⟨ys,(mu Z).trans g2,cX⟩
 .show(if(k:Int)=(h:Int) then _ else s'.f k)=none;rw[mu]
  .exact fd.zr k Z
  .intro e;have:k=h:=aA5
   subst this;rcases fd.slot p.c _ uk with e |e |⟨j,e,g1,_⟩
   .cases e
   .cases e
   .have:(k:Int)=(j:Int):=by injection e with _ e;injection e
    have:k=j:=aA5
    rw[this,g1] at Z
    cases Z
 .refine Kd (s:=s) (s':={s' with f:=ja s'.f (h:Int) (laid xs p.a (p.b - p.a) bs)}) r1 (fI c lg).1 (fun k Z=>?_) aq aF;rw[<-(fI c lg).2 k Z];exact adG c k lg ((fI c lg).1.trans Z)
structure Kf (s s':bA) (c:Nat) (q:d7):Prop where
 ok:e6 s'
 z:s'.z=s.z
 ez:s'.t.length=s.t.length
 ku:s'.l.length=s.l.length
 jg: ∀d,d≠c->s'.t[d]? =s.t[d]? /\ ∀aF,ee s' d aF=ee s d aF
 Cc:s'.t[c]? =some q
 iq:dS s.l<=dS s'.l
def Kg {s:bA} (aq:e6 s) {c:Nat} (J:c < s.t.length) {q:d7} (aY:q=b7\/q=sX):Kf s (qM s c q) c q:=by
 have mf:s.t[c]? =some (s.t.getD c b7):=by rw[ap2,ao7 J];rfl
 have t2: ∀h:Int,q≠((1:Int),h,true):=fun h e=>by rcases aY with aY |aY <;>rw[aY] at e <;>cases e
 have Re:q=b7\/q=((2:Int),(0:Int),false):=aY;unfold qM zq;rcases Fh aq J with⟨_,h⟩ |⟨_,h,E,G,xs,ag,aS⟩
 .have hn: ¬(s.t.getD c b7).1=1:=by rcases h with h |h <;>rw[h] <;>decide
  rw[mu hn];refine⟨⟨aq.z,by show(s.t.set _ _).length<=256;rw[at7];exact aq.ez,aq.ku,fun d r aw=>?_,fun d e k H U=>?_,aq.B8,aq.zr,fun k Z=>?_,aq.dom⟩,rfl,at7,rfl,fun d H=>⟨as6 (au7 H),fun aF=>Kd (s:=s) (s':={s with t:=s.t.set c q}) rfl (as6 (au7 H)) (fun _ _=>rfl) aq aF⟩,au1 J,ao9 _⟩
  .rw[aw1] at aw
   split at aw
   .injection aw with aw
    rw[<-aw];exact Re.imp id .inl
   .exact aq.slot d r aw
  .rw[aw1] at H U
   split at H
   .injection H with H;exact ap0 H (t2 k)
   .split at U
    .injection U with U;exact ap0 U (t2 k)
    .exact aq.inj d e k H U
  .obtain⟨d,H⟩:=aq.B9 k Z
   have a6:c≠d:=fun e=>by
    subst e;rw[mf] at H;injection H with H
    rw[H] at hn;exact hn rfl
   exact⟨d,(as6 a6).trans H⟩
 .have aV:=zs E;rw[aV,vj rfl];have br:h < s.l.length:=(ap6.1 G).1;have bI:((h:Int)).toNat=h:=rfl;simp only[bI]
  have other: ∀(d k:Nat),d≠c->s.t[d]? =some ((1:Int),(k:Int),true)->k≠h:=fun d k H Z e=>by
   subst e;exact H (aq.inj d c _ Z E)
  refine⟨⟨aq.z,by show(s.t.set _ _).length<=256;rw[at7];exact aq.ez,by show(s.l.set _ _).length<=512;rw[at7];exact aq.ku,fun d r aw=>?_,fun d e k H U=>?_,fun k n Z=>?_,fun k Z=>?_,fun k Z=>?_,fun k xs Z=>aq.dom k xs (by
   have Z:(if k=(h:Int) then none else s.f k)=some xs:=Z
   split at Z
   .cases Z
   .exact Z)⟩,rfl,at7,at7,fun d H=>⟨as6 (au7 H),fun aF=>Kd (s:=s) (s':={s with t:=s.t.set c q,l:=s.l.set h 0,f:=BU s.f (h:Int)}) rfl (as6 (au7 H)) (fun k Z=>?_) aq aF⟩,au1 J,?_⟩
  .rw[aw1] at aw
   split at aw
   .injection aw with aw
    rw[<-aw];exact Re.imp id .inl
   .rename_i a6;rcases aq.slot d r aw with e |e |⟨k,e,g1,ys,g2,cX⟩
    .exact .inl e
    .exact .inr (.inl e)
    .have Z:=other d k (au7 a6) (e▸aw);exact .inr (.inr ⟨k,e,by show(s.l.set h 0)[k]? =some 1;rw[as6 (au7 Z)];exact g1,ys,by show(if(k:Int)=(h:Int) then none else s.f k)=some ys;rw[mu az7];exact g2,cX⟩)
  .rw[aw1] at H U
   split at H
   .injection H with H;exact ap0 H (t2 k)
   .split at U
    .injection U with U;exact ap0 U (t2 k)
    .exact aq.inj d e k H U
  .rw[aw1] at Z
   split at Z
   .injection Z with Z;exact .inl Z.symm
   .exact aq.B8 k n Z
  .show(if(k:Int)=(h:Int) then none else s.f k)=none
   by_cases e:k=h
   .rw[vj az7]
   .rw[mu az7];rw[as6 (fun al=>e al.symm)] at Z;exact aq.zr k Z
  .by_cases e:k=h
   .subst e;rw[au1 br] at Z
    cases Z
   .rw[as6 (fun al=>e al.symm)] at Z;obtain⟨d,H⟩:=aq.B9 k Z
    have a6:c≠d:=fun al=>by
     subst al;rw[E] at H;injection H with H
     have:(h:Int)=(k:Int):=by injection H with _ H;injection H
     omega
    exact⟨d,(as6 a6).trans H⟩
  .rcases aq.slot d _ Z with e |e |⟨j,e,_⟩
   .cases e
   .cases e
   .have V:k=(j:Int):=by injection e with _ e;injection e
    subst V;have:=other d j H Z;show(if(j:Int)=(h:Int) then none else s.f j)=s.f j;rw[mu az7]
  .have:=Rd (m:=0) G;simp at this;show dS s.l<=dS (s.l.set h 0);omega
def Cd {s s':bA} {c:Nat} (h:s'.t[c]? =s.t[c]?):g6 s' c=g6 s c:=by unfold g6;rw[ap2,ap2,h]
structure h8 (s s':bA):Prop where
 ok:e6 s'
 z:s'.z=s.z
 ez:s'.t.length=s.t.length
 ku:s'.l.length=s.l.length
def h8.refl {s:bA} (h:e6 s):h8 s s:=⟨h,rfl,rfl,rfl⟩
def h8.trans {s s' Ce:bA} (h:h8 s s') (k:h8 s' Ce):h8 s Ce:=⟨k.ok,k.z.trans h.z,k.ez.trans h.ez,k.ku.trans h.ku⟩
def h8.aH {s s':bA} (h:h8 s s'):aH s'=aH s:=ap1 (fun b=>16*2 ^b) h.z
def Cb.en {s s':bA} {p:mr} {bs y:aD2} (h:Cb s s' p bs y):h8 s s':=⟨h.ok,h.z,h.ez,h.ku⟩
def Kf.en {s s':bA} {c:Nat} {q:d7} (h:Kf s s' c q):h8 s s':=⟨h.ok,h.z,h.ez,h.ku⟩
def pV (s s':bA) (c:Nat):Prop:=s'.t[c]? =s.t[c]? /\ ∀aF,ee s' c aF=ee s c aF
def pV.refl (s:bA) (c:Nat):pV s s c:=⟨rfl,fun _=>rfl⟩
def pV.trans {s s' Ce:bA} {c:Nat} (h:pV s s' c) (k:pV s' Ce c):pV s Ce c:=⟨k.1.trans h.1,fun aF=>(k.2 aF).trans (h.2 aF)⟩
def Kh (s:bA) (bn:bm->bc) (b1 b2:Nat) (y:Nat->aD2):Prop:= ∀s',h8 s s'-> ∀(c:Nat) (h:c < s'.t.length),(s'.t[c]).1=0->Ff s' bn b1 b2 c (y c)
def adH (s:bA) (a l:Nat) {j k:Nat} (h:j<=k):hT s a l j<=hT s a l k:=by
 induction k with
 |zero=>
    have:j=0:=aA5
    rw[this];exact ao9 _
 |succ k bl=>
  by_cases e:j=k+1
  .rw[e];exact ao9 _
  .have:=bl az7;show hT s a l j<=hT s a l k+_;omega
def Rf {bs:aD2} {p:mr} (E:p.a<=p.b) (G:p.at_+(p.b - p.a)<=bs.length):(o3 bs p).length=p.b - p.a:=by unfold o3;rw[au8,aq0];omega
structure Fp (s:bA) (a l:Nat) (bs:aD2) (y:Nat->aD2) (k:Nat):Prop where
 en:h8 s (iC s a l bs y k)
 iq:dS (iC s a l bs y k).l+hT s a l k=dS s.l
 jg: ∀c,(c < 16*a/aH s\/16*a/aH s+k<=c)->pV s (iC s a l bs y k) c
 done: ∀j,j < k->g6 (iC s a l bs y k) (16*a/aH s+j)=false/\ ∀aF,ee (iC s a l bs y k) (16*a/aH s+j) aF=laid (ee s (16*a/aH s+j) (some (y (16*a/aH s+j)))) (bg (aH s) a l j).a ((bg (aH s) a l j).b - (bg (aH s) a l j).a) (o3 bs (bg (aH s) a l j))
def Rg {s:bA} (aq:e6 s) {a l:Nat} {bs:aD2} (fG:bs.length=16*l) (dA:a+l<=eU s) {y:Nat->aD2} (dx:hT s a l (cD (aH s) a l)<=dS s.l) {k:Nat} (h:Fp s a l bs y k) (Z:k < cD (aH s) a l):Cb (iC s a l bs y k) (iC s a l bs y (k+1)) (bg (aH s) a l k) (o3 bs (bg (aH s) a l k)) (y (bg (aH s) a l k).c)/\(g6 (iC s a l bs y k) (bg (aH s) a l k).c=true->0 < dS (iC s a l bs y k).l):=by
 have cV:=nJ aq.z;obtain⟨d0,cU,dB,dE⟩:=qN cV Z;obtain⟨J,_⟩:=qP aq dA Z;have ln:=h.jg (16*a/aH s+k) (.inr (ao9 _))
 have aO:g6 (iC s a l bs y k) (bg (aH s) a l k).c=true->0 < dS (iC s a l bs y k).l:=fun hn=>by
  have bt:g6 (iC s a l bs y k) (bg (aH s) a l k).c=g6 s (bg (aH s) a l k).c:=Cd ln.1;rw[bt] at hn;have E:=adH s a l (show k+1<=cD (aH s) a l from Z)
  have G:hT s a l (k+1)=hT s a l k+1:=by
   show hT s a l k+_=_;rw[vj hn]
  have:=h.iq;omega
 exact⟨Ke h.en.ok aC6 d0 (by rw[h.en.aH];exact cU) (Rf d0 az7) aO,aO⟩
def zy {s:bA} (aq:e6 s) {a l:Nat} {bs:aD2} (fG:bs.length=16*l) (dA:a+l<=eU s) (y:Nat->aD2) (dx:hT s a l (cD (aH s) a l)<=dS s.l): ∀k,k<=cD (aH s) a l->Fp s a l bs y k/\(k < cD (aH s) a l->Cb (iC s a l bs y k) (iC s a l bs y (k+1)) (bg (aH s) a l k) (o3 bs (bg (aH s) a l k)) (y (bg (aH s) a l k).c)/\(g6 (iC s a l bs y k) (bg (aH s) a l k).c=true->0 < dS (iC s a l bs y k).l))
 |0,Z=>by
  have au:Fp s a l bs y 0:=⟨h8.refl aq,rfl,fun c _=>pV.refl s c,fun j V=>ap0 V az7⟩;exact⟨au,fun Z=>Rg aq fG dA dx au Z⟩
 |k+1,Z=>by
  obtain⟨h,ax⟩:=zy aq fG dA y dx k az7;have fO:k < cD (aH s) a l:=aA5
  obtain⟨ao,_⟩:=ax fO;have o4:(bg (aH s) a l k).c=16*a/aH s+k:=rfl;have ln:=h.jg (16*a/aH s+k) (.inr (ao9 _))
  have E:Fp s a l bs y (k+1):=by
   refine⟨h.en.trans ao.en,?_,fun c J=>?_,fun j V=>?_⟩
   .have af:=ao.iq;have al:=h.iq;have bt:g6 (iC s a l bs y k) (bg (aH s) a l k).c=g6 s (bg (aH s) a l k).c:=Cd ln.1;rw[bt] at af;show dS _+(hT s a l k+_)=_;omega
   .exact(h.jg c (J.imp id fun h=>by omega)).trans (ao.jg c (by rw[o4];omega))
   .by_cases e:j=k
    .subst e;refine⟨ao.jV,fun aF=>?_⟩;have:=ao.Cc aF;rw[o4] at this;rw[this,ln.2]
    .obtain⟨g1,g2⟩:=h.done j az7;have hf:=ao.jg (16*a/aH s+j) (by rw[o4];omega);exact⟨(Cd hf.1).trans g1,fun aF=>(hf.2 aF).trans (g2 aF)⟩
  exact⟨E,fun Z=>Rg aq fG dA dx E Z⟩
def zz (s:bA) (a l:Nat):Int:=if hT s a l (cD (aH s) a l)<=dS s.l then 0 else 120
def vC (s:bA) (a l:Nat) (bs:aD2) (y:Nat->aD2):bA:=if hT s a l (cD (aH s) a l)<=dS s.l then iC s a l bs y (cD (aH s) a l) else s
def adI (s:bA) (bn:bm->bc) (b1 b2:Nat) (aq:e6 s) (a l:Nat) (bs:aD2) (fG:bs.length=16*l) (au:dY s a l=0) (y:Nat->aD2) (dh:Kh s bn b1 b2 y):
  Fn prog 126 [ap 1001,ab (a:Int),b0 .u8 bs,mW b1 b2] (fP s bn) [] (ab (zz s a l)) (fP (vC s a l bs y) bn):=by
 have dA:=oz au;refine ads s bn b1 b2 aq a l bs fG au y _ _ (fun h=>⟨mu az7,mu az7⟩) (fun h=>⟨vj h,vj h⟩) (fun dx k Z=>?_) (fun dx k Z=>(zy aq fG dA y dx k Z).1.en.z);obtain⟨h,ax⟩:=zy aq fG dA y dx k (Nat.le_of_lt Z);obtain⟨_,aO⟩:=ax Z;obtain⟨d0,cU,dB,dE⟩:=qN (nJ aq.z) Z;obtain⟨J,_⟩:=qP aq dA Z;have fw:(bg (aH s) a l k).c < (iC s a l bs y k).t.length:=aC6
 exact Q6 (iC s a l bs y k) bn b1 b2 h.en.ok (bg (aH s) a l k) fw (o3 bs (bg (aH s) a l k)) d0 (by rw[h.en.aH];exact cU) (Rf d0 az7) (y (bg (aH s) a l k).c) (fun e=>dh _ h.en _ fw e) aO
def adJ {s:bA} (aq:e6 s) {a l:Nat} {bs:aD2} (fG:bs.length=16*l) (au:dY s a l=0) (y:Nat->aD2):h8 s (vC s a l bs y):=by
 unfold vC
 split
 .rename_i h;exact(zy aq fG (oz au) y h _ (ao9 _)).1.en
 .exact h8.refl aq
structure Ki (s:bA) (a l:Nat) (k:Nat):Prop where
 en:h8 s (jv s a l k)
 jg: ∀c,(c < 16*a/aH s\/16*a/aH s+k<=c)->pV s (jv s a l k) c
 done: ∀j,j < k->if(bg (aH s) a l j).b - (bg (aH s) a l j).a=aH s then(jv s a l k).t[16*a/aH s+j]? =some b7 else pV s (jv s a l k) (16*a/aH s+j)
def zA {s:bA} (aq:e6 s) {a l:Nat} (dA:a+l<=eU s): ∀k,k<=cD (aH s) a l->Ki s a l k
 |0,_=>⟨h8.refl aq,fun c _=>pV.refl s c,fun j V=>ap0 V az7⟩
 |k+1,Z=>by
  have h:=zA aq dA k az7;have fO:k < cD (aH s) a l:=aA5
  obtain⟨J,_⟩:=qP aq dA fO;have o4:(bg (aH s) a l k).c=16*a/aH s+k:=rfl;have ln:=h.jg (16*a/aH s+k) (.inr (ao9 _))
  by_cases e:(bg (aH s) a l k).b - (bg (aH s) a l k).a=aH s
  .have af:jv s a l (k+1)=qM (jv s a l k) (bg (aH s) a l k).c b7:=vj e;have ao:=Kg h.en.ok (c:=(bg (aH s) a l k).c) aC6 (q:=b7) (.inl rfl);rw[<-af] at ao;refine⟨h.en.trans ao.en,fun c J=>(h.jg c (J.imp id fun h=>by omega)).trans (ao.jg c (by rw[o4];omega)),fun j V=>?_⟩
   by_cases zo:j=k
   .subst zo;rw[vj e];exact ao.Cc
   .have g:=h.done j az7;have hf:=ao.jg (16*a/aH s+j) (by rw[o4];omega)
    split
    .rename_i al;rw[vj al] at g;exact hf.1.trans g
    .rename_i al;rw[mu al] at g;exact g.trans hf
  .have af:jv s a l (k+1)=jv s a l k:=mu e;rw[show Ki s a l (k+1)↔Ki s a l (k+1) from Iff.rfl];refine⟨by rw[af];exact h.en,fun c J=>by rw[af];exact h.jg c (J.imp id fun h=>by omega),fun j V=>?_⟩;rw[af]
   by_cases zo:j=k
   .subst zo;rw[mu e];exact ln
   .exact h.done j az7
def zB (s:bA) (a l:Nat):bA:=jv s a l (cD (aH s) a l)
def Rh {s:bA} (aq:e6 s) {c:Nat} (J:c < s.t.length):(s.t.getD c b7).1=1-> ∃h:Nat,(s.t.getD c b7).2.1=(h:Int)/\s.l[h]? =some 1:=fun E=>by
 rcases Fh aq J with⟨_,h⟩ |⟨_,h,g1,g2,_⟩
 .rcases h with h |h <;>rw[h] at E <;>cases E
 .exact⟨h,by rw[zs g1],g2⟩
def adK (s:bA) (aq:e6 s) (a l:Nat) (au:dY s a l=0):Fn prog 130 [ap 1001,ab (a:Int),ab (l:Int)] (c8 s) [] (ab 0) (c8 (zB s a l)):=by
 have dA:=oz au;refine adv s aq a l au (fun k Z=>?_) (fun k Z=>(zA aq dA k Z).en.z);have h:=zA aq dA k (Nat.le_of_lt Z);obtain⟨J,_⟩:=qP aq dA Z;have fw:(bg (aH s) a l k).c < (jv s a l k).t.length:=aC6
 exact J1 (jv s a l k) h.en.ok.ez _ fw b7 ⟨az8,az8⟩ rfl (Rh h.en.ok fw)
structure Ri (s:bA) (a l:Nat) (y:Nat->aD2) (k:Nat):Prop where
 en:h8 s (ek s a l y k)
 iq:dS s.l<=dS (ek s a l y k).l+gX s a l k
 jg: ∀c,(c < 16*a/aH s\/16*a/aH s+k<=c)->pV s (ek s a l y k) c
def adL (s:bA) (a l:Nat) {j k:Nat} (h:j<=k):gX s a l j<=gX s a l k:=by
 induction k with
 |zero=>
    have:j=0:=aA5
    rw[this];exact ao9 _
 |succ k bl=>
  by_cases e:j=k+1
  .rw[e];exact ao9 _
  .have:=bl az7;show gX s a l j<=gX s a l k+_;omega
def Fq {s s':bA} (h:h8 s s') (p:mr):kv s' p=kv s p:=by unfold kv;rw[h.aH]
def Kj {s:bA} {a l:Nat} {y:Nat->aD2} (dx:gX s a l (cD (aH s) a l)<=dS s.l) {k:Nat} (h:Ri s a l y k) (Z:k < cD (aH s) a l) (hw:kv s (bg (aH s) a l k)=false) (G:((ek s a l y k).t.getD (bg (aH s) a l k).c b7).1≠2):
  g6 (ek s a l y k) (bg (aH s) a l k).c=true->0 < dS (ek s a l y k).l:=fun hn=>by
 have ln:=h.jg (16*a/aH s+k) (.inr (ao9 _));have bt:g6 (ek s a l y k) (bg (aH s) a l k).c=g6 s (bg (aH s) a l k).c:=Cd ln.1
 have c3:(ek s a l y k).t.getD (bg (aH s) a l k).c b7=s.t.getD (bg (aH s) a l k).c b7:=by
  rw[ap2,ap2];exact ap1 (fun o=>o.getD b7) ln.1
 rw[bt] at hn;rw[c3] at G
 have aO:nK s (bg (aH s) a l k)=true:=by
  unfold nK;rw[hw,aq1 G,hn];rfl
 have E:=adL s a l (show k+1<=cD (aH s) a l from Z)
 have ag:gX s a l (k+1)=gX s a l k+1:=by
  show gX s a l k+_=_;rw[vj aO]
 have:=h.iq;omega
def xx {s:bA} (aq:e6 s) {a l:Nat} (dA:a+l<=eU s) (y:Nat->aD2) (dx:gX s a l (cD (aH s) a l)<=dS s.l): ∀k,k<=cD (aH s) a l->Ri s a l y k
 |0,_=>⟨h8.refl aq,Nat.le_add_right _ _,fun c _=>pV.refl s c⟩
 |k+1,Z=>by
  have h:=xx aq dA y dx k az7;have fO:k < cD (aH s) a l:=aA5
  obtain⟨J,_⟩:=qP aq dA fO;obtain⟨d0,cU,dB,dE⟩:=qN (nJ aq.z) fO;have o4:(bg (aH s) a l k).c=16*a/aH s+k:=rfl;have fw:(bg (aH s) a l k).c < (ek s a l y k).t.length:=aC6
  have ln:=h.jg (16*a/aH s+k) (.inr (ao9 _));have yo:gX s a l (k+1)=gX s a l k+(if nK s (bg (aH s) a l k)=true then 1 else 0):=rfl;have af:ek s a l y (k+1)=ul (ek s a l y k) (bg (aH s) a l k) (y (bg (aH s) a l k).c):=rfl;unfold ul at af;rw[Fq h.en] at af
  by_cases hw:kv s (bg (aH s) a l k)=true
  .rw[vj hw] at af;have ao:=Kg h.en.ok (c:=(bg (aH s) a l k).c) fw (q:=sX) (.inr rfl);rw[<-af] at ao;refine⟨h.en.trans ao.en,?_,fun c J=>(h.jg c (J.imp id fun h=>by omega)).trans (ao.jg c (by rw[o4];omega))⟩;have:=ao.iq;have:=h.iq;omega
  .have hw:kv s (bg (aH s) a l k)=false:=by simpa using hw
   rw[hw,mu az8] at af
   by_cases G:((ek s a l y k).t.getD (bg (aH s) a l k).c b7).1=2
   .rw[vj G] at af;refine⟨by rw[af];exact h.en,?_,fun c J=>by rw[af];exact h.jg c (J.imp id fun h=>by omega)⟩;rw[af];have:=h.iq;omega
   .rw[mu G] at af;have ao:=Ke (y:=y (bg (aH s) a l k).c) (bs:=sY ((bg (aH s) a l k).b - (bg (aH s) a l k).a)) h.en.ok fw d0 (by rw[h.en.aH];exact cU) aq7 (Kj dx h fO hw G);rw[<-af] at ao;refine⟨h.en.trans ao.en,?_,fun c J=>(h.jg c (J.imp id fun h=>by omega)).trans (ao.jg c (by rw[o4];omega))⟩;have gi:=ao.iq;have bt:g6 (ek s a l y k) (bg (aH s) a l k).c=g6 s (bg (aH s) a l k).c:=Cd ln.1
    have c3:(ek s a l y k).t.getD (bg (aH s) a l k).c b7=s.t.getD (bg (aH s) a l k).c b7:=by
     rw[ap2,ap2];exact ap1 (fun o=>o.getD b7) ln.1
    rw[c3] at G
    have aO:nK s (bg (aH s) a l k)=g6 s (bg (aH s) a l k).c:=by
     unfold nK;rw[hw,aq1 G];rfl
    rw[bt,<-aO] at gi;have:=h.iq;omega
def zC (s:bA) (a l:Nat):Int:=if gX s a l (cD (aH s) a l)<=dS s.l then 0 else 120
def vD (s:bA) (a l:Nat) (y:Nat->aD2):bA:=if gX s a l (cD (aH s) a l)<=dS s.l then ek s a l y (cD (aH s) a l) else s
def adM (s:bA) (bn:bm->bc) (b1 b2:Nat) (aq:e6 s) (a l:Nat) (au:dY s a l=0) (y:Nat->aD2) (dh:Kh s bn b1 b2 y):
  Fn prog 128 [ap 1001,ab (a:Int),ab (l:Int),mW b1 b2] (fP s bn) [] (ab (zC s a l)) (fP (vD s a l y) bn):=by
 have dA:=oz au;refine adz s bn b1 b2 aq a l au y _ _ (fun h=>⟨mu az7,mu az7⟩) (fun h=>⟨vj h,vj h⟩) (fun dx k Z=>?_) (fun dx k Z hw=>?_) (fun dx k Z hw G=>?_)
 .have h:=(xx aq dA y dx k Z).en;exact⟨h.ok,h.z,h.ez⟩
 .have h:=xx aq dA y dx k (Nat.le_of_lt Z);obtain⟨J,_⟩:=qP aq dA Z;have fw:(bg (aH s) a l k).c < (ek s a l y k).t.length:=aC6
  have af:ek s a l y (k+1)=qM (ek s a l y k) (bg (aH s) a l k).c sX:=vj ((Fq h.en _).trans hw);rw[af];exact J1 (ek s a l y k) h.en.ok.ez _ fw sX ⟨az8,az8⟩ rfl (Rh h.en.ok fw)
 .have h:=xx aq dA y dx k (Nat.le_of_lt Z);obtain⟨J,_⟩:=qP aq dA Z;obtain⟨d0,cU,dB,dE⟩:=qN (nJ aq.z) Z;have fw:(bg (aH s) a l k).c < (ek s a l y k).t.length:=aC6
  have af:ek s a l y (k+1)=xq (ek s a l y k) (bg (aH s) a l k) (sY ((bg (aH s) a l k).b - (bg (aH s) a l k).a)) (y (bg (aH s) a l k).c):=by
   show ul _ _ _=_;unfold ul;rw[Fq h.en,hw,mu az8,mu G]
  rw[af];exact Q6 (ek s a l y k) bn b1 b2 h.en.ok (bg (aH s) a l k) fw _ d0 (by rw[h.en.aH];exact cU) aq7 _ (fun e=>dh _ h.en _ fw e) (Kj dx h Z hw G)
def adN {s:bA} (aq:e6 s) {a l:Nat} (au:dY s a l=0) (y:Nat->aD2):h8 s (vD s a l y):=by
 unfold vD
 split
 .rename_i h;exact(xx aq (oz au) y h _ (ao9 _)).en
 .exact h8.refl aq
def adO (s:bA) (bn:bm->bc) (b1 b2:Nat) (aq:e6 s) (a l:Int) (au:dY s a l≠0):Fn prog 128 [ap 1001,ab a,ab l,mW b1 b2] (fP s bn) [] (ab (dY s a l)) (fP s bn):=by refine aU [] func128 ?_;refine⟨rfl,rfl,az (vA s aq a l) ?_⟩;exact⟨fun _=>bd,fun h=>ap0 (show dY s a l=0 by have h:(!decide (dY s a l=0))=false:=h;simpa using h) au⟩
def f' (z size R:Nat):bA:=⟨z,List.replicate size b7,List.replicate R (0:Int),Jl⟩
def adP {z size R:Nat} (E:z<=3) (G:size<=256) (ag:R<=512):e6 (f' z size R):=by
 have cq: ∀(c:Nat) (q:d7),(f' z size R).t[c]? =some q->q=b7:=fun c q h=>by
  have h:(List.replicate size b7)[c]? =some q:=h;rw[ax0] at h
  split at h
  .injection h with h;exact h.symm
  .cases h
 have ak: ∀(h:Nat) n,(f' z size R).l[h]? =some n->n=0:=fun h n e=>by
  have e:(List.replicate R (0:Int))[h]? =some n:=e;rw[ax0] at e
  split at e
  .injection e with e;exact e.symm
  .cases e
 refine⟨E,by show(List.replicate size b7).length<=256;rw[aq7];exact G,by show(List.replicate R (0:Int)).length<=512;rw[aq7];exact ag,fun c q aY=>.inl (cq c q aY),fun c d h J H=>?_,fun h n hn=>.inl (ak h n hn),fun h _=>rfl,fun h bf=>?_,fun k xs Z=>(by cases Z)⟩
 .have:=cq c _ J;cases this
 .have:=ak h _ bf;cases this
def lM (z size R:Int):Bool:=decide (0<=size)&&decide (size<=256)&&(decide (0<=R)&&decide (R<=512))&&(decide (0<=z)&&decide (z<=3))
def adQ (z size R:Nat) (E:z<=3) (G:size<=256) (ag:R<=512):Fn prog 117 [ab (z:Int),ab (size:Int),ab (R:Int)] [] [1001,1002,1003,1004] (.cm [.one (.ptr 1001 0),dJ 0]) (c8 (f' z size R)):=by
 refine aU [3] func117 ?_;refine az (Fn.a7 [(1001,1002),(1002,2002)] (JY size G)) <| az (Fn.a7 [(1001,1003),(1002,2003)] (Fb (R:Int) az7 az7)) <| bx [] (cH [(0,ab (z:Int)),(8,ap 1002),(9,ab 0),(10,ap 1003),(11,ab 0)] [(1002,.aA (lL (List.replicate size b7))),(1003,.aA (ju (List.replicate R (0:Int))))]) <| dR <| dR ⟨fun h=>?_,fun h=>?_⟩
 .exfalso;have h:(z:Int) < 0:=gd h;omega
 refine⟨fun h=>?_,fun h=>?_⟩
 .exfalso;have h:(3:Int) < (z:Int):=gd h;omega
 exact⟨rfl,rfl,_,_,_,(ac.a7 41 1001 rfl).trans ((ac.a7 39 1004 rfl).trans (ac.P3 1004 rfl)),rfl,aE,aE,rfl⟩
def adR {z size R:Int} (h:lM z size R=false): ¬(0<=size/\size<=256)\/ ¬(0<=R/\R<=512)\/ ¬(0<=z/\z<=3):=by
 unfold lM at h
 by_cases E:0<=size/\size<=256
 .by_cases G:0<=R/\R<=512
  .by_cases ag:0<=z/\z<=3
   .rw[aq1 E.1,aq1 E.2,aq1 G.1,aq1 G.2,aq1 ag.1,aq1 ag.2] at h
    cases h
   .exact .inr (.inr ag)
  .exact .inr (.inl G)
 .exact .inl E
def adS (z size R:Int) (h:lM z size R=false):Fn prog 117 [ab z,ab size,ab R] [] [] (.cm [oV,dJ 1]) []:=by
 have O:=adR h;refine aU [] func117 ?_
 by_cases E:0<=size/\size<=256
 .obtain⟨eg,rfl⟩: ∃n:Nat,size=(n:Int):=⟨size.toNat,az7⟩;refine az (Fn.a7 [(1001,1002),(1002,2002)] (JY eg az7)) ?_
  by_cases G:0<=R/\R<=512
  .refine az (Fn.a7 [(1001,1003),(1002,2003)] (Fb R az7 az7)) <| dR <| dR ⟨fun _=>?_,fun ag=>?_⟩
   .exact bd
   .refine⟨fun _=>?_,fun aS=>?_⟩
    .exact bd
    .exfalso;have ag: ¬z < 0:=oj ag;have aS: ¬(3:Int) < z:=oj aS;omega
  .exact az (QT R G) <| dR <| gV bd
 .refine az (acY size E) ?_
  by_cases G:0<=R/\R<=512
  .exact az (Fn.a7 [(1001,1003),(1002,2003)] (Fb R az7 az7)) <| gV bd
  .exact az (QT R G) <| gV bd
end
section
structure aL where
 nm:aD2
 back:aD2
 ad:Nat
 am:Nat
 im:bA
 cQ:Option (Nat->Nat)
abbrev aD5:=List aL
def kw (d:aL):bc:=match d.cQ with
 |none=>iN d.im
 |some bs=>.mP (c8 d.im) (fun c=>cond (Nat.beq c 1001) d.am (bs c))
abbrev lr (d:aL):aa .str×aa .aM:=((d.nm:aa .str),(some d.ad:aa .aM))
def da (L:aD5):List (aa .str×aa .aM):=L.map lr
abbrev Fr (am:Nat) (back:aD2):List bw:=[.d (.aM (some am)),.d (.str back)]
def sZ (am:Nat) (back:aD2):bc:=bc.ch (.cells (Fr am back)) (fun _=>rfl)
def lN (L:aD5):List (Nat×bc):=L.map fun d=>(d.ad,sZ d.am d.back)
def hZ (L:aD5):List (Nat×bc):=L.map fun d=>(d.am,kw d)
abbrev Kk (z R:Int):List bw:=[.d (.int .i64 z),.d (.int .i64 R),.mp 1002]
abbrev bM (z R:Int) (L:aD5):av:=[(1001,.cells (Kk z R)),(1002,.map .str .aM (da L)),(1003,.aA (.bD (lN L))),(1004,.aA (.bD (hZ L)))]
def dk (L:aD5) (nm:aD2):Option aL:=L.find? fun d=>decide (d.nm=nm)
def cO {L:aD5} {nm:aD2} {d:aL} (h:dk L nm=some d):d∈L/\d.nm=nm:=⟨az3 h,by have:=List.find?_some h;simpa using this⟩
def jN (nm:aD2): ∀L:List aL,(bV (aI:=.str) (aK:=.aM) (da L) nm).getD (cM .aM)=((dk L nm).map (·.ad):Option Nat)
 | []=>rfl
 |d::L=>by
  have bl:=jN nm L;show(bV (aI:=.str) (aK:=.aM) (lr d::da L) nm).getD (cM .aM)=_;rw[show dk (d::L) nm=if decide (d.nm=nm)=true then some d else dk L nm by unfold dk;rw[List.find?_cons];split <;>rename_i h <;>rw[h] <;>rfl];rw[show bV (aI:=.str) (aK:=.aM) (lr d::da L) nm=match fD .str (nm:aa .str) (lr d).1 with |true=>some (lr d).2 |false=>bV (aI:=.str) (aK:=.aM) (da L) nm from rfl]
  by_cases e:d.nm=nm
  .rw[show fD .str (nm:aa .str) (lr d).1=true from(pL _ _).2 e.symm,show decide (d.nm=nm)=true from aq1 e];rfl
  .rw[show fD .str (nm:aa .str) (lr d).1=false from qF (aI:=.str) pL (fun h=>e h.symm),show decide (d.nm=nm)=false from as7 e];exact bl
def Kl {f:aL->Nat×bc}: ∀{L:aD5},(L.map fun d=>(f d).1).Nodup-> ∀{d:aL},d∈L->eN (L.map f) (f d).1=some (f d).2
 | [],_,d,h=>by cases h
 |e::L,hn,d,h=>by
  rw[aq5] at hn;obtain⟨c4,ec⟩:=as2.1 hn;rw[aq5];unfold eN;rcases ap7.1 h with rfl |h
  .rw[vj rfl]
  .rw[mu (fun e=>c4 (by rw[e];exact ar8 (f:=fun d=>(f d).1) h))];exact Kl ec h
structure ir (L:aD5):Prop where
 gE:(L.map (·.nm)).Nodup
 mY:(L.map (·.ad)).Nodup
 xy:(L.map (·.am)).Nodup
def ir.D {L:aD5} (h:ir L) {d:aL} (H:d∈L):eN (lN L) d.ad=some (sZ d.am d.back):=Kl (f:=fun d=>(d.ad,sZ d.am d.back)) h.mY H
def ir.M {L:aD5} (h:ir L) {d:aL} (H:d∈L):eN (hZ L) d.am=some (kw d):=Kl (f:=fun d=>(d.am,kw d)) h.xy H
def xz:(prog.info? 46).map (·.size)=some 1:=by kernel_rfl
def Fs:(prog.info? 9).map (·.size)=some 1:=by kernel_rfl
def zD (z R:Int) (L:aD5) (b:aD2):Fn prog 118 [ap 1001,bS b] (bM z R L) [] (gT (decide (b=[])||(dk L b).isSome)) (bM z R L):=by
 have aV:=jN b L;refine aU [] func118 ?_;refine⟨fun h=>?_,fun h=>?_⟩
 .have h:b=[]:=gd h;exact er bu rfl (show true=_ by rw[aq1 h];rfl)
 .have h: ¬b=[]:=oj h;refine⟨fun eb h'=>?_,fun h'=>?_⟩
  .have h':(bV (aI:=.str) (aK:=.aM) (da L) b).getD (cM .aM)=some eb:=h';rw[aV] at h'
   exact⟨_,_,_,bu,rfl,(show true=_ by rw[as7 h];cases e:dk L b with
    |none=>rw[e] at h';cases h'
    |some d=>rfl),aE,rfl⟩
  .have h':(bV (aI:=.str) (aK:=.aM) (da L) b).getD (cM .aM)=none:=h';rw[aV] at h'
   exact⟨_,_,_,bu,rfl,(show false=_ by rw[as7 h];cases e:dk L b with
    |none=>rfl
    |some d=>rw[e] at h';cases h'),aE,rfl⟩
def adT {L:aD5} {nm:aD2} {eb:Nat} (h:(bV (aI:=.str) (aK:=.aM) (da L) nm).getD (cM .aM)=some eb): ∃d,dk L nm=some d/\d.ad=eb:=by
 rw[jN] at h
 cases e:dk L nm with
 |none=>rw[e] at h;cases h
 |some d=>
  rw[e] at h;injection h with h
  exact⟨d,rfl,h⟩
def nL {x:aE2} {b:Nat} (h:x=some b):aN.c (dH.one (bw.d (D.aM x)))= .c (.one (.d (.aM (some b)))):=by rw[h]
def jh (z R:Int) (L:aD5) (fc:ir L) (nm:aD2) (d:aL) (H:dk L nm=some d):Fn prog 15 [ap 1001,bS nm] (bM z R L) [] (di d.am) (bM z R L):=by
 obtain⟨pW,hq,hr⟩:=k8 xz;have cP:=fc.D (cO H).1;have h':(bV (aI:=.str) (aK:=.aM) (da L) nm).getD (cM .aM)=some d.ad:=by rw[jN,H];rfl
 refine aU [] func15 ?_;refine⟨fun eb O=>bo (fun N=>kr (b:=d.ad) rfl (by exact nL h') N) ?_,fun O=>ap0 (show(bV (aI:=.str) (aK:=.aM) (da L) nm).getD (cM .aM)=none from O) aB0⟩;refine bo (fun N=>kO rfl underlying106 rfl rfl hq aB3 rfl N) ?_;refine bo (ml (q:=1003) rfl underlying46 rfl rfl rfl cP rfl) ?_;exact bd
def adU (z R:Int) (L:aD5) (nm:aD2) (H:dk L nm=none):Fn prog 15 [ap 1001,bS nm] (bM z R L) [] (.c oV) (bM z R L):=by
 have h':(bV (aI:=.str) (aK:=.aM) (da L) nm).getD (cM .aM)=none:=by rw[jN,H];rfl
 refine aU [] func15 ?_;exact⟨fun eb O=>ap0 (show(bV (aI:=.str) (aK:=.aM) (da L) nm).getD (cM .aM)=some eb from O) aB0,fun _=>bd⟩
def adV (z R:Int) (L:aD5) (fc:ir L) (nm:aD2) (d:aL) (H:dk L nm=some d):Fn prog 134 [ap 1001,bS nm] (bM z R L) [] (.cm [.one (.d (.str d.back)),dJ 0]) (bM z R L):=by
 obtain⟨pW,hq,hr⟩:=k8 Fs;have cP:=fc.D (cO H).1;have h':(bV (aI:=.str) (aK:=.aM) (da L) nm).getD (cM .aM)=some d.ad:=by rw[jN,H];rfl
 refine aU [] func134 ?_;refine⟨fun eb O=>bo (fun N=>kr (b:=d.ad) rfl (by exact nL h') N) ?_,fun O=>ap0 (show(bV (aI:=.str) (aK:=.aM) (da L) nm).getD (cM .aM)=none from O) aB0⟩;refine bo (fun N=>kO rfl underlying106 rfl rfl hq aB3 rfl N) ?_;refine bo (ml (q:=1003) rfl underlying9 rfl rfl rfl cP rfl) ?_;exact bd
def adW (z R:Int) (L:aD5) (nm:aD2) (H:dk L nm=none):Fn prog 134 [ap 1001,bS nm] (bM z R L) [] (.cm [.one (.d (.str [])),dJ 140]) (bM z R L):=by
 have h':(bV (aI:=.str) (aK:=.aM) (da L) nm).getD (cM .aM)=none:=by rw[jN,H];rfl
 refine aU [] func134 ?_;exact⟨fun eb O=>ap0 (show(bV (aI:=.str) (aK:=.aM) (da L) nm).getD (cM .aM)=some eb from O) aB0,fun _=>bd⟩
inductive d9 (L:aD5):aD2->Nat->Prop where
 |gone {nm}:dk L nm=none->d9 L nm 0
 |base {nm d}:dk L nm=some d->d.back=[]->d9 L nm 0
 |step {nm d k}:dk L nm=some d->d.back≠[]->d9 L d.back k->d9 L nm (k+1)
def c6 (L:aD5):Nat->aD2->List aD2
 |0,_=>[]
 |k+1,nm=>match dk L nm with
  |none=>[]
  |some d=>d.back::c6 L k d.back
def eD (L:aD5):Nat->aD2->aD2
 |0,nm=>nm
 |j+1,nm=>match dk L nm with
  |none=>nm
  |some d=>eD L j d.back
def zE (L:aD5): ∀(j:Nat) (nm:aD2),eD L (j+1) nm=match dk L (eD L j nm) with
  |none=>eD L j nm
  |some d=>d.back
 |0,nm=>by
  show(match dk L nm with |none=>nm |some d=>d.back)=_;rfl
 |j+1,nm=>by
  show(match dk L nm with |none=>nm |some d=>eD L (j+1) d.back)=_
  cases e:dk L nm with
  |none=>
   simp only;rw[show eD L (j+1) nm=nm by show(match dk L nm with |none=>nm |some d=>eD L j d.back)=nm;rw[e]];rw[e]
  |some d=>
   simp only;rw[zE L j d.back];rw[show eD L (j+1) nm=eD L j d.back by show(match dk L nm with |none=>nm |some d=>eD L j d.back)=_;rw[e]]
def Ft {L:aD5}: ∀{k:Nat} {nm:aD2},d9 L nm k-> ∀j,j<=k->d9 L (eD L j nm) (k - j)
 |_,_,h,0,_=>h
 |k+1,nm,.step (d:=d) E G ag,j+1,V=>by
  rw[show eD L (j+1) nm=eD L j d.back by show(match dk L nm with |none=>nm |some d=>eD L j d.back)=_;rw[E]];rw[Nat.add_sub_add_right];exact Ft ag j az7
 |0,_,_,j+1,V=>ap0 V az7
def o5 {L:aD5} {nm:aD2} {k:Nat} (h:d9 L nm k):(c6 L k nm).length=k:=by
 induction h with
 |gone _=>rfl
 |base _ _=>rfl
 |step E G _ bl=>
  unfold c6;rw[E];simp only[as9,bl]
def Fu {L:aD5}: ∀{k:Nat} {nm:aD2},d9 L nm k-> ∀j,j < k->(c6 L k nm).take (j+1)=(c6 L k nm).take j++[eD L (j+1) nm]
 |k+1,nm,.step (d:=d) E G ag,0,_=>by
  unfold c6;rw[E];simp only[List.take_succ_cons,List.take_zero,az4];rw[show eD L 1 nm=d.back by show(match dk L nm with |none=>nm |some d=>eD L 0 d.back)=_;rw[E];rfl]
 |k+1,nm,.step (d:=d) E G ag,j+1,V=>by
  have bl:=Fu ag j az7;unfold c6;rw[E];simp only[List.take_succ_cons,List.cons_append];rw[bl];rw[show eD L (j+1+1) nm=eD L (j+1) d.back by show(match dk L nm with |none=>nm |some d=>eD L (j+1) d.back)=_;rw[E]]
 |0,_,_,j,V=>ap0 V az7
abbrev zF (x:aE2):aN:=.c (.one (.d (.aM x)))
abbrev Rj (L:aD5) (nm:aD2) (j:Nat):aW:=[(0,ap 1001),(5,eX 5002),(6,zF ((dk L (eD L j nm)).map (·.ad)))]
abbrev Rk (z R:Int) (L:aD5) (k:Nat) (nm:aD2) (j:Nat):av:=bM z R L++[(5002,.row 9 .str ((c6 L k nm).take j))]
abbrev adX (L:aD5) (nm:aD2) (j:Nat):aW:=[(0,ap 1001),(5,eX 35),(6,zF ((dk L (eD L j nm)).map (·.ad)))]
abbrev adY (z R:Int) (L:aD5) (k:Nat) (nm:aD2) (j:Nat):av:=bM z R L++[(35,.row 9 .str ((c6 L k nm).take j))]
def zG (z R:Int) (L:aD5) (fc:ir L) (nm:aD2) (k:Nat) (Z:d9 L nm k) (iP:k<=1000000):Fn prog 119 [ap 1001,bS nm] (bM z R L) [] (b0 .str (c6 L k nm)) (bM z R L):=by
 obtain⟨pW,hq,hr⟩:=k8 Fs;have fG:=o5 Z;refine aU [2,7] func119 ?_;refine bx [7] (bu) <| ed [6,4,7] (X:=Nat) (Rj L nm) (fun j=>Rk z R L k nm j) (fun j=>j<=k) (fun j=>k - j) 0 (ap9 _) ?_ ?_
 .refine(ac.nil 5 5002 9 .str rfl rfl).trans (ac.sub ⟨rfl,rfl,?_,trivial⟩ aE);exact jN nm L
 intro j V;have iQ:=Ft Z j V;have lG:k - j=0->(c6 L k nm).take j=c6 L k nm:=fun h=>au0 az7
 refine⟨fun eb h'=>?_,fun h'=>?_⟩
 .obtain⟨d,H,rfl⟩: ∃d,dk L (eD L j nm)=some d/\d.ad=eb:=by
   have h':(dk L (eD L j nm)).map (·.ad)=some eb:=h'
   cases e:dk L (eD L j nm) with
   |none=>rw[e] at h';cases h'
   |some d=>rw[e] at h';injection h' with h';exact⟨d,rfl,h'⟩
  have cP:=fc.D (cO H).1;have hx:(dk L (eD L j nm)).map (·.ad)=some d.ad:=by rw[H];rfl
  refine bo (fun N=>kr (b:=d.ad) rfl aC3 N) ?_;refine bo (fun N=>kO rfl underlying106 rfl rfl hq aB3 rfl N) ?_;refine bo (ml (q:=1003) rfl underlying9 rfl rfl rfl cP rfl) ?_;refine⟨fun O=>?_,fun O=>?_⟩
  .have O:d.back=[]:=gd O
   have au:k - j=0:=by
    generalize k - j=m at iQ
    cases iQ with
    |gone h=>rfl
    |base _ _=>rfl
    |step E G _=>rw[H] at E;injection E with E;rw[<-E] at G;exact ap0 O G
   have cq:=lG au;exact bx [] (bu) ⟨_,_,_,ac.dX 5002 rfl,rfl,cq,aE,rfl⟩
  .have O: ¬d.back=[]:=oj O
   have jc:j < k:=by
    rcases ax6 j k with h |h
    .exact h
    .exfalso;have au:k - j=0:=aA5
     rw[au] at iQ
     cases iQ with
     |gone h=>rw[H] at h;cases h
     |base E G=>rw[H] at E;injection E with E;rw[<-E] at G;exact O G
   have Rl:eD L (j+1) nm=d.back:=by rw[zE,H]
   have wQ:=Fu Z j jc;rw[Rl] at wQ;have mm:((c6 L k nm).take j).length+1<=4294967296:=aB8
   refine bx [4] (cH (Rj L nm j) (Rk z R L k nm j)) <| bo (fun N=>kr (b:=d.ad) rfl aC3 N) ?_;refine bo (fun N=>kO rfl underlying106 rfl rfl hq aB3 rfl N) ?_;refine bo (ml (q:=1003) rfl underlying9 rfl rfl rfl cP rfl) ?_;refine⟨mm,rfl,bx [] (ac.sub (K':=adX L nm j) (B':=adY z R L k nm (j+1)) aE ⟨rfl,rfl,rfl,rfl,ap1 (fun l:List aD2=>some (ba.row 9 .str l)) wQ.symm,trivial⟩) <| bo (fun N=>kr (b:=d.ad) rfl aC3 N) ?_⟩;refine bo (fun N=>kO rfl underlying106 rfl rfl hq aB3 rfl N) ?_;refine bo (ml (q:=1003) rfl underlying9 rfl rfl rfl cP rfl) ?_;refine⟨rfl,j+1,az7,az7,(ac.a7 35 5002 rfl).trans (ac.sub ⟨rfl,rfl,?_,trivial⟩ aE)⟩;rw[Rl];exact jN d.back L
 .have H:dk L (eD L j nm)=none:=by
   have h':(dk L (eD L j nm)).map (·.ad)=none:=h'
   cases e:dk L (eD L j nm) with
   |none=>rfl
   |some d=>rw[e] at h';cases h'
  have au:k - j=0:=by
   generalize k - j=m at iQ
   cases iQ with
   |gone h=>rfl
   |base _ _=>rfl
   |step E G _=>rw[H] at E;cases E
  have cq:=lG au;exact bx [] (bu) ⟨_,_,_,ac.dX 5002 rfl,rfl,cq,aE,rfl⟩
def hG {f:aE8} {args:List aN} {res:aN} {d:aL} {M:List (Nat×bc)} (h:Fn prog f (ap 1001::args) (c8 d.im) [] res (c8 d.im)) (ah:eN M d.am=some (kw d)) (E:nA 1001 [1002,1003,1004] (ap 1001::args) (c8 d.im) [] [] []=true) (G:nB 1001 (mh [1002,1003,1004] [] []) res (c8 d.im) []=true)
  (ag:(args.all fun v=>v.iy [])=true) (aS:res.iy []=true):Fn prog f (di d.am::args) [(1004,.aA (.bD M))] [] res [(1004,.aA (.bD M))]:=by
 have fx: ∀{v:aN},v.iy []=true->v.has 1001=false:=fun {v} ay=>by
  cases e:v.has 1001 with
  |false=>rfl
  |true=>exact ap0 (aN.kp ay e) List.not_mem_nil
 cases ao:d.cQ with
 |none=>
  rw[show kw d=iN d.im by unfold kw;rw[ao]] at ah;have J:Fn prog f (ap 1001::args) [(1001,.aA (iN d.im))] [] res [(1001,.aA (iN d.im))]:=Fn.close (bp:=c8 d.im) (dD:=c8 d.im) (aJ:=[]) (aP:=[]) [1002,1003,1004] aA6 (fun _ _ _ _ h=>h) (fun _ _ _ _ h=>h) E G;have:=(cz.bD (c:=1001) (q:=1004) (b:=d.am) (args:=args) (aJ:=[]) (bb:=[]) (X:=Unit) (res:=fun _=>res) (aP:=fun _=>[]) (o:=iN d.im) (o':=fun _=>iN d.im) (L:=M) J.x ah (ar3.2 fun v ay=>by rw[fx (ar3.1 ag v ay)];rfl) ⟨rfl,rfl⟩ rfl (fun _=>by rw[fx aS];rfl)).fn;rw[zb ah] at this;exact this
 |some bs=>
  rw[show kw d= .mP (c8 d.im) (fun c=>cond (Nat.beq c 1001) d.am (bs c)) by unfold kw;rw[ao]] at ah;exact Fn.abV (c:=1001) h ah rfl rfl ag aS
def adZ {s:bA} (aq:e6 s) {k:Nat} (Z:k < s.t.length):J6 s (k*2 ^s.z) (2 ^s.z)=ee s k none:=by
 have dI:=uj aq Z none;have ao:=iO aq.z;have cV:aH s=16*2 ^s.z:=rfl
 have bI:16*(k*2 ^s.z)/aH s=k:=by
  rw[cV,show 16*(k*2 ^s.z)=k*(16*2 ^s.z) by rw[ay3],Nat.mul_div_cancel _ az7]
 have em:16*(k*2 ^s.z)=k*aH s:=by rw[cV,ay3]
 have af:cD (aH s) (k*2 ^s.z) (2 ^s.z)=1:=by
  have au:=sV (a:=k*2 ^s.z) (l:=2 ^s.z) (k:=0) (nJ aq.z);have E:=sV (a:=k*2 ^s.z) (l:=2 ^s.z) (k:=1) (nJ aq.z);rw[bI,Nat.mul_add,em] at au E;rw[aw0] at au;rw[aw7] at E;have a0:=au.1 ⟨az7,az7⟩
  have bR: ¬1 < cD (aH s) (k*2 ^s.z) (2 ^s.z):=fun h=>by
   have:=(E.2 h).2;omega
  omega
 unfold J6;rw[af];show[]++zv s (k*2 ^s.z) (2 ^s.z) 0=_;rw[az4];unfold zv;have JI:(bg (aH s) (k*2 ^s.z) (2 ^s.z) 0).c=k:=by unfold bg;simp only[bI,aw0]
 have ad0:(bg (aH s) (k*2 ^s.z) (2 ^s.z) 0).a=0:=by
  show 16*(k*2 ^s.z) - (16*(k*2 ^s.z)/aH s+0)*aH s=0;rw[bI,aw0,em,Nat.sub_self]
 have um:(bg (aH s) (k*2 ^s.z) (2 ^s.z) 0).b=aH s:=by
  show min (16*(k*2 ^s.z+2 ^s.z) - (16*(k*2 ^s.z)/aH s+0)*aH s) (aH s)=aH s;rw[bI,aw0,Nat.mul_add,em,show 16*2 ^s.z=aH s from rfl,Nat.add_sub_cancel_left,Nat.min_self]
 rw[JI,ad0,um,List.drop_zero,au0 az7]
def ad1 {s:bA} (aq:e6 s) {k:Nat} (Z:k < s.t.length):dY s ((k*2 ^s.z:Nat):Int) ((2 ^s.z:Nat):Int)=0:=by
 have h:k*2 ^s.z+2 ^s.z<=eU s:=by
  have:=av5 (2 ^s.z) (show k+1<=s.t.length from Z);rw[aw7] at this;exact this
 unfold dY;generalize k*2 ^s.z=Q at*;generalize 2 ^s.z=P at*;rw[mu az7,mu az7]
structure mZ (z:Nat) (R:Nat) (L:aD5):Prop extends ir L where
 b3:z<=3
 vE:R<=512
 len:L.length<=16
 fQ: ∀d,d∈L->e6 d.im/\d.im.z=z/\d.im.l.length=R
 h9: ∀d,d∈L->d.back≠[]-> ∃e,dk L d.back=some e
 ne: ∀d,d∈L->d.nm≠[]
 s0: ∀d,d∈L-> ∃k,k<=8/\d9 L d.nm k
def Km {z R:Nat} {L:aD5} (h:mZ z R L) {nm:aD2} {k:Nat} (Z:d9 L nm k): ∀n,n∈c6 L k nm-> ∃e,dk L n=some e:=by
 induction Z with
 |gone _=>intro n hn;cases hn
 |base _ _=>intro n hn;cases hn
 | @step nm d k E G ag bl=>
  intro n hn;unfold c6 at hn;rw[E] at hn;rcases ap7.1 hn with rfl |hn
  .exact h.h9 d (cO E).1 G
  .exact bl n hn
def g7 (z:Nat) (L:aD5) (k:Nat):List aD2->Nat->aD2×Nat
 | [],_=>(List.replicate (16*2 ^z) 0,0)
 |n::ns,i=>match dk L n with
  |none=>([],0)
  |some d=>if k < d.im.t.length/\(d.im.t.getD k b7).1≠0 then(ee d.im k none,i+1) else g7 z L k ns (i+1)
def Rm {z R:Nat} {L:aD5} (h:mZ z R L) (k:Nat): ∀(ns:aF4) (i:Nat),(g7 z L k ns i).1.length<=128
 | [],i=>by
  show(List.replicate (16*2 ^z) (0:UInt8)).length<=128;rw[aq7];have:=iO h.b3;omega
 |n::ns,i=>by
  unfold g7
  cases e:dk L n with
  |none=>exact ap9 _
  |some d=>
   simp only
   split
   .rename_i bf;obtain⟨fd,gD,_⟩:=h.fQ d (cO e).1;rw[uj fd bf.1 none];exact(sU fd.z).2
   .exact Rm h k ns (i+1)
abbrev Fv (z:Nat) (k:Nat) (l:aF4) (j:Nat):aW:=[(0,ap 1001),(2,ab (k:Int)),(8,ab ((2 ^z:Nat):Int)),(24,b0 .str l),(25,ab (l.length:Nat)),(26,ab (j:Nat))]
abbrev ad2 (z:Nat) (nm:aD2) (k:Nat):aW:=[(1000000+(1000000+20),.undef),(0,ap 1001),(1,bS nm),(2,ab (k:Int)),(8,ab ((2 ^z:Nat):Int))]
def ad3:(prog.info? 9).map (fun i=>(i.zero,i.size,i.bytes))=some (some (.string ⟨#[]⟩),1,16):=by kernel_rfl
def ad4 (z R:Nat) (L:aD5) (dM:mZ z R L) (nm:aD2) (bN:aL) (au:dk L nm=some bN) (cK:Nat) (hX:d9 L nm cK) (o6:cK<=100) (k:Nat) (Z:k<=100000):
  Fn prog 179 [ap 1001,bS nm,ab (k:Int)] (bM z R L) [] (.cm [.one (.d (.cr .u8 (g7 z L k (nm::c6 L cK nm) 0).1)),.one (.d (.int .i64 (((g7 z L k (nm::c6 L cK nm) 0).2:Nat):Int)))]) (bM z R L):=by
 obtain⟨pW,hq,hr⟩:=k8 xz;obtain⟨aoG,ad5,ad6,ad7,aoH⟩:=info_parts ad3;have ao:=iO dM.b3;have bZ:=o5 hX
 have g8: ∀n,n∈nm::c6 L cK nm-> ∃e,dk L n=some e:=fun n hn=>by
  rcases ap7.1 hn with rfl |hn
  .exact⟨bN,au⟩
  .exact Km dM hX n hn
 have af:(1:Int)*((2 ^z:Nat):Int)=((2 ^z:Nat):Int):=Int.one_mul _;obtain⟨l,ak⟩: ∃l,l=nm::c6 L cK nm:=⟨_,rfl⟩;have mm:l.length=cK+1:=by rw[ak,as9,bZ]
 refine aU [2,5,6,7,8,10] func179 ?_;have m1:(0:Int)<=1/\(0:Int)<=(z:Int)/\(z:Int)<=64:=by have:=dM.b3;omega
 have m2:(-9223372036854775808:Int)<=1*((2 ^z:Nat):Int)/\(1:Int)*((2 ^z:Nat):Int)<=9223372036854775807:=by rw[af];omega
 refine⟨m1,m2,bB.i' 20 az8 <| bx [5,6,7,8,10] (ac.sub (K':=ad2 z nm k) (B':=bM z R L) ⟨trivial,rfl,rfl,rfl,af,trivial⟩ aE) <| bo (abt (d:=20) rfl underlying37 ad5 ad6 ad7 rfl) ?_⟩;refine az (zG z R L dM.toir nm cK hX az7) ?_;have hh: [nm].length+(c6 L cK nm).length<=4294967296:=by rw[bZ];simp;omega
 refine⟨hh,rfl,ed [5,6,7,8,10] (X:=Nat) (Fv z k l) (fun _=>bM z R L) (fun j=>j<=l.length/\g7 z L k (l.drop j) j=g7 z L k l 0) (fun j=>l.length - j) 0 ⟨ap9 _,by rw[List.drop_zero]⟩ ?_ ?_⟩
 .subst ak;exact(ac.dX (e:=9) (u:=.str) (xs:=nm::c6 L cK nm) 24 rfl).trans (ac.sub aE aE)
 rintro j ⟨V,i7⟩;rw[<-ak];refine⟨fun h=>?_,fun h=>?_⟩
 .have h:decide ((j:Int) < (l.length:Nat))=true:=h;have fM:j < l.length:=aA6
  obtain⟨d,H⟩:=g8 l[j] (by rw[<-ak];exact ar4 fM);have Fw:=(cO H).1;obtain⟨fd,gD,mt⟩:=dM.fQ d Fw;have ls:=dM.toir.D Fw;have fl:=dM.toir.M Fw;have hx:(bV (aI:=.str) (aK:=.aM) (da L) l[j]).getD (cM .aM)=some d.ad:=by rw[jN,H];rfl
  have B6:l.drop j=l[j]::l.drop (j+1):=aw3 fM
  have qS:g7 z L k (l.drop j) j=if k < d.im.t.length/\(d.im.t.getD k b7).1≠0 then(ee d.im k none,j+1) else g7 z L k (l.drop (j+1)) (j+1):=by
   rw[B6];show(match dk L l[j] with |none=>([],0) |some d=>_)=_;rw[H]
  have m3:(0:Int)<=(j:Int):=aA5
  have qQ:c5 ((j:Int)+1):=aA5
  refine⟨m3,l[j],j2 (n:=j) fM,?_⟩;generalize l[j]=n at*;refine bx [6,7,8,10] (cH ((9,ab (j:Nat))::(10,bS n)::Fv z k l j) (bM z R L)) <| bo (fun N=>kr (b:=d.ad) rfl aC3 N) ?_;refine bo (fun N=>kO rfl underlying106 rfl rfl hq aB3 rfl N) ?_;refine bo (ml (q:=1003) rfl underlying46 rfl rfl rfl ls rfl) ?_;refine bx [7,8,10] (cH ((9,ab (j:Nat))::(11,di d.am)::Fv z k l j) (bM z R L)) <| az (hG (mV d.im) fl rfl rfl rfl rfl) ⟨fun E=>?_,fun E=>?_⟩
  .have E:(k:Int) < (d.im.t.length:Nat):=gd E;have cl:k < d.im.t.length:=aA5
   refine az (hG (zx d.im fd.ez k cl) fl rfl rfl rfl rfl) ⟨fun G=>?_,fun G=>?_⟩
   .have G:(d.im.t.getD k b7).1≠0:=by
     have G:(!decide ((d.im.t.getD k b7).1=0))=true:=G;simpa using G
    rw[qS,vj ⟨cl,G⟩] at i7;have dW:=ad1 fd cl;have oA:=Q9 d.im fd (k*2 ^d.im.z) (2 ^d.im.z) dW;rw[adZ fd cl] at oA;rw[gD] at oA dW;have dy:((k*2 ^z:Nat):Int)=(k:Int)*((2 ^z:Nat):Int):=aw9 _ _;rw[dy] at oA
    have jf:c5 ((k:Int)*((2 ^z:Nat):Int)):=by
     rw[<-dy];have:=au6 Z ao.2;omega
    refine bx [8,10] (cH ((9,ab (j:Nat))::(11,di d.am)::Fv z k l j) (bM z R L)) ⟨jf,az (hG oA fl rfl rfl rfl rfl) <| bx [] (bu) ?_⟩;have sW:c5 ((j:Int)+1):=aA5
    refine⟨sW,_,_,_,bu,rfl,⟨?_,?_,trivial⟩,aE,rfl⟩
    .exact ap1 Prod.fst i7
    .show(j:Int)+1=_;rw[<-i7];rfl
   .have G:(d.im.t.getD k b7).1=0:=by
     have G:(!decide ((d.im.t.getD k b7).1=0))=false:=G;simpa using G
    rw[qS,mu (fun h=>h.2 G)] at i7;exact⟨qQ,j+1,⟨fM,i7⟩,az7,ac.sub aE aE⟩
  .have E: ¬(k:Int) < (d.im.t.length:Nat):=oj E;rw[qS,mu (fun h=>E (by have:=h.1;omega))] at i7;exact⟨qQ,j+1,⟨fM,i7⟩,az7,ac.sub aE aE⟩
 .have h:decide ((j:Int) < (l.length:Nat))=false:=h;have fM:j=l.length:=aD0
  subst fM;rw[List.drop_length] at i7;have zH:((2 ^z:Nat):Int)*16=((16*2 ^z:Nat):Int):=aA5
  have Kn:c5 (((2 ^z:Nat):Int)*16):=by rw[zH];omega
  have Ko:((2 ^z:Nat):Int)*16=((2 ^z:Nat):Int)*16/\(0:Int)<=((2 ^z:Nat):Int)*16/\((2 ^z:Nat):Int)*16<=4294967296:=by rw[zH];omega
  refine bx [] (bu) ⟨Kn,Ko,rfl,_,_,_,ac.dX 65 rfl,rfl,⟨?_,?_,trivial⟩,aE,rfl⟩
  .have ad8:List.replicate (((2 ^z:Nat):Int)*16).toNat (0:UInt8)=(g7 z L k l 0).1:=by
    rw[<-i7,zH];rfl
   exact ad8
  .show(0:Int)=_;rw[<-i7];rfl
def ad9 {a b:Int} (E:0<=a) (G:a<=9223372036854775807) (ag:0<=b) (aS:b<=9223372036854775807):
  IntKind.i64.wrap (((BitVec.ofInt 64 a &&& BitVec.ofInt 64 b).toNat:Nat):Int)=((a.toNat &&& b.toNat:Nat):Int):=by
 have af:(BitVec.ofInt 64 a).toNat=a.toNat:=by rw[BitVec.toNat_ofInt];omega
 have al:(BitVec.ofInt 64 b).toNat=b.toNat:=by rw[BitVec.toNat_ofInt];omega
 rw[BitVec.toNat_and,af,al];have h:a.toNat &&& b.toNat < 2 ^63:=Nat.and_lt_two_pow _ az7;exact yA (by simp only[u3];omega)
def Kp {P:aD9} {ids:aD3} {K:aW} {B:av} {o:Oper} {T fY:aE4} {x y:aE0} {a b:Int} (ai:o.op= .binOp .and T x y fY) (hx:a1 K x= .c (.one (.d (.int .i64 a)))) (aC:a1 K y= .c (.one (.d (.int .i64 b)))) (E:0<=a) (G:a<=9223372036854775807) (ag:0<=b) (aS:b<=9223372036854775807) (N:Nat):
  bC P N ids o K B (.c (.one (.d (.int .i64 ((a.toNat &&& b.toNat:Nat):Int))))) ⟨[],[],[]⟩:=by
 have m1:x∈o.op.operands:=aA4
 have m2:y∈o.op.operands:=aA4
 refine bC.val fun K' B' g1 g2 C ρ F fj w ah ar=>?_
 have af:=ar.int ((g1 x m1).trans hx);have al:=ar.int ((g1 y m2).trans aC);refine⟨_,?_,rfl⟩;have e:=ad9 E G ag aS
 have ax:Op.intBits .and .i64 a b=pure (.int .i64 ((a.toNat &&& b.toNat:Nat):Int)):=by
  exact ap1 (fun aF:Int=>(pure (Value.int .i64 aF):Sem Value)) e
 simp only[execOp,ai,af,al,eqGuard,binOp,ax];simp[go_sem]
def fe (z:Nat) (L:aD5) (nm:aD2) (cK k:Nat):aD2:=(g7 z L k (nm::c6 L cK nm) 0).1
def Kq (z R:Nat) (L:aD5) (dM:mZ z R L) (nm:aD2) (bN:aL) (au:dk L nm=some bN) (cK:Nat) (hX:d9 L nm cK) (o6:cK<=100) (k:Nat) (Z:k < bN.im.t.length):
  Fn prog 114 [ap 1001,bS nm,ab (k:Int)] (bM z R L) [] (b0 .u8 (fe z L nm cK k)) (bM z R L):=by
 obtain⟨pW,hq,hr⟩:=k8 xz;have H:=(cO au).1;obtain⟨fd,gD,mt⟩:=dM.fQ bN H;have ls:=dM.toir.D H;have fl:=dM.toir.M H;have hx:(bV (aI:=.str) (aK:=.aM) (da L) nm).getD (cM .aM)=some bN.ad:=aC5
 have mX:=fd.ez;refine aU [2,4] func114 ?_;refine bx [4] (bu) ?_;refine⟨fun eb O=>⟨fun h=>ap0 (gd h) az7,fun _=>bo (fun N=>kr (b:=bN.ad) rfl aC3 N) ?_⟩,fun O=>ap0 (show(bV (aI:=.str) (aK:=.aM) (da L) nm).getD (cM .aM)=none from O) aB4⟩;refine bo (fun N=>kO rfl underlying106 rfl rfl hq aB3 rfl N) ?_;refine bo (ml (q:=1003) rfl underlying46 rfl rfl rfl ls rfl) ?_;refine az (hG (mV bN.im) fl rfl rfl rfl rfl) ⟨fun h=>?_,fun _=>?_⟩
 .exfalso;have h:((bN.im.t.length:Nat):Int)<=(k:Int):=gd h;omega
 exact bx [] (cH [(0,ap 1001),(1,bS nm),(2,ab (k:Int))] (bM z R L)) <| az (ad4 z R L dM nm bN au cK hX o6 k az7) bd
def ad' (z R:Nat) (E:z<=3) (ag:R<=512):Fn prog 61 [ab (z:Int),ab (R:Int)] [] [1001,1002,1003,1004] (.cm [.one (.ptr 1001 0),dJ 0]) (bM z R []):=by refine aU [2] func61 ?_;exact az (Fn.a7 [(1001,2001),(1002,2002),(1003,2003),(1004,2004)] (adQ z 0 R E az8 ag)) <| bx [] (cH [(0,ab (z:Int)),(1,ab (R:Int)),(7,ab 0)] []) <| dR ⟨rfl,rfl,_,_,_,(ac.a7 21 1001 rfl).trans ((ac.a7 19 1002 rfl).trans ((ac.t7 1003 rfl).trans (ac.t7 1004 rfl))),rfl,aE,aE,rfl⟩
def ji (z:Nat) (L:aD5) (nm:aD2) (cK s:Nat):aD2:=((fe z L nm cK (s/2 ^z)).take (s % 2 ^z*16+16)).drop (s % 2 ^z*16)
def jw (z:Nat) (L:aD5) (nm:aD2) (cK a:Nat):Nat->aD2
 |0=>[]
 |j+1=>jw z L nm cK a j++ji z L nm cK (a+j)
def Kr {z R:Nat} {L:aD5} (h:mZ z R L) (k:Nat): ∀(ns:aF4) (i:Nat),(∀n,n∈ns-> ∃e,dk L n=some e)->(g7 z L k ns i).1.length=16*2 ^z
 | [],i,_=>aq7
 |n::ns,i,hn=>by
  obtain⟨d,e⟩:=hn n (aq4 ..);unfold g7;rw[e];simp only
  split
  .rename_i bf;obtain⟨fd,gD,_⟩:=h.fQ d (cO e).1;rw[uj fd bf.1 none];show 16*2 ^d.im.z=_;rw[gD]
  .exact Kr h k ns (i+1) fun n aD=>hn n (ap4 _ aD)
def xA {z R:Nat} {L:aD5} (h:mZ z R L) {nm:aD2} {bN:aL} (au:dk L nm=some bN) {cK:Nat} (hX:d9 L nm cK) (k:Nat):(fe z L nm cK k).length=16*2 ^z:=
 Kr h k _ 0 fun n hn=>by
  rcases ap7.1 hn with rfl |hn
  .exact⟨bN,au⟩
  .exact Km h hX n hn
def Cf {z R:Nat} {L:aD5} (h:mZ z R L) {nm:aD2} {bN:aL} (au:dk L nm=some bN) {cK:Nat} (hX:d9 L nm cK) (a:Nat): ∀j,(jw z L nm cK a j).length=16*j
 |0=>rfl
 |j+1=>by
  have bl:=Cf h au hX a j;have J:=xA h au hX ((a+j)/2 ^z);have ao:=(iO h.b3).1;have aD:(a+j) % 2 ^z < 2 ^z:=Nat.mod_lt _ az7;show(jw z L nm cK a j++ji z L nm cK (a+j)).length=_;rw[ap3,bl];unfold ji;rw[au8,aq0,J];generalize(a+j) % 2 ^z=m at*;generalize 2 ^z=P at*;omega
abbrev Rn (nm:aD2) (a l j:Nat):aW:=[(0,ap 1001),(1,bS nm),(2,ab (a:Int)),(3,ab (l:Int)),(13,eX 5002),(14,ab ((a+j:Nat):Int))]
abbrev aea (nm:aD2) (a l j:Nat):aW:=[(0,ap 1001),(1,bS nm),(2,ab (a:Int)),(3,ab (l:Int)),(13,eX 70),(14,ab ((a+j:Nat):Int))]
abbrev Ro (z R:Int) (L:aD5) (acc:aD2):av:=bM z R L++[(5002,.row 5 .u8 acc)]
abbrev aeb (z R:Int) (L:aD5) (acc:aD2):av:=bM z R L++[(70,.row 5 .u8 acc)]
def aec (z R:Nat) (L:aD5) (dM:mZ z R L) (nm:aD2) (bN:aL) (au:dk L nm=some bN) (cK:Nat) (hX:d9 L nm cK) (o6:cK<=100) (a l:Nat) (dW:dY bN.im a l=0):
  Fn prog 57 [ap 1001,bS nm,ab (a:Int),ab (l:Int)] (bM z R L) [2001] (.cm [.one (.own 2001),dJ 0]) (bM z R L++[(2001,.row 5 .u8 (jw z L nm cK a l))]):=by
 obtain⟨pW,hq,hr⟩:=k8 xz;have H:=(cO au).1;obtain⟨fd,gD,mt⟩:=dM.fQ bN H;have ls:=dM.toir.D H;have fl:=dM.toir.M H;have hx:(bV (aI:=.str) (aK:=.aM) (da L) nm).getD (cM .aM)=some bN.ad:=aC5
 have ao:=iO dM.b3;have dA:=oz dW;have xu:eU bN.im<=2048:=au6 fd.ez (iO fd.z).2;have Cg:eU bN.im=bN.im.t.length*2 ^z:=by unfold eU;rw[gD]
 refine aU [2,5,7,9,11,12] func57 ?_;refine bx [5,7,9,11,12] (bu) ?_;refine⟨fun eb O=>bo (fun N=>kr (b:=bN.ad) rfl aC3 N) ?_,fun O=>ap0 (show(bV (aI:=.str) (aK:=.aM) (da L) nm).getD (cM .aM)=none from O) aB4⟩;refine bo (fun N=>kO rfl underlying106 rfl rfl hq aB3 rfl N) ?_;refine bo (ml (q:=1003) rfl underlying46 rfl rfl rfl ls rfl) ?_;refine az (hG (Q9 bN.im fd a l dW) fl rfl rfl rfl rfl) <| bx [7,9,11,12] (cH [(0,ap 1001),(1,bS nm),(2,ab (a:Int)),(3,ab (l:Int)),(12,ab 0)] (bM z R L)) <| dR <| bx [9,11,12] (bu) <| ed [11,12] (X:=Nat) (Rn nm a l) (fun j=>Ro z R L (jw z L nm cK a j)) (fun j=>j<=l) (fun j=>l - j) 0 (ap9 _) ?_ ?_
 .exact(ac.nil 13 5002 5 .u8 rfl rfl).trans (ac.sub aE aE)
 intro j V;have m1:c5 ((a:Int)+(l:Int)):=aA5
 refine⟨m1,fun h=>?_,fun h=>?_⟩
 .have h:((a+j:Nat):Int) < (a:Int)+(l:Int):=gd h;have rn:j < l:=aA5
  have Ks:=Cf dM au hX a j
  have cl:(a+j)/2 ^z < bN.im.t.length:=by
   rw[aw8 az7,<-Cg];omega
  have dI:=xA dM au hX ((a+j)/2 ^z);have NU:(a+j) % 2 ^z < 2 ^z:=Nat.mod_lt _ az7;have aed:=Kq z R L dM nm bN au cK hX o6 ((a+j)/2 ^z) cl;have m2:(0:Int)<=((a+j:Nat):Int)/\(0:Int)<=(z:Int)/\(z:Int)<=64:=by have:=dM.b3;omega
  have m3:(0:Int)<=1/\(0:Int)<=(z:Int)/\(z:Int)<=64:=by have:=dM.b3;omega
  have af:(1:Int)*((2 ^z:Nat):Int)=((2 ^z:Nat):Int):=Int.one_mul _;have jf:(-9223372036854775808:Int)<=1*((2 ^z:Nat):Int)/\(1:Int)*((2 ^z:Nat):Int)<=9223372036854775807:=aD1
  have sW:(-9223372036854775808:Int)<=1*((2 ^z:Nat):Int) - 1/\(1:Int)*((2 ^z:Nat):Int) - 1<=9223372036854775807:=aD1
  refine bx [12] (bu) ⟨m2,m3,jf,sW,?_⟩;have et:(1*((2 ^z:Nat):Int) - 1).toNat=2 ^z - 1:=aD1
  have ev:(((((a+j:Nat):Int)).toNat &&& (1*((2 ^z:Nat):Int) - 1).toNat:Nat):Int)=(((a+j) % 2 ^z:Nat):Int):=by
   rw[et,show(((a+j:Nat):Int)).toNat=a+j from rfl,Nat.and_two_pow_sub_one_eq_mod]
  have zH:(((((a+j:Nat):Int)).toNat &&& (1*((2 ^z:Nat):Int) - 1).toNat:Nat):Int)*16=(((a+j) % 2 ^z*16:Nat):Int):=by rw[ev];omega
  have aee:((a+j:Nat):Int)/((2 ^z:Nat):Int)=(((a+j)/2 ^z:Nat):Int):=rfl
  have qQ:c5 ((((((a+j:Nat):Int)).toNat &&& (1*((2 ^z:Nat):Int) - 1).toNat:Nat):Int)*16):=by
   rw[zH];generalize(a+j) % 2 ^z=m at*;generalize 2 ^z=P at*;omega
  refine bo (fun N=>Kp rfl rfl rfl m2.1 az7 aD1 sW.2 N) ?_;refine⟨qQ,rfl,?_⟩
  have Kn:c5 ((((a+j) % 2 ^z*16:Nat):Int)+16):=by
   generalize(a+j) % 2 ^z=m at*;generalize 2 ^z=P at*;omega
  have Ko:(0:Int)<=(((a+j) % 2 ^z*16:Nat):Int)/\(((a+j) % 2 ^z*16:Nat):Int)<=(((a+j) % 2 ^z*16:Nat):Int)+16/\(((a+j) % 2 ^z*16:Nat):Int)+16<=(((fe z L nm cK ((a+j)/2 ^z)).length:Nat):Int):=by
   rw[dI];generalize(a+j) % 2 ^z=m at*;generalize 2 ^z=P at*;omega
  have Kt:(jw z L nm cK a j).length+(ji z L nm cK (a+j)).length<=4294967296:=by
   have:=Cf dM au hX a (j+1);rw[show jw z L nm cK a (j+1)=jw z L nm cK a j++ji z L nm cK (a+j) from rfl,ap3] at this;omega
  refine bx [] (ac.sub (K':=(15,ab (((a+j)/2 ^z:Nat):Int))::(16,ab (((a+j) % 2 ^z*16:Nat):Int))::Rn nm a l j) (B':=Ro z R L (jw z L nm cK a j)) ⟨aee,zH,rfl,rfl,rfl,rfl,rfl,rfl,trivial⟩ aE) <| az aed ⟨Kn,Ko,Kt,rfl,?_⟩;have aef:c5 (((a+j:Nat):Int)+1):=aA5
  exact⟨aef,j+1,az7,az7,ac.trans (cH (aea nm a l (j+1)) (aeb z R L (jw z L nm cK a (j+1)))) (ac.a7 70 5002 rfl)⟩
 .have h: ¬((a+j:Nat):Int) < (a:Int)+(l:Int):=oj h;have rn:j=l:=aA5
  subst rn;exact⟨_,_,_,ac.a7 5002 2001 rfl,rfl,aE,aE,rfl⟩
def aeg (z R:Nat) (L:aD5) (dM:mZ z R L) (nm:aD2) (bN:aL) (au:dk L nm=some bN) (cK:Nat) (hX:d9 L nm cK) (o6:cK<=100) (a l:Nat) (dW:dY bN.im a l=0):
  Fn prog 57 [ap 1001,bS nm,ab (a:Int),ab (l:Int)] (bM z R L) [] (.cm [.one (.d (.cr .u8 (jw z L nm cK a l))),dJ 0]) (bM z R L):=
 Fn.ac7 (d:=2001) (aec z R L dM nm bN au cK hX o6 a l dW) rfl rfl rfl
def aeh (z R:Int) (L:aD5) (nm:aD2) (au:dk L nm=none) (a l:Int):
  Fn prog 57 [ap 1001,bS nm,ab a,ab l] (bM z R L) [] (.cm [.one .dc,dJ 140]) (bM z R L):=by
 have hx:(bV (aI:=.str) (aK:=.aM) (da L) nm).getD (cM .aM)=none:=aC5
 refine aU [] func57 ?_;exact⟨fun eb O=>ap0 (show(bV (aI:=.str) (aK:=.aM) (da L) nm).getD (cM .aM)=some eb from O) aB4,fun _=>bd⟩
def aei (z R:Nat) (L:aD5) (dM:mZ z R L) (nm:aD2) (bN:aL) (au:dk L nm=some bN) (a l:Int) (dW:dY bN.im a l≠0):
  Fn prog 57 [ap 1001,bS nm,ab a,ab l] (bM z R L) [] (.cm [.one .dc,dJ (dY bN.im a l)]) (bM z R L):=by
 obtain⟨pW,hq,hr⟩:=k8 xz;have H:=(cO au).1;obtain⟨fd,gD,mt⟩:=dM.fQ bN H;have ls:=dM.toir.D H;have fl:=dM.toir.M H;have hx:(bV (aI:=.str) (aK:=.aM) (da L) nm).getD (cM .aM)=some bN.ad:=aC5
 refine aU [] func57 ?_;refine⟨fun eb O=>bo (fun N=>kr (b:=bN.ad) rfl aC3 N) ?_,fun O=>ap0 (show(bV (aI:=.str) (aK:=.aM) (da L) nm).getD (cM .aM)=none from O) aB4⟩;refine bo (fun N=>kO rfl underlying106 rfl rfl hq aB3 rfl N) ?_;refine bo (ml (q:=1003) rfl underlying46 rfl rfl rfl ls rfl) ?_;refine az (hG (adq bN.im fd a l dW) fl rfl rfl rfl rfl) ?_;exact⟨fun _=>bd,fun h=>ap0 (show dY bN.im a l=0 by have h:(!decide (dY bN.im a l=0))=false:=h;simpa using h) dW⟩
end
section
open Go.RowKit Go.Proofs Go.Maps Go.Shelf Go.MapKept _root_.Go.Proofs.Tryz Tryz
open Go.WideElems (Fit rd rg pl rd_val rd_key rg_of)
def aej {aK:bz} (p:aa .str×aa aK):aD2:=p.1
def pX {aK:bz} (es:List (aa .str×aa aK)):List aD2:=es.map aej
def vF {aK:bz} (es:List (aa .str×aa aK)):List aD2:=(pX es).mergeSort leB
abbrev o7:Value->Option (DataW Unit×List MemPlace):=fun _=>some (.nil,[])
def Rp {I:Nat->Prop} {w:aD8} {aK:bz}: ∀{l:List (aa .str×aa aK)} {es:aF0},h4 I w .str aK l es->es.map (·.key)=(pX l).map encStr
 | [],_,h=>by rw[show _=[] from h];rfl
 |p::l,_,⟨e,r,h,E,_,ag⟩=>by
  rw[h,aq5,Rp ag,E];rfl
def aek {P:aD9} {k:aE4} (Z:P.underlying k=some .string) (s:aD2) (h:s.length<=maxLen):keyOf P k (encStr s)=some (.string s):=by simp only[keyOf,Z,encStr,mapKey,ByteArray.size,List.size_toArray];rw[vj h]
def Rq: ∀{l m:aF4},l.map encStr=m.map encStr->l=m
 | [],[],_=>rfl
 | [],_::_,h=>by simp at h
 |_::_,[],h=>by simp at h
 |x::l,y::m,h=>by
  simp only[aq5,List.cons.injEq] at h;rw[encStr_inj h.1,Rq h.2]
def ael {P:aD9} {k:aE4} (Z:P.underlying k=some .string) {I:Nat->Prop} {w:aD8} {aK:bz} {es:List (aa .str×aa aK)} {bP:aF0} {bU b:Nat} (O:w.heap[b]? =some (.map (List.toArray bP) bU))
  (aD:h4 I w .str aK es bP) (dh:lB bP bU) (hn:(pX es).Nodup) (ak: ∀s∈pX es,s.length<=maxLen) (ax:es.length<=maxLen):
  ∃jj,w.ownsMap P k o7 b es.length jj/\Maps.size jj=es.length/\(strKeys jj).Perm (pX es):=by
 have bZ:=AU aD;have xB:=Rp aD
 have Ch: ∀x∈bP,∃s:aD2,x.key=encStr s/\s.length<=maxLen/\rg P k o7 x=(.string s,.nil)/\ ∃y,rd P k o7 x=some y:=by
  intro x hx;have:x.key∈(pX es).map encStr:=by rw[<-xB];exact ar8 hx
  obtain⟨s,ao,U⟩:=ar6.1 this;have Ku:keyOf P k x.key=some (.string s):=U▸aek Z _ (ak s ao);have oA:rd P k o7 x=some (.string s,.nil):=by simp[rd,Ku]
  exact⟨s,U.symm,ak s ao,rg_of oA,_,oA⟩
 have oB:=Go.WideShapes.sorted_perm (bP.map (rg P k o7))
 have hX:(bP.map (rg P k o7)).map (fun p=>strOf p.1)=pX es:=by
  refine Rq ?_;rw[<-xB,at6,at6];refine ar9 fun x hx=>?_
  obtain⟨s,af,_,al,_⟩:=Ch x hx;simp[al,af,strOf]
 refine⟨.map ((bP.map (rg P k o7)).foldr DataW.insert []),⟨List.toArray bP,bU,O,⟨by simp[bZ];exact ax,(stamped_iff _ _).2 ⟨dh.2,dh.1.imp fun h=>by omega,?_⟩,fun x hx=>(Ch x hx).choose_spec.2.2.2⟩,by simp[bZ],rfl⟩,?_,?_⟩
 .have E:(bP.map (·.key)).Pairwise (· ≠ ·):=by
   rw[xB];exact List.pairwise_map.2 (hn.imp fun a6 e=>a6 (encStr_inj e))
  exact List.pairwise_map.1 E
 .show List.length _=_;rw[oB.length_eq,aq3,bZ]
 .show(List.map (fun p=>strOf (Prod.fst p)) _).Perm _;rw[<-hX];exact oB.map _
def aem (es:List (aa .str×aa .aM)):Fn prog 41 [.c (.one (.mp 1001))] [(1001,.map .str .aM es)] [2001] (.c (.one (.cW 99 [.p 2001 0]))) [(2001,.cells [.mp 1001]),(1001,.map .str .aM es)]:=by refine aU [] func41 ?_;exact⟨rfl,_,_,_,ac.a7 1 2001 rfl,rfl,rfl,aE,rfl⟩
def hy.aen {I D:Nat->Prop} {w:aD8} {v:aE7} {l:aF4} (h:hy D w 1 v l.length (l.map encStr)) (cx: ∀b,b < w.heap.size->D b->I b):cw I w (.ce .str) l (fun _=>some v):=by obtain⟨_,A,c,au,E,G,ag⟩:=h;refine⟨A,c,ap1 some au,E,G,fun ao=>?_⟩;obtain⟨b,o,eR,O,br,hx⟩:=ag ao;refine⟨b,o,eR,cx b br O,fun i x aG=>?_⟩;have:=hx i (encStr x) (by rw[ar1,show l[i]? =some x from aG];rfl);simpa[cw,aR,encStr] using this
def aeo (m:Nat):AnyZ.SortsIn prog Qd Fence.wide m:=
 ⟨fun bh off cap gY W c9 jH cL=>callsIn_wide.2 (AnyM.slices_Sort_string Qe bh off cap gY W c9 jH cL),
  fun p cap W=>callsIn_wide.2 (AnyM.slices_Sort_string_none Qe p cap W)⟩
def aep (es:List (aa .str×aa .aM)) (hn:(pX es).Nodup) (ak: ∀s∈pX es,s.length<=maxLen) (ax:es.length<=4294967296):
  Fn prog 40 [.c (.one (.cW 99 [.p 2001 0]))] [(2001,.cells [.mp 1001]),(1001,.map .str .aM es)] [] (b0 .str (vF es)) [(2001,.cells [.mp 1001]),(1001,.map .str .aM es)]:=by
 refine⟨aA0,fun ρ F I w bW aZ c9 bj ew bZ dz=>?_⟩
 match bW,bZ with
 | [v],_=>
  obtain⟨aB,ay,gq,r,hm,lO,aw⟩:=dz 0 _ v rfl rfl;have aw:r=[]:=aw;have lO:gq= .pointer (some ⟨(ρ 2001).bh,0,none⟩):=lO;subst aw lO hm ay;obtain⟨_,aB,T,jd,hm⟩:=c9 2001 _ rfl;obtain⟨x,r,hm,hx,aw⟩:=hm;have aw:r=[]:=aw;have hx:x= .map (some (ρ 1001).bh):=hx;subst aw hx hm;obtain⟨_,bP,bU,iZ,aD,dh⟩:=c9 1001 _ rfl;have Fx:(4294967296:Nat)<=maxLen:=by decide
  obtain⟨jj,dP,cL,oB⟩:=ael (P:=prog) (k:=9) aA0 iZ aD dh hn ak az7;have br:(ρ 2001).bh < w.heap.size:=l0 jd
  have un:SeqGives Fence.wide 2 prog 99 #[.pointer (some ⟨(ρ 2001).bh,0,none⟩)] encStr (fun gY=>gY.Perm (strKeys jj)) (Maps.size jj) w:=
   AnyZ.keys_gives (ρ:=Qc) {ab0 with} Fence.wide _ trivial rfl az7 (ρ 2001).bh (ρ 1001).bh es.length jj w br (od jd rfl) dP
  have J:=AnyZ.sorted_in ab1 Fence.wide 5 trivial trivial trivial trivial rfl az7 (aeo _) (enters_of func98 aA0 rfl) 99 #[.pointer (some ⟨(ρ 2001).bh,0,none⟩)] trivial (enters_of func99 aA0 rfl) _ _ aC2 aC2 _ un;refine(callsIn_wide.1 J).mono ?_;rintro e w' ⟨v,gY,rfl,ar,fN,zI,gx⟩;have a2:cj I w (fun b=>b < w'.heap.size/\(I b\/w.heap.size<=b)) w':=fun b ia=>⟨⟨aq8 (aZ b ia) gx.size,.inl ia⟩,gx.block b (aZ b ia)⟩
  refine⟨v,ρ,F,rfl,cR.qh gx,fun _ _=>rfl,_,a2,fun b h=>⟨h.1,h.2.imp id .inr⟩,fun c ch J=>Holds.cg a2 (fun b O=>gx.block b (bj c ch J b O).1) gx.size ch (fun _ _=>rfl) (c9 c ch J),fun c ch J b O=>?_,fun c ck ch ch' b E G=>ew c ck ch ch' b E G,?_⟩
  .have:=bj c ch J b O;exact⟨aq8 this.1 gx.size,fun h=>(by rcases h.2 with h |h;exact this.2 h;omega),.inl ⟨c,ch,J,O⟩⟩
  .have Z:gY.mergeSort (fun x y=>decide (x<=y))=vF es:=Go.mergeSort_of_perm (ar.trans oB);rw[Z] at fN;have h6:=hy.sk fN;have vG:gY.length=(vF es).length:=by rw[<-Z,List.length_mergeSort]
   rw[vG] at h6;exact(h6.yk fun i _ aG=>(fN.lt i aG).1).aen fun b E G=>⟨E,.inr G⟩
def Ci (L:aD5):pX (da L)=L.map (·.nm):=by unfold pX da;rw[at6];rfl
def kx (L:aD5):List aD2:=vF (da L)
def Rr {L:aD5} {n:aD2} (h:n∈kx L): ∃d,dk L n=some d:=by
 unfold kx vF at h;rw[List.mem_mergeSort,Ci] at h;obtain⟨d,H,e⟩:=ar6.1 h
 cases al:dk L n with
 |some d=>exact⟨d,rfl⟩
 |none=>
  unfold dk at al;have:=List.find?_eq_none.1 al d H;simp[e] at this
def Kv (L:aD5):(kx L).length=L.length:=by unfold kx vF;rw[List.length_mergeSort,Ci,aq3]
def Kw (z R:Int) (L:aD5) (fc:ir L) (ak: ∀d,d∈L->d.nm.length<=100000) (o8:L.length<=100):Fn prog 12 [ap 1001] (bM z R L) [] (b0 .str (kx L)) (bM z R L):=by
 have Z:(pX (da L)).Nodup:=by rw[Ci];exact fc.gE
 have aD: ∀s∈pX (da L),s.length<=maxLen:=fun s ax=>by
  rw[Ci] at ax;obtain⟨d,H,rfl⟩:=ar6.1 ax;exact av9 (ak d H) az8
 have ax:(da L).length<=4294967296:=by unfold da;rw[aq3];omega
 refine aU [] func12 ?_;exact az (Fn.a7 [(1001,1002),(2001,5001)] (aem (da L))) <| az (Fn.a7 [(1001,1002),(2001,5001)] (aep (da L) Z aD ax)) bd
def lP (L:aD5) (nm n:aD2):Bool:= !decide (nm=[])&&decide (((dk L n).map (·.back)).getD []=nm)
def qT (L:aD5) (nm:aD2):List aD2:=(kx L).filter (lP L nm)
abbrev Kx (nm:aD2) (l:aF4) (j:Nat):aW:=[(0,ap 1001),(1,bS nm),(5,eX 5002),(9,b0 .str l),(10,ab (l.length:Nat)),(11,ab (j:Nat))]
abbrev aeq (nm:aD2) (l:aF4) (j:Nat):aW:=[(0,ap 1001),(1,bS nm),(5,eX 33),(9,b0 .str l),(10,ab (l.length:Nat)),(11,ab (j:Nat))]
abbrev Ky (z R:Int) (L:aD5) (x:aF4):av:=bM z R L++[(5002,.row 9 .str x)]
abbrev aer (z R:Int) (L:aD5) (x:aF4):av:=bM z R L++[(33,.row 9 .str x)]
def aes (z R:Int) (L:aD5) (fc:ir L) (ak: ∀d,d∈L->d.nm.length<=100000) (o8:L.length<=100) (nm:aD2):Fn prog 135 [ap 1001,bS nm] (bM z R L) [] (b0 .str (qT L nm)) (bM z R L):=by
 obtain⟨pW,hq,hr⟩:=k8 Fs;have mK:=@Rr L;have bZ:=Kv L;have zk:=Kw z R L fc ak o8;unfold qT;generalize kx L=l at*;refine aU [5,6,8] func135 ?_;refine az zk <| ed [5,6,8] (X:=Nat) (Kx nm l) (fun j=>Ky z R L ((l.take j).filter (lP L nm))) (fun j=>j<=l.length) (fun j=>l.length - j) 0 (ap9 _) ?_ ?_
 .exact(ac.nil 5 5002 9 .str rfl rfl).trans (ac.sub aE aE)
 intro j V;refine⟨fun h=>?_,fun h=>?_⟩
 .have h:decide ((j:Int) < (l.length:Nat))=true:=h;have fM:j < l.length:=aA6
  obtain⟨d,H⟩:=mK (ar4 fM);have ls:=fc.D (cO H).1;have hx:(bV (aI:=.str) (aK:=.aM) (da L) l[j]).getD (cM .aM)=some d.ad:=by rw[jN,H];rfl
  have a8:lP L nm l[j]=(!decide (nm=[])&&decide (d.back=nm)):=by unfold lP;rw[H];rfl
  have qS:(l.take (j+1)).filter (lP L nm)=(l.take j).filter (lP L nm)++(if lP L nm l[j]=true then[l[j]] else[]):=by
   rw[at2 fM,List.filter_append]
   congr 1
   by_cases e:lP L nm l[j]=true
   .rw[vj e,List.filter_cons_of_pos e];rfl
   .rw[mu e,List.filter_cons_of_neg e];rfl
  have Kz:((l.take j).filter (lP L nm)).length<=j:=av9 (List.length_filter_le _ _) aB8;have m3:(0:Int)<=(j:Int):=aA5
  have qQ:c5 ((j:Int)+1):=aA5
  have l1:lP L nm l[j]=false->(l.take (j+1)).filter (lP L nm)=(l.take j).filter (lP L nm):=fun e=>by rw[qS,mu (by rw[e];decide),at3]
  refine⟨m3,l[j],j2 (n:=j) fM,?_⟩;generalize l[j]=n at*;refine bx [6,8] (cH ((7,bS n)::Kx nm l j) (Ky z R L ((l.take j).filter (lP L nm)))) ⟨fun E=>?_,fun E=>?_⟩
  .have E: ¬nm=[]:=by
    have E:(!decide (nm=[]))=true:=E;simpa using E
   refine bo (fun N=>kr (b:=d.ad) rfl aC3 N) ?_;refine bo (fun N=>kO rfl underlying106 rfl rfl hq aB3 rfl N) ?_;refine bo (ml (q:=1003) rfl underlying9 rfl rfl rfl ls rfl) ?_;refine⟨fun G=>?_,fun G=>?_⟩
   .have G:d.back=nm:=gd G;have D7:lP L nm n=true:=by rw[a8,as7 E,aq1 G];rfl
    rw[vj D7] at qS;have Kt:((l.take j).filter (lP L nm)).length+1<=4294967296:=aA5
    exact bx [] (cH ((7,bS n)::Kx nm l j) (Ky z R L ((l.take j).filter (lP L nm)))) ⟨Kt,rfl,qQ,j+1,fM,az7,ac.trans (ac.sub (K':=aeq nm l (j+1)) (B':=aer z R L ((l.take (j+1)).filter (lP L nm))) aE ⟨rfl,rfl,rfl,rfl,ap1 (fun l:List aD2=>some (ba.row 9 .str l)) qS.symm,trivial⟩) (ac.a7 33 5002 rfl)⟩
   .have G: ¬d.back=nm:=oj G;have Z:=l1 (by rw[a8,as7 G,Bool.and_false]);exact⟨qQ,j+1,fM,az7,ac.sub aE ⟨rfl,rfl,rfl,rfl,ap1 (fun l:List aD2=>some (ba.row 9 .str l)) Z.symm,trivial⟩⟩
  .have E:nm=[]:=by
    have E:(!decide (nm=[]))=false:=E;simpa using E
   have Z:=l1 (by rw[a8,aq1 E];rfl);exact⟨qQ,j+1,fM,az7,ac.sub aE ⟨rfl,rfl,rfl,rfl,ap1 (fun l:List aD2=>some (ba.row 9 .str l)) Z.symm,trivial⟩⟩
 .have h:decide ((j:Int) < (l.length:Nat))=false:=h;have fM:j=l.length:=aD0
  subst fM;have cq:(l.take l.length).filter (lP L nm)=l.filter (lP L nm):=by rw[ar2]
  exact bx [] (bu) ⟨_,_,_,ac.dX 5002 rfl,rfl,cq,aE,rfl⟩
def s1 (d:aL) (L:aD5) (nm:aD2):dk (d::L) nm=if d.nm=nm then some d else dk L nm:=by
 unfold dk;rw[List.find?_cons]
 by_cases e:d.nm=nm
 .rw[aq1 e,vj e]
 .rw[as7 e,mu e]
end
section
def aet:(prog.info? 5).map (fun i=>(i.zero,i.size,i.bytes))=some (some (.int .u8 0),1,1):=by kernel_rfl
def aeu (v:aE7) (l:aD2) (D:Nat->Prop) (w:aD8) (ay:px D w v l) (ax:l.length<=4294967296):
  Calls prog 199 #[v] w fun e w'=> ∃dp,e= .returned dp/\px (fun i=>w.heap.size<=i) w' dp l/\Below w.heap.size w w':=by
 obtain⟨A,c,rfl,e2,fw⟩:=ay.form;have Rs:=Lib.hid ay;clear ay;generalize hn:l.length=n at*;have Rt:=Lib.hid hn;clear hn;rcases A with _ |ad
 .have zI:=Lib.run_eql_slice_nil (P:=prog)
  have au:l=[]:=by
   obtain⟨ak,A',ck,U,_,_,ag⟩:=Rs.out;rcases ay1 l.length with h |h
   .exact at4 h
   .obtain⟨b,o,ha,_⟩:=ag h;subst ha;cases U
  have aev:=Lib.hid au;clear au
  go_enter func199,ntmps199
  go_wp2_with fail
  go_ret
  refine⟨_,rfl,?_,Below.refl _ _⟩;rw[aev.out];exact hy.nil _ _ _
 .have zI:=Lib.run_eql_slice_nil (P:=prog)
  go_enter func199,ntmps199
  clear fw e2
  go_wp2_with (at_builtin;refine Wu _ rfl (.tmp 5) (.tmp 6) _ rfl w.heap.size 5 _ 1 1 underlying27 aet rfl az7 (.slice (some ⟨w.heap.size,0,none⟩) 0 0) 0 [] rfl ?cy D (.slice (some ad) n c) n (l.map hW) rfl ?cu (NG l) ?gl ?s2 ?Cj ?_)
  case cy=>exact⟨az9,.inr ⟨w.heap.size,0,#[],rfl,ao9 _,heap_alloc_new w _,ao9 _,az8,rfl,rfl⟩⟩
  case cu=>
   have h:=Rs.out;unfold px at h;rw[Rt.out] at h;exact h.mono (tt.qh ((Below.refl _ _).alloc (ao9 _) _)) az9 (fun _ _ h=>h)
  case gl=>simp only[maxLen];omega
  case s2=>omega
  case Cj=>simp
  intro dp cp dP KA iQ
  go_wp2
  go_ret
  refine⟨dp,rfl,?_,?_⟩
  .unfold px;rw[Rt.out];have h:=hy.sk dP;exact h.yk fun i _ aG=>(dP.lt i aG).1
  .exact((Below.refl _ _).alloc (ao9 _) _).grown KA az9 (fun k Z=>by simp[Value.ownBlock] at Z;omega)
end
section
def pY (c:UInt8):Bool:=(97<=c.toNat&&c.toNat<=122)||(48<=c.toNat&&c.toNat<=57)||c.toNat == 46||c.toNat == 45
def xC (s:aF5):Bool:=decide (1<=s.size)&&decide (s.size<=15)&&s.data.toList.all pY
def aew (s:aF5) (pos:Nat) (h:pos < s.size) (ha: ¬(s[pos]'h).toNat < 128):128<=(Utf8.decode s pos).1/\(Utf8.decode s pos).1<=1114111:=by
 have e:s.get! (pos+0)=s[pos]'h:=by
  show s.get! pos=_;simp[ByteArray.get!,getElem!_pos,h];rfl
 have O:(s[pos]'h).toNat < 256:=(s[pos]'h).toNat_lt;unfold Utf8.decode;simp only[e];rw[mu az7]
 split
 .split <;>simp[Utf8.runeError] <;>omega
 .split
  .split
   .rename_i G;simp[Utf8.valid] at G;simp only;omega
   .simp[Utf8.runeError]
  .split
   .split
    .rename_i G;simp[Utf8.valid] at G;simp only;omega
    .simp[Utf8.runeError]
   .simp[Utf8.runeError]
def aex {P:aD9} (w:aD8) (s:aF5) (pos:Nat) (ty:aE4) (h:pos < s.size):
  (Instr.next (.pointer (some ⟨w.heap.size,0,none⟩)) true ty).run P (w.iter s pos)=
   .ok (.tuple #[.bool true,.int .i64 pos,.int .i32 (Utf8.decode s pos).1]) (w.iter s (pos+(Utf8.decode s pos).2)):=by
 simp only[Instr.next,getObj,setObj,as8,Sem.run,World.iter_heap,Result.andThen,h,if_true];simp[goInt,World.iter_set]
def Ru {s:aF5} {j:Nat} (V:j < s.size) (h:pY (s[j]'V)=false):xC s=false:=by
 unfold xC
 have:s.data.toList.all pY=false:=by
  rw[List.all_eq_false];exact⟨s[j]'V,ar4 aB6,by simp[h]⟩
 rw[this,Bool.and_false]
def KB (B:Nat) (w:aD8):Nat:=match w.heap[B]? with |some (.stringIter _ p)=>p |_=>0
def Rv (w:aD8) (s:aF5) (k:Nat):KB w.heap.size (w.iter s k)=k:=by simp[KB,World.iter_heap]
def KC (w:aD8) (s:aF5) (k:Nat):Below w.heap.size w (w.iter s k):=(Below.refl _ _).alloc (ao9 _) _
def aey {s:aF5} {k:Nat} (h: ∀j (V:j < s.size),j < k->pY (s[j]'V)=true) (Z:k < s.size) (E:pY (s[k]'Z)=true): ∀j (V:j < s.size),j < k+1->pY (s[j]'V)=true:=by
 intro j V br
 by_cases e:j=k
 .subst e;exact E
 .exact h j V az7
def aez {s:aF5} (h: ∀j (V:j < s.size),pY (s[j]'V)=true):xC s=(decide (1<=s.size)&&decide (s.size<=15)):=by
 unfold xC
 have:s.data.toList.all pY=true:=by
  rw[ar3];intro x hx;obtain⟨j,V,rfl⟩:=aw4 hx;exact h j aB6
 rw[this,Bool.and_true]
def aeA (s:aF5) (w:aD8) (ax:s.size<=maxLen):
  Calls prog 79 #[.string s] w fun e w'=>e= .returned (.bool (xC s))/\Below w.heap.size w w':=by
 unfold maxLen at ax
 go_enter func79,ntmps79
 go_wp2
 go_loopw [4,7,8,9,10,11,12,13,14,15,16,17,18,19,20,21,22,23,24,25,26,27,28,29,30,31] (fun _ _ _ _ _ _ _ _ _ _ _ _ _ _ _ _ _ _ _ _ _ _ _ _ _ _ wr=> ∃k:Nat,k<=s.size/\wr=w.iter s k/\ ∀j (V:j < s.size),j < k->pY (s[j]'V)=true) (fun _ _ _ _ _ _ _ _ _ _ _ _ _ _ _ _ _ _ _ _ _ _ _ _ _ _ wr=>s.size - KB w.heap.size wr)
 case atStart=>exact⟨0,ap9 _,rfl,fun _ _ h=>ap0 h az7⟩
 case round=>
  obtain⟨k,Z,rfl,dA⟩:=hrel;have KD:=Lib.hid dA;clear dA
  by_cases br:k < s.size
  .by_cases ha:(s[k]'br).toNat < 128
   .have hn:=fun ty=>run_next_ascii (P:=prog) w s k ty br ha
    go_wp2
    all_goals first
     |(
      refine⟨⟨k+1,br,rfl,aey KD.out br ?_⟩,?_⟩
      .clear hn;simp_all [pY];omega
      .rw[Rv,Rv];omega)
     |(
      go_ret
      refine⟨?_,KC _ _ _⟩;rw[Ru br (by clear hn;simp_all [pY];omega)];rfl)
   .obtain⟨hA,iY⟩:=aew s k br ha;have hn:=fun ty=>aex (P:=prog) w s k ty br
    generalize Utf8.decode s k=d at*;have b1:(((d.1:Nat):Int) != 46)=true:=by rw[bne_iff_ne];omega
    have b2:(((d.1:Nat):Int) != 45)=true:=by rw[bne_iff_ne];omega
    go_wp2
    go_ret
    exact⟨by rw[Ru br (by clear hn;simp[pY];omega)];rfl,KC _ _ _⟩
  .have hn:=fun ty=>run_next_end (P:=prog) w s k ty br
   have fO:k=s.size:=aA5
   have aw:xC s=(decide (1<=s.size)&&decide (s.size<=15)):=aez fun j V=>KD.out j V az7
   clear fO KD;have aeB:=Lib.hid aw;clear aw
   go_wp2
   all_goals
    go_ret
    refine⟨?_,KC _ _ _⟩;rw[aeB.out];refine ap1 (fun b=>Ending.returned (.bool b)) ?_;rw[Bool.eq_iff_iff];simp;omega
end
section
def Fn.pure {P:aD9} {f:aE8} {args:List aN} {res:aN} (fH:iX P f=true)
  (h: ∀(ρ:Nat->bm) (I:Nat->Prop) (w:aD8) (bW:aD7),(∀b,I b->b < w.heap.size)->bW.length=args.length->(∀(i:Nat) (v:aN) (x:aE7),args[i]? =some v->bW[i]? =some x->cv ρ I w v x)->
   Calls P f bW.toArray w fun e w'=> ∃x,e= .returned x/\Below w.heap.size w w'/\ ∀I':Nat->Prop,cj I w I' w'->(∀b,w.heap.size<=b->b < w'.heap.size->I' b)->cv ρ I' w' res x):Fn P f args [] [] res []:=by
 refine⟨fH,?_⟩;intro ρ F I w bW aZ _ _ _ bZ dz;refine(h ρ I w bW aZ bZ dz).mono ?_;rintro e w' ⟨x,rfl,O,hx⟩;have a2:cj I w (fun b=>b < w'.heap.size/\(I b\/w.heap.size<=b)) w':=fun b ia=>⟨⟨aq8 (aZ b ia) O.size,.inl ia⟩,O.block b (aZ b ia)⟩
 exact⟨x,ρ,F,rfl,cR.qh O,fun _ _=>rfl,_,a2,fun b h=>⟨h.1,h.2.imp id .inr⟩,fun c ch J=>(by simp[ae] at J),fun c ch J=>(by simp[ae] at J),fun c ck ch ch' b J=>(by simp[ae] at J),hx _ a2 fun b E G=>⟨G,.inr E⟩⟩
def Rw {P:aD9} {f:aE8} {s:aN} {res:aN} (fH:iX P f=true)
  (h: ∀(ρ:Nat->bm) (I:Nat->Prop) (w:aD8) (v:aE7),(∀b,I b->b < w.heap.size)->cv ρ I w s v->
   Calls P f #[v] w fun e w'=> ∃x,e= .returned x/\Below w.heap.size w w'/\ ∀I':Nat->Prop,cj I w I' w'->(∀b,w.heap.size<=b->b < w'.heap.size->I' b)->cv ρ I' w' res x):Fn P f [s] [] [] res []:=
 Fn.pure fH fun ρ I w bW aZ ak H=>by
  match bW,ak with
  | [v],_=>exact h ρ I w v aZ (H 0 s v rfl rfl)
def cw.bytes {I:Nat->Prop} {w:aD8} {v:aE7} {l:aD2} (aZ: ∀b,I b->b < w.heap.size) (h:cw I w (.ce .u8) l (fun _=>some v)):px I w v l:=by
 obtain⟨A,cap,au,E,G,ag⟩:=h;injection au with au
 refine⟨az9,A,cap,au,E,G,fun ao=>?_⟩;obtain⟨b,o,eR,O,hx⟩:=ag ao;refine⟨b,o,eR,O,aZ b O,fun j u a8=>?_⟩;rw[ar1] at a8;obtain⟨x,Be,rfl⟩:=as4.1 a8;have:=hx j x Be;simpa[cw,aR,hW] using this
def px.aeC {I D:Nat->Prop} {w:aD8} {v:aE7} {l:aD2} (h:px D w v l) (cx: ∀b,b < w.heap.size->D b->I b):cw I w (.ce .u8) l (fun _=>some v):=by obtain⟨_,A,cap,au,E,G,ag⟩:=h;refine⟨A,cap,ap1 some au,E,G,fun ao=>?_⟩;obtain⟨b,o,eR,O,br,hx⟩:=ag ao;refine⟨b,o,eR,cx b br O,fun i x aG=>?_⟩;have:=hx i (hW x) (by rw[ar1,show l[i]? =some x from aG];rfl);simpa[cw,aR,hW] using this
def gN (s:aD2):Bool:=decide (1<=s.length)&&decide (s.length<=15)&&s.all pY
def pZ (s:aD2) (ax:s.length<=4294967296):Fn prog 79 [bS s] [] [] (gT (gN s)) []:=
 Rw aA0 fun ρ I w v aZ ay=>by
  rw[show v= .string ⟨s.toArray⟩ from ay];refine(aeA ⟨s.toArray⟩ w (by simp only[ByteArray.size,maxLen,List.size_toArray];omega)).mono ?_;rintro e w' ⟨rfl,O⟩;exact⟨_,rfl,O,fun I' _ _=>show Value.bool _=Value.bool _ by simp[xC,gN,ByteArray.size]⟩
def KE (l:aD2) (ax:l.length<=4294967296):Fn prog 199 [b0 .u8 l] [] [] (b0 .u8 l) []:=
 Rw aA0 fun ρ I w v aZ ay=>by
  refine(aeu v l I w (cw.bytes aZ ay) ax).mono ?_;rintro e w' ⟨x,rfl,hx,O⟩;exact⟨x,rfl,O,fun I' _ hn=>hx.aeC fun b E G=>hn b G E⟩
end
end Go.Proofs.YtgclhiekndohdaaGreat
