/-
A part of the proof of this claim: lemmas, with no condition beyond what each says.
-/
import Derived.Test.YthnboghbhgapcaaGreatZb15
set_option linter.unusedVariables false
set_option linter.unusedSimpArgs false
set_option maxRecDepth 10000
set_option maxHeartbeats 4000000
namespace Go.Proofs.YthnboghbhgapcaaGreat
open Go.RowKit Go.Proofs Tryz
section
open Go.RowKit Go.Proofs Go.Maps Go.Shelf Go.MapKept Tryz
open Go.WideElems (Fit rd rg pl rd_val rd_key rg_of)
theorem aix (es:List (aa .str×aa .aL)):Fn Tryz.prog 168 [.c (.one (.mp 1001))] [(1001,.map .str .aL es)] [2001] (.c (.one (.cU 195 [.p 2001 0]))) [(2001,.cells [.mp 1001]),(1001,.map .str .aL es)]:=by
 refine aU [] Tryz.func168 ?_;exact⟨rfl,_,_,_,ae.aV 1 2001 rfl,rfl,rfl,aA,rfl⟩
theorem aiy (es:List (aa .str×aa .aL)) (hn:(l9 es).Nodup) (al: ∀s∈l9 es,s.length<=maxLen) (ax:es.length<=4294967296):
  Fn Tryz.prog 167 [.c (.one (.cU 195 [.p 2001 0]))] [(2001,.cells [.mp 1001]),(1001,.map .str .aL es)] [] (bS .str (ng es)) [(2001,.cells [.mp 1001]),(1001,.map .str .aL es)]:=by
 refine⟨au8,fun ρ F I w bW ba cX bh ep b6 dt=>?_⟩
 match bW,b6 with
 | [v],_=>
  obtain⟨aE,ay,gh,r,hr,ma,aF⟩:=dt 0 _ v rfl rfl;have aF:r=[]:=aF;have ma:gh= .pointer (some ⟨(ρ 2001).bj,0,none⟩):=ma;subst aF ma hr ay;obtain⟨_,aE,T,gQ,hr⟩:=cX 2001 _ rfl;obtain⟨x,r,hr,hx,aF⟩:=hr;have aF:r=[]:=aF;have hx:x= .map (some (ρ 1001).bj):=hx;subst aF hx hr;obtain⟨_,bT,bV,he,az,da⟩:=cX 1001 _ rfl;have F8:(4294967296:Nat)<=maxLen:=by decide
  obtain⟨je,du,cM,oY⟩:=R6 (P:=Tryz.prog) (k:=9) au8 he az da hn al au5;have bw:(ρ 2001).bj < w.heap.size:=k1 gQ
  have uQ:SeqGives Fence.wide 2 Tryz.prog 195 #[.pointer (some ⟨(ρ 2001).bj,0,none⟩)] encStr (fun g5=>g5.Perm (strKeys je)) (Maps.size je) w:=
   AnyZ.keys_gives (ρ:=QR) {acI with} Fence.wide _ trivial rfl au5 (ρ 2001).bj (ρ 1001).bj es.length je w bw (oF gQ rfl) du
  have H:=AnyZ.sorted_in QP Fence.wide 5 trivial trivial trivial trivial rfl au5 (R8 _) (enters_of Tryz.func194 au8 rfl) 195 #[.pointer (some ⟨(ρ 2001).bj,0,none⟩)] trivial (enters_of Tryz.func195 au8 rfl) _ _ ax0 ax0 _ uQ;refine(callsIn_wide.1 H).mono ?_;rintro e w' ⟨v,g5,rfl,au,fX,x0,gD⟩;have aW:ce I w (fun b=>b < w'.heap.size/\(I b\/w.heap.size<=b)) w':=fun b fP=>⟨⟨Nat.lt_of_lt_of_le (ba b fP) gD.size,.inl fP⟩,gD.block b (ba b fP)⟩
  refine⟨v,ρ,F,rfl,cK.mo gD,fun _ _=>rfl,_,aW,fun b h=>⟨h.1,h.2.imp id .inr⟩,fun c ch H=>Holds.cj aW (fun b O=>gD.block b (bh c ch H b O).1) gD.size ch (fun _ _=>rfl) (cX c ch H),fun c ch H b O=>?_,fun c bX ch ch' b E G=>ep c bX ch ch' b E G,?_⟩
  .have:=bh c ch H b O;exact⟨Nat.lt_of_lt_of_le this.1 gD.size,fun h=>(by rcases h.2 with h |h;exact this.2 h;omega),.inl ⟨c,ch,H,O⟩⟩
  .have ab:g5.mergeSort (fun x y=>decide (x<=y))=ng es:=Go.mergeSort_of_perm (au.trans oY);rw[ab] at fX;have hp:=eN.qQ fX;have wm:g5.length=(ng es).length:=by rw[<-ab,List.length_mergeSort]
   rw[wm] at hp;exact(hp.wY fun i _ aH=>(fX.lt i aH).1).R7 fun b E G=>⟨E,.inr G⟩
structure bd where
 nm:ay4
 ad:Nat
 dp:Nat
 on:Bool
 us:Bool
 s:Int
 g:Int
 es:List (aa ak×aa ak)
abbrev jA (e:bd):aa .str×aa .aL:=((e.nm:aa .str),(some e.ad:aa .aL))
abbrev Aq (nm:ay4) (on us:Bool) (dp:Nat):List bC:=[.d (.str nm),.d (.bool on),.d (.bool us),.d (.aL (some dp))]
def qu (nm:ay4) (on us:Bool) (dp:Nat):bf:=bf.ch (.cells (Aq nm on us dp)) (fun _=>rfl)
def fg (s g:Int) (es:List (aa ak×aa ak)):bf:=bf.iX 1001 (il s g es)
def dR (l:List bd):List (aa .str×aa .aL):=l.map jA
abbrev wy (e:bd):Nat×bf:=(e.ad,qu e.nm e.on e.us e.dp)
abbrev wz (e:bd):Nat×bf:=(e.dp,fg e.s e.g e.es)
def jQ (l:List bd):List (Nat×bf):=l.map wy
def jB (l:List bd):List (Nat×bf):=l.map wz
abbrev ej (l:List bd):aw:=[(1001,.cells [.mp 1002]),(1002,.map .str .aL (dR l)),(1003,.aG (.bA (jQ l))),(1004,.aG (.bA (jB l)))]
def c3 (l:List bd) (nm:ay4):Option bd:=l.find? fun e=>decide (e.nm=nm)
theorem wA (d:bd) (L:List bd) (nm:ay4):c3 (d::L) nm=if d.nm=nm then some d else c3 L nm:=by
 unfold c3;rw[List.find?_cons]
 by_cases e:d.nm=nm
 .rw[aq1 e,if_pos e]
 .rw[ar8 e,if_neg e]
theorem jR {l:List bd} {nm:ay4} {e:bd} (h:c3 l nm=some e):e∈l/\e.nm=nm:=⟨at8 h,by have:=List.find?_some h;simpa using this⟩
theorem GK (nm:ay4): ∀L:List bd,(b0 (aI:=.str) (aK:=.aL) (dR L) nm).getD (cL .aL)=((c3 L nm).map (·.ad):Option Nat)
 | []=>rfl
 |d::L=>by
  have br:=GK nm L;show(b0 (aI:=.str) (aK:=.aL) (jA d::dR L) nm).getD (cL .aL)=_;rw[wA];rw[show b0 (aI:=.str) (aK:=.aL) (jA d::dR L) nm=match fW .str (nm:aa .str) (jA d).1 with |true=>some (jA d).2 |false=>b0 (aI:=.str) (aK:=.aL) (dR L) nm from rfl]
  by_cases e:d.nm=nm
  .rw[show fW .str (nm:aa .str) (jA d).1=true from(qf _ _).2 e.symm,if_pos e];rfl
  .rw[show fW .str (nm:aa .str) (jA d).1=false from rc (aI:=.str) qf (fun h=>e h.symm),if_neg e];exact br
theorem L7 {f:bd->Nat×bf}: ∀{L:List bd},(L.map fun d=>(f d).1).Nodup-> ∀{d:bd},d∈L->eg (L.map f) (f d).1=some (f d).2
 | [],_,d,h=>by cases h
 |e::L,hn,d,h=>by
  rw[aq4] at hn;obtain⟨cI,dF⟩:=aq7.1 hn;rw[aq4];unfold eg;rcases ap3.1 h with rfl |h
  .rw[if_pos rfl]
  .rw[if_neg (fun e=>cI (by rw[e];exact aq6 (f:=fun d=>(f d).1) h))];exact L7 dF h
theorem L8 {f:bd->Nat×bf} {u:bd->bd}: ∀{L:List bd},(L.map fun d=>(f d).1).Nodup-> ∀{d:bd},d∈L->(f (u d)).1=(f d).1->e4 (L.map f) (f d).1 (f (u d)).2=(L.map fun x=>if(f x).1=(f d).1 then u x else x).map f
 | [],_,d,h,_=>by cases h
 |e::L,hn,d,h,ab=>by
  rw[aq4] at hn;obtain⟨cI,dF⟩:=aq7.1 hn;rw[aq4,aq4,aq4];unfold e4;rcases ap3.1 h with rfl |h
  .rw[if_pos rfl,if_pos rfl]
   have aiz:(L.map fun x=>if(f x).1=(f d).1 then u x else x)=L:=by
    refine(ar1 fun x hx=>?_).trans (List.map_id' L);rw[if_neg fun e=>cI (by rw[<-e];exact aq6 (f:=fun d=>(f d).1) hx)]
   rw[aiz]
   congr 1
   exact Prod.ext ab.symm rfl
  .have a2: ¬(f e).1=(f d).1:=fun ao=>cI (by rw[ao];exact aq6 (f:=fun d=>(f d).1) h)
   rw[if_neg a2,if_neg a2,L8 dF h ab]
def mT (l:List bd) (a:Nat) (u:bd->bd):List bd:=l.map fun x=>if x.ad=a then u x else x
structure dS (l:List bd):Prop where
 ik:(l.map (·.nm)).Nodup
 lh:(l.map (·.ad)).Nodup
 u1:(l.map (·.dp)).Nodup
 ok: ∀e,e∈l->(0<=e.s/\e.s<=4096)/\(1<=e.g/\e.g<=64)/\eZ e.es/\e.nm.length<=64
 len:l.length<=8
theorem u2 {α lE:Type} {f:α->lE}: ∀{l:List α},(l.map f).Nodup-> ∀{p q:α},p∈l->q∈l->f p=f q->p=q
 | [],_,_,_,h,_,_=>by cases h
 |a::l,h,p,q,af,aT,e=>by
  rw[aq4,aq7] at h;rcases ap3.1 af with af |af <;>rcases ap3.1 aT with aT |aT
  .rw[af,aT]
  .exact absurd (by rw[<-af,e];exact aq6 aT) h.1
  .exact absurd (by rw[<-aT,<-e];exact aq6 af) h.1
  .exact u2 h.2 af aT e
theorem dS.D {l:List bd} (h:dS l) {e:bd} (V:e∈l):eg (jQ l) e.ad=some (qu e.nm e.on e.us e.dp):=L7 (f:=wy) h.lh V
theorem dS.M {l:List bd} (h:dS l) {e:bd} (V:e∈l):eg (jB l) e.dp=some (fg e.s e.g e.es):=L7 (f:=wz) h.u1 V
theorem TI {l:List bd} {a:Nat} {u:bd->bd} (E: ∀e,(u e).nm=e.nm) (G: ∀e,(u e).ad=e.ad):dR (mT l a u)=dR l:=by
 unfold dR mT;rw[as2];refine ar1 fun x _=>?_
 show jA (if x.ad=a then u x else x)=jA x
 split
 .unfold jA;rw[E,G]
 .rfl
theorem TJ {l:List bd} (h:dS l) {e:bd} (V:e∈l) {u:bd->bd} (G:(u e).ad=e.ad):e4 (jQ l) e.ad (qu (u e).nm (u e).on (u e).us (u e).dp)=jQ (mT l e.ad u):=
 L8 (f:=wy) (u:=u) h.lh V G
theorem TK {l:List bd} (h:dS l) {e:bd} (V:e∈l) {u:bd->bd} (G:(u e).dp=e.dp):e4 (jB l) e.dp (fg (u e).s (u e).g (u e).es)=jB (mT l e.ad u):=by
 refine(L8 (f:=wz) (u:=u) h.u1 V G).trans ?_;unfold jB mT
 congr 1
 refine ar1 fun x hx=>?_
 by_cases H:x.ad=e.ad
 .have:=u2 h.lh hx V H;subst this;rw[if_pos rfl,if_pos rfl]
 .rw[if_neg H,if_neg fun ao=>H (by rw[u2 h.u1 hx V ao])]
theorem aiA {l:List bd} {a:Nat} {u:bd->bd} (E: ∀e,(u e).dp=e.dp/\(u e).s=e.s/\(u e).g=e.g/\(u e).es=e.es):jB (mT l a u)=jB l:=by
 unfold jB mT;rw[as2];refine ar1 fun x _=>?_
 show wz (if x.ad=a then u x else x)=wz x
 split
 .obtain⟨b4,cg,a3,a4⟩:=E x;unfold wz;rw[b4,cg,a3,a4]
 .rfl
theorem dS.c5 {l:List bd} (h:dS l) {a:Nat} {u:bd->bd} (E: ∀e,(u e).nm=e.nm/\(u e).ad=e.ad/\(u e).dp=e.dp) (G: ∀e,e∈l->e.ad=a->(0<=(u e).s/\(u e).s<=4096)/\(1<=(u e).g/\(u e).g<=64)/\eZ (u e).es):dS (mT l a u):=by
 have key: ∀{lE:Type} (f:bd->lE),(∀e,f (u e)=f e)->(mT l a u).map f=l.map f:=fun f hf=>by
  unfold mT;rw[as2];refine ar1 fun x _=>?_
  show f (if x.ad=a then u x else x)=f x
  split
  .exact hf x
  .rfl
 refine⟨by rw[key _ fun e=>(E e).1];exact h.ik,by rw[key _ fun e=>(E e).2.1];exact h.lh,by rw[key _ fun e=>(E e).2.2];exact h.u1,fun e V=>?_,by unfold mT;rw[aq3];exact h.len⟩;obtain⟨x,hx,rfl⟩:=ar2.1 V
 by_cases H:x.ad=a
 .rw[if_pos H];obtain⟨b1,b2,b3⟩:=G x hx H;exact⟨b1,b2,b3,by rw[(E x).1];exact(h.ok x hx).2.2.2⟩
 .rw[if_neg H];exact h.ok x hx
theorem GL {f:FuncId} {args:List aP} {res:aP} {s g s' hh:Int} {es en:List (aa ak×aa ak)} {M:List (Nat×bf)} {b:Nat} (h:Fn Tryz.prog f (ap 1001::args) (il s g es) [] res (il s' hh en)) (aq:eg M b=some (fg s g es))
  (E:nO 1001 [1002] (ap 1001::args) (il s g es) [] [] []=true) (G:nP 1001 (mF [1002] [] []) res (il s' hh en) []=true) (aj:(args.all fun v=> !v.has 1001)=true) (aX:(!res.has 1001)=true):
  Fn Tryz.prog f (dn b::args) [(1004,.aG (.bA M))] [] res [(1004,.aG (.bA (e4 M b (fg s' hh en))))]:=by
 have H:Fn Tryz.prog f (ap 1001::args) [(1001,.aG (fg s g es))] [] res [(1001,.aG (fg s' hh en))]:=Fn.close (bo:=il s g es) (dv:=il s' hh en) (aJ:=[]) (aO:=[]) [1002] av4 (fun _ _ _ _ h=>h) (fun _ _ _ _ h=>h) E G;exact(cu.bA (c:=1001) (q:=1004) (b:=b) (args:=args) (aJ:=[]) (bc:=[]) (X:=Unit) (res:=fun _=>res) (aO:=fun _=>[]) (o:=fg s g es) (o':=fun _=>fg s' hh en) (L:=M) H.x aq aj ⟨rfl,rfl⟩ rfl (fun _=>aX)).fn
theorem TL:Fn Tryz.prog 20 [] [] [1001,1002,1003,1004] (ap 1001) (ej []):=by
 refine aU [] Tryz.func20 ?_;exact⟨rfl,rfl,_,_,_,ae.trans (ae.aV 3 1001 rfl) (ae.trans (ae.aV 1 1002 rfl) (ae.trans (ae.q' 1003 rfl) (ae.q' 1004 rfl))),rfl,rfl,aA,rfl⟩
theorem Ar (l:List bd):l9 (dR l)=l.map (·.nm):=by
 unfold l9 dR;rw[as2];rfl
def ia (l:List bd):List ay4:=ng (dR l)
theorem L9 (l:List bd):(ia l).length=l.length:=by
 unfold ia ng;rw[List.length_mergeSort,Ar,aq3]
theorem aiB {l:List bd} (h:dS l):Fn Tryz.prog 117 [ap 1001] (ej l) [] (bS .str (ia l)) (ej l):=by
 have ab:(l9 (dR l)).Nodup:=by rw[Ar];exact h.ik
 have az: ∀s∈l9 (dR l),s.length<=maxLen:=fun s ax=>by
  rw[Ar] at ax;obtain⟨d,J,rfl⟩:=ar2.1 ax;exact as9 (h.ok d J).2.2.2 au6
 have ax:(dR l).length<=4294967296:=by unfold dR;rw[aq3];have:=h.len;omega
 refine aU [] Tryz.func117 ?_;exact ar (Fn.aV [(1001,1002),(2001,5001)] (aix (dR l))) <| ar (Fn.aV [(1001,1002),(2001,5001)] (aiy (dR l) ab az ax)) bg
theorem Dd:(Tryz.prog.info? 4).map (·.size)=some 1:=by kernel_rfl
theorem GM:(Tryz.prog.info? 66).map (·.size)=some 1:=by kernel_rfl
theorem Ma {I:Nat->Prop} {w:World} {b:Bool} {aC:Value} (h:gF I w (.bool b) aC):aC.cells=List.toArray [aC]/\aC.oneCell'=true:=by
 have h:aC= .bool b:=h;subst h;exact⟨rfl,rfl⟩
theorem aiC {I:Nat->Prop} {w:World} {b:Bool} {aC:Value} (h:gF I w (.lit b) aC):aC.cells=List.toArray [aC]/\aC.oneCell'=true:=by
 have h:aC= .bool b:=h;subst h;exact⟨rfl,rfl⟩
theorem aiD {l:List bd} (h:dS l) {e:bd} (V:e∈l) (on:Bool):Fn Tryz.prog 159 [dn e.ad,ap 3001] (ej l++[(3001,.cells [.d (.bool on)])]) [] gJ (ej (mT l e.ad fun x=>{x with on:=on})++[(3001,.cells [.d (.bool on)])]):=by
 obtain⟨oX,gb,gc⟩:=j5 Dd;have b9:=h.D V;have o1:=TI (l:=l) (a:=e.ad) (u:=fun x=>{x with on:=on}) (fun _=>rfl) (fun _=>rfl);have sw:=TJ h V (u:=fun x=>{x with on:=on}) rfl;have wo:=aiA (l:=l) (a:=e.ad) (u:=fun x=>{x with on:=on}) (fun _=>⟨rfl,rfl,rfl,rfl⟩);refine aU [] Tryz.func159 ?_;refine⟨_,_,fun N=>iY (b:=e.ad) rfl rfl N,rfl,?_⟩;refine⟨_,_,fun N=>ja rfl Tryz.underlying165 rfl rfl gb av7 rfl N,rfl,?_⟩;refine⟨_,_,fun N=>zC (q:=1003) (b:=e.ad) (j:=1) (y:=.bool on) (l:=Aq e.nm e.on e.us e.dp) (h':=fun _=>rfl) rfl gb gc rfl rfl rfl b9 (show 1 < 4 by decide) Ma N,rfl,?_⟩;exact si bp rfl trivial ⟨rfl,congrArg (fun e=>some (bb.map .str .aL e)) o1.symm,congrArg (fun e=>some (bb.aG (.bA e))) sw,congrArg (fun e=>some (bb.aG (.bA e))) wo.symm,rfl,trivial⟩ rfl
def oa (x:bd):bd:={x with us:=true,es:=Dc x.s x.g x.es}
theorem aiE {l:List bd} (h:dS l) {e:bd} (V:e∈l):Fn Tryz.prog 154 [dn e.ad] (ej l) [] gJ (ej (mT l e.ad oa)):=by
 obtain⟨oX,gb,gc⟩:=j5 Dd;obtain⟨Mb,wB,wC⟩:=j5 GM;obtain⟨ci,cN,ec,eG⟩:=h.ok e V;have b9:=h.D V;have aq:=h.M V;have o1:=TI (l:=l) (a:=e.ad) (u:=oa) (fun _=>rfl) (fun _=>rfl);have sw:=TJ h V (u:=oa) rfl;have wo:=TK h V (u:=oa) rfl;have ax:=GL (LJ e.s e.g e.es) aq rfl rfl rfl rfl;rw[xG aq] at ax;have H:=GL (aij e.s e.g e.es ci cN) aq rfl rfl rfl rfl;refine aU [] Tryz.func154 ?_;refine⟨_,_,fun N=>iY (b:=e.ad) rfl rfl N,rfl,?_⟩;refine⟨_,_,fun N=>ja rfl Tryz.underlying165 rfl rfl wB (by rw[wC];decide) rfl N,rfl,?_⟩;refine⟨_,_,fun N=>k9 (q:=1003) rfl Tryz.underlying66 rfl rfl rfl b9 rfl N,rfl,?_⟩;refine⟨_,_,fun N=>iY (b:=e.ad) rfl rfl N,rfl,?_⟩;refine⟨_,_,fun N=>ja rfl Tryz.underlying165 rfl rfl wB (by rw[wC];decide) rfl N,rfl,?_⟩;refine⟨_,_,fun N=>k9 (q:=1003) rfl Tryz.underlying66 rfl rfl rfl b9 rfl N,rfl,?_⟩;refine ar ax <| ar H ⟨eB au8,_,_,fun N=>iY (b:=e.ad) rfl rfl N,rfl,?_⟩;refine⟨_,_,fun N=>ja rfl Tryz.underlying165 rfl rfl gb av7 rfl N,rfl,?_⟩;refine⟨_,_,fun N=>zC (q:=1003) (b:=e.ad) (j:=2) (y:=.lit true) (l:=Aq e.nm e.on e.us e.dp) (h':=fun _=>rfl) rfl gb gc rfl rfl rfl b9 (show 2 < 4 by decide) aiC N,rfl,?_⟩;exact si bp rfl trivial ⟨rfl,congrArg (fun e=>some (bb.map .str .aL e)) o1.symm,congrArg (fun e=>some (bb.aG (.bA e))) sw,congrArg (fun e=>some (bb.aG (.bA e))) wo,trivial⟩ rfl
end
section
section
variable {P:Program} {ids:ay5} {K:aY} {B:aw}
theorem aiF {o:Oper} {T:TypeId} {x:Operand} {q b:Nat} {L:List (Nat×bf)} {l:List bC} {h: ∀c,(bb.cells l).has c=false} {d:TypeDesc} {i:TypeInfo} (ah:o.op= .load T x) (cd:P.underlying T=some d) (fX:d.isRow=true) (aH:P.info? T=some i) (aR:i.size=l.length) (hx:a6 K x= .c (.one (.d (.aL (some b)))))
  (aT:ag B q=some (.aG (.bA L))) (cY:eg L b=some (bf.ch (.cells l) h)) (N:Nat):bB P N ids o K B (.c (.agg l)) ⟨[q],[],[]⟩:=by
 have az:x∈o.op.operands:=av2
 refine bB.val fun K' B' g1 g2 C ρ F a w aq au=>?_
 have bm:fc (bZ C B' F w) w L (F q):=aq.holds q _ ((g2 q au7).trans aT);have ay:a.eval x= .pointer (some ⟨b,0,none⟩):=au.ev ((g1 x az).trans hx);obtain⟨ct,cJ,p,ci,cN,ec,eG,uA⟩:=bm.out cY;obtain⟨E,aE,eS,G,aj⟩:=eG;rw[ec] at G
 refine⟨.agg (List.toArray aE),EA (cs:=aE) ah ay cd fX aH (by rw[b'.length _ _ aj];exact aR) (fun j v Z=>by rw[Nat.zero_add];exact oF G Z),aE,rfl,b'.mono (ce.refl _ _) _ _ (fun c H=>by
  have av:mr c l=false:=h c;rw[av] at H
  cases H) aj⟩
end
abbrev iq (c d:Nat) (s g:Int) (es:List (aa ak×aa ak)):aw:=[(c,.cells [.d (.int .i64 s),.d (.int .i64 g),.mp d]),(d,.map ak ak es)]
theorem aiG (s g:Int) (es:List (aa ak×aa ak)):Fn Tryz.prog 94 [ap 3001] (iq 3001 3002 s g es) [1001] (ap 1001) (iq 3001 3002 s g es++[(1001,.aG (fg s g es))]):=by
 refine aU [] Tryz.func94 ?_;exact ar (Fn.aV [(1001,3002),(2001,1002)] (TC es)) ⟨rfl,eB au8,_,_,_,ae.trans (ae.aV 17 1001 rfl) (ae.close 1001 (il s g es) aA rfl fun _ _ _ _ h=>h),rfl,rfl,aA,rfl⟩
theorem aiH {s g:Int} {es:List (aa ak×aa ak)} {M:List (Nat×bf)} {b:Nat} (aq:eg M b=some (fg s g es)):Fn Tryz.prog 94 [dn b] [(1004,.aG (.bA M))] [5001,5002] (ap 5001) [(1004,.aG (.bA M)),(5001,.cells [.d (.int .i64 s),.d (.int .i64 g),.mp 5002]),(5002,.map ak ak es)]:=by
 have av:=Fn.aV [(2001,5001),(2002,5002)] (aip s g es);have H:Fn Tryz.prog 94 [ap 1001] [(1001,.aG (fg s g es))] [5001,5002] (ap 5001) ((1001,.aG (fg s g es))::iq 5001 5002 s g es):=Fn.close (bo:=il s g es) (dv:=il s g es) (aJ:=[]) (aO:=iq 5001 5002 s g es) [1002] av (fun _ _ _ _ h=>h) (fun _ _ _ _ h=>h) rfl rfl;have:=(cu.bA (c:=1001) (q:=1004) (b:=b) (args:=[]) (aJ:=[]) (bc:=[5001,5002]) (X:=Unit) (res:=fun _=>ap 5001) (aO:=fun _=>iq 5001 5002 s g es) (o:=fg s g es) (o':=fun _=>fg s g es) (L:=M) H.x aq rfl ⟨rfl,rfl⟩ rfl (fun _=>rfl)).fn;rw[xG aq] at this;exact this
end
section
abbrev As (b:Nat):aa .aL:=(some b:Option Nat)
theorem fc.qP {I:Nat->Prop} {w:World} {o:bf} {p:bn} {ct:Nat->Prop} (ah:o.R I ct w p): ∀{L:List (Nat×bf)} {F:Nat->Prop},fc I w L F->(∀x,ct x-> ¬F x)->fc I w (L++[(p.bj,o)]) (fun x=>ct x\/F x)
 | [],F,h,J=>⟨ct,F,p,fun x=>Iff.rfl,J,rfl,ah,h⟩
 |(a,q)::L,F,⟨oP,qc,r,E,G,aj,aX,bH⟩,J=>
  ⟨oP,fun x=>ct x\/qc x,r,fun x=>by
    show(ct x\/F x)↔(oP x\/(ct x\/qc x));rw[E];constructor
    .intro h;rcases h with h |h |h
     .exact .inr (.inl h)
     .exact .inl h
     .exact .inr (.inr h)
    .intro h;rcases h with h |h |h
     .exact .inr (.inl h)
     .exact .inl h
     .exact .inr (.inr h),
   fun x hx h=>by
    rcases h with h |h
    .exact J x h ((E x).2 (.inl hx))
    .exact G x hx h,
   aj,aX,fc.qP ah bH fun x hx h=>J x hx ((E x).2 (.inr h))⟩
section
variable {P:Program} {ids:ay5} {K:aY} {B:aw}
end
end
section
def yf (ob:Nat->bf) (mz:bf):bf where
 R:=fun I F w p=> ∃(ct cJ:Nat->Prop) (q:bn),(∀x,F x↔ct x\/cJ x)/\(∀x,ct x-> ¬cJ x)/\(ob q.bj).R I ct w p/\mz.R I cJ w q
 cj:=fun I F w I' w' p ⟨ct,cJ,q,E,G,aj,aX⟩ V bh aR=>⟨ct,cJ,q,E,G,(ob q.bj).cj _ _ _ _ _ _ aj V (fun b O=>bh b ((E b).2 (.inl O))) aR,mz.cj _ _ _ _ _ _ aX V (fun b O=>bh b ((E b).2 (.inr O))) aR⟩
def TM (aI:bx) (es:List (aa aI×aa .aL)) (key:aa aI) (o:bf) (I F:Nat->Prop) (w:World) (p:bn):Prop:=
 ∃(b8:Nat->Prop) (q:bn),(∀x,F x↔x=p.bj\/b8 x)/\ ¬b8 p.bj/\(∃bT bV,w.heap[p.bj]? =some (.map (List.toArray bT) bV)/\ie I w aI .aL (dr (aI:=aI) (aK:=.aL) es key (As q.bj)) bT/\lZ bT bV)/\o.R I b8 w q
def GN (aI:bx) (es:List (aa aI×aa .aL)) (key:aa aI) (o:bf):bf where
 R:=TM aI es key o
 cj:=fun I F w I' w' p ⟨b8,q,E,G,⟨bT,bV,aX,bH,fF⟩,jF⟩ V bh aR=>⟨b8,q,E,G,⟨bT,bV,(bh _ ((E _).2 (.inl rfl))).trans aX,bH.mono V,fF⟩,o.cj _ _ _ _ _ _ jF V (fun b O=>bh b ((E b).2 (.inr O))) aR⟩
section
variable {P:Program} {ids:ay5} {K:aY} {B:aw}
theorem ae.aiI (c:Nat) {ch:bb} (h: ∀c,ch.has c=false) (H:ag B c=some ch):ae ids K B K ((c,.aG (bf.ch ch h))::B):=by
 rintro N C a w ⟨hn,J,ρ,F,aq,au⟩;obtain⟨bN,aW⟩:=aq.hP (w':=w) (ch:=.aG (bf.ch ch h)) H (cK.refl _ _) fun I ba=>bf.QF h (Holds.cj (ρ':=ρ) ba (fun _ _=>rfl) (ap0 _) ch (fun _ _=>rfl) (aq.holds c _ H))
 exact⟨hn,J,ρ,F,bN,au.mono aW fun _ _ _=>rfl⟩
theorem aiJ {o:Oper} {T kt et:TypeId} {x i v:Operand} {c d e:Nat} (ah:o.op= .mapUpdate T x i v) (cd:P.underlying T=some (.map kt et)) {dk:TypeDesc} (j3:P.underlying kt=some dk) {aI:bx} (J:m0 aI dk=true)
  (hx:a6 K x= .c (.one (.mp c))) {key:aa aI} (ab:w9 aI (a6 K i)=some key) (ay:a6 K v= .c (.one (.ptr d 0))) {es:List (aa aI×aa .aL)} {bk: ∀c,(bb.map aI .aL es).has c=false} {l:List bC} {ob:Nat->bf} {mz:bf}
  (H:ag B c=some (.aG (bf.ch (.map aI .aL es) bk))) (jW:ag B d=some (.cells l)) (gn:ag B e=some (.aG mz)) (a2:c≠d) (TN:c≠e) (aiK:d≠e)
  (Mc: ∀(ρ:Nat->bn) (I F:Nat->Prop) (w:World) (p:bn),Holds ρ I F w p (.cells l)->(ob (ρ e).bj).R I F w p) (N:Nat):bB P N ids o K B .undef ⟨[c,d,e],[],[(d,none),(e,none),(c,some (.aG (GN aI es key (yf ob mz))))]⟩:=by
 have m1:x∈o.op.operands:=av2
 have m2:i∈o.op.operands:=av2
 have m3:v∈o.op.operands:=av2
 rintro K' B' g1 g2 - C a w ⟨hn,l7,ρ,F,aq,au⟩ bw fE Q di;have cF:=(g2 c au7).trans H;have dK:=(g2 d au7).trans jW;have gP:=(g2 e au7).trans gn;obtain⟨mA,bT,bV,aX,bH,fF⟩:Holds (fun _=>ρ c) (bZ C B' F w) (F c) w (ρ c) (.map aI .aL es):=aq.holds c _ cF;have aiL:=aq.holds d _ dK;have aiM:mz.R (bZ C B' F w) (F e) w (ρ e):=aq.holds e _ gP;have yg: ∀y,F d y-> ¬F e y:=fun y aB d4=>aq.e' d e _ _ y dK gP aiK aB d4
 have aD:(yf ob mz).R (bZ C B' F w) (fun y=>F d y\/F e y) w (ρ d):=⟨F d,F e,ρ e,fun x=>Iff.rfl,yg,Mc ρ _ _ _ _ aiL,aiM⟩;have ai:=au.mp ((g1 x m1).trans hx);have ao:a.eval i=gG aI key:=Bo ab (au.ev (g1 i m2));have bl:a.eval v= .pointer (some ⟨(ρ d).bj,0,none⟩):=au.ev ((g1 v m3).trans ay)
 have c2:jk (bZ C B' F w) w .aL (As (ρ d).bj) (a.eval v):=by
  rw[bl];exact⟨rfl,⟨fun _=>rfl,fun h=>by cases h⟩,rfl⟩
 obtain⟨en,jD,aF,gl,p6⟩:=A9 (P:=P) cd j3 J aX bH fF key c2;have ep: ∀y,(F d y\/F e y)-> ¬F c y:=fun y aB d4=>aB.elim (fun aB=>aq.e' d c _ _ y dK cF (Ne.symm a2) aB d4) (fun aB=>aq.e' e c _ _ y gP cF (Ne.symm TN) aB d4)
 have ra:=(Array.getElem?_eq_some_iff.1 aX).1;have uF: ∀y,y≠(ρ c).bj->({w with heap:=w.heap.setIfInBounds (ρ c).bj (.map (List.toArray en) jD)}:World).heap[y]? =w.heap[y]? :=fun y aB=>Array.getElem?_setIfInBounds_ne (Ne.symm aB)
 unfold Oper.wp;have hx:(execOp a.eval o).run P w= .ok .skip {w with heap:=w.heap.setIfInBounds (ρ c).bj (.map (List.toArray en) jD)}:=ax3
 rw[hx,Oper.upon_skip]
 obtain⟨bN,aW⟩:=aq.step (B':=(c,.aG (GN aI es key (yf ob mz)))::gM (gM B' d) e) (ρ':=ρ) (F':=c5 F c (fun y=>F c y\/(F d y\/F e y))) (w':={w with heap:=w.heap.setIfInBounds (ρ c).bj (.map (List.toArray en) jD)}) (fun j=>j=d\/j=e\/j=c) (fun _=>False)
  ((ul (S:=F c) ((mA _).2 rfl)).mono fun y _ aB=>⟨c,_,cF,.inr (.inr rfl),aB⟩)
  (fun j ch Z az=>by
   rw[ca,if_neg (fun e=>az (.inr (.inr e.symm))),hl,if_neg (fun e=>az (.inr (.inl e.symm))),hl,if_neg (fun e=>az (.inl e.symm))] at Z;exact Z)
  (fun _ _=>rfl) (fun j az=>dd _ _ (fun e=>az (.inr (.inr e)))) (fun _ _ h=>h) (fun _ h=>h.elim) (fun _ _ _ _ _ _ h=>h)
  (fun j ch Z az aW=>by
   rw[ca] at Z
   split at Z
   .rename_i e;subst e;injection Z with Z
    subst Z;rw[c6];have xg: ∀y,(F d y\/F e y)->y≠(ρ c).bj:=fun y aB e=>ep y aB (e▸(mA _).2 rfl)
    refine⟨fun y=>F d y\/F e y,ρ d,fun y=>?_,fun h=>xg _ h rfl,⟨en,jD,by simp[ra],gl.mono aW,p6⟩,(yf ob mz).cj _ _ _ _ _ _ aD aW (fun y aB=>uF y (xg y aB)) au7⟩;show(F c y\/(F d y\/F e y))↔(y=(ρ c).bj\/(F d y\/F e y));rw[mA]
   .rename_i bG;rcases az with rfl |rfl |rfl
    .rw[hl] at Z
     split at Z
     .cases Z
     .rw[hl,if_pos rfl] at Z;cases Z
    .rw[hl,if_pos rfl] at Z;cases Z
    .exact absurd rfl bG)
  (fun j ch Z az y aB=>by
   rw[ca] at Z
   split at Z
   .rename_i bG;subst bG;rw[c6] at aB;rcases aB with aB |aB |aB
    .exact⟨by simpa using(aq.own c _ cF y aB).1,.inl ⟨c,_,cF,.inr (.inr rfl),aB⟩⟩
    .exact⟨by simpa using(aq.own d _ dK y aB).1,.inl ⟨d,_,dK,.inl rfl,aB⟩⟩
    .exact⟨by simpa using(aq.own e _ gP y aB).1,.inl ⟨e,_,gP,.inr (.inl rfl),aB⟩⟩
   .rename_i bG;rcases az with rfl |rfl |rfl
    .rw[hl] at Z
     split at Z
     .cases Z
     .rw[hl,if_pos rfl] at Z;cases Z
    .rw[hl,if_pos rfl] at Z;cases Z
    .exact absurd rfl bG)
  (fun j q7 ch ch' y Z kj az gl aiN=>by
   have key: ∀j ch,ag ((c,bb.aG (GN aI es key (yf ob mz)))::gM (gM B' d) e) j=some ch->(j=d\/j=e\/j=c)->j=c:=fun j ch Z az=>by
    rcases az with rfl |rfl |rfl
    .rw[ca,if_neg a2,hl] at Z
     split at Z
     .cases Z
     .rw[hl,if_pos rfl] at Z;cases Z
    .rw[ca,if_neg TN,hl,if_pos rfl] at Z;cases Z
    .rfl
   exact absurd ((key j ch Z az).trans (key q7 ch' kj gl).symm) aiN)
 exact di _ _ ⟨kf.trans hn,kg.trans l7,ρ,_,bN,(au.mono aW fun _ _ _=>rfl).kh (fun e V=>by rw[hn];exact bw e V) rfl⟩
theorem de.aiO (c d:Nat) {aI:bx} {es:List (aa aI×aa .aL)} {key:aa aI} {o:bf} (H:ag B c=some (.aG (GN aI es key o))) (J:gX ids K B d=true):de ids K B (X:=Nat) (fun _=>K) (fun ad=>(d,.aG (o.at ad))::(c,.map aI .aL (dr (aI:=aI) (aK:=.aL) es key (As ad)))::B):=by
 rintro N C a w ⟨hn,l7,ρ,F,aq,au⟩;obtain⟨b8,q,E,G,⟨bT,bV,aX,bH,fF⟩,jF⟩:TM aI es key o (bZ C B F w) (F c) w (ρ c):=aq.holds c _ H;obtain⟨h2,jn,po,f4⟩:=kM J
 obtain⟨bN,aW⟩:=aq.split (K:=K) (iU:=.map aI .aL (dr (aI:=aI) (aK:=.aL) es key (As q.bj))) (oE:=.aG (o.at q.bj)) H J q (fun x=>x=(ρ c).bj) b8 (fun b O=>(E b).2 (.inl O)) (fun b O=>(E b).2 (.inr O)) (fun b O kN=>G (O▸kN))
  (fun I ba=>⟨fun b=>Iff.rfl,bT,bV,aX,bH.mono ba,fF⟩) (fun I ba=>by
   refine⟨rfl,?_⟩;exact o.cj _ _ _ _ _ _ jF ba (fun _ _=>rfl) (ap0 _))
 exact⟨q.bj,hn,l7,_,_,bN,au.mono aW fun s j Z=>dd _ _ (fun b5=>by subst b5;rw[h2 s] at Z;cases Z)⟩
theorem de.aiP (d e:Nat) {ob:Nat->bf} {mz:bf} {ad:Nat} (H:ag B d=some (.aG ((yf ob mz).at ad))) (V:gX ids K B e=true):de ids K B (X:=Nat) (fun _=>K) (fun dp=>(e,.aG (mz.at dp))::(d,.aG ((ob dp).at ad))::B):=by
 rintro N C a w ⟨hn,l7,ρ,F,aq,au⟩;obtain⟨O,ct,cJ,q,E,G,aj,aX⟩:((yf ob mz).at ad).R (bZ C B F w) (F d) w (ρ d):=aq.holds d _ H;obtain⟨h2,jn,po,f4⟩:=kM V
 obtain⟨bN,aW⟩:=aq.split (K:=K) (iU:=.aG ((ob q.bj).at ad)) (oE:=.aG (mz.at q.bj)) H V q ct cJ (fun b O=>(E b).2 (.inl O)) (fun b O=>(E b).2 (.inr O)) G
  (fun I ba=>⟨O,(ob q.bj).cj _ _ _ _ _ _ aj ba (fun _ _=>rfl) (ap0 _)⟩) (fun I ba=>⟨rfl,mz.cj _ _ _ _ _ _ aX ba (fun _ _=>rfl) (ap0 _)⟩)
 exact⟨q.bj,hn,l7,_,_,bN,au.mono aW fun s j Z=>dd _ _ (fun b5=>by subst b5;rw[h2 s] at Z;cases Z)⟩
end
theorem TO {nm:ay4} {on us:Bool} {dp:Nat}:(qu nm on us dp).oS:=fun I F w p h=>(h.1 _).2 rfl
theorem TP {s g:Int} {es:List (aa ak×aa ak)}:(fg s g es).oS:=by
 rintro I F w p ⟨ρ,b8,E,G,aj,aX⟩;obtain⟨bh,_⟩:=G 1001 _ rfl;exact(aX _).2 ⟨1001,_,rfl,(bh _).2 (by rw[E])⟩
theorem aiQ (l:List bd): ∀p∈jQ l,p.2.oS:=fun p af=>by
 obtain⟨d,_,rfl⟩:=ar2.1 af;exact TO
theorem aiR (l:List bd): ∀p∈jB l,p.2.oS:=fun p af=>by
 obtain⟨d,_,rfl⟩:=ar2.1 af;exact TP
theorem TQ (nm:ay4) (x:aa .aL): ∀L:List bd,c3 L nm=none->dr (aI:=.str) (aK:=.aL) (dR L) (nm:aa .str) x=(dR L++[z6 nm x]:List (aa .str×aa .aL))
 | [],_=>rfl
 |d::L,h=>by
  rw[wA] at h
  by_cases e:d.nm=nm
  .rw[if_pos e] at h;cases h
  .rw[if_neg e] at h;have br:=TQ nm x L h;show dr (aI:=.str) (aK:=.aL) (jA d::dR L) (nm:aa .str) x=_;rw[show dr (aI:=.str) (aK:=.aL) (jA d::dR L) (nm:aa .str) x=(match fW .str (nm:aa .str) (jA d).1 with |true=>z6 nm x::dR L |false=>jA d::dr (aI:=.str) (aK:=.aL) (dR L) (nm:aa .str) x:List (aa .str×aa .aL)) from rfl];rw[show fW .str (nm:aa .str) (jA d).1=false from rc (aI:=.str) qf (fun h=>e h.symm)];simp only;rw[br];rfl
theorem GO {l:List bd} {nm:ay4} (h:c3 l nm=none):nm∉l.map (·.nm):=fun hx=>by
 obtain⟨d,J,e⟩:=ar2.1 hx;have:=List.find?_eq_none.1 h d J;exact this (by simpa using e)
theorem dS.add {l:List bd} (h:dS l) {e:bd} (av:c3 l e.nm=none) (ha:e.ad∉l.map (·.ad)) (O:e.dp∉l.map (·.dp)) (bu:(0<=e.s/\e.s<=4096)/\(1<=e.g/\e.g<=64)/\eZ e.es/\e.nm.length<=64) (al:l.length < 8):dS (l++[e]):=by
 have key: ∀{α:Type} (f:bd->α) (d:bd),(l.map f).Nodup->f d∉l.map f->((l++[d]).map f).Nodup:=fun f d E G=>by
  rw[as3];refine List.nodup_append.2 ⟨E,au7,fun a ha b O e=>?_⟩;rw[aq4,au0,aq2] at O;exact G (by rw[<-O,<-e];exact ha)
 refine⟨key _ _ h.ik (GO av),key _ _ h.lh ha,key _ _ h.u1 O,fun x hx=>?_,by rw[ap1];show l.length+1<=8;omega⟩;rcases aq8.1 hx with hx |hx
 .exact h.ok x hx
 .rw[aq2.1 hx];exact bu
theorem TR {f:bd->Nat×bf} (L:List bd) (d:bd):(f d::L.map f).Perm ((L++[d]).map f):=by
 rw[as3];exact(List.perm_append_comm (l₁:=[f d]) (l₂:=L.map f))
abbrev At (l:List bd) (s g:Int) (es:List (aa ak×aa ak)):aw:=ej l++iq 2001 2002 s g es
theorem De {l:List bd} {nm:ay4} (av:c3 l nm=none):(b0 (aI:=.str) (aK:=.aL) (dR l) nm).getD (cL .aL)=none:=by rw[GK,av];rfl
theorem Au {l:List bd} {nm:ay4} {e:bd} (av:c3 l nm=some e):(b0 (aI:=.str) (aK:=.aL) (dR l) nm).getD (cL .aL)=some e.ad:=by rw[GK,av];rfl
theorem TS {l:List bd} (h:dS l) (nm:ay4) (hn:nm.length<=4294967296) (aF:gr nm=true) (av:c3 l nm=none) (iA:l.length < 8) (s g:Int) (es:List (aa ak×aa ak)) (bu:(0<=s/\s<=4096)/\(1<=g/\g<=64)/\eZ es):
  cu Tryz.prog 55 [ap 1001,bU nm,ap 2001] (At l s g es) [] (X:={p:Nat×Nat//dS (l++[⟨nm,p.1,p.2,true,true,s,g,es⟩])}) (fun _=>ac 0) (fun p=>At (l++[⟨nm,p.1.1,p.1.2,true,true,s,g,es⟩]) s g es):=by
 have hx:=De av;have b6:(dR l).length=l.length:=aq3 ..;refine hG [5,6] Tryz.func55 ?_;refine ar (qp _ hn) ⟨fun ai=>?_,fun ai=>?_⟩
 .rw[aF] at ai;cases ai
 refine⟨fun dZ bl=>?_,fun bl=>?_⟩
 .exfalso;have:(b0 (aI:=.str) (aK:=.aL) (dR l) nm).getD (cL .aL)=some dZ:=bl;rw[hx] at this
  cases this
 refine⟨fun c2=>?_,fun c2=>?_⟩
 .exfalso;have c2:(8:Int)<=((dR l).length:Int):=gd c2;omega
 refine bt.le (ae.aiI 1002 (fun _=>rfl) rfl) <| bz [6] (bp) <| ar (Fn.aV [(1001,38),(3001,2001),(3002,2002)] (aiG s g es)) ⟨rfl,_,_,fun N=>aiJ (c:=1002) (d:=40) (e:=38) (aI:=.str) (key:=nm) (ob:=fun dp=>qu nm true true dp) rfl Tryz.underlying101 (dk:=.string) au8 rfl rfl rfl rfl rfl rfl rfl au6 au6 au6 (fun ρ I F w p bk=>?Mc) N,rfl,?_⟩
 case Mc=>
  obtain⟨cx,aE,T,cA,kJ,r1,ai,kO,v2,r2,ao,bD,v3,ga,bl,uh,v4,jJ,c2,Bm,fS⟩:=bk;exact⟨cx,aE,T,cA,kJ,r1,ai,kO,v2,r2,ao,bD,v3,ga,bl,uh,v4,jJ,c2,Bm,fS⟩
 refine⟨eB au8,bt.eY (de.aiO 1002 5001 rfl rfl) fun ad=>bt.eY (de.aiP 5001 5002 rfl rfl) fun dp=>bt.le (K':=[]) (B':=[(1001,.cells [.mp 1002]),(1002,.map .str .aL (dr (aI:=.str) (aK:=.aL) (dR l) nm (As ad))),(1003,.aG (.bA ((ad,qu nm true true dp)::jQ l))),(1004,.aG (.bA ((dp,fg s g es)::jB l))),(2001,.cells [.d (.int .i64 s),.d (.int .i64 g),.mp 2002]),(2002,.map ak ak es)]) (ae.trans (ae.put 1003 5001 au6 rfl rfl) (ae.trans (ae.put 1004 5002 au6 rfl rfl) (ae.sub trivial aA))) ?_⟩;refine bt.eY (de.B0 1003 (L:=(ad,qu nm true true dp)::jQ l) (fun p af=>(ap3.1 af).elim (fun e=>by rw[e];exact TO) (aiQ l p)) rfl) fun aiS=>?_
 refine bt.eY (de.B0 1004 (L:=(dp,fg s g es)::jB l) (fun p af=>(ap3.1 af).elim (fun e=>by rw[e];exact TP) (aiR l p)) rfl) fun aiT=>?_
 refine bz [] (bp) ?_;have K8:ad∉l.map (·.ad):=fun az=>(aq7.1 aiS.down).1 (by show ad∈(jQ l).map (·.1);unfold jQ;rw[as2];exact az)
 have aiU:dp∉l.map (·.dp):=fun az=>(aq7.1 aiT.down).1 (by show dp∈(jB l).map (·.1);unfold jB;rw[as2];exact az)
 have KH:nm.length<=64:=by have:=(CO aF).2;omega
 have o1:dr (aI:=.str) (aK:=.aL) (dR l) (nm:aa .str) (As ad)=dR (l++[⟨nm,ad,dp,true,true,s,g,es⟩]):=(TQ nm _ l av).trans (by unfold dR;rw[as3];rfl);exact⟨⟨(ad,dp),h.add (e:=⟨nm,ad,dp,true,true,s,g,es⟩) av K8 aiU ⟨bu.1,bu.2.1,bu.2.2,KH⟩ iA⟩,_,_,_,ae.trans (ae.z2 1003 (TR (f:=wy) l ⟨nm,ad,dp,true,true,s,g,es⟩) rfl) (ae.z2 1004 (TR (f:=wz) l ⟨nm,ad,dp,true,true,s,g,es⟩) rfl),rfl,rfl,⟨rfl,congrArg (fun e=>some (bb.map .str .aL e)) o1,rfl,rfl,rfl,rfl,trivial⟩,rfl⟩
theorem aiV {l:List bd} (nm:ay4) (hn:nm.length<=4294967296) (aF:gr nm=false) (s g:Int) (es:List (aa ak×aa ak)):
  Fn Tryz.prog 55 [ap 1001,bU nm,ap 2001] (At l s g es) [] (ac 1) (At l s g es):=by
 refine aU [] Tryz.func55 ?_;refine ar (qp _ hn) ⟨fun ai=>?_,fun ai=>?_⟩
 .exact bg
 .rw[aF] at ai;cases ai
theorem aiW {l:List bd} (nm:ay4) (hn:nm.length<=4294967296) (aF:gr nm=true) (av:(c3 l nm).isSome=true\/8<=l.length) (s g:Int) (es:List (aa ak×aa ak)):
  Fn Tryz.prog 55 [ap 1001,bU nm,ap 2001] (At l s g es) [] (ac 111) (At l s g es):=by
 have b6:(dR l).length=l.length:=aq3 ..;refine aU [5] Tryz.func55 ?_;refine ar (qp _ hn) ⟨fun ai=>?_,fun ai=>?_⟩
 .rw[aF] at ai;cases ai
 refine⟨fun dZ bl=>?_,fun bl=>?_⟩
 .exact bg
 refine⟨fun c2=>?_,fun c2=>?_⟩
 .exact bg
 .exfalso;have bl:(b0 (aI:=.str) (aK:=.aL) (dR l) nm).getD (cL .aL)=none:=bl;have c2: ¬(8:Int)<=((dR l).length:Int):=mu c2;rcases av with av |av
  .rw[GK] at bl
   cases E:c3 l nm with
   |none=>rw[E] at av;cases av
   |some e=>rw[E] at bl;cases bl
  .omega
end
section
theorem aiX {l l':List bd} {nm:ay4} {e:bd} (V:c3 l nm=some e) (H:Fn Tryz.prog 158 [dn e.ad,ap 3001,ap 3002] (ej l++[(3001,.cells [.ptr 1001 0]),(3002,.cells [.d (.str nm)])]) [] gJ (ej l'++[(3001,.cells [.ptr 1001 0]),(3002,.cells [.d (.str nm)])])):
  Fn Tryz.prog 149 [ap 1001,bU nm,.c (.one (.cU 158 [.p 3001 0,.p 3002 0]))] (ej l++[(3001,.cells [.ptr 1001 0]),(3002,.cells [.d (.str nm)])]) [] (ac 0) (ej l'++[(3001,.cells [.ptr 1001 0]),(3002,.cells [.d (.str nm)])]):=by
 have h':=Au V;refine aU [] Tryz.func149 ?_;exact⟨fun dZ O=>ar (Fn.arg (args:=[zX ((b0 (aI:=.str) (aK:=.aL) (dR l) nm).getD (cL .aL)),ap 3001,ap 3002]) H ⟨h',rfl,rfl,trivial⟩) bg,fun O=>absurd (show(b0 (aI:=.str) (aK:=.aL) (dR l) nm).getD (cL .aL)=none from O) aw0⟩
theorem aiY {l:List bd} {nm:ay4} (V:c3 l nm=none):
  Fn Tryz.prog 149 [ap 1001,bU nm,.c (.one (.cU 158 [.p 3001 0,.p 3002 0]))] (ej l++[(3001,.cells [.ptr 1001 0]),(3002,.cells [.d (.str nm)])]) [] (ac 112) (ej l++[(3001,.cells [.ptr 1001 0]),(3002,.cells [.d (.str nm)])]):=by
 have h':=De V;refine aU [] Tryz.func149 ?_;exact⟨fun dZ O=>absurd (show(b0 (aI:=.str) (aK:=.aL) (dR l) nm).getD (cL .aL)=some dZ from O) aw0,fun _=>bg⟩
theorem aiZ {l l':List bd} {nm:ay4} (on:Bool) {e:bd} (V:c3 l nm=some e) (H:Fn Tryz.prog 159 [dn e.ad,ap 3001] (ej l++[(3001,.cells [.d (.bool on)])]) [] gJ (ej l'++[(3001,.cells [.d (.bool on)])])):
  Fn Tryz.prog 149 [ap 1001,bU nm,.c (.one (.cU 159 [.p 3001 0]))] (ej l++[(3001,.cells [.d (.bool on)])]) [] (ac 0) (ej l'++[(3001,.cells [.d (.bool on)])]):=by
 have h':=Au V;refine aU [] Tryz.func149 ?_;exact⟨fun dZ O=>ar (Fn.arg (args:=[zX ((b0 (aI:=.str) (aK:=.aL) (dR l) nm).getD (cL .aL)),ap 3001]) H ⟨h',rfl,trivial⟩) bg,fun O=>absurd (show(b0 (aI:=.str) (aK:=.aL) (dR l) nm).getD (cL .aL)=none from O) aw0⟩
theorem ai0 {l:List bd} {nm:ay4} (on:Bool) (V:c3 l nm=none):
  Fn Tryz.prog 149 [ap 1001,bU nm,.c (.one (.cU 159 [.p 3001 0]))] (ej l++[(3001,.cells [.d (.bool on)])]) [] (ac 112) (ej l++[(3001,.cells [.d (.bool on)])]):=by
 have h':=De V;refine aU [] Tryz.func149 ?_;exact⟨fun dZ O=>absurd (show(b0 (aI:=.str) (aK:=.aL) (dR l) nm).getD (cL .aL)=some dZ from O) aw0,fun _=>bg⟩
theorem ai1 {l l':List bd} {nm:ay4} {e:bd} (V:c3 l nm=some e) (H:Fn Tryz.prog 154 [dn e.ad] (ej l) [] gJ (ej l')):
  Fn Tryz.prog 149 [ap 1001,bU nm,.c (.one (.cU 154 []))] (ej l) [] (ac 0) (ej l'):=by
 have h':=Au V;refine aU [] Tryz.func149 ?_;exact⟨fun dZ O=>ar (Fn.arg (args:=[zX ((b0 (aI:=.str) (aK:=.aL) (dR l) nm).getD (cL .aL))]) H ⟨h',trivial⟩) bg,fun O=>absurd (show(b0 (aI:=.str) (aK:=.aL) (dR l) nm).getD (cL .aL)=none from O) aw0⟩
theorem ai2 {l:List bd} {nm:ay4} (V:c3 l nm=none):
  Fn Tryz.prog 149 [ap 1001,bU nm,.c (.one (.cU 154 []))] (ej l) [] (ac 112) (ej l):=by
 have h':=De V;refine aU [] Tryz.func149 ?_;exact⟨fun dZ O=>absurd (show(b0 (aI:=.str) (aK:=.aL) (dR l) nm).getD (cL .aL)=some dZ from O) aw0,fun _=>bg⟩
theorem ai3 {l l':List bd} {nm:ay4} (on us:Bool) (s g:Int) (es:List (aa ak×aa ak)) {e:bd} (V:c3 l nm=some e) (H:Fn Tryz.prog 150 [dn e.ad,ap 3001] (ej l++[(3001,.cells [.d (.str []),.d (.lit false),.d (.lit false),.bJ (.pointer none)])]) [5001,5002] gJ (ej l'++[(3001,.cells [.d (.str nm),.d (.bool on),.d (.bool us),.ptr 5001 0]),(5001,.cells [.d (.int .i64 s),.d (.int .i64 g),.mp 5002]),(5002,.map ak ak es)])):
  Fn Tryz.prog 149 [ap 1001,bU nm,.c (.one (.cU 150 [.p 3001 0]))] (ej l++[(3001,.cells [.d (.str []),.d (.lit false),.d (.lit false),.bJ (.pointer none)])]) [5001,5002] (ac 0) (ej l'++[(3001,.cells [.d (.str nm),.d (.bool on),.d (.bool us),.ptr 5001 0]),(5001,.cells [.d (.int .i64 s),.d (.int .i64 g),.mp 5002]),(5002,.map ak ak es)]):=by
 have h':=Au V;refine aU [] Tryz.func149 ?_;exact⟨fun dZ O=>ar (Fn.arg (args:=[zX ((b0 (aI:=.str) (aK:=.aL) (dR l) nm).getD (cL .aL)),ap 3001]) H ⟨h',rfl,trivial⟩) bg,fun O=>absurd (show(b0 (aI:=.str) (aK:=.aL) (dR l) nm).getD (cL .aL)=none from O) aw0⟩
theorem ai4 {l:List bd} {nm:ay4} (V:c3 l nm=none):
  Fn Tryz.prog 149 [ap 1001,bU nm,.c (.one (.cU 150 [.p 3001 0]))] (ej l++[(3001,.cells [.d (.str []),.d (.lit false),.d (.lit false),.bJ (.pointer none)])]) [] (ac 112) (ej l++[(3001,.cells [.d (.str []),.d (.lit false),.d (.lit false),.bJ (.pointer none)])]):=by
 have h':=De V;refine aU [] Tryz.func149 ?_;exact⟨fun dZ O=>absurd (show(b0 (aI:=.str) (aK:=.aL) (dR l) nm).getD (cL .aL)=some dZ from O) aw0,fun _=>bg⟩
def mb (l:List bd) (nm:ay4) (u:bd->bd):List bd:=l.map fun x=>if x.nm=nm then u x else x
theorem Md {l:List bd} (h:dS l) {nm:ay4} {e:bd} (V:c3 l nm=some e) (u:bd->bd):mT l e.ad u=mb l nm u:=by
 obtain⟨E,G⟩:=jR V;unfold mT mb;refine ar1 fun x hx=>?_
 by_cases H:x.ad=e.ad
 .have:=u2 h.lh hx E H;subst this;rw[if_pos H,if_pos G]
 .rw[if_neg H,if_neg fun ao=>H (by rw[u2 h.ik hx E (ao.trans G.symm)])]
theorem GP {l:List bd} {nm:ay4} (V:c3 l nm=none) (u:bd->bd):mb l nm u=l:=by
 unfold mb;refine(ar1 fun x hx=>?_).trans (List.map_id' l);rw[if_neg fun e=>GO V (by rw[<-e];exact aq6 hx)]
theorem dS.nil:dS []:=⟨List.Pairwise.nil,List.Pairwise.nil,List.Pairwise.nil,(fun e V=>by cases V),ap7 _⟩
theorem dS.TT {l:List bd} (h:dS l) (u:bd->bd) (nm:ay4) (E: ∀e,(u e).nm=e.nm/\(u e).ad=e.ad/\(u e).dp=e.dp) (G: ∀e,(0<=e.s/\e.s<=4096)/\(1<=e.g/\e.g<=64)/\eZ e.es->(0<=(u e).s/\(u e).s<=4096)/\(1<=(u e).g/\(u e).g<=64)/\eZ (u e).es):dS (mb l nm u):=by
 cases V:c3 l nm with
 |none=>rw[GP V];exact h
 |some e=>
  rw[<-Md h V];exact h.c5 E fun x hx _=>G x ⟨(h.ok x hx).1,(h.ok x hx).2.1,(h.ok x hx).2.2.1⟩
def yh (l:List bd) (nm:ay4):Int:=if(c3 l nm).isSome=true then 0 else 112
theorem GQ {l:List bd} {nm:ay4} {e:bd} (V:c3 l nm=some e):yh l nm=0:=by unfold yh;rw[V];rfl
theorem GR {l:List bd} {nm:ay4} (V:c3 l nm=none):yh l nm=112:=by unfold yh;rw[V];rfl
theorem ai5 {l:List bd} (h:dS l) (nm:ay4) (on:Bool):Fn Tryz.prog 106 [ap 1001,bU nm,fK on] (ej l) [] (ac (yh l nm)) (ej (mb l nm fun x=>{x with on:=on})):=by
 cases V:c3 l nm with
 |none=>
  have H:=ai0 on V;rw[GR V,GP V];refine aU [] Tryz.func106 ?_;exact⟨rfl,ar (Fn.aV [(3001,5)] H) bg⟩
 |some e=>
  have H:=aiZ on V (aiD h (jR V).1 on);rw[GQ V,<-Md h V];refine aU [] Tryz.func106 ?_;exact⟨rfl,ar (Fn.aV [(3001,5)] H) bg⟩
theorem ai6 {l:List bd} (h:dS l) (nm:ay4):Fn Tryz.prog 103 [ap 1001,bU nm] (ej l) [] (ac (yh l nm)) (ej (mb l nm oa)):=by
 cases V:c3 l nm with
 |none=>
  have H:=ai2 V;rw[GR V,GP V];refine aU [] Tryz.func103 ?_;exact ar H bg
 |some e=>
  have H:=ai1 V (aiE h (jR V).1);rw[GQ V,<-Md h V];refine aU [] Tryz.func103 ?_;exact ar H bg
def kT:List bd->ay4->List bd
 | [],_=>[]
 |d::L,nm=>if d.nm=nm then L else d::kT L nm
theorem Av (L:List bd) (nm:ay4):(kT L nm).Sublist L:=by
 induction L with
 |nil=>exact .slnil
 |cons e L br=>
  unfold kT
  split
  .exact List.sublist_cons_self ..
  .exact br.cons_cons _
theorem TU {nm:ay4}: ∀{L:List bd},c3 L nm=none->kT L nm=L
 | [],_=>rfl
 |d::L,h=>by
  rw[wA] at h;unfold kT
  by_cases e:d.nm=nm
  .rw[if_pos e] at h;cases h
  .rw[if_neg e] at h;rw[if_neg e,TU h]
theorem TV (nm:ay4): ∀L:List bd,gH (aI:=.str) (aK:=.aL) (dR L) nm=dR (kT L nm)
 | []=>rfl
 |d::L=>by
  have br:=TV nm L;show gH (aI:=.str) (aK:=.aL) (jA d::dR L) nm=_;rw[show gH (aI:=.str) (aK:=.aL) (jA d::dR L) nm=match fW .str (nm:aa .str) (jA d).1 with |true=>dR L |false=>jA d::gH (aI:=.str) (aK:=.aL) (dR L) nm from rfl];unfold kT
  by_cases e:d.nm=nm
  .rw[show fW .str (nm:aa .str) (jA d).1=true from(qf _ _).2 e.symm,if_pos e]
  .rw[show fW .str (nm:aa .str) (jA d).1=false from rc (aI:=.str) qf (fun h=>e h.symm),if_neg e];simp only;rw[br];rfl
theorem Me {f:bd->Nat×bf}: ∀{L:List bd},(L.map fun d=>(f d).1).Nodup-> ∀{nm:ay4} {bO:bd},c3 L nm=some bO->j4 (L.map f) (f bO).1=(kT L nm).map f
 | [],_,nm,bO,h=>by cases h
 |d::L,hn,nm,bO,h=>by
  rw[aq4] at hn;obtain⟨cI,dF⟩:=aq7.1 hn;rw[wA] at h;rw[aq4];unfold j4 kT
  by_cases e:d.nm=nm
  .rw[if_pos e] at h;injection h with h
   subst h;rw[if_pos rfl,if_pos e]
  .rw[if_neg e] at h;have a2: ¬(f d).1=(f bO).1:=fun ao=>cI (by rw[ao];exact aq6 (f:=fun d=>(f d).1) (jR h).1)
   rw[if_neg a2,if_neg e,aq4,Me dF h]
theorem dS.k7 {l:List bd} (h:dS l) (nm:ay4):dS (kT l nm):=
 ⟨h.ik.sublist ((Av l nm).map _),h.lh.sublist ((Av l nm).map _),h.u1.sublist ((Av l nm).map _),fun e V=>h.ok e ((Av l nm).subset V),as9 (Av l nm).length_le h.len⟩
theorem ai7 {l:List bd} (h:dS l) {nm:ay4} {e:bd} (V:c3 l nm=some e):Fn Tryz.prog 158 [dn e.ad,ap 3001,ap 3002] (ej l++[(3001,.cells [.ptr 1001 0]),(3002,.cells [.d (.str nm)])]) [] gJ (ej (kT l nm)++[(3001,.cells [.ptr 1001 0]),(3002,.cells [.d (.str nm)])]):=by
 have b9:=h.D (jR V).1;have aq:=h.M (jR V).1;have o1:=TV nm l;have sw:j4 (jQ l) e.ad=jQ (kT l nm):=Me (f:=wy) h.lh V;have wo:j4 (jB l) e.dp=jB (kT l nm):=Me (f:=wz) h.u1 V;refine aU [] Tryz.func158 ?_;exact⟨eB au8,_,_,_,(ae.Ce 1003 6001 e.ad rfl b9 rfl).trans (ae.Ce 1004 6002 e.dp rfl aq rfl),rfl,trivial,⟨rfl,congrArg (fun e=>some (bb.map .str .aL e)) o1,congrArg (fun e=>some (bb.aG (.bA e))) sw,congrArg (fun e=>some (bb.aG (.bA e))) wo,rfl,rfl,trivial⟩,rfl⟩
theorem ai8 {l:List bd} (h:dS l) (nm:ay4):Fn Tryz.prog 105 [ap 1001,bU nm] (ej l) [] (ac (yh l nm)) (ej (kT l nm)):=by
 cases V:c3 l nm with
 |none=>
  have H:=aiY V;rw[GR V,TU V];refine aU [] Tryz.func105 ?_;exact⟨rfl,rfl,ar (Fn.aV [(3001,2),(3002,3)] H) bg⟩
 |some e=>
  have H:=aiX V (ai7 h V);rw[GQ V];refine aU [] Tryz.func105 ?_;exact⟨rfl,rfl,ar (Fn.aV [(3001,2),(3002,3)] H) bg⟩
theorem ai9:(Tryz.prog.info? 165).map (·.size)=some 4:=by kernel_rfl
abbrev jo (nm:ay4) (on us:Bool):List bC:=[.d (.str nm),.d (.bool on),.d (.bool us),.ptr 5001 0]
theorem ai' {l:List bd} (h:dS l) {e:bd} (V:e∈l):Fn Tryz.prog 150 [dn e.ad,ap 3001] (ej l++[(3001,.cells [.d (.str []),.d (.lit false),.d (.lit false),.bJ (.pointer none)])]) [5001,5002] gJ (ej l++[(3001,.cells (jo e.nm e.on e.us)),(5001,.cells [.d (.int .i64 e.s),.d (.int .i64 e.g),.mp 5002]),(5002,.map ak ak e.es)]):=by
 obtain⟨Mb,wB,wC⟩:=j5 GM;obtain⟨Cp,aja,ajb⟩:=j5 ai9;have b9:=h.D V;have aq:=h.M V;have H:=aiH aq;refine aU [] Tryz.func150 ?_;refine⟨_,_,fun N=>iY (b:=e.ad) rfl rfl N,rfl,?_⟩;refine⟨_,_,fun N=>aiF (q:=1003) (l:=Aq e.nm e.on e.us e.dp) rfl Tryz.underlying165 rfl aja ajb rfl rfl b9 N,rfl,?_⟩;refine⟨_,_,fun N=>iY (b:=e.ad) rfl rfl N,rfl,?_⟩;refine⟨_,_,fun N=>ja rfl Tryz.underlying165 rfl rfl wB (by rw[wC];decide) rfl N,rfl,?_⟩;refine⟨_,_,fun N=>k9 (q:=1003) rfl Tryz.underlying66 rfl rfl rfl b9 rfl N,rfl,?_⟩;exact ar H bg
theorem ajc {l:List bd} (h:dS l) {nm:ay4} {e:bd} (V:c3 l nm=some e):Fn Tryz.prog 99 [ap 1001,bU nm] (ej l) [5001,5002] (.cf [.agg (jo e.nm e.on e.us),dw 0]) (ej l++[(5001,.cells [.d (.int .i64 e.s),.d (.int .i64 e.g),.mp 5002]),(5002,.map ak ak e.es)]):=by
 have a1:=ai' h (jR V).1;rw[(jR V).2] at a1;have H:=ai3 e.on e.us e.s e.g e.es V a1;rw[(jR V).2];refine aU [] Tryz.func99 ?_;exact⟨rfl,rfl,ar (Fn.aV [(3001,6)] H) <| eq bp rfl ⟨aA,rfl,trivial⟩⟩
theorem ajd {l:List bd} {nm:ay4} (V:c3 l nm=none):Fn Tryz.prog 99 [ap 1001,bU nm] (ej l) [] (.cf [.agg [.d (.str []),.d (.lit false),.d (.lit false),.bJ (.pointer none)],dw 112]) (ej l):=by
 have H:=ai4 V;refine aU [] Tryz.func99 ?_;exact⟨rfl,rfl,ar (Fn.aV [(3001,6)] H) <| eq bp rfl ⟨aA,rfl,trivial⟩⟩
end
section
abbrev oc:bx:=.bQ (.int .i64) (.b7 .u8)
abbrev lN:bx:=.bQ .str (.bQ .str (.bQ (.int .i64) (.bQ (.int .i64) (.b7 oc))))
abbrev j8:Type:=aa oc
abbrev bL:Type:=aa lN
abbrev gf (p:j8):Int:=p.1
abbrev mg (p:j8):ay4:=p.2
abbrev dH (b:bL):ay4:=b.1
abbrev dh (b:bL):ay4:=b.2.1
abbrev cT (b:bL):Int:=b.2.2.1
abbrev er (b:bL):Int:=b.2.2.2.1
abbrev cy (b:bL):List j8:=b.2.2.2.2
abbrev GS (b:bL):List bC:=[.d (.str (dH b)),.d (.str (dh b)),.d (.int .i64 (cT b)),.d (.int .i64 (er b)),.d (.ck oc (cy b))]
abbrev yi (b:bL):aP:=.c (.agg (GS b))
abbrev kw (L:List bL):aw:=[(1001,.cells [.own 1002]),(1002,.row 65 lN L)]
theorem aje (b:bL) (nm:ay4):Fn Tryz.prog 79 [yi b,ap 1001] [(1001,.cells [.d (.str nm)])] [] (fK (decide (dH b=nm))) [(1001,.cells [.d (.str nm)])]:=by
 refine aU [] Tryz.func79 ?_;exact⟨rfl,bg⟩
def mh {α:Type} (p:α->Bool) (L:List α):Int:=match L.findIdx? p with
 |some k=>(k:Nat)
 |none=> -1
theorem TW {α:Type} {p:α->Bool} {L:List α} {k:Nat} (E:k < L.length) (af: ∀(i:Nat) b,i < k->L[i]? =some b->p b=false) (h:p L[k]=true):mh p L=(k:Nat):=by
 unfold mh;rw[show L.findIdx? p=some k from List.findIdx?_eq_some_iff_getElem.2 ⟨E,h,fun j Z=>by simpa using af j _ Z (oj au5)⟩]
theorem ajf {α:Type} {p:α->Bool} {L:List α} (af: ∀(i:Nat) b,i < L.length->L[i]? =some b->p b=false):mh p L= -1:=by
 unfold mh
 rw[show L.findIdx? p=none from List.findIdx?_eq_none_iff.2 fun x hx=>by
  obtain⟨i,aH,rfl⟩:=List.getElem_of_mem hx;exact af i _ aH (oj aH)]
theorem u3 {α:Type} (p:α->Bool) (L:List α):(mh p L= -1/\ ∀(i:Nat) b,L[i]? =some b->p b=false)\/ ∃(k:Nat) (x:α),mh p L=k/\L[k]? =some x/\p x=true/\ ∀(i:Nat) b,i < k->L[i]? =some b->p b=false:=by
 unfold mh
 cases h:L.findIdx? p with
 |none=>
  refine .inl ⟨rfl,fun i b O=>?_⟩;have:=List.findIdx?_eq_none_iff.1 h b (List.mem_of_getElem? O);simpa using this
 |some k=>
  obtain⟨E,G,aj⟩:=List.findIdx?_eq_some_iff_getElem.1 h;refine .inr ⟨k,L[k],rfl,oj E,G,fun i b aH O=>?_⟩;have:=aj i aH;rw[oj au5] at O;injection O with O
  rw[<-O];simpa using this
theorem ajg {α:Type} {p:α->Prop} {L:List α} {k:Nat} (E:k < L.length) (af: ∀(i:Nat) b,i < k->L[i]? =some b->p b) (h:p L[k]): ∀(i:Nat) b,i < k+1->L[i]? =some b->p b:=fun i b aH O=>by
 rcases Nat.lt_or_ge i k with G |G
 .exact af i b G O
 .have:i=k:=av3
  subst this;rw[oj E] at O;injection O with O
  rw[<-O];exact h
theorem pR {α:Type} {L:List α} {k:Nat} {n:Int} (hn:n=(k:Nat)) (h:k < L.length):fD L n.toNat=some L[k]:=by
 subst hn;exact oj h
theorem TX (g:Nat) (p:bL->Bool) (nm:ay4) (L:List bL) (cY:L.length<=4294967296) (ax: ∀b,Fn Tryz.prog g [yi b,ap 1001] [(1001,.cells [.d (.str nm)])] [] (fK (p b)) [(1001,.cells [.d (.str nm)])]):
  Fn Tryz.prog 78 [eO 1002,kJ (.cU g [.p 1001 0])] [(1001,.cells [.d (.str nm)]),(1002,.row 65 lN L)] [] (ac (mh p L)) [(1001,.cells [.d (.str nm)]),(1002,.row 65 lN L)]:=by
 refine aU [] Tryz.func78 ?_;refine dQ [] (X:=Nat) (fun k=>[(0,eO 1002),(1,kJ (.cU g [.p 1001 0])),(7,ac (L.length:Nat)),(8,ac (k:Nat))]) (fun _=>[(1001,.cells [.d (.str nm)]),(1002,.row 65 lN L)]) (fun k=>k<=L.length/\ ∀(i:Nat) b,i < k->L[i]? =some b->p b=false) (fun k=>L.length - k) 0 ⟨ap7 _,fun i b h=>absurd h (au3 _)⟩ ?_ ?_
 .exact ae.sub aA aA
 .rintro k ⟨ab,af⟩;refine⟨fun h=>?_,fun h=>?_⟩
  .have E:k < L.length:=av4
   refine⟨⟨au5,au5⟩,L[k],pR rfl E,ar (ax L[k]) ⟨fun h=>?_,fun h=>?_⟩⟩
   .exact eq bp rfl ((TW E af h).symm)
   .exact⟨au5,k+1,⟨au5,ajg E af h⟩,au5,ae.sub aA aA⟩
  .have E: ¬k < L.length:=av4
   exact eq bp rfl ((ajf fun i b aH O=>af i b au5 O).symm)
def eu (L:List bL) (nm:ay4):Int:=mh (fun b=>decide (dH b=nm)) L
theorem GT (nm:ay4) (L:List bL) (cY:L.length<=4294967296):Fn Tryz.prog 43 [ap 1001,bU nm] (kw L) [] (ac (eu L nm)) (kw L):=by
 refine aU [] Tryz.func43 ?_;exact⟨rfl,ar (Fn.aV [(1001,3)] (TX 79 _ nm L cY fun b=>aje b nm)) bg⟩
end
section
def fQ (z:Int):Int:=16*((2 ^z.toNat:Nat):Int)
theorem TY {bi:Int} (av:0<=bi) (E:bi<=3):1<=((2 ^bi.toNat:Nat):Int)/\((2 ^bi.toNat:Nat):Int)<=8:=by
 have:bi=0\/bi=1\/bi=2\/bi=3:=av3
 rcases this with rfl |rfl |rfl |rfl <;>decide
theorem TZ {bi:Int} (av:0<=bi) (E:bi<=3):16<=fQ bi/\fQ bi<=128:=by
 have:=TY av E;unfold fQ;omega
def sF (size n:Int):Int->List j8->Bool
 |_,[]=>true
 |od,p::r=> !(decide (gf p<=od)||decide (size<=gf p)|| !decide (((mg p).length:Int)=n))&&sF size n (gf p) r
def hj (b:bL):Bool:=
 gr (dH b)&&decide (0<=cT b)&&decide (cT b<=3)&&decide (0<=er b)&&decide (er b<=256)&&sF (er b) (fQ (cT b)) (-1) (cy b)&&
  (!decide (dh b=[])||decide (((cy b).length:Int)=er b))
theorem Mf (b:bL) (av:0<=cT b) (E:cT b<=3):Fn Tryz.prog 44 [yi b] [] [] (ac (fQ (cT b))) []:=by
 have af:=TY av E;refine aU [] Tryz.func44 ?_;exact⟨rfl,⟨au5,au5,au5⟩,⟨au5,au5⟩,bg⟩
theorem ajh (size n od:Int) (l:List j8) (k:Nat) (ab:k < l.length):sF size n od (l.drop k)=(!(decide (gf l[k]<=od)||decide (size<=gf l[k])|| !decide (((mg l[k]).length:Int)=n))&&sF size n (gf l[k]) (l.drop (k+1))):=by
 rw[List.drop_eq_getElem_cons ab];rfl
theorem aji (b:bL) (hn:(dH b).length<=4294967296) (al:(cy b).length<=4294967296) (af: ∀p,p∈cy b->(mg p).length<=4294967296):Fn Tryz.prog 153 [yi b] [] [] (fK (hj b)) []:=by
 refine aU [] Tryz.func153 ?_;refine⟨rfl,ar (qp _ hn) ⟨fun h=>?_,fun E=>?_⟩⟩
 .exact eq bp rfl (show false=hj b by simp_all [hj])
 refine⟨fun h=>?_,fun G=>?_⟩
 .exact eq bp rfl (show false=hj b by simp at h;simp[hj];omega)
 refine⟨fun h=>?_,fun aj=>?_⟩
 .exact eq bp rfl (show false=hj b by simp at h;simp[hj];omega)
 refine⟨fun h=>?_,fun aX=>?_⟩
 .exact eq bp rfl (show false=hj b by simp at h;simp[hj];omega)
 refine⟨fun h=>?_,fun bH=>?_⟩
 .exact eq bp rfl (show false=hj b by simp at h;simp[hj];omega)
 simp only[decide_eq_false_iff_not,Bool.not_eq_false'] at E G aj aX bH
 have aF:hj b=(sF (er b) (fQ (cT b)) (-1) (cy b)&&(!decide (dh b=[])||decide (((cy b).length:Int)=er b))):=by
  unfold hj;rw[E,aq1 (show 0<=cT b by omega),aq1 (show cT b<=3 by omega),aq1 (show 0<=er b by omega),aq1 (show er b<=256 by omega)];simp
 refine dQ [] (X:=Nat×Int) (fun x=>[(1,ap 1),(31,bS oc (cy b)),(3,ac x.2),(32,ac ((cy b).length:Nat)),(33,ac (x.1:Nat))]) (fun _=>[(1,.cells (GS b))]) (fun x=>x.1<=(cy b).length/\sF (er b) (fQ (cT b)) (-1) (cy b)=sF (er b) (fQ (cT b)) x.2 ((cy b).drop x.1)) (fun x=>(cy b).length - x.1) (0,-1) ⟨ap7 _,rfl⟩ ?_ ?_
 .exact ae.sub aA aA
 rintro⟨k,od⟩ ⟨ab,aH⟩;refine⟨fun h=>?_,fun h=>?_⟩
 .have cm:k < (cy b).length:=av4
  rw[ajh _ _ _ _ _ cm] at aH;have hc:=af _ (ar3 cm);refine⟨au5,(cy b)[k],pR rfl cm,rfl,fun h=>?_,fun fF=>?_⟩
  .refine⟨rfl,?_⟩;exact eq bp rfl (show false=hj b by rw[aF,aH,h];rfl)
  refine⟨fun h=>?_,fun jF=>?_⟩
  .refine⟨rfl,?_⟩;exact eq bp rfl (show false=hj b by rw[aF,aH,fF,h];rfl)
  refine⟨_,_,_,_,Mf b au5 au5,trivial,rfl,rfl,fun h=>?_,fun iA=>?_⟩
  .exact eq bp rfl (show false=hj b by rw[aF,aH,fF,jF,show(!decide (((mg (cy b)[k]).length:Int)=fQ (cT b)))=true from h];rfl)
  .refine⟨au5,(k+1,gf (cy b)[k]),⟨by simp only;omega,?_⟩,by simp only;omega,?_⟩
   .rw[aH,fF,jF,show(!decide (((mg (cy b)[k]).length:Int)=fQ (cT b)))=false from iA];rfl
   .exact ae.sub aA aA
 .have cm: ¬k < (cy b).length:=av4
  rw[List.drop_eq_nil_of_le au5] at aH;refine⟨fun h=>?_,fun h=>?_⟩
  .exact eq bp rfl (show true=hj b by rw[aF,aH,show(!decide (dh b=[]))=true from h];rfl)
  .exact eq bp rfl (show decide (((cy b).length:Int)=er b)=hj b by rw[aF,aH,show(!decide (dh b=[]))=false from h];rfl)
end
section
theorem Mg:Fn Tryz.prog 21 [] [] [1001,1002] (ap 1001) (kw []):=by
 refine aU [] Tryz.func21 ?_;exact⟨rfl,_,_,_,ae.trans (ae.vO 2 0 1002 65 lN rfl rfl rfl) (ae.aV 2 1001 rfl),rfl,rfl,aA,rfl⟩
def tJ (L:List bL):ay4:=match L.getLast? with
 |some b=>dH b
 |none=>[]
theorem ajj (L:List bL) (cY:L.length<=4294967296):Fn Tryz.prog 63 [ap 1001] (kw L) [] (bU (tJ L)) (kw L):=by
 refine aU [] Tryz.func63 ?_;refine⟨fun h=>?_,fun h=>?_⟩
 .have av:L.length=0:=by simp only[ar5] at h;omega
  refine⟨_,_,_,bp,rfl,?_,aA,rfl⟩;rw[List.eq_nil_of_length_eq_zero av];rfl
 .have av:0 < L.length:=by simp only[decide_eq_false_iff_not] at h;omega
  have bw:L.length - 1 < L.length:=av3
  refine⟨au5,⟨au5,au5⟩,L[L.length - 1],pR (k:=L.length - 1) au5 bw,rfl,_,_,_,bp,rfl,?_,aA,rfl⟩;show dH L[L.length - 1]=tJ L;unfold tJ;rw[List.getLast?_eq_getElem?,oj bw]
def gz (L:List bL) (b:bL):Int:=
 if(!hj b||decide (0<=eu L (dH b))||decide (64<=(L.length:Int)))=true then 1
 else if(!decide (dh b=[])&&decide (eu L (dh b) < 0))=true then 181
 else if(!decide (dh b=[])&& !decide ((match fD L (eu L (dh b)).toNat with |some x=>cT x |none=>cT b)=cT b))=true then 1 else 0
def gv (L:List bL) (b:bL):List bL:=if gz L b=0 then L++[b] else L
theorem T0 {L:List bL} {b:bL} (h:(!hj b)=true):gz L b=1:=by unfold gz;rw[if_pos (by simp[h])]
theorem T1 {L:List bL} {b:bL} (h:decide (0<=eu L (dH b))=true):gz L b=1:=by unfold gz;rw[if_pos (by simp[h])]
theorem T2 {L:List bL} {b:bL} (h:decide (64<=(L.length:Int))=true):gz L b=1:=by unfold gz;rw[if_pos (by simp[h])]
theorem Df {b:bL} (h:hj b=true):0<=cT b/\cT b<=3/\0<=er b/\er b<=256:=by
 simp only[hj,vj,ar5] at h;omega
abbrev T3 (L:List bL):aw:=[(1001,.cells [.own 1003]),(1003,.row 65 lN L)]
theorem u4 {α:Type} {l:List α} {k:Nat} (h:k < l.length):l.take k++[l[k]]=l.take (k+1):=by
 rw[List.take_add_one,oj h];rfl
abbrev Mh (b:bL) (r k:Nat):aY:=[(0,ap 1001),(3,ap 3),(6,eO r),(58,bS oc (cy b)),(59,ac ((cy b).length:Nat)),(60,ac (k:Nat))]
abbrev Mi (L:List bL) (b:bL) (r:Nat) (l:List j8):aw:=[(r,.row 109 oc l),(3,.cells (GS b)),(1001,.cells [.own 1002]),(1002,.row 65 lN L)]
theorem Mj (L:List bL) (b:bL) (cY:L.length<=1000000) (hn:(dH b).length<=4294967296) (al:(cy b).length<=1000000) (af: ∀p,p∈cy b->(mg p).length<=4294967296):
  Fn Tryz.prog 102 [ap 1001,yi b] (kw L) [1003] (ac (gz L b)) (T3 (gv L b)):=by
 have fv: ∀e,gz L b=e->e≠0->gv L b=L:=fun e E G=>by unfold gv;rw[if_neg au5]
 refine aU [14] Tryz.func102 ?_;refine⟨rfl,ar (GT (dh b) L au5) <| ar (aji b hn au5 af) ⟨fun h=>?_,fun E=>?_⟩⟩
 .rw[fv 1 (T0 h) au5,T0 h];exact⟨_,_,_,ae.aV 1002 1003 rfl,rfl,rfl,aA,rfl⟩
 refine ar (GT (dH b) L au5) ⟨fun h=>?_,fun G=>?_⟩
 .rw[fv 1 (T1 h) au5,T1 h];exact⟨_,_,_,ae.aV 1002 1003 rfl,rfl,rfl,aA,rfl⟩
 refine⟨fun h=>?_,fun aj=>?_⟩
 .rw[fv 1 (T2 h) au5,T2 h];exact⟨_,_,_,ae.aV 1002 1003 rfl,rfl,rfl,aA,rfl⟩
 have aW:gz L b=if(!decide (dh b=[])&&decide (eu L (dh b) < 0))=true then 181 else if(!decide (dh b=[])&& !decide ((match fD L (eu L (dh b)).toNat with |some x=>cT x |none=>cT b)=cT b))=true then 1 else 0:=by
  unfold gz;rw[if_neg (by rw[show(!hj b)=false from E,show decide (0<=eu L (dH b))=false from G,show decide (64<=(L.length:Int))=false from aj];simp)]
 have aF:hj b=true:=ax9
 obtain⟨r1,r2,ga,jJ⟩:=Df aF;have qv:gz L b=0->gv L b=L++[b]:=fun h=>by unfold gv;rw[if_pos h]
 refine⟨fun aX=>?a,fun aX=>?b⟩
 case' a=>
  refine⟨fun h=>?_,fun bH=>?_⟩
  .rw[show(!decide (dh b=[]))=true from aX,show decide (eu L (dh b) < 0)=true from h] at aW;have aW:gz L b=181:=aW;rw[fv 181 aW au5,aW];exact⟨_,_,_,ae.aV 1002 1003 rfl,rfl,rfl,aA,rfl⟩
  have fF: ¬eu L (dh b) < 0:=by simpa using bH
  have ab: ∃k:Nat,∃ab:k < L.length,eu L (dh b)=(k:Nat):=by
   rcases u3 (fun x=>decide (dH x=dh b)) L with⟨h,_⟩ |⟨k,x,h,hx,_⟩
   .exact absurd (show eu L (dh b) < 0 by unfold eu;omega) fF
   .exact⟨k,(ap5.1 hx).1,h⟩
  obtain⟨k,ab,yj⟩:=ab;rw[show(!decide (dh b=[]))=true from aX,show decide (eu L (dh b) < 0)=false from bH,pR yj ab] at aW;have aW:gz L b=if(!decide (cT L[k]=cT b))=true then 1 else 0:=aW
  refine⟨fun jF=>⟨⟨au5,au5⟩,L[k],pR yj ab,rfl,fun h=>?_,fun h=>?_⟩,fun jF=>absurd aX (by rw[show(!decide (dh b=[]))=false from jF];simp)⟩
  .rw[show(!decide (cT L[k]=cT b))=true from h] at aW;have aW:gz L b=1:=aW;rw[fv 1 aW au5,aW];exact⟨_,_,_,ae.aV 1002 1003 rfl,rfl,rfl,aA,rfl⟩
  rw[show(!decide (cT L[k]=cT b))=false from h] at aW;have ek:gz L b=0:=aW;clear aW h
 case' b=>
  rw[show(!decide (dh b=[]))=false from aX] at aW;have ek:gz L b=0:=aW;clear aW;refine⟨fun jF=>absurd aX (by rw[show(!decide (dh b=[]))=true from jF];simp),fun jF=>⟨rfl,?_⟩⟩
 all_goals
  rw[qv ek,ek];refine dQ [14] (X:=Nat) (Mh b 2002) (fun k=>Mi L b 2002 ((cy b).take k)) (fun k=>k<=(cy b).length) (fun k=>(cy b).length - k) 0 (ap7 _) ?_ ?_
  .exact ae.trans (ae.nil 6 2002 109 oc rfl rfl) (ae.sub aA aA)
  intro j Z;refine⟨fun h=>?_,fun h=>?_⟩
  .have eI:j < (cy b).length:=av4
   have hc:=af _ (ar3 eI);refine⟨au5,(cy b)[j],pR rfl eI,rfl,ar (K6 _ hc) ⟨?_,rfl,rfl,?_⟩⟩
   .show((cy b).take j).length+1<=4294967296;rw[ap8];omega
   .exact⟨au5,j+1,eI,au5,ae.trans (ae.sub (K':=Mh b 72 (j+1)) (B':=Mi L b 72 ((cy b).take (j+1))) aA ⟨congrArg (fun l=>some (bb.row _ oc l)) (u4 eI),rfl,rfl,rfl,trivial⟩) (ae.aV 72 2002 rfl)⟩
  .have eI:j=(cy b).length:=by
     have: ¬j < (cy b).length:=av4
     omega
   subst eI;refine bz [] (ae.trans (ae.sub (K':=Mh b 2002 (cy b).length) (B':=Mi L b 2002 (cy b)) aA ⟨congrArg (fun l=>some (bb.row _ oc l)) aq9,rfl,rfl,rfl,trivial⟩) (ae.dW 2002 rfl)) ⟨?_,rfl,rfl,?_⟩
   .show L.length+1<=4294967296;omega
   .exact⟨_,_,_,ae.aV 83 1003 rfl,rfl,rfl,aA,rfl⟩
end
section
theorem Mk (size n:Int): ∀(l:List j8) (od:Int),sF size n od l=true-> ∀p,p∈l->od < gf p/\gf p < size/\((mg p).length:Int)=n
 | [],_,_,p,af=>by cases af
 |q::l,od,h,p,af=>by
  simp only[sF,vj,Bool.not_eq_true',Bool.or_eq_false_iff,decide_eq_false_iff_not,Bool.not_eq_false',ar5] at h;obtain⟨⟨⟨E,G⟩,aj⟩,aX⟩:=h;rcases ap3.1 af with rfl |af
  .exact⟨au5,au5,aj⟩
  .have:=Mk size n l (gf q) aX p af;exact⟨au5,this.2.1,this.2.2⟩
def pS (oe:Int) (acc:ay4) (p:j8):ay4:=laid acc (gf p*oe).toNat (acc.length - (gf p*oe).toNat) (mg p)
def Aw (b:bL) (below:ay4):ay4:=
 let aC:=List.replicate (er b*fQ (cT b)).toNat (0:UInt8)
 (cy b).foldl (pS (fQ (cT b))) (if decide (dh b=[])=true then aC else laid aC 0 aC.length below)
def o6 (L:List bL) (i:Int):Option bL:=if 0<=i then fD L i.toNat else none
def wD (L:List bL) (nm:ay4) (bQ:ay4->ay4):ay4:=match o6 L (eu L nm) with
 |none=>[]
 |some b=>Aw b (bQ (dh b))
def u5 (L:List bL) (nm:ay4):Int:=if decide (eu L nm < 0)=true then 181 else 0
def GU (out:ay4) (e:Int):aP:=.cf [.one (.d (.ck .u8 out)),.one (.d (.int .i64 e))]
theorem T4 {size oe:Int} {b:ay4} {p:j8} (av:0<=oe) (E:0<=gf p) (G:gf p < size) (O:b.length=(size*oe).toNat):(gf p*oe).toNat<=b.length/\(pS oe b p).length=b.length:=by
 have:gf p*oe<=size*oe:=Int.mul_le_mul_of_nonneg_right au5 av;have aj:(gf p*oe).toNat<=b.length:=av3
 exact⟨aj,I6 _ _ au5⟩
theorem T5 {size oe:Int} (av:0<=oe): ∀(l:List j8) (acc:ay4),(∀p,p∈l->0<=gf p/\gf p < size)->acc.length=(size*oe).toNat->(l.foldl (pS oe) acc).length=(size*oe).toNat
 | [],acc,_,ha=>ha
 |p::l,acc,af,ha=>T5 av l (pS oe acc p) (fun q aT=>af q (ap2 _ aT)) (by
  have:=af p aq0;rw[(T4 av this.1 this.2 ha).2,ha])
theorem ajk {α lE:Type} (f:lE->α->lE) (x:lE) {l:List α} {k:Nat} (h:k < l.length):(l.take (k+1)).foldl f x=f ((l.take k).foldl f x) l[k]:=by
 rw[<-u4 h,at9];rfl
abbrev ajl (b:bL) (k:Nat):aY:=[(7,ap 7),(8,eO 30),(45,bS oc (cy b)),(46,ac ((cy b).length:Nat)),(47,ac (k:Nat))]
abbrev ajm (L:List bL) (b:bL) (x:ay4):aw:=[(30,.row 5 .u8 x),(7,.cells (GS b)),(1001,.cells [.own 1002]),(1002,.row 65 lN L)]
theorem T6 (L:List bL) (nm:ay4) (cY:L.length<=1000000) (aF: ∀b,b∈L->hj b=true/\(cy b).length<=1000000) (bQ:ay4->ay4)
  (br: ∀b,o6 L (eu L nm)=some b->(!decide (dh b=[]))=true->Fn Tryz.prog 24 [ap 1001,bU (dh b)] (kw L) [] (GU (bQ (dh b)) (u5 L (dh b))) (kw L)):
  Fn Tryz.prog 24 [ap 1001,bU nm] (kw L) [] (GU (wD L nm bQ) (u5 L nm)) (kw L):=by
 refine aU [] Tryz.func24 ?_;refine ar (GT nm L au5) ⟨fun h=>?_,fun h=>?_⟩
 .have E: ¬0<=eu L nm:=by simp only[ar5] at h;omega
  exact eq bp rfl ⟨(show wD L nm bQ=[] by unfold wD o6;rw[if_neg E]),(show(181:Int)=u5 L nm by unfold u5;rw[if_pos h]),trivial⟩
 have hf: ¬eu L nm < 0:=av4
 have ab: ∃k:Nat,∃ab:k < L.length,eu L nm=(k:Nat):=by
  rcases u3 (fun x=>decide (dH x=nm)) L with⟨h,_⟩ |⟨k,x,h,hx,_⟩
  .exact absurd (show eu L nm < 0 by unfold eu;omega) hf
  .exact⟨k,(ap5.1 hx).1,h⟩
 obtain⟨k,ab,yj⟩:=ab;have a1:o6 L (eu L nm)=some L[k]:=by unfold o6;rw[if_pos au5];exact pR yj ab
 have aW:u5 L nm=0:=by unfold u5;rw[if_neg (by rw[h];simp)]
 have au:wD L nm bQ=Aw L[k] (bQ (dh L[k])):=by unfold wD;rw[a1]
 have br:=br _ a1;rw[aW,au];refine⟨⟨au5,au5⟩,L[k],pR yj ab,?_⟩;obtain⟨yb,hc⟩:=aF _ (ar3 ab);generalize k4:L[k]=b at*;obtain⟨r1,r2,ga,jJ⟩:=Df yb;obtain⟨cC,cG⟩:=TZ r1 r2
 have Tr:0<=er b*fQ (cT b)/\er b*fQ (cT b)<=32768:=⟨Int.mul_nonneg au5 au5,by
  have:er b*fQ (cT b)<=256*128:=Int.mul_le_mul jJ cG au5 au5;omega⟩
 have aR:(List.replicate (er b*fQ (cT b)).toNat (0:UInt8)).length=(er b*fQ (cT b)).toNat:=as4
 have T7: ∀p,p∈cy b->0<=gf p/\gf p < er b:=fun p af=>by
  have yb:=yb;simp only[hj,vj] at yb;have:=Mk _ _ _ _ yb.1.2 p af;omega
 refine⟨rfl,ar (Mf b r1 r2) ?_⟩;have ajn: -9223372036854775808<=er b*fQ (cT b)/\er b*fQ (cT b)<=9223372036854775807:=av3
 have ajo:er b*fQ (cT b)<=4294967296:=av3
 refine⟨ajn,⟨rfl,Tr.1,ajo⟩,rfl,rfl,fun aX=>?a,fun aX=>?b⟩
 case' a=>
  refine ar (br aX) ⟨au5,?_⟩
  have O: ∃y,Aw b (bQ (dh b))=(cy b).foldl (pS (fQ (cT b))) y/\y=laid (List.replicate (er b*fQ (cT b)).toNat (0:UInt8)) 0 (List.replicate (er b*fQ (cT b)).toNat (0:UInt8)).length (bQ (dh b))/\y.length=(er b*fQ (cT b)).toNat:=⟨_,by
   unfold Aw;simp only;rw[show decide (dh b=[])=false by simpa using aX];rfl,rfl,(I6 _ _ au5).trans aR⟩
  obtain⟨y,J,aB,Ru⟩:=O
 case' b=>
  have O: ∃y,Aw b (bQ (dh b))=(cy b).foldl (pS (fQ (cT b))) y/\y=(List.replicate (er b*fQ (cT b)).toNat (0:UInt8))/\y.length=(er b*fQ (cT b)).toNat:=⟨_,by
   unfold Aw;simp only;rw[show decide (dh b=[])=true by simpa using aX];rfl,rfl,aR⟩
  obtain⟨y,J,aB,Ru⟩:=O
 all_goals
  rw[J];refine dQ [] (X:=Nat) (ajl b) (fun k=>ajm L b (((cy b).take k).foldl (pS (fQ (cT b))) y)) (fun k=>k<=(cy b).length) (fun k=>(cy b).length - k) 0 (ap7 _) ?_ ?_
  .exact ae.sub aA ⟨congrArg (fun l=>some (bb.row _ .u8 l)) aB.symm,rfl,rfl,rfl,trivial⟩
  intro j Z;refine⟨fun h=>?_,fun h=>?_⟩
  .have eI:j < (cy b).length:=av4
   have Ax:=T7 _ (ar3 eI);have KX:(((cy b).take j).foldl (pS (fQ (cT b))) y).length=(er b*fQ (cT b)).toNat:=T5 au5 _ _ (fun p af=>T7 p (List.mem_of_mem_take af)) au5;obtain⟨cx,cA⟩:=T4 au5 Ax.1 Ax.2 KX;have ajp:0<=gf (cy b)[j]*fQ (cT b):=Int.mul_nonneg Ax.1 au5;have ajq: -9223372036854775808<=gf (cy b)[j]*fQ (cT b)/\gf (cy b)[j]*fQ (cT b)<=9223372036854775807:=av3
   refine⟨au5,(cy b)[j],pR rfl eI,rfl,ar (Mf b r1 r2) ⟨ajq,⟨ajp,?_⟩,?_⟩⟩
   .show gf (cy b)[j]*fQ (cT b)<=((((cy b).take j).foldl (pS (fQ (cT b))) y).length:Int);omega
   refine⟨?_,rfl,?_⟩
   .show(gf (cy b)[j]*fQ (cT b)).toNat+((((cy b).take j).foldl (pS (fQ (cT b))) y).length - (gf (cy b)[j]*fQ (cT b)).toNat)<=(((cy b).take j).foldl (pS (fQ (cT b))) y).length;omega
   .exact⟨au5,j+1,eI,au5,ae.sub aA ⟨congrArg (fun l=>some (bb.row _ .u8 l)) (ajk (pS (fQ (cT b))) y eI).symm,rfl,rfl,rfl,trivial⟩⟩
  .have eI:j=(cy b).length:=by
     have: ¬j < (cy b).length:=av4
     omega
   subst eI;exact⟨_,_,_,ae.trans (ae.dW 30 rfl) (bp),rfl,⟨(show((cy b).take (cy b).length).foldl (pS (fQ (cT b))) y=(cy b).foldl (pS (fQ (cT b))) y by rw[aq9]),rfl,trivial⟩,aA,rfl⟩
def GV (L:List bL):Nat->ay4->ay4
 |0,_=>[]
 |n+1,nm=>wD L nm (GV L n)
structure lm (L:List bL):Prop where
 len:L.length<=64
 right: ∀b,b∈L->hj b=true
 GW: ∀(k:Nat) b,L[k]? =some b->decide (dh b=[])=false->0<=eu L (dh b)/\eu L (dh b) < k
theorem T8 {b:bL} (h:hj b=true):(cy b).length<=256:=by
 have G:=Df h;simp only[hj,vj] at h
 have key: ∀(l:List j8) (od:Int),sF (er b) (fQ (cT b)) od l=true->(l.length:Int)<=max 0 (er b - 1 - od):=by
  intro l
  induction l with
  |nil=>intro od _;simp only[List.length_nil];omega
  |cons p l br=>
   intro od h;simp only[sF,vj,Bool.not_eq_true',Bool.or_eq_false_iff,decide_eq_false_iff_not] at h;have:=br _ h.2;simp only[as5];omega
 have:=key _ _ h.1.2;omega
theorem T9 (L:List bL) (nm:ay4):eu L nm < L.length:=by
 rcases u3 (fun x=>decide (dH x=nm)) L with⟨h,_⟩ |⟨k,x,h,hx,_⟩
 .unfold eu;omega
 .have:=(ap5.1 hx).1;unfold eu;omega
theorem ajr {L:List bL} {i:Int} {b:bL} (h:o6 L i=some b): ∃k:Nat,i=k/\L[k]? =some b:=by
 unfold o6 at h
 split at h
 .exact⟨i.toNat,au5,h⟩
 .cases h
theorem ajs {L:List bL} (ba:lm L): ∀(n:Nat) (nm:ay4),eu L nm < n->Fn Tryz.prog 24 [ap 1001,bU nm] (kw L) [] (GU (GV L n nm) (u5 L nm)) (kw L):=by
 have cY:L.length<=1000000:=by have:=ba.len;omega
 have aF: ∀b,b∈L->hj b=true/\(cy b).length<=1000000:=fun b O=>⟨ba.right b O,by have:=T8 (ba.right b O);omega⟩
 intro n
 induction n with
 |zero=>
  intro nm h;have av:o6 L (eu L nm)=none:=by unfold o6;rw[if_neg au5]
  have:=T6 L nm cY aF (fun _=>[]) (fun b O=>by rw[av] at O;cases O);rw[show wD L nm (fun _=>[])=[] by unfold wD;rw[av]] at this;exact this
 |succ n br=>
  intro nm h
  exact T6 L nm cY aF (GV L n) (fun b O af=>br (dh b) (by
   obtain⟨k,ab,O⟩:=ajr O;have:=(ba.GW k b O (by simpa using af)).2;omega))
def GX (L:List bL) (nm:ay4):ay4:=GV L (L.length+1) nm
theorem ajt {L:List bL} (ba:lm L) (nm:ay4):Fn Tryz.prog 24 [ap 1001,bU nm] (kw L) [] (GU (GX L nm) (u5 L nm)) (kw L):=
 ajs ba _ nm (by have:=T9 L nm;omega)
end
section
abbrev T':bx:=.bQ (.int .i64) .str
abbrev Ua:bx:=.bQ .str (.bQ .str (.bQ (.int .i64) (.bQ (.int .i64) (.b7 T'))))
abbrev wE:Type:=aa T'
abbrev mU:Type:=aa Ua
abbrev aju (p:wE):Int:=p.1
abbrev Dg (p:wE):ay4:=p.2
abbrev ajv (b:mU):ay4:=b.1
abbrev ajw (b:mU):ay4:=b.2.1
abbrev ajx (b:mU):Int:=b.2.2.1
abbrev Ub (b:mU):Int:=b.2.2.2.1
abbrev ajy (b:mU):List wE:=b.2.2.2.2
def sG (p:wE):j8:=(aju p,Dg p)
def i2 (b:mU):bL:=(ajv b,ajw b,ajx b,Ub b,(ajy b).map sG)
theorem ajz {α lE:Type} (f:α->lE) {l:List α} {k:Nat} (h:k < l.length):(l.take k).map f++[f l[k]]=(l.take (k+1)).map f:=by
 rw[<-u4 h,as3];rfl
end
section
theorem ajA (b:bL) (nm:ay4):Fn Tryz.prog 125 [yi b,ap 1001] [(1001,.cells [.d (.str nm)])] [] (fK (decide (dh b=nm))) [(1001,.cells [.d (.str nm)])]:=by
 refine aU [] Tryz.func125 ?_;exact⟨rfl,bg⟩
theorem ajB (g:Nat) (p:bL->Bool) (nm:ay4) (L:List bL) (cY:L.length<=4294967296) (ax: ∀b,Fn Tryz.prog g [yi b,ap 1001] [(1001,.cells [.d (.str nm)])] [] (fK (p b)) [(1001,.cells [.d (.str nm)])]):
  Fn Tryz.prog 124 [eO 1002,kJ (.cU g [.p 1001 0])] [(1001,.cells [.d (.str nm)]),(1002,.row 65 lN L)] [] (fK (decide (0<=mh p L))) [(1001,.cells [.d (.str nm)]),(1002,.row 65 lN L)]:=by
 refine aU [] Tryz.func124 ?_;exact ar (TX g p nm L cY ax) bg
def wF (L:List bL) (nm:ay4):Bool:=decide (0<=mh (fun b=>decide (dh b=nm)) L)
end
section
end
section
abbrev og:bx:=.int .i64
abbrev ajC:bx:=.bQ .str (.b7 og)
abbrev GY:bx:=.bQ og (.bQ og (.bQ og (.bQ (.b7 .u8) (.b7 og))))
abbrev GZ:bx:=.bQ og (.bQ og (.bQ .str (.bQ .str (.bQ (.b7 ajC) GY))))
abbrev ajD:bx:=.bQ og (.bQ og (.bQ Ua (.bQ .str GZ)))
abbrev tK:Type:=aa ajD
abbrev Uc (o:tK):Int:=o.1
abbrev ajE (o:tK):Int:=o.2.1
abbrev Ud (o:tK):mU:=o.2.2.1
abbrev ajF (o:tK):ay4:=o.2.2.2.1
abbrev Ml (o:tK):aa GZ:=o.2.2.2.2
abbrev ajG (o:aa GZ):Int:=o.2.1
abbrev Ue (o:aa GZ):aa GY:=o.2.2.2.2.2
abbrev ajH (o:aa GY):Int:=o.1
abbrev ajI (o:aa GY):Int:=o.2.2.1
def over (n a b:Int):Bool:=decide (a < n)&&decide (n<=b)
def Mm (o:tK):Bool:=over (Ub (Ud o)) 12 256||over (ajE o) 100 4096||over (ajG (Ml o)) 100 4096||(decide (ajH (Ue (Ml o))=4)&&over (ajI (Ue (Ml o))) 100 4096)
end
section
theorem lm.nil:lm []:=⟨au7,fun b O=>by simp at O,fun k b ab=>by simp at ab⟩
theorem Dh {L:List bL} {b:bL} (h:gz L b=0):hj b=true/\eu L (dH b) < 0/\L.length < 64/\(decide (dh b=[])=false->0<=eu L (dh b)):=by
 unfold gz at h
 split at h
 .cases h
 .rename_i E
  split at h
  .cases h
  .rename_i G;simp only[Bool.or_eq_true,Bool.not_eq_true',ar5,not_or,Bool.not_eq_false] at E;refine⟨E.1.1,au5,au5,fun h=>?_⟩;rw[h] at G;simp only[Bool.not_false,Bool.true_and,ar5] at G;omega
theorem Uf {α:Type} {p:α->Bool} {L:List α} (x:α) (h:0<=mh p L):mh p (L++[x])=mh p L:=by
 unfold mh at*;rw[List.findIdx?_append]
 cases hf:L.findIdx? p with
 |none=>rw[hf] at h;exact absurd h au6
 |some k=>simp
theorem Ug {α:Type} {L:List α} {b:α} (k:Nat) (x:α) (hx:(L++[b])[k]? =some x):L[k]? =some x\/(k=L.length/\x=b):=by
 rcases Nat.lt_or_ge k L.length with h |h
 .rw[ar7 h] at hx;exact .inl hx
 .rw[ar9 h] at hx
  cases ab:k - L.length with
  |zero=>rw[ab] at hx;exact .inr ⟨au5,by simpa using hx.symm⟩
  |succ n=>rw[ab] at hx;simp at hx
theorem lm.add {L:List bL} (ba:lm L) (b:bL):lm (gv L b):=by
 unfold gv
 split
 .rename_i h;obtain⟨E,G,aj,aX⟩:=Dh h;refine⟨by simp;omega,fun x hx=>?_,fun k x ab af=>?_⟩
  .rcases aq8.1 hx with hx |hx
   .exact ba.right x hx
   .simp only[ap3,List.not_mem_nil,or_false] at hx;rw[hx];exact E
  .rcases Ug k x ab with ab |⟨rfl,rfl⟩
   .have:=ba.GW k x ab af;unfold eu at*;rw[Uf b this.1];exact this
   .have:=aX af;have bw:=T9 L (dh x);unfold eu at*;rw[Uf x this];exact⟨this,bw⟩
 .exact ba
end
section
def Ay (L:List bL) (o:tK):List bL:=if decide (Uc o=0)=true then gv L (i2 (Ud o)) else L
abbrev Mn (r:Nat) (L:List bL):aw:=[(1001,.cells [.own r]),(r,.row 65 lN L)]
end
section
abbrev Uh (r k:Nat) (L:List bL):aY:=[(3,eO r),(9,eO 1002),(10,ac (L.length:Nat)),(11,ac (k:Nat))]
abbrev Ui (L:List bL) (r:Nat) (l:List ay4):aw:=(r,.row 9 .str l)::kw L
theorem ajJ (L:List bL) (cY:L.length<=1000000):Fn Tryz.prog 60 [ap 1001] (kw L) [] (bS .str (L.map dH)) (kw L):=by
 refine aU [] Tryz.func60 ?_;refine dQ [] (X:=Nat) (fun k=>Uh 2002 k L) (fun k=>Ui L 2002 ((L.take k).map dH)) (fun k=>k<=L.length) (fun k=>L.length - k) 0 (ap7 _) ?_ ?_
 .exact ae.trans (ae.nil 3 2002 9 .str rfl rfl) (ae.sub aA aA)
 intro k ab;refine⟨fun h=>?_,fun h=>?_⟩
 .have cm:k < L.length:=av4
  refine⟨⟨au5,au5⟩,L[k],pR rfl cm,rfl,?_,rfl,?_⟩
  .show((L.take k).map dH).length+1<=4294967296;rw[aq3,ap8];omega
  exact⟨au5,k+1,cm,au5,ae.trans (ae.sub (K':=Uh 19 (k+1) L) (B':=Ui L 19 ((L.take (k+1)).map dH)) aA ⟨congrArg (fun l=>some (bb.row _ .str l)) (ajz dH cm),rfl,rfl,trivial⟩) (ae.aV 19 2002 rfl)⟩
 .have cm:k=L.length:=by
    have: ¬k < L.length:=av4
    omega
  subst cm;exact⟨_,_,_,ae.dW 2002 rfl,rfl,(show(L.take L.length).map dH=L.map dH by rw[aq9]),aA,rfl⟩
theorem ajK {L:List bL} {b:bL} (h:b∈L):0<=eu L (dH b):=by
 unfold eu;rcases u3 (fun x=>decide (dH x=dH b)) L with⟨_,hn⟩ |⟨k,x,h,_⟩
 .obtain⟨i,aH,rfl⟩:=List.getElem_of_mem h;have:=hn i _ (oj aH);simp at this
 .omega
end
end Go.Proofs.YthnboghbhgapcaaGreat
