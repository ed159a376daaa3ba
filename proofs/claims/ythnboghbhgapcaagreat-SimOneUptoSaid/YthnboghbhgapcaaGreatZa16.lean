/-
A part of the proof of this claim: lemmas, with no condition beyond what each says.
-/
import Derived.Test.YthnboghbhgapcaaGreatZa15
set_option linter.unusedVariables false
set_option linter.unusedSimpArgs false
set_option maxRecDepth 10000
namespace Go.Proofs.YthnboghbhgapcaaGreat
open Go.RowKit Go.Proofs
section
open Go.RowKit Go.Proofs Go.Maps Go.Shelf Go.MapKept
open Go.WideElems (Fit rd rg pl rd_val rd_key rg_of)
theorem aiq (es:List (Z .str×Z .aM)):Fn Tryz.prog 168 [.c (.one (.mp 1001))] [(1001,.map .str .aM es)] [2001] (.c (.one (.cT 195 [.p 2001 0]))) [(2001,.cells [.mp 1001]),(1001,.map .str .aM es)]:=by
 refine aW [] Tryz.func168 rfl rfl rfl rfl ?_;refine⟨rfl,?_⟩;exact⟨_,_,_,af.aX 1 2001 rfl,rfl,rfl,ac,rfl⟩
theorem air (es:List (Z .str×Z .aM)) (hn:(l7 es).Nodup) (aq: ∀s∈l7 es,s.length<=maxLen) (ax:es.length<=4294967296):
  Fn Tryz.prog 167 [.c (.one (.cT 195 [.p 2001 0]))] [(2001,.cells [.mp 1001]),(1001,.map .str .aM es)] [] (bS .str (nf es)) [(2001,.cells [.mp 1001]),(1001,.map .str .aM es)]:=by
 refine⟨au8,fun ρ F I w bW bb cV bj eo b6 dt=>?_⟩
 match bW,b6 with
 | [v],_=>
  obtain⟨aD,az,f2,r,hq,l8,aF⟩:=dt 0 _ v rfl rfl;have aF:r=[]:=aF;have l8:f2= .pointer (some ⟨(ρ 2001).bk,0,none⟩):=l8;subst aF l8 hq az;obtain⟨_,aD,T,gQ,hq⟩:=cV 2001 _ rfl;obtain⟨x,r,hq,hx,aF⟩:=hq;have aF:r=[]:=aF;have hx:x= .map (some (ρ 1001).bk):=hx;subst aF hx hq;obtain⟨_,bT,bU,hc,aA,c'⟩:=cV 1001 _ rfl;have FZ:(4294967296:Nat)<=maxLen:=by decide
  obtain⟨je,du,cQ,oV⟩:=RX (P:=Tryz.prog) (k:=9) au8 hc aA c' hn aq au5;have bw:(ρ 2001).bk < w.heap.size:=k0 gQ
  have uK:SeqGives Fence.wide 2 Tryz.prog 195 #[.pointer (some ⟨(ρ 2001).bk,0,none⟩)] encStr (fun g3=>g3.Perm (strKeys je)) (Maps.size je) w:=
   AnyZ.keys_gives (ρ:=Tryz.QJ) {Tryz.acA with} Fence.wide _ trivial rfl au5 (ρ 2001).bk (ρ 1001).bk es.length je w bw (oD gQ rfl) du
  have H:=AnyZ.sorted_in Tryz.QH Fence.wide 5 trivial trivial trivial trivial rfl au5 (RZ _) (enters_of Tryz.func194 au8 rfl) 195 #[.pointer (some ⟨(ρ 2001).bk,0,none⟩)] trivial (enters_of Tryz.func195 au8 rfl) _ _ (by rw[cQ];omega) (by rw[cQ];omega) _ uK;refine(callsIn_wide.1 H).mono ?_;rintro e w' ⟨v,g3,rfl,av,fW,xT,gC⟩;have aY:cd I w (fun b=>b < w'.heap.size/\(I b\/w.heap.size<=b)) w':=fun b fM=>⟨⟨Nat.lt_of_lt_of_le (bb b fM) gC.size,.inl fM⟩,gC.block b (bb b fM)⟩
  refine⟨v,ρ,F,rfl,cJ.mn gC,fun _ _=>rfl,_,aY,fun b h=>⟨h.1,h.2.imp id .inr⟩,fun c ch H=>Holds.cg aY (fun b O=>gC.block b (bj c ch H b O).1) gC.size ch (fun _ _=>rfl) (cV c ch H),fun c ch H b O=>?_,fun c bX ch ch' b E G=>eo c bX ch ch' b E G,?_⟩
  .have:=bj c ch H b O;exact⟨Nat.lt_of_lt_of_le this.1 gC.size,fun h=>(by rcases h.2 with h |h;exact this.2 h;omega),.inl ⟨c,ch,H,O⟩⟩
  .have ab:g3.mergeSort (fun x y=>decide (x<=y))=nf es:=Go.mergeSort_of_perm (av.trans oV);rw[ab] at fW;have ho:=eL.qO fW;have wd:g3.length=(nf es).length:=by rw[<-ab,List.length_mergeSort]
   rw[wd] at ho;exact(ho.wR fun i _ aI=>(fW.lt i aI).1).RY fun b E G=>⟨E,.inr G⟩
structure bg where
 nm:List UInt8
 ad:Nat
 dp:Nat
 on:Bool
 us:Bool
 s:Int
 g:Int
 es:List (Z ak×Z ak)
abbrev jB (e:bg):Z .str×Z .aM:=((e.nm:Z .str),(some e.ad:Z .aM))
abbrev Aj (nm:List UInt8) (on us:Bool) (dp:Nat):List bC:=[.d (.str nm),.d (.bool on),.d (.bool us),.d (.aM (some dp))]
def qs (nm:List UInt8) (on us:Bool) (dp:Nat):bh:=bh.ch (.cells (Aj nm on us dp)) (fun _=>rfl)
def ff (s g:Int) (es:List (Z ak×Z ak)):bh:=bh.iX 1001 (io s g es)
def dQ (l:List bg):List (Z .str×Z .aM):=l.map jB
abbrev wq (e:bg):Nat×bh:=(e.ad,qs e.nm e.on e.us e.dp)
abbrev ws (e:bg):Nat×bh:=(e.dp,ff e.s e.g e.es)
def jR (l:List bg):List (Nat×bh):=l.map wq
def jC (l:List bg):List (Nat×bh):=l.map ws
abbrev ej (l:List bg):ay:=[(1001,.cells [.mp 1002]),(1002,.map .str .aM (dQ l)),(1003,.aG (.bA (jR l))),(1004,.aG (.bA (jC l)))]
def c2 (l:List bg) (nm:List UInt8):Option bg:=l.find? fun e=>decide (e.nm=nm)
theorem wt (d:bg) (L:List bg) (nm:List UInt8):c2 (d::L) nm=if d.nm=nm then some d else c2 L nm:=by
 unfold c2;rw[List.find?_cons]
 by_cases e:d.nm=nm
 .rw[aq2 e,if_pos e]
 .rw[ar8 e,if_neg e]
theorem jS {l:List bg} {nm:List UInt8} {e:bg} (h:c2 l nm=some e):e∈l/\e.nm=nm:=⟨at8 h,by have:=List.find?_some h;simpa using this⟩
theorem GA (nm:List UInt8): ∀L:List bg,(b0 (aJ:=.str) (aL:=.aM) (dQ L) nm).getD (cK .aM)=((c2 L nm).map (·.ad):Option Nat)
 | []=>rfl
 |d::L=>by
  have br:=GA nm L;show(b0 (aJ:=.str) (aL:=.aM) (jB d::dQ L) nm).getD (cK .aM)=_;rw[wt];rw[show b0 (aJ:=.str) (aL:=.aM) (jB d::dQ L) nm=match fV .str (nm:Z .str) (jB d).1 with |true=>some (jB d).2 |false=>b0 (aJ:=.str) (aL:=.aM) (dQ L) nm from rfl]
  by_cases e:d.nm=nm
  .rw[show fV .str (nm:Z .str) (jB d).1=true from(qd _ _).2 e.symm,if_pos e];rfl
  .rw[show fV .str (nm:Z .str) (jB d).1=false from ra (aJ:=.str) qd (fun h=>e h.symm),if_neg e];exact br
theorem L0 {f:bg->Nat×bh}: ∀{L:List bg},(L.map fun d=>(f d).1).Nodup-> ∀{d:bg},d∈L->eg (L.map f) (f d).1=some (f d).2
 | [],_,d,h=>by cases h
 |e::L,hn,d,h=>by
  rw[aq4] at hn;obtain⟨cH,dF⟩:=aq7.1 hn;rw[aq4];unfold eg;rcases ap3.1 h with rfl |h
  .rw[if_pos rfl]
  .rw[if_neg (fun e=>cH (by rw[e];exact aq6 (f:=fun d=>(f d).1) h))];exact L0 dF h
theorem L1 {f:bg->Nat×bh} {u:bg->bg}: ∀{L:List bg},(L.map fun d=>(f d).1).Nodup-> ∀{d:bg},d∈L->(f (u d)).1=(f d).1->e5 (L.map f) (f d).1 (f (u d)).2=(L.map fun x=>if(f x).1=(f d).1 then u x else x).map f
 | [],_,d,h,_=>by cases h
 |e::L,hn,d,h,ab=>by
  rw[aq4] at hn;obtain⟨cH,dF⟩:=aq7.1 hn;rw[aq4,aq4,aq4];unfold e5;rcases ap3.1 h with rfl |h
  .rw[if_pos rfl,if_pos rfl]
   have ais:(L.map fun x=>if(f x).1=(f d).1 then u x else x)=L:=by
    refine(ar1 fun x hx=>?_).trans (List.map_id' L);rw[if_neg fun e=>cH (by rw[<-e];exact aq6 (f:=fun d=>(f d).1) hx)]
   rw[ais]
   congr 1
   exact Prod.ext ab.symm rfl
  .have ba: ¬(f e).1=(f d).1:=fun ap=>cH (by rw[ap];exact aq6 (f:=fun d=>(f d).1) h)
   rw[if_neg ba,if_neg ba,L1 dF h ab]
def mQ (l:List bg) (a:Nat) (u:bg->bg):List bg:=l.map fun x=>if x.ad=a then u x else x
structure dR (l:List bg):Prop where
 ik:(l.map (·.nm)).Nodup
 lf:(l.map (·.ad)).Nodup
 uT:(l.map (·.dp)).Nodup
 ok: ∀e,e∈l->(0<=e.s/\e.s<=4096)/\(1<=e.g/\e.g<=64)/\eZ e.es/\e.nm.length<=64
 len:l.length<=8
theorem uU {α lC:Type} {f:α->lC}: ∀{l:List α},(l.map f).Nodup-> ∀{p q:α},p∈l->q∈l->f p=f q->p=q
 | [],_,_,_,h,_,_=>by cases h
 |a::l,h,p,q,ag,aV,e=>by
  rw[aq4,aq7] at h;rcases ap3.1 ag with ag |ag <;>rcases ap3.1 aV with aV |aV
  .rw[ag,aV]
  .exact absurd (by rw[<-ag,e];exact aq6 aV) h.1
  .exact absurd (by rw[<-aV,<-e];exact aq6 ag) h.1
  .exact uU h.2 ag aV e
theorem dR.D {l:List bg} (h:dR l) {e:bg} (V:e∈l):eg (jR l) e.ad=some (qs e.nm e.on e.us e.dp):=L0 (f:=wq) h.lf V
theorem dR.M {l:List bg} (h:dR l) {e:bg} (V:e∈l):eg (jC l) e.dp=some (ff e.s e.g e.es):=L0 (f:=ws) h.uT V
theorem Tz {l:List bg} {a:Nat} {u:bg->bg} (E: ∀e,(u e).nm=e.nm) (G: ∀e,(u e).ad=e.ad):dQ (mQ l a u)=dQ l:=by
 unfold dQ mQ;rw[as2];refine ar1 fun x _=>?_
 show jB (if x.ad=a then u x else x)=jB x
 split
 .unfold jB;rw[E,G]
 .rfl
theorem TA {l:List bg} (h:dR l) {e:bg} (V:e∈l) {u:bg->bg} (G:(u e).ad=e.ad):e5 (jR l) e.ad (qs (u e).nm (u e).on (u e).us (u e).dp)=jR (mQ l e.ad u):=
 L1 (f:=wq) (u:=u) h.lf V G
theorem TB {l:List bg} (h:dR l) {e:bg} (V:e∈l) {u:bg->bg} (G:(u e).dp=e.dp):e5 (jC l) e.dp (ff (u e).s (u e).g (u e).es)=jC (mQ l e.ad u):=by
 refine(L1 (f:=ws) (u:=u) h.uT V G).trans ?_;unfold jC mQ
 congr 1
 refine ar1 fun x hx=>?_
 by_cases H:x.ad=e.ad
 .have:=uU h.lf hx V H;subst this;rw[if_pos rfl,if_pos rfl]
 .rw[if_neg H,if_neg fun ap=>H (by rw[uU h.uT hx V ap])]
theorem ait {l:List bg} {a:Nat} {u:bg->bg} (E: ∀e,(u e).dp=e.dp/\(u e).s=e.s/\(u e).g=e.g/\(u e).es=e.es):jC (mQ l a u)=jC l:=by
 unfold jC mQ;rw[as2];refine ar1 fun x _=>?_
 show ws (if x.ad=a then u x else x)=ws x
 split
 .obtain⟨b4,ci,a3,a4⟩:=E x;unfold ws;rw[b4,ci,a3,a4]
 .rfl
theorem dR.c5 {l:List bg} (h:dR l) {a:Nat} {u:bg->bg} (E: ∀e,(u e).nm=e.nm/\(u e).ad=e.ad/\(u e).dp=e.dp) (G: ∀e,e∈l->e.ad=a->(0<=(u e).s/\(u e).s<=4096)/\(1<=(u e).g/\(u e).g<=64)/\eZ (u e).es):dR (mQ l a u):=by
 have key: ∀{lC:Type} (f:bg->lC),(∀e,f (u e)=f e)->(mQ l a u).map f=l.map f:=fun f hf=>by
  unfold mQ;rw[as2];refine ar1 fun x _=>?_
  show f (if x.ad=a then u x else x)=f x
  split
  .exact hf x
  .rfl
 refine⟨by rw[key _ fun e=>(E e).1];exact h.ik,by rw[key _ fun e=>(E e).2.1];exact h.lf,by rw[key _ fun e=>(E e).2.2];exact h.uT,fun e V=>?_,by unfold mQ;rw[aq3];exact h.len⟩;obtain⟨x,hx,rfl⟩:=ar2.1 V
 by_cases H:x.ad=a
 .rw[if_pos H];obtain⟨b1,b2,b3⟩:=G x hx H;exact⟨b1,b2,b3,by rw[(E x).1];exact(h.ok x hx).2.2.2⟩
 .rw[if_neg H];exact h.ok x hx
theorem GB {f:FuncId} {args:List aQ} {res:aQ} {s g s' he:Int} {es ek:List (Z ak×Z ak)} {M:List (Nat×bh)} {b:Nat} (h:Fn Tryz.prog f (ao 1001::args) (io s g es) [] res (io s' he ek)) (ar:eg M b=some (ff s g es))
  (E:nO 1001 [1002] (ao 1001::args) (io s g es) [] [] []=true) (G:nP 1001 (mE [1002] [] []) res (io s' he ek) []=true) (al:(args.all fun v=> !v.has 1001)=true) (aZ:(!res.has 1001)=true):
  Fn Tryz.prog f (dn b::args) [(1004,.aG (.bA M))] [] res [(1004,.aG (.bA (e5 M b (ff s' he ek))))]:=by
 have H:Fn Tryz.prog f (ao 1001::args) [(1001,.aG (ff s g es))] [] res [(1001,.aG (ff s' he ek))]:=Fn.close (bp:=io s g es) (dv:=io s' he ek) (aK:=[]) (aP:=[]) [1002] (by simpa using h) (fun _ _ _ _ h=>h) (fun _ _ _ _ h=>h) E G;exact(cv.bA (c:=1001) (q:=1004) (b:=b) (args:=args) (aK:=[]) (bf:=[]) (X:=Unit) (res:=fun _=>res) (aP:=fun _=>[]) (o:=ff s g es) (o':=fun _=>ff s' he ek) (L:=M) H.x ar al ⟨rfl,rfl⟩ rfl (fun _=>aZ)).fn
theorem TC:Fn Tryz.prog 20 [] [] [1001,1002,1003,1004] (ao 1001) (ej []):=by
 refine aW [] Tryz.func20 rfl rfl rfl rfl ?_;refine⟨rfl,rfl,?_⟩;exact⟨_,_,_,af.trans (af.aX 3 1001 rfl) (af.trans (af.aX 1 1002 rfl) (af.trans (af.q8 1003 rfl) (af.q8 1004 rfl))),rfl,rfl,ac,rfl⟩
theorem Ak (l:List bg):l7 (dQ l)=l.map (·.nm):=by
 unfold l7 dQ;rw[as2];rfl
def ia (l:List bg):List (List UInt8):=nf (dQ l)
theorem L2 (l:List bg):(ia l).length=l.length:=by
 unfold ia nf;rw[List.length_mergeSort,Ak,aq3]
theorem aiu {l:List bg} (h:dR l):Fn Tryz.prog 117 [ao 1001] (ej l) [] (bS .str (ia l)) (ej l):=by
 have ab:(l7 (dQ l)).Nodup:=by rw[Ak];exact h.ik
 have aA: ∀s∈l7 (dQ l),s.length<=maxLen:=fun s ax=>by
  rw[Ak] at ax;obtain⟨d,J,rfl⟩:=ar2.1 ax;exact as9 (h.ok d J).2.2.2 au6
 have ax:(dQ l).length<=4294967296:=by unfold dQ;rw[aq3];have:=h.len;omega
 refine aW [] Tryz.func117 rfl rfl rfl rfl ?_;refine au (Fn.aX [(1001,1002),(2001,5001)] (aiq (dQ l))) ?_;refine au (Fn.aX [(1001,1002),(2001,5001)] (air (dQ l) ab aA ax)) ?_;exact aT aH rfl rfl ac rfl
theorem C6:(Tryz.prog.info? 4).map (·.size)=some 1:=by kernel_rfl
theorem GC:(Tryz.prog.info? 66).map (·.size)=some 1:=by kernel_rfl
theorem L3 {I:Nat->Prop} {w:World} {b:Bool} {aB:Value} (h:gE I w (.bool b) aB):aB.cells=List.toArray [aB]/\aB.oneCell'=true:=by
 have h:aB= .bool b:=h;subst h;exact⟨rfl,rfl⟩
theorem aiv {I:Nat->Prop} {w:World} {b:Bool} {aB:Value} (h:gE I w (.lit b) aB):aB.cells=List.toArray [aB]/\aB.oneCell'=true:=by
 have h:aB= .bool b:=h;subst h;exact⟨rfl,rfl⟩
theorem aiw {l:List bg} (h:dR l) {e:bg} (V:e∈l) (on:Bool):Fn Tryz.prog 159 [dn e.ad,ao 3001] (ej l++[(3001,.cells [.d (.bool on)])]) [] gI (ej (mQ l e.ad fun x=>{x with on:=on})++[(3001,.cells [.d (.bool on)])]):=by
 obtain⟨oU,gb,gc⟩:=j5 C6;have b9:=h.D V;have oY:=Tz (l:=l) (a:=e.ad) (u:=fun x=>{x with on:=on}) (fun _=>rfl) (fun _=>rfl);have sr:=TA h V (u:=fun x=>{x with on:=on}) rfl;have wg:=ait (l:=l) (a:=e.ad) (u:=fun x=>{x with on:=on}) (fun _=>⟨rfl,rfl,rfl,rfl⟩);refine aW [] Tryz.func159 rfl rfl rfl rfl ?_;refine⟨_,_,fun N=>iY (b:=e.ad) rfl rfl N,rfl,?_⟩;refine⟨_,_,fun N=>jb rfl Tryz.underlying165 rfl rfl gb (by rw[gc];decide) rfl N,rfl,?_⟩;refine⟨_,_,fun N=>zu (q:=1003) (b:=e.ad) (j:=1) (y:=.bool on) (l:=Aj e.nm e.on e.us e.dp) (h':=fun _=>rfl) rfl gb gc rfl rfl rfl b9 (show 1 < 4 by decide) L3 N,rfl,?_⟩;exact aT aH rfl trivial ⟨rfl,congrArg (fun e=>some (bd.map .str .aM e)) oY.symm,congrArg (fun e=>some (bd.aG (.bA e))) sr,congrArg (fun e=>some (bd.aG (.bA e))) wg.symm,rfl,trivial⟩ rfl
def oa (x:bg):bg:={x with us:=true,es:=C5 x.s x.g x.es}
theorem aix {l:List bg} (h:dR l) {e:bg} (V:e∈l):Fn Tryz.prog 154 [dn e.ad] (ej l) [] gI (ej (mQ l e.ad oa)):=by
 obtain⟨oU,gb,gc⟩:=j5 C6;obtain⟨L4,wu,wv⟩:=j5 GC;obtain⟨cf,cM,eb,eA⟩:=h.ok e V;have b9:=h.D V;have ar:=h.M V;have oY:=Tz (l:=l) (a:=e.ad) (u:=oa) (fun _=>rfl) (fun _=>rfl);have sr:=TA h V (u:=oa) rfl;have wg:=TB h V (u:=oa) rfl;have ax:=GB (LC e.s e.g e.es) ar rfl rfl rfl rfl;rw[xz ar] at ax;have H:=GB (aic e.s e.g e.es cf cM) ar rfl rfl rfl rfl;refine aW [] Tryz.func154 rfl rfl rfl rfl ?_;refine⟨_,_,fun N=>iY (b:=e.ad) rfl rfl N,rfl,?_⟩;refine⟨_,_,fun N=>jb rfl Tryz.underlying165 rfl rfl wu (by rw[wv];decide) rfl N,rfl,?_⟩;refine⟨_,_,fun N=>k8 (q:=1003) rfl Tryz.underlying66 rfl rfl rfl b9 rfl N,rfl,?_⟩;refine⟨_,_,fun N=>iY (b:=e.ad) rfl rfl N,rfl,?_⟩;refine⟨_,_,fun N=>jb rfl Tryz.underlying165 rfl rfl wu (by rw[wv];decide) rfl N,rfl,?_⟩;refine⟨_,_,fun N=>k8 (q:=1003) rfl Tryz.underlying66 rfl rfl rfl b9 rfl N,rfl,?_⟩;refine au ax ?_;refine au H ?_;refine⟨eC au8,_,_,fun N=>iY (b:=e.ad) rfl rfl N,rfl,?_⟩;refine⟨_,_,fun N=>jb rfl Tryz.underlying165 rfl rfl gb (by rw[gc];decide) rfl N,rfl,?_⟩;refine⟨_,_,fun N=>zu (q:=1003) (b:=e.ad) (j:=2) (y:=.lit true) (l:=Aj e.nm e.on e.us e.dp) (h':=fun _=>rfl) rfl gb gc rfl rfl rfl b9 (show 2 < 4 by decide) aiv N,rfl,?_⟩;exact aT aH rfl trivial ⟨rfl,congrArg (fun e=>some (bd.map .str .aM e)) oY.symm,congrArg (fun e=>some (bd.aG (.bA e))) sr,congrArg (fun e=>some (bd.aG (.bA e))) wg,trivial⟩ rfl
end
section
section
variable {P:Program} {ids:List Nat} {K:a1} {B:ay}
theorem aiy {o:Oper} {T:TypeId} {x:Operand} {q b:Nat} {L:List (Nat×bh)} {l:List bC} {h: ∀c,(bd.cells l).has c=false} {d:TypeDesc} {i:TypeInfo} (ai:o.op= .load T x) (cc:P.underlying T=some d) (fW:d.isRow=true) (aI:P.info? T=some i) (aR:i.size=l.length) (hx:a7 K x= .c (.one (.d (.aM (some b)))))
  (aV:ah B q=some (.aG (.bA L))) (cW:eg L b=some (bh.ch (.cells l) h)) (N:Nat):bB P N ids o K B (.c (.agg l)) ⟨[q],[],[]⟩:=by
 have aA:x∈o.op.operands:=by rw[ai];simp[Op.operands]
 refine bB.val fun K' B' g1 g2 C ρ F a w ar av=>?_
 have bn:fb (bZ C B' F w) w L (F q):=ar.holds q _ ((g2 q au7).trans aV);have az:a.eval x= .pointer (some ⟨b,0,none⟩):=av.ev ((g1 x aA).trans hx);obtain⟨cu,cI,p,cf,cM,eb,eA,uu⟩:=bn.out cW;obtain⟨E,aD,eT,G,al⟩:=eA;rw[eb] at G
 refine⟨.agg (List.toArray aD),Er (cs:=aD) ai az cc fW aI (by rw[b'.length _ _ al];exact aR) (fun j v aa=>by rw[Nat.zero_add];exact oD G aa),aD,rfl,b'.mono (cd.refl _ _) _ _ (fun c H=>by
  have aw:mq c l=false:=h c;rw[aw] at H
  cases H) al⟩
end
abbrev ir (c d:Nat) (s g:Int) (es:List (Z ak×Z ak)):ay:=[(c,.cells [.d (.int .i64 s),.d (.int .i64 g),.mp d]),(d,.map ak ak es)]
theorem aiz (s g:Int) (es:List (Z ak×Z ak)):Fn Tryz.prog 94 [ao 3001] (ir 3001 3002 s g es) [1001] (ao 1001) (ir 3001 3002 s g es++[(1001,.aG (ff s g es))]):=by
 refine aW [] Tryz.func94 rfl rfl rfl rfl ?_;refine au (Fn.aX [(1001,3002),(2001,1002)] (Tt es)) ?_;refine⟨rfl,eC au8,?_⟩;exact⟨_,_,_,af.trans (af.aX 17 1001 rfl) (af.close 1001 (io s g es) ac rfl fun _ _ _ _ h=>h),rfl,rfl,ac,rfl⟩
theorem aiA {s g:Int} {es:List (Z ak×Z ak)} {M:List (Nat×bh)} {b:Nat} (ar:eg M b=some (ff s g es)):Fn Tryz.prog 94 [dn b] [(1004,.aG (.bA M))] [5001,5002] (ao 5001) [(1004,.aG (.bA M)),(5001,.cells [.d (.int .i64 s),.d (.int .i64 g),.mp 5002]),(5002,.map ak ak es)]:=by
 have aw:=Fn.aX [(2001,5001),(2002,5002)] (aii s g es);have H:Fn Tryz.prog 94 [ao 1001] [(1001,.aG (ff s g es))] [5001,5002] (ao 5001) ((1001,.aG (ff s g es))::ir 5001 5002 s g es):=Fn.close (bp:=io s g es) (dv:=io s g es) (aK:=[]) (aP:=ir 5001 5002 s g es) [1002] aw (fun _ _ _ _ h=>h) (fun _ _ _ _ h=>h) rfl rfl;have:=(cv.bA (c:=1001) (q:=1004) (b:=b) (args:=[]) (aK:=[]) (bf:=[5001,5002]) (X:=Unit) (res:=fun _=>ao 5001) (aP:=fun _=>ir 5001 5002 s g es) (o:=ff s g es) (o':=fun _=>ff s g es) (L:=M) H.x ar rfl ⟨rfl,rfl⟩ rfl (fun _=>rfl)).fn;rw[xz ar] at this;exact this
end
section
abbrev Al (b:Nat):Z .aM:=(some b:Option Nat)
theorem fb.qN {I:Nat->Prop} {w:World} {o:bh} {p:bo} {cu:Nat->Prop} (ai:o.R I cu w p): ∀{L:List (Nat×bh)} {F:Nat->Prop},fb I w L F->(∀x,cu x-> ¬F x)->fb I w (L++[(p.bk,o)]) (fun x=>cu x\/F x)
 | [],F,h,J=>⟨cu,F,p,fun x=>Iff.rfl,J,rfl,ai,h⟩
 |(a,q)::L,F,⟨oM,qa,r,E,G,al,aZ,bK⟩,J=>
  ⟨oM,fun x=>cu x\/qa x,r,fun x=>by
    show(cu x\/F x)↔(oM x\/(cu x\/qa x));rw[E];constructor
    .intro h;rcases h with h |h |h
     .exact .inr (.inl h)
     .exact .inl h
     .exact .inr (.inr h)
    .intro h;rcases h with h |h |h
     .exact .inr (.inl h)
     .exact .inl h
     .exact .inr (.inr h),
   fun x hx h=>by
    rcases h with h |h
    .exact J x h ((E x).2 (.inl hx))
    .exact G x hx h,
   al,aZ,fb.qN ai bK fun x hx h=>J x hx ((E x).2 (.inr h))⟩
section
variable {P:Program} {ids:List Nat} {K:a1} {B:ay}
end
end
section
def x9 (ob:Nat->bh) (my:bh):bh where
 R:=fun I F w p=> ∃(cu cI:Nat->Prop) (q:bo),(∀x,F x↔cu x\/cI x)/\(∀x,cu x-> ¬cI x)/\(ob q.bk).R I cu w p/\my.R I cI w q
 cg:=fun I F w I' w' p ⟨cu,cI,q,E,G,al,aZ⟩ V bj aR=>⟨cu,cI,q,E,G,(ob q.bk).cg _ _ _ _ _ _ al V (fun b O=>bj b ((E b).2 (.inl O))) aR,my.cg _ _ _ _ _ _ aZ V (fun b O=>bj b ((E b).2 (.inr O))) aR⟩
def TD (aJ:bx) (es:List (Z aJ×Z .aM)) (key:Z aJ) (o:bh) (I F:Nat->Prop) (w:World) (p:bo):Prop:=
 ∃(b8:Nat->Prop) (q:bo),(∀x,F x↔x=p.bk\/b8 x)/\ ¬b8 p.bk/\(∃bT bU,w.heap[p.bk]? =some (.map (List.toArray bT) bU)/\ie I w aJ .aM (dr (aJ:=aJ) (aL:=.aM) es key (Al q.bk)) bT/\lX bT bU)/\o.R I b8 w q
def GD (aJ:bx) (es:List (Z aJ×Z .aM)) (key:Z aJ) (o:bh):bh where
 R:=TD aJ es key o
 cg:=fun I F w I' w' p ⟨b8,q,E,G,⟨bT,bU,aZ,bK,fD⟩,jG⟩ V bj aR=>⟨b8,q,E,G,⟨bT,bU,(bj _ ((E _).2 (.inl rfl))).trans aZ,bK.mono V,fD⟩,o.cg _ _ _ _ _ _ jG V (fun b O=>bj b ((E b).2 (.inr O))) aR⟩
section
variable {P:Program} {ids:List Nat} {K:a1} {B:ay}
theorem af.aiB (c:Nat) {ch:bd} (h: ∀c,ch.has c=false) (H:ah B c=some ch):af ids K B K ((c,.aG (bh.ch ch h))::B):=by
 rintro N C a w ⟨hn,J,ρ,F,ar,av⟩;obtain⟨bN,aY⟩:=ar.hN (w':=w) (ch:=.aG (bh.ch ch h)) H (cJ.refl _ _) fun I bb=>bh.Qx h (Holds.cg (ρ':=ρ) bb (fun _ _=>rfl) (ap0 _) ch (fun _ _=>rfl) (ar.holds c _ H))
 exact⟨hn,J,ρ,F,bN,av.mono aY fun _ _ _=>rfl⟩
theorem aiC {o:Oper} {T kt et:TypeId} {x i v:Operand} {c d e:Nat} (ai:o.op= .mapUpdate T x i v) (cc:P.underlying T=some (.map kt et)) {dk:TypeDesc} (j3:P.underlying kt=some dk) {aJ:bx} (J:mX aJ dk=true)
  (hx:a7 K x= .c (.one (.mp c))) {key:Z aJ} (ab:w2 aJ (a7 K i)=some key) (az:a7 K v= .c (.one (.ptr d 0))) {es:List (Z aJ×Z .aM)} {bl: ∀c,(bd.map aJ .aM es).has c=false} {l:List bC} {ob:Nat->bh} {my:bh}
  (H:ah B c=some (.aG (bh.ch (.map aJ .aM es) bl))) (kM:ah B d=some (.cells l)) (gA:ah B e=some (.aG my)) (ba:c≠d) (TE:c≠e) (aiD:d≠e)
  (L5: ∀(ρ:Nat->bo) (I F:Nat->Prop) (w:World) (p:bo),Holds ρ I F w p (.cells l)->(ob (ρ e).bk).R I F w p) (N:Nat):bB P N ids o K B .undef ⟨[c,d,e],[],[(d,none),(e,none),(c,some (.aG (GD aJ es key (x9 ob my))))]⟩:=by
 have m1:x∈o.op.operands:=by rw[ai];simp[Op.operands]
 have m2:i∈o.op.operands:=by rw[ai];simp[Op.operands]
 have m3:v∈o.op.operands:=by rw[ai];simp[Op.operands]
 rintro K' B' g1 g2 - C a w ⟨hn,l5,ρ,F,ar,av⟩ bw fC Q di;have cF:=(g2 c au7).trans H;have dK:=(g2 d au7).trans kM;have gO:=(g2 e au7).trans gA;obtain⟨mz,bT,bU,aZ,bK,fD⟩:Holds (fun _=>ρ c) (bZ C B' F w) (F c) w (ρ c) (.map aJ .aM es):=ar.holds c _ cF;have aiE:=ar.holds d _ dK;have aiF:my.R (bZ C B' F w) (F e) w (ρ e):=ar.holds e _ gO;have x': ∀y,F d y-> ¬F e y:=fun y aC d4=>ar.e9 d e _ _ y dK gO aiD aC d4
 have aE:(x9 ob my).R (bZ C B' F w) (fun y=>F d y\/F e y) w (ρ d):=⟨F d,F e,ρ e,fun x=>Iff.rfl,x',L5 ρ _ _ _ _ aiE,aiF⟩;have aj:=av.mp ((g1 x m1).trans hx);have ap:a.eval i=gF aJ key:=Bg ab (av.ev (g1 i m2));have bm:a.eval v= .pointer (some ⟨(ρ d).bk,0,none⟩):=av.ev ((g1 v m3).trans az)
 have c0:jk (bZ C B' F w) w .aM (Al (ρ d).bk) (a.eval v):=by
  rw[bm];exact⟨rfl,⟨fun _=>rfl,fun h=>by cases h⟩,rfl⟩
 obtain⟨ek,jE,aF,gk,p4⟩:=A1 (P:=P) cc j3 J aZ bK fD key c0;have eo: ∀y,(F d y\/F e y)-> ¬F c y:=fun y aC d4=>aC.elim (fun aC=>ar.e9 d c _ _ y dK cF (Ne.symm ba) aC d4) (fun aC=>ar.e9 e c _ _ y gO cF (Ne.symm TE) aC d4)
 have q9:=(Array.getElem?_eq_some_iff.1 aZ).1;have uz: ∀y,y≠(ρ c).bk->({w with heap:=w.heap.setIfInBounds (ρ c).bk (.map (List.toArray ek) jE)}:World).heap[y]? =w.heap[y]? :=fun y aC=>Array.getElem?_setIfInBounds_ne (Ne.symm aC)
 unfold Oper.wp;have hx:(execOp a.eval o).run P w= .ok .skip {w with heap:=w.heap.setIfInBounds (ρ c).bk (.map (List.toArray ek) jE)}:=by simp only[execOp,ai,Sem.run_bind,aj,ap,aF,Result.andThen_ok,Sem.run_pure]
 rw[hx,Oper.upon_skip]
 obtain⟨bN,aY⟩:=ar.step (B':=(c,.aG (GD aJ es key (x9 ob my)))::gL (gL B' d) e) (ρ':=ρ) (F':=c5 F c (fun y=>F c y\/(F d y\/F e y))) (w':={w with heap:=w.heap.setIfInBounds (ρ c).bk (.map (List.toArray ek) jE)}) (fun j=>j=d\/j=e\/j=c) (fun _=>False)
  ((uf (S:=F c) ((mz _).2 rfl)).mono fun y _ aC=>⟨c,_,cF,.inr (.inr rfl),aC⟩)
  (fun j ch aa aA=>by
   rw[ca,if_neg (fun e=>aA (.inr (.inr e.symm))),hk,if_neg (fun e=>aA (.inr (.inl e.symm))),hk,if_neg (fun e=>aA (.inl e.symm))] at aa;exact aa)
  (fun _ _=>rfl) (fun j aA=>de _ _ (fun e=>aA (.inr (.inr e)))) (fun _ _ h=>h) (fun _ h=>h.elim) (fun _ _ _ _ _ _ h=>h)
  (fun j ch aa aA aY=>by
   rw[ca] at aa
   split at aa
   .rename_i e;subst e;injection aa with aa
    subst aa;rw[c6];have xa: ∀y,(F d y\/F e y)->y≠(ρ c).bk:=fun y aC e=>eo y aC (e▸(mz _).2 rfl)
    refine⟨fun y=>F d y\/F e y,ρ d,fun y=>?_,fun h=>xa _ h rfl,⟨ek,jE,by simp[q9],gk.mono aY,p4⟩,(x9 ob my).cg _ _ _ _ _ _ aE aY (fun y aC=>uz y (xa y aC)) au7⟩;show(F c y\/(F d y\/F e y))↔(y=(ρ c).bk\/(F d y\/F e y));rw[mz]
   .rename_i bG;rcases aA with rfl |rfl |rfl
    .rw[hk] at aa
     split at aa
     .cases aa
     .rw[hk,if_pos rfl] at aa;cases aa
    .rw[hk,if_pos rfl] at aa;cases aa
    .exact absurd rfl bG)
  (fun j ch aa aA y aC=>by
   rw[ca] at aa
   split at aa
   .rename_i bG;subst bG;rw[c6] at aC;rcases aC with aC |aC |aC
    .exact⟨by simpa using(ar.own c _ cF y aC).1,.inl ⟨c,_,cF,.inr (.inr rfl),aC⟩⟩
    .exact⟨by simpa using(ar.own d _ dK y aC).1,.inl ⟨d,_,dK,.inl rfl,aC⟩⟩
    .exact⟨by simpa using(ar.own e _ gO y aC).1,.inl ⟨e,_,gO,.inr (.inl rfl),aC⟩⟩
   .rename_i bG;rcases aA with rfl |rfl |rfl
    .rw[hk] at aa
     split at aa
     .cases aa
     .rw[hk,if_pos rfl] at aa;cases aa
    .rw[hk,if_pos rfl] at aa;cases aa
    .exact absurd rfl bG)
  (fun j q5 ch ch' y aa ki aA gk aiG=>by
   have key: ∀j ch,ah ((c,bd.aG (GD aJ es key (x9 ob my)))::gL (gL B' d) e) j=some ch->(j=d\/j=e\/j=c)->j=c:=fun j ch aa aA=>by
    rcases aA with rfl |rfl |rfl
    .rw[ca,if_neg ba,hk] at aa
     split at aa
     .cases aa
     .rw[hk,if_pos rfl] at aa;cases aa
    .rw[ca,if_neg TE,hk,if_pos rfl] at aa;cases aa
    .rfl
   exact absurd ((key j ch aa aA).trans (key q5 ch' ki gk).symm) aiG)
 exact di _ _ ⟨ke.trans hn,kf.trans l5,ρ,_,bN,(av.mono aY fun _ _ _=>rfl).kg (fun e V=>by rw[hn];exact bw e V) rfl⟩
theorem df.aiH (c d:Nat) {aJ:bx} {es:List (Z aJ×Z .aM)} {key:Z aJ} {o:bh} (H:ah B c=some (.aG (GD aJ es key o))) (J:gW ids K B d=true):df ids K B (X:=Nat) (fun _=>K) (fun ad=>(d,.aG (o.at ad))::(c,.map aJ .aM (dr (aJ:=aJ) (aL:=.aM) es key (Al ad)))::B):=by
 rintro N C a w ⟨hn,l5,ρ,F,ar,av⟩;obtain⟨b8,q,E,G,⟨bT,bU,aZ,bK,fD⟩,jG⟩:TD aJ es key o (bZ C B F w) (F c) w (ρ c):=ar.holds c _ H;obtain⟨h1,jn,f3,pj⟩:=kK J
 obtain⟨bN,aY⟩:=ar.split (K:=K) (iT:=.map aJ .aM (dr (aJ:=aJ) (aL:=.aM) es key (Al q.bk))) (oC:=.aG (o.at q.bk)) H J q (fun x=>x=(ρ c).bk) b8 (fun b O=>(E b).2 (.inl O)) (fun b O=>(E b).2 (.inr O)) (fun b O kL=>G (O▸kL))
  (fun I bb=>⟨fun b=>Iff.rfl,bT,bU,aZ,bK.mono bb,fD⟩) (fun I bb=>by
   refine⟨rfl,?_⟩;exact o.cg _ _ _ _ _ _ jG bb (fun _ _=>rfl) (ap0 _))
 exact⟨q.bk,hn,l5,_,_,bN,av.mono aY fun s j aa=>de _ _ (fun b5=>by subst b5;rw[h1 s] at aa;cases aa)⟩
theorem df.aiI (d e:Nat) {ob:Nat->bh} {my:bh} {ad:Nat} (H:ah B d=some (.aG ((x9 ob my).at ad))) (V:gW ids K B e=true):df ids K B (X:=Nat) (fun _=>K) (fun dp=>(e,.aG (my.at dp))::(d,.aG ((ob dp).at ad))::B):=by
 rintro N C a w ⟨hn,l5,ρ,F,ar,av⟩;obtain⟨O,cu,cI,q,E,G,al,aZ⟩:((x9 ob my).at ad).R (bZ C B F w) (F d) w (ρ d):=ar.holds d _ H;obtain⟨h1,jn,f3,pj⟩:=kK V
 obtain⟨bN,aY⟩:=ar.split (K:=K) (iT:=.aG ((ob q.bk).at ad)) (oC:=.aG (my.at q.bk)) H V q cu cI (fun b O=>(E b).2 (.inl O)) (fun b O=>(E b).2 (.inr O)) G
  (fun I bb=>⟨O,(ob q.bk).cg _ _ _ _ _ _ al bb (fun _ _=>rfl) (ap0 _)⟩) (fun I bb=>⟨rfl,my.cg _ _ _ _ _ _ aZ bb (fun _ _=>rfl) (ap0 _)⟩)
 exact⟨q.bk,hn,l5,_,_,bN,av.mono aY fun s j aa=>de _ _ (fun b5=>by subst b5;rw[h1 s] at aa;cases aa)⟩
end
theorem TF {nm:List UInt8} {on us:Bool} {dp:Nat}:(qs nm on us dp).oP:=fun I F w p h=>(h.1 _).2 rfl
theorem TG {s g:Int} {es:List (Z ak×Z ak)}:(ff s g es).oP:=by
 rintro I F w p ⟨ρ,b8,E,G,al,aZ⟩;obtain⟨bj,_⟩:=G 1001 _ rfl;exact(aZ _).2 ⟨1001,_,rfl,(bj _).2 (by rw[E])⟩
theorem aiJ (l:List bg): ∀p∈jR l,p.2.oP:=fun p ag=>by
 obtain⟨d,_,rfl⟩:=ar2.1 ag;exact TF
theorem aiK (l:List bg): ∀p∈jC l,p.2.oP:=fun p ag=>by
 obtain⟨d,_,rfl⟩:=ar2.1 ag;exact TG
theorem TH (nm:List UInt8) (x:Z .aM): ∀L:List bg,c2 L nm=none->dr (aJ:=.str) (aL:=.aM) (dQ L) (nm:Z .str) x=(dQ L++[zU nm x]:List (Z .str×Z .aM))
 | [],_=>rfl
 |d::L,h=>by
  rw[wt] at h
  by_cases e:d.nm=nm
  .rw[if_pos e] at h;cases h
  .rw[if_neg e] at h;have br:=TH nm x L h;show dr (aJ:=.str) (aL:=.aM) (jB d::dQ L) (nm:Z .str) x=_;rw[show dr (aJ:=.str) (aL:=.aM) (jB d::dQ L) (nm:Z .str) x=(match fV .str (nm:Z .str) (jB d).1 with |true=>zU nm x::dQ L |false=>jB d::dr (aJ:=.str) (aL:=.aM) (dQ L) (nm:Z .str) x:List (Z .str×Z .aM)) from rfl];rw[show fV .str (nm:Z .str) (jB d).1=false from ra (aJ:=.str) qd (fun h=>e h.symm)];simp only;rw[br];rfl
theorem GE {l:List bg} {nm:List UInt8} (h:c2 l nm=none):nm∉l.map (·.nm):=fun hx=>by
 obtain⟨d,J,e⟩:=ar2.1 hx;have:=List.find?_eq_none.1 h d J;exact this (by simpa using e)
theorem dR.add {l:List bg} (h:dR l) {e:bg} (aw:c2 l e.nm=none) (ha:e.ad∉l.map (·.ad)) (O:e.dp∉l.map (·.dp)) (bu:(0<=e.s/\e.s<=4096)/\(1<=e.g/\e.g<=64)/\eZ e.es/\e.nm.length<=64) (aq:l.length < 8):dR (l++[e]):=by
 have key: ∀{α:Type} (f:bg->α) (d:bg),(l.map f).Nodup->f d∉l.map f->((l++[d]).map f).Nodup:=fun f d E G=>by
  rw[as3];refine List.nodup_append.2 ⟨E,au7,fun a ha b O e=>?_⟩;rw[aq4,au0,aq0] at O;exact G (by rw[<-O,<-e];exact ha)
 refine⟨key _ _ h.ik (GE aw),key _ _ h.lf ha,key _ _ h.uT O,fun x hx=>?_,by rw[ap1];show l.length+1<=8;omega⟩;rcases aq8.1 hx with hx |hx
 .exact h.ok x hx
 .rw[aq0.1 hx];exact bu
theorem TI {f:bg->Nat×bh} (L:List bg) (d:bg):(f d::L.map f).Perm ((L++[d]).map f):=by
 rw[as3];exact(List.perm_append_comm (l₁:=[f d]) (l₂:=L.map f))
abbrev Am (l:List bg) (s g:Int) (es:List (Z ak×Z ak)):ay:=ej l++ir 2001 2002 s g es
theorem C7 {l:List bg} {nm:List UInt8} (aw:c2 l nm=none):(b0 (aJ:=.str) (aL:=.aM) (dQ l) nm).getD (cK .aM)=none:=by rw[GA,aw];rfl
theorem An {l:List bg} {nm:List UInt8} {e:bg} (aw:c2 l nm=some e):(b0 (aJ:=.str) (aL:=.aM) (dQ l) nm).getD (cK .aM)=some e.ad:=by rw[GA,aw];rfl
set_option maxHeartbeats 1000000 in
theorem TJ {l:List bg} (h:dR l) (nm:List UInt8) (hn:nm.length<=4294967296) (aF:gp nm=true) (aw:c2 l nm=none) (iS:l.length < 8) (s g:Int) (es:List (Z ak×Z ak)) (bu:(0<=s/\s<=4096)/\(1<=g/\g<=64)/\eZ es):
  cv Tryz.prog 55 [ao 1001,bV nm,ao 2001] (Am l s g es) [] (X:={p:Nat×Nat//dR (l++[⟨nm,p.1,p.2,true,true,s,g,es⟩])}) (fun _=>ae 0) (fun p=>Am (l++[⟨nm,p.1.1,p.1.2,true,true,s,g,es⟩]) s g es):=by
 have hx:=C7 aw;have b6:(dQ l).length=l.length:=aq3 ..;refine hD [5,6] Tryz.func55 rfl rfl rfl rfl ?_;refine au (qn _ hn) ?_;refine⟨fun aj=>?_,fun aj=>?_⟩
 .rw[aF] at aj;cases aj
 refine⟨fun dZ bm=>?_,fun bm=>?_⟩
 .exfalso;have:(b0 (aJ:=.str) (aL:=.aM) (dQ l) nm).getD (cK .aM)=some dZ:=bm;rw[hx] at this
  cases this
 refine⟨fun c0=>?_,fun c0=>?_⟩
 .exfalso;have c0:(8:Int)<=((dQ l).length:Int):=gd c0;omega
 refine bt.le (af.aiB 1002 (fun _=>rfl) rfl) ?_;refine bz [6] (aH) ?_;refine au (Fn.aX [(1001,38),(3001,2001),(3002,2002)] (aiz s g es)) ?_;refine⟨rfl,_,_,fun N=>aiC (c:=1002) (d:=40) (e:=38) (aJ:=.str) (key:=nm) (ob:=fun dp=>qs nm true true dp) rfl Tryz.underlying101 (dk:=.string) au8 rfl rfl rfl rfl rfl rfl rfl au6 au6 au6 (fun ρ I F w p bl=>?L5) N,rfl,?_⟩
 case L5=>
  obtain⟨cx,aD,T,cA,kH,r1,aj,kN,v2,r2,ap,bD,v3,ga,bm,ub,v4,jK,c0,Be,fQ⟩:=bl;exact⟨cx,aD,T,cA,kH,r1,aj,kN,v2,r2,ap,bD,v3,ga,bm,ub,v4,jK,c0,Be,fQ⟩
 refine⟨eC au8,bt.eY (df.aiH 1002 5001 rfl rfl) fun ad=>?_⟩;refine bt.eY (df.aiI 5001 5002 rfl rfl) fun dp=>?_
 refine bt.le (K':=[]) (B':=[(1001,.cells [.mp 1002]),(1002,.map .str .aM (dr (aJ:=.str) (aL:=.aM) (dQ l) nm (Al ad))),(1003,.aG (.bA ((ad,qs nm true true dp)::jR l))),(1004,.aG (.bA ((dp,ff s g es)::jC l))),(2001,.cells [.d (.int .i64 s),.d (.int .i64 g),.mp 2002]),(2002,.map ak ak es)]) (af.trans (af.put 1003 5001 au6 rfl rfl) (af.trans (af.put 1004 5002 au6 rfl rfl) (af.sub trivial ac))) ?_;refine bt.eY (df.BS 1003 (L:=(ad,qs nm true true dp)::jR l) (fun p ag=>(ap3.1 ag).elim (fun e=>by rw[e];exact TF) (aiJ l p)) rfl) fun aiL=>?_
 refine bt.eY (df.BS 1004 (L:=(dp,ff s g es)::jC l) (fun p ag=>(ap3.1 ag).elim (fun e=>by rw[e];exact TG) (aiK l p)) rfl) fun aiM=>?_
 refine bz [] (aH) ?_;have K0:ad∉l.map (·.ad):=fun aA=>(aq7.1 aiL.down).1 (by show ad∈(jR l).map (·.1);unfold jR;rw[as2];exact aA)
 have aiN:dp∉l.map (·.dp):=fun aA=>(aq7.1 aiM.down).1 (by show dp∈(jC l).map (·.1);unfold jC;rw[as2];exact aA)
 have Kz:nm.length<=64:=by have:=(CG aF).2;omega
 have oY:dr (aJ:=.str) (aL:=.aM) (dQ l) (nm:Z .str) (Al ad)=dQ (l++[⟨nm,ad,dp,true,true,s,g,es⟩]):=(TH nm _ l aw).trans (by unfold dQ;rw[as3];rfl);exact⟨⟨(ad,dp),h.add (e:=⟨nm,ad,dp,true,true,s,g,es⟩) aw K0 aiN ⟨bu.1,bu.2.1,bu.2.2,Kz⟩ iS⟩,_,_,_,af.trans (af.zT 1003 (TI (f:=wq) l ⟨nm,ad,dp,true,true,s,g,es⟩) rfl) (af.zT 1004 (TI (f:=ws) l ⟨nm,ad,dp,true,true,s,g,es⟩) rfl),rfl,rfl,⟨rfl,congrArg (fun e=>some (bd.map .str .aM e)) oY,rfl,rfl,rfl,rfl,trivial⟩,rfl⟩
theorem aiO {l:List bg} (nm:List UInt8) (hn:nm.length<=4294967296) (aF:gp nm=false) (s g:Int) (es:List (Z ak×Z ak)):
  Fn Tryz.prog 55 [ao 1001,bV nm,ao 2001] (Am l s g es) [] (ae 1) (Am l s g es):=by
 refine aW [] Tryz.func55 rfl rfl rfl rfl ?_;refine au (qn _ hn) ?_;refine⟨fun aj=>?_,fun aj=>?_⟩
 .exact aT aH rfl rfl ac rfl
 .rw[aF] at aj;cases aj
theorem aiP {l:List bg} (nm:List UInt8) (hn:nm.length<=4294967296) (aF:gp nm=true) (aw:(c2 l nm).isSome=true\/8<=l.length) (s g:Int) (es:List (Z ak×Z ak)):
  Fn Tryz.prog 55 [ao 1001,bV nm,ao 2001] (Am l s g es) [] (ae 111) (Am l s g es):=by
 have b6:(dQ l).length=l.length:=aq3 ..;refine aW [5] Tryz.func55 rfl rfl rfl rfl ?_;refine au (qn _ hn) ?_;refine⟨fun aj=>?_,fun aj=>?_⟩
 .rw[aF] at aj;cases aj
 refine⟨fun dZ bm=>?_,fun bm=>?_⟩
 .exact aT aH rfl rfl ac rfl
 refine⟨fun c0=>?_,fun c0=>?_⟩
 .exact aT aH rfl rfl ac rfl
 .exfalso;have bm:(b0 (aJ:=.str) (aL:=.aM) (dQ l) nm).getD (cK .aM)=none:=bm;have c0: ¬(8:Int)<=((dQ l).length:Int):=mu c0;rcases aw with aw |aw
  .rw[GA] at bm
   cases E:c2 l nm with
   |none=>rw[E] at aw;cases aw
   |some e=>rw[E] at bm;cases bm
  .omega
end
section
theorem aiQ {l l':List bg} {nm:List UInt8} {e:bg} (V:c2 l nm=some e) (H:Fn Tryz.prog 158 [dn e.ad,ao 3001,ao 3002] (ej l++[(3001,.cells [.ptr 1001 0]),(3002,.cells [.d (.str nm)])]) [] gI (ej l'++[(3001,.cells [.ptr 1001 0]),(3002,.cells [.d (.str nm)])])):
  Fn Tryz.prog 149 [ao 1001,bV nm,.c (.one (.cT 158 [.p 3001 0,.p 3002 0]))] (ej l++[(3001,.cells [.ptr 1001 0]),(3002,.cells [.d (.str nm)])]) [] (ae 0) (ej l'++[(3001,.cells [.ptr 1001 0]),(3002,.cells [.d (.str nm)])]):=by
 have h':=An V;refine aW [] Tryz.func149 rfl rfl rfl rfl ?_;refine⟨fun dZ O=>?_,fun O=>absurd (show(b0 (aJ:=.str) (aL:=.aM) (dQ l) nm).getD (cK .aM)=none from O) (by rw[h'];intro h;cases h)⟩;refine au (Fn.arg (args:=[zP ((b0 (aJ:=.str) (aL:=.aM) (dQ l) nm).getD (cK .aM)),ao 3001,ao 3002]) H ⟨h',rfl,rfl,trivial⟩) ?_;exact aT aH rfl rfl ac rfl
theorem aiR {l:List bg} {nm:List UInt8} (V:c2 l nm=none):
  Fn Tryz.prog 149 [ao 1001,bV nm,.c (.one (.cT 158 [.p 3001 0,.p 3002 0]))] (ej l++[(3001,.cells [.ptr 1001 0]),(3002,.cells [.d (.str nm)])]) [] (ae 112) (ej l++[(3001,.cells [.ptr 1001 0]),(3002,.cells [.d (.str nm)])]):=by
 have h':=C7 V;refine aW [] Tryz.func149 rfl rfl rfl rfl ?_;refine⟨fun dZ O=>absurd (show(b0 (aJ:=.str) (aL:=.aM) (dQ l) nm).getD (cK .aM)=some dZ from O) (by rw[h'];intro h;cases h),fun _=>?_⟩;exact aT aH rfl rfl ac rfl
theorem aiS {l l':List bg} {nm:List UInt8} (on:Bool) {e:bg} (V:c2 l nm=some e) (H:Fn Tryz.prog 159 [dn e.ad,ao 3001] (ej l++[(3001,.cells [.d (.bool on)])]) [] gI (ej l'++[(3001,.cells [.d (.bool on)])])):
  Fn Tryz.prog 149 [ao 1001,bV nm,.c (.one (.cT 159 [.p 3001 0]))] (ej l++[(3001,.cells [.d (.bool on)])]) [] (ae 0) (ej l'++[(3001,.cells [.d (.bool on)])]):=by
 have h':=An V;refine aW [] Tryz.func149 rfl rfl rfl rfl ?_;refine⟨fun dZ O=>?_,fun O=>absurd (show(b0 (aJ:=.str) (aL:=.aM) (dQ l) nm).getD (cK .aM)=none from O) (by rw[h'];intro h;cases h)⟩;refine au (Fn.arg (args:=[zP ((b0 (aJ:=.str) (aL:=.aM) (dQ l) nm).getD (cK .aM)),ao 3001]) H ⟨h',rfl,trivial⟩) ?_;exact aT aH rfl rfl ac rfl
theorem aiT {l:List bg} {nm:List UInt8} (on:Bool) (V:c2 l nm=none):
  Fn Tryz.prog 149 [ao 1001,bV nm,.c (.one (.cT 159 [.p 3001 0]))] (ej l++[(3001,.cells [.d (.bool on)])]) [] (ae 112) (ej l++[(3001,.cells [.d (.bool on)])]):=by
 have h':=C7 V;refine aW [] Tryz.func149 rfl rfl rfl rfl ?_;refine⟨fun dZ O=>absurd (show(b0 (aJ:=.str) (aL:=.aM) (dQ l) nm).getD (cK .aM)=some dZ from O) (by rw[h'];intro h;cases h),fun _=>?_⟩;exact aT aH rfl rfl ac rfl
theorem aiU {l l':List bg} {nm:List UInt8} {e:bg} (V:c2 l nm=some e) (H:Fn Tryz.prog 154 [dn e.ad] (ej l) [] gI (ej l')):
  Fn Tryz.prog 149 [ao 1001,bV nm,.c (.one (.cT 154 []))] (ej l) [] (ae 0) (ej l'):=by
 have h':=An V;refine aW [] Tryz.func149 rfl rfl rfl rfl ?_;refine⟨fun dZ O=>?_,fun O=>absurd (show(b0 (aJ:=.str) (aL:=.aM) (dQ l) nm).getD (cK .aM)=none from O) (by rw[h'];intro h;cases h)⟩;refine au (Fn.arg (args:=[zP ((b0 (aJ:=.str) (aL:=.aM) (dQ l) nm).getD (cK .aM))]) H ⟨h',trivial⟩) ?_;exact aT aH rfl rfl ac rfl
theorem aiV {l:List bg} {nm:List UInt8} (V:c2 l nm=none):
  Fn Tryz.prog 149 [ao 1001,bV nm,.c (.one (.cT 154 []))] (ej l) [] (ae 112) (ej l):=by
 have h':=C7 V;refine aW [] Tryz.func149 rfl rfl rfl rfl ?_;refine⟨fun dZ O=>absurd (show(b0 (aJ:=.str) (aL:=.aM) (dQ l) nm).getD (cK .aM)=some dZ from O) (by rw[h'];intro h;cases h),fun _=>?_⟩;exact aT aH rfl rfl ac rfl
theorem aiW {l l':List bg} {nm:List UInt8} (on us:Bool) (s g:Int) (es:List (Z ak×Z ak)) {e:bg} (V:c2 l nm=some e) (H:Fn Tryz.prog 150 [dn e.ad,ao 3001] (ej l++[(3001,.cells [.d (.str []),.d (.lit false),.d (.lit false),.bI (.pointer none)])]) [5001,5002] gI (ej l'++[(3001,.cells [.d (.str nm),.d (.bool on),.d (.bool us),.ptr 5001 0]),(5001,.cells [.d (.int .i64 s),.d (.int .i64 g),.mp 5002]),(5002,.map ak ak es)])):
  Fn Tryz.prog 149 [ao 1001,bV nm,.c (.one (.cT 150 [.p 3001 0]))] (ej l++[(3001,.cells [.d (.str []),.d (.lit false),.d (.lit false),.bI (.pointer none)])]) [5001,5002] (ae 0) (ej l'++[(3001,.cells [.d (.str nm),.d (.bool on),.d (.bool us),.ptr 5001 0]),(5001,.cells [.d (.int .i64 s),.d (.int .i64 g),.mp 5002]),(5002,.map ak ak es)]):=by
 have h':=An V;refine aW [] Tryz.func149 rfl rfl rfl rfl ?_;refine⟨fun dZ O=>?_,fun O=>absurd (show(b0 (aJ:=.str) (aL:=.aM) (dQ l) nm).getD (cK .aM)=none from O) (by rw[h'];intro h;cases h)⟩;refine au (Fn.arg (args:=[zP ((b0 (aJ:=.str) (aL:=.aM) (dQ l) nm).getD (cK .aM)),ao 3001]) H ⟨h',rfl,trivial⟩) ?_;exact aT aH rfl rfl ac rfl
theorem aiX {l:List bg} {nm:List UInt8} (V:c2 l nm=none):
  Fn Tryz.prog 149 [ao 1001,bV nm,.c (.one (.cT 150 [.p 3001 0]))] (ej l++[(3001,.cells [.d (.str []),.d (.lit false),.d (.lit false),.bI (.pointer none)])]) [] (ae 112) (ej l++[(3001,.cells [.d (.str []),.d (.lit false),.d (.lit false),.bI (.pointer none)])]):=by
 have h':=C7 V;refine aW [] Tryz.func149 rfl rfl rfl rfl ?_;refine⟨fun dZ O=>absurd (show(b0 (aJ:=.str) (aL:=.aM) (dQ l) nm).getD (cK .aM)=some dZ from O) (by rw[h'];intro h;cases h),fun _=>?_⟩;exact aT aH rfl rfl ac rfl
def l9 (l:List bg) (nm:List UInt8) (u:bg->bg):List bg:=l.map fun x=>if x.nm=nm then u x else x
theorem L6 {l:List bg} (h:dR l) {nm:List UInt8} {e:bg} (V:c2 l nm=some e) (u:bg->bg):mQ l e.ad u=l9 l nm u:=by
 obtain⟨E,G⟩:=jS V;unfold mQ l9;refine ar1 fun x hx=>?_
 by_cases H:x.ad=e.ad
 .have:=uU h.lf hx E H;subst this;rw[if_pos H,if_pos G]
 .rw[if_neg H,if_neg fun ap=>H (by rw[uU h.ik hx E (ap.trans G.symm)])]
theorem GF {l:List bg} {nm:List UInt8} (V:c2 l nm=none) (u:bg->bg):l9 l nm u=l:=by
 unfold l9;refine(ar1 fun x hx=>?_).trans (List.map_id' l);rw[if_neg fun e=>GE V (by rw[<-e];exact aq6 hx)]
theorem dR.nil:dR []:=⟨List.Pairwise.nil,List.Pairwise.nil,List.Pairwise.nil,(fun e V=>by cases V),ap7 _⟩
theorem dR.TK {l:List bg} (h:dR l) (u:bg->bg) (nm:List UInt8) (E: ∀e,(u e).nm=e.nm/\(u e).ad=e.ad/\(u e).dp=e.dp) (G: ∀e,(0<=e.s/\e.s<=4096)/\(1<=e.g/\e.g<=64)/\eZ e.es->(0<=(u e).s/\(u e).s<=4096)/\(1<=(u e).g/\(u e).g<=64)/\eZ (u e).es):dR (l9 l nm u):=by
 cases V:c2 l nm with
 |none=>rw[GF V];exact h
 |some e=>
  rw[<-L6 h V];exact h.c5 E fun x hx _=>G x ⟨(h.ok x hx).1,(h.ok x hx).2.1,(h.ok x hx).2.2.1⟩
def ya (l:List bg) (nm:List UInt8):Int:=if(c2 l nm).isSome=true then 0 else 112
theorem GG {l:List bg} {nm:List UInt8} {e:bg} (V:c2 l nm=some e):ya l nm=0:=by unfold ya;rw[V];rfl
theorem GH {l:List bg} {nm:List UInt8} (V:c2 l nm=none):ya l nm=112:=by unfold ya;rw[V];rfl
theorem aiY {l:List bg} (h:dR l) (nm:List UInt8) (on:Bool):Fn Tryz.prog 106 [ao 1001,bV nm,fI on] (ej l) [] (ae (ya l nm)) (ej (l9 l nm fun x=>{x with on:=on})):=by
 cases V:c2 l nm with
 |none=>
  have H:=aiT on V;rw[GH V,GF V];refine aW [] Tryz.func106 rfl rfl rfl rfl ?_;refine⟨rfl,au (Fn.aX [(3001,5)] H) ?_⟩;exact aT aH rfl rfl ac rfl
 |some e=>
  have H:=aiS on V (aiw h (jS V).1 on);rw[GG V,<-L6 h V];refine aW [] Tryz.func106 rfl rfl rfl rfl ?_;refine⟨rfl,au (Fn.aX [(3001,5)] H) ?_⟩;exact aT aH rfl rfl ac rfl
theorem aiZ {l:List bg} (h:dR l) (nm:List UInt8):Fn Tryz.prog 103 [ao 1001,bV nm] (ej l) [] (ae (ya l nm)) (ej (l9 l nm oa)):=by
 cases V:c2 l nm with
 |none=>
  have H:=aiV V;rw[GH V,GF V];refine aW [] Tryz.func103 rfl rfl rfl rfl ?_;refine au H ?_;exact aT aH rfl rfl ac rfl
 |some e=>
  have H:=aiU V (aix h (jS V).1);rw[GG V,<-L6 h V];refine aW [] Tryz.func103 rfl rfl rfl rfl ?_;refine au H ?_;exact aT aH rfl rfl ac rfl
def kS:List bg->List UInt8->List bg
 | [],_=>[]
 |d::L,nm=>if d.nm=nm then L else d::kS L nm
theorem Ao (L:List bg) (nm:List UInt8):(kS L nm).Sublist L:=by
 induction L with
 |nil=>exact .slnil
 |cons e L br=>
  unfold kS
  split
  .exact List.sublist_cons_self ..
  .exact br.cons_cons _
theorem TL {nm:List UInt8}: ∀{L:List bg},c2 L nm=none->kS L nm=L
 | [],_=>rfl
 |d::L,h=>by
  rw[wt] at h;unfold kS
  by_cases e:d.nm=nm
  .rw[if_pos e] at h;cases h
  .rw[if_neg e] at h;rw[if_neg e,TL h]
theorem TM (nm:List UInt8): ∀L:List bg,gG (aJ:=.str) (aL:=.aM) (dQ L) nm=dQ (kS L nm)
 | []=>rfl
 |d::L=>by
  have br:=TM nm L;show gG (aJ:=.str) (aL:=.aM) (jB d::dQ L) nm=_;rw[show gG (aJ:=.str) (aL:=.aM) (jB d::dQ L) nm=match fV .str (nm:Z .str) (jB d).1 with |true=>dQ L |false=>jB d::gG (aJ:=.str) (aL:=.aM) (dQ L) nm from rfl];unfold kS
  by_cases e:d.nm=nm
  .rw[show fV .str (nm:Z .str) (jB d).1=true from(qd _ _).2 e.symm,if_pos e]
  .rw[show fV .str (nm:Z .str) (jB d).1=false from ra (aJ:=.str) qd (fun h=>e h.symm),if_neg e];simp only;rw[br];rfl
theorem L7 {f:bg->Nat×bh}: ∀{L:List bg},(L.map fun d=>(f d).1).Nodup-> ∀{nm:List UInt8} {bO:bg},c2 L nm=some bO->j4 (L.map f) (f bO).1=(kS L nm).map f
 | [],_,nm,bO,h=>by cases h
 |d::L,hn,nm,bO,h=>by
  rw[aq4] at hn;obtain⟨cH,dF⟩:=aq7.1 hn;rw[wt] at h;rw[aq4];unfold j4 kS
  by_cases e:d.nm=nm
  .rw[if_pos e] at h;injection h with h
   subst h;rw[if_pos rfl,if_pos e]
  .rw[if_neg e] at h;have ba: ¬(f d).1=(f bO).1:=fun ap=>cH (by rw[ap];exact aq6 (f:=fun d=>(f d).1) (jS h).1)
   rw[if_neg ba,if_neg e,aq4,L7 dF h]
theorem dR.k6 {l:List bg} (h:dR l) (nm:List UInt8):dR (kS l nm):=
 ⟨h.ik.sublist ((Ao l nm).map _),h.lf.sublist ((Ao l nm).map _),h.uT.sublist ((Ao l nm).map _),fun e V=>h.ok e ((Ao l nm).subset V),as9 (Ao l nm).length_le h.len⟩
theorem ai0 {l:List bg} (h:dR l) {nm:List UInt8} {e:bg} (V:c2 l nm=some e):Fn Tryz.prog 158 [dn e.ad,ao 3001,ao 3002] (ej l++[(3001,.cells [.ptr 1001 0]),(3002,.cells [.d (.str nm)])]) [] gI (ej (kS l nm)++[(3001,.cells [.ptr 1001 0]),(3002,.cells [.d (.str nm)])]):=by
 have b9:=h.D (jS V).1;have ar:=h.M (jS V).1;have oY:=TM nm l;have sr:j4 (jR l) e.ad=jR (kS l nm):=L7 (f:=wq) h.lf V;have wg:j4 (jC l) e.dp=jC (kS l nm):=L7 (f:=ws) h.uT V;refine aW [] Tryz.func158 rfl rfl rfl rfl ?_;refine⟨eC au8,?_⟩;exact⟨_,_,_,(af.B6 1003 6001 e.ad rfl b9 rfl).trans (af.B6 1004 6002 e.dp rfl ar rfl),rfl,trivial,⟨rfl,congrArg (fun e=>some (bd.map .str .aM e)) oY,congrArg (fun e=>some (bd.aG (.bA e))) sr,congrArg (fun e=>some (bd.aG (.bA e))) wg,rfl,rfl,trivial⟩,rfl⟩
theorem ai1 {l:List bg} (h:dR l) (nm:List UInt8):Fn Tryz.prog 105 [ao 1001,bV nm] (ej l) [] (ae (ya l nm)) (ej (kS l nm)):=by
 cases V:c2 l nm with
 |none=>
  have H:=aiR V;rw[GH V,TL V];refine aW [] Tryz.func105 rfl rfl rfl rfl ?_;refine⟨rfl,rfl,au (Fn.aX [(3001,2),(3002,3)] H) ?_⟩;exact aT aH rfl rfl ac rfl
 |some e=>
  have H:=aiQ V (ai0 h V);rw[GG V];refine aW [] Tryz.func105 rfl rfl rfl rfl ?_;refine⟨rfl,rfl,au (Fn.aX [(3001,2),(3002,3)] H) ?_⟩;exact aT aH rfl rfl ac rfl
theorem ai2:(Tryz.prog.info? 165).map (·.size)=some 4:=by kernel_rfl
abbrev jo (nm:List UInt8) (on us:Bool):List bC:=[.d (.str nm),.d (.bool on),.d (.bool us),.ptr 5001 0]
theorem ai3 {l:List bg} (h:dR l) {e:bg} (V:e∈l):Fn Tryz.prog 150 [dn e.ad,ao 3001] (ej l++[(3001,.cells [.d (.str []),.d (.lit false),.d (.lit false),.bI (.pointer none)])]) [5001,5002] gI (ej l++[(3001,.cells (jo e.nm e.on e.us)),(5001,.cells [.d (.int .i64 e.s),.d (.int .i64 e.g),.mp 5002]),(5002,.map ak ak e.es)]):=by
 obtain⟨L4,wu,wv⟩:=j5 GC;obtain⟨Ch,ai4,ai5⟩:=j5 ai2;have b9:=h.D V;have ar:=h.M V;have H:=aiA ar;refine aW [] Tryz.func150 rfl rfl rfl rfl ?_;refine⟨_,_,fun N=>iY (b:=e.ad) rfl rfl N,rfl,?_⟩;refine⟨_,_,fun N=>aiy (q:=1003) (l:=Aj e.nm e.on e.us e.dp) rfl Tryz.underlying165 rfl ai4 ai5 rfl rfl b9 N,rfl,?_⟩;refine⟨_,_,fun N=>iY (b:=e.ad) rfl rfl N,rfl,?_⟩;refine⟨_,_,fun N=>jb rfl Tryz.underlying165 rfl rfl wu (by rw[wv];decide) rfl N,rfl,?_⟩;refine⟨_,_,fun N=>k8 (q:=1003) rfl Tryz.underlying66 rfl rfl rfl b9 rfl N,rfl,?_⟩;refine au H ?_;exact aT aH rfl trivial ac rfl
theorem ai6 {l:List bg} (h:dR l) {nm:List UInt8} {e:bg} (V:c2 l nm=some e):Fn Tryz.prog 99 [ao 1001,bV nm] (ej l) [5001,5002] (.ce [.agg (jo e.nm e.on e.us),dw 0]) (ej l++[(5001,.cells [.d (.int .i64 e.s),.d (.int .i64 e.g),.mp 5002]),(5002,.map ak ak e.es)]):=by
 have a6:=ai3 h (jS V).1;rw[(jS V).2] at a6;have H:=aiW e.on e.us e.s e.g e.es V a6;rw[(jS V).2];refine aW [] Tryz.func99 rfl rfl rfl rfl ?_;refine⟨rfl,rfl,au (Fn.aX [(3001,6)] H) ?_⟩;exact aT aH rfl ⟨ac,rfl,trivial⟩ ac rfl
theorem ai7 {l:List bg} {nm:List UInt8} (V:c2 l nm=none):Fn Tryz.prog 99 [ao 1001,bV nm] (ej l) [] (.ce [.agg [.d (.str []),.d (.lit false),.d (.lit false),.bI (.pointer none)],dw 112]) (ej l):=by
 have H:=aiX V;refine aW [] Tryz.func99 rfl rfl rfl rfl ?_;refine⟨rfl,rfl,au (Fn.aX [(3001,6)] H) ?_⟩;exact aT aH rfl ⟨ac,rfl,trivial⟩ ac rfl
end
section
abbrev oc:bx:=.bR (.int .i64) (.b7 .u8)
abbrev lK:bx:=.bR .str (.bR .str (.bR (.int .i64) (.bR (.int .i64) (.b7 oc))))
abbrev j7:Type:=Z oc
abbrev bM:Type:=Z lK
abbrev gf (p:j7):Int:=p.1
abbrev mf (p:j7):List UInt8:=p.2
abbrev dH (b:bM):List UInt8:=b.1
abbrev dh (b:bM):List UInt8:=b.2.1
abbrev cS (b:bM):Int:=b.2.2.1
abbrev ep (b:bM):Int:=b.2.2.2.1
abbrev cy (b:bM):List j7:=b.2.2.2.2
abbrev GI (b:bM):List bC:=[.d (.str (dH b)),.d (.str (dh b)),.d (.int .i64 (cS b)),.d (.int .i64 (ep b)),.d (.ck oc (cy b))]
abbrev yb (b:bM):aQ:=.c (.agg (GI b))
abbrev kw (L:List bM):ay:=[(1001,.cells [.own 1002]),(1002,.row 65 lK L)]
theorem ai8 (b:bM) (nm:List UInt8):Fn Tryz.prog 79 [yb b,ao 1001] [(1001,.cells [.d (.str nm)])] [] (fI (decide (dH b=nm))) [(1001,.cells [.d (.str nm)])]:=by
 refine aW [] Tryz.func79 rfl rfl rfl rfl ?_;refine⟨rfl,?_⟩;exact aT aH rfl rfl ac rfl
def mg {α:Type} (p:α->Bool) (L:List α):Int:=match L.findIdx? p with
 |some k=>(k:Nat)
 |none=> -1
theorem TN {α:Type} {p:α->Bool} {L:List α} {k:Nat} (E:k < L.length) (ag: ∀(i:Nat) b,i < k->L[i]? =some b->p b=false) (h:p L[k]=true):mg p L=(k:Nat):=by
 unfold mg;rw[show L.findIdx? p=some k from List.findIdx?_eq_some_iff_getElem.2 ⟨E,h,fun j aa=>by simpa using ag j _ aa (oj au5)⟩]
theorem ai9 {α:Type} {p:α->Bool} {L:List α} (ag: ∀(i:Nat) b,i < L.length->L[i]? =some b->p b=false):mg p L= -1:=by
 unfold mg
 rw[show L.findIdx? p=none from List.findIdx?_eq_none_iff.2 fun x hx=>by
  obtain⟨i,aI,rfl⟩:=List.getElem_of_mem hx;exact ag i _ aI (oj aI)]
theorem uV {α:Type} (p:α->Bool) (L:List α):(mg p L= -1/\ ∀(i:Nat) b,L[i]? =some b->p b=false)\/ ∃(k:Nat) (x:α),mg p L=k/\L[k]? =some x/\p x=true/\ ∀(i:Nat) b,i < k->L[i]? =some b->p b=false:=by
 unfold mg
 cases h:L.findIdx? p with
 |none=>
  refine .inl ⟨rfl,fun i b O=>?_⟩;have:=List.findIdx?_eq_none_iff.1 h b (List.mem_of_getElem? O);simpa using this
 |some k=>
  obtain⟨E,G,al⟩:=List.findIdx?_eq_some_iff_getElem.1 h;refine .inr ⟨k,L[k],rfl,oj E,G,fun i b aI O=>?_⟩;have:=al i aI;rw[oj au5] at O;injection O with O
  rw[<-O];simpa using this
theorem ai' {α:Type} {p:α->Prop} {L:List α} {k:Nat} (E:k < L.length) (ag: ∀(i:Nat) b,i < k->L[i]? =some b->p b) (h:p L[k]): ∀(i:Nat) b,i < k+1->L[i]? =some b->p b:=fun i b aI O=>by
 rcases Nat.lt_or_ge i k with G |G
 .exact ag i b G O
 .have:i=k:=by omega
  subst this;rw[oj E] at O;injection O with O
  rw[<-O];exact h
theorem pN {α:Type} {L:List α} {k:Nat} {n:Int} (hn:n=(k:Nat)) (h:k < L.length):fB L n.toNat=some L[k]:=by
 subst hn;exact oj h
theorem TO (g:Nat) (p:bM->Bool) (nm:List UInt8) (L:List bM) (cW:L.length<=4294967296) (ax: ∀b,Fn Tryz.prog g [yb b,ao 1001] [(1001,.cells [.d (.str nm)])] [] (fI (p b)) [(1001,.cells [.d (.str nm)])]):
  Fn Tryz.prog 78 [eM 1002,kH (.cT g [.p 1001 0])] [(1001,.cells [.d (.str nm)]),(1002,.row 65 lK L)] [] (ae (mg p L)) [(1001,.cells [.d (.str nm)]),(1002,.row 65 lK L)]:=by
 refine aW [] Tryz.func78 rfl rfl rfl rfl ?_;refine dX [] (X:=Nat) (fun k=>[(0,eM 1002),(1,kH (.cT g [.p 1001 0])),(7,ae (L.length:Nat)),(8,ae (k:Nat))]) (fun _=>[(1001,.cells [.d (.str nm)]),(1002,.row 65 lK L)]) (fun k=>k<=L.length/\ ∀(i:Nat) b,i < k->L[i]? =some b->p b=false) (fun k=>L.length - k) 0 ⟨ap7 _,fun i b h=>absurd h (au3 _)⟩ ?_ ?_
 .exact af.sub ac ac
 .rintro k ⟨ab,ag⟩;refine⟨fun h=>?_,fun h=>?_⟩
  .have E:k < L.length:=by simpa using h
   refine⟨⟨au5,au5⟩,L[k],pN rfl E,au (ax L[k]) ?_⟩;refine⟨fun h=>?_,fun h=>?_⟩
   .exact aT aH rfl ((TN E ag h).symm) ac rfl
   .refine⟨au5,k+1,⟨au5,ai' E ag h⟩,au5,?_⟩;exact af.sub ac ac
  .have E: ¬k < L.length:=by simpa using h
   exact aT aH rfl ((ai9 fun i b aI O=>ag i b au5 O).symm) ac rfl
def eq (L:List bM) (nm:List UInt8):Int:=mg (fun b=>decide (dH b=nm)) L
theorem GJ (nm:List UInt8) (L:List bM) (cW:L.length<=4294967296):Fn Tryz.prog 43 [ao 1001,bV nm] (kw L) [] (ae (eq L nm)) (kw L):=by
 refine aW [] Tryz.func43 rfl rfl rfl rfl ?_;refine⟨rfl,au (Fn.aX [(1001,3)] (TO 79 _ nm L cW fun b=>ai8 b nm)) ?_⟩;exact aT aH rfl rfl ac rfl
end
section
def fN (z:Int):Int:=16*((2 ^z.toNat:Nat):Int)
theorem TP {bi:Int} (aw:0<=bi) (E:bi<=3):1<=((2 ^bi.toNat:Nat):Int)/\((2 ^bi.toNat:Nat):Int)<=8:=by
 have:bi=0\/bi=1\/bi=2\/bi=3:=by omega
 rcases this with rfl |rfl |rfl |rfl <;>decide
theorem TQ {bi:Int} (aw:0<=bi) (E:bi<=3):16<=fN bi/\fN bi<=128:=by
 have:=TP aw E;unfold fN;omega
def sC (size n:Int):Int->List j7->Bool
 |_,[]=>true
 |od,p::r=> !(decide (gf p<=od)||decide (size<=gf p)|| !decide (((mf p).length:Int)=n))&&sC size n (gf p) r
def hi (b:bM):Bool:=
 gp (dH b)&&decide (0<=cS b)&&decide (cS b<=3)&&decide (0<=ep b)&&decide (ep b<=256)&&sC (ep b) (fN (cS b)) (-1) (cy b)&&
  (!decide (dh b=[])||decide (((cy b).length:Int)=ep b))
theorem L8 (b:bM) (aw:0<=cS b) (E:cS b<=3):Fn Tryz.prog 44 [yb b] [] [] (ae (fN (cS b))) []:=by
 have ag:=TP aw E;refine aW [] Tryz.func44 rfl rfl rfl rfl ?_;refine⟨rfl,⟨au5,au5,au5⟩,⟨au5,au5⟩,?_⟩;exact aT aH rfl rfl trivial rfl
theorem aja (size n od:Int) (l:List j7) (k:Nat) (ab:k < l.length):sC size n od (l.drop k)=(!(decide (gf l[k]<=od)||decide (size<=gf l[k])|| !decide (((mf l[k]).length:Int)=n))&&sC size n (gf l[k]) (l.drop (k+1))):=by
 rw[List.drop_eq_getElem_cons ab];rfl
set_option maxHeartbeats 1000000 in
theorem ajb (b:bM) (hn:(dH b).length<=4294967296) (aq:(cy b).length<=4294967296) (ag: ∀p,p∈cy b->(mf p).length<=4294967296):Fn Tryz.prog 153 [yb b] [] [] (fI (hi b)) []:=by
 refine aW [] Tryz.func153 rfl rfl rfl rfl ?_;refine⟨rfl,au (qn _ hn) ?_⟩;refine⟨fun h=>?_,fun E=>?_⟩
 .exact aT aH rfl (show false=hi b by simp_all [hi]) trivial rfl
 refine⟨fun h=>?_,fun G=>?_⟩
 .exact aT aH rfl (show false=hi b by simp at h;simp[hi];omega) trivial rfl
 refine⟨fun h=>?_,fun al=>?_⟩
 .exact aT aH rfl (show false=hi b by simp at h;simp[hi];omega) trivial rfl
 refine⟨fun h=>?_,fun aZ=>?_⟩
 .exact aT aH rfl (show false=hi b by simp at h;simp[hi];omega) trivial rfl
 refine⟨fun h=>?_,fun bK=>?_⟩
 .exact aT aH rfl (show false=hi b by simp at h;simp[hi];omega) trivial rfl
 simp only[decide_eq_false_iff_not,Bool.not_eq_false'] at E G al aZ bK
 have aF:hi b=(sC (ep b) (fN (cS b)) (-1) (cy b)&&(!decide (dh b=[])||decide (((cy b).length:Int)=ep b))):=by
  unfold hi;rw[E,aq2 (show 0<=cS b by omega),aq2 (show cS b<=3 by omega),aq2 (show 0<=ep b by omega),aq2 (show ep b<=256 by omega)];simp
 refine dX [] (X:=Nat×Int) (fun x=>[(1,ao 1),(31,bS oc (cy b)),(3,ae x.2),(32,ae ((cy b).length:Nat)),(33,ae (x.1:Nat))]) (fun _=>[(1,.cells (GI b))]) (fun x=>x.1<=(cy b).length/\sC (ep b) (fN (cS b)) (-1) (cy b)=sC (ep b) (fN (cS b)) x.2 ((cy b).drop x.1)) (fun x=>(cy b).length - x.1) (0,-1) ⟨ap7 _,rfl⟩ ?_ ?_
 .exact af.sub ac ac
 rintro⟨k,od⟩ ⟨ab,aI⟩;refine⟨fun h=>?_,fun h=>?_⟩
 .have cn:k < (cy b).length:=by simpa using h
  rw[aja _ _ _ _ _ cn] at aI;have g':=ag _ (ar3 cn);refine⟨au5,(cy b)[k],pN rfl cn,rfl,fun h=>?_,fun fD=>?_⟩
  .refine⟨rfl,?_⟩;exact aT aH rfl (show false=hi b by rw[aF,aI,h];rfl) trivial rfl
  refine⟨fun h=>?_,fun jG=>?_⟩
  .refine⟨rfl,?_⟩;exact aT aH rfl (show false=hi b by rw[aF,aI,fD,h];rfl) trivial rfl
  refine⟨_,_,_,_,L8 b au5 au5,trivial,rfl,rfl,fun h=>?_,fun iS=>?_⟩
  .exact aT aH rfl (show false=hi b by rw[aF,aI,fD,jG,show(!decide (((mf (cy b)[k]).length:Int)=fN (cS b)))=true from h];rfl) trivial rfl
  .refine⟨au5,(k+1,gf (cy b)[k]),⟨by simp only;omega,?_⟩,by simp only;omega,?_⟩
   .rw[aI,fD,jG,show(!decide (((mf (cy b)[k]).length:Int)=fN (cS b)))=false from iS];rfl
   .exact af.sub ac ac
 .have cn: ¬k < (cy b).length:=by simpa using h
  rw[List.drop_eq_nil_of_le au5] at aI;refine⟨fun h=>?_,fun h=>?_⟩
  .exact aT aH rfl (show true=hi b by rw[aF,aI,show(!decide (dh b=[]))=true from h];rfl) trivial rfl
  .exact aT aH rfl (show decide (((cy b).length:Int)=ep b)=hi b by rw[aF,aI,show(!decide (dh b=[]))=false from h];rfl) trivial rfl
end
section
theorem L9:Fn Tryz.prog 21 [] [] [1001,1002] (ao 1001) (kw []):=by
 refine aW [] Tryz.func21 rfl rfl rfl rfl ?_;refine⟨rfl,?_⟩;exact⟨_,_,_,af.trans (af.vG 2 0 1002 65 lK rfl rfl rfl) (af.aX 2 1001 rfl),rfl,rfl,ac,rfl⟩
def tD (L:List bM):List UInt8:=match L.getLast? with
 |some b=>dH b
 |none=>[]
theorem ajc (L:List bM) (cW:L.length<=4294967296):Fn Tryz.prog 63 [ao 1001] (kw L) [] (bV (tD L)) (kw L):=by
 refine aW [] Tryz.func63 rfl rfl rfl rfl ?_;refine⟨fun h=>?_,fun h=>?_⟩
 .have aw:L.length=0:=by simp only[ar5] at h;omega
  refine⟨_,_,_,aH,rfl,?_,ac,rfl⟩;rw[List.eq_nil_of_length_eq_zero aw];rfl
 .have aw:0 < L.length:=by simp only[decide_eq_false_iff_not] at h;omega
  have bw:L.length - 1 < L.length:=by omega
  refine⟨au5,⟨au5,au5⟩,L[L.length - 1],pN (k:=L.length - 1) au5 bw,rfl,_,_,_,aH,rfl,?_,ac,rfl⟩;show dH L[L.length - 1]=tD L;unfold tD;rw[List.getLast?_eq_getElem?,oj bw]
def gx (L:List bM) (b:bM):Int:=
 if(!hi b||decide (0<=eq L (dH b))||decide (64<=(L.length:Int)))=true then 1
 else if(!decide (dh b=[])&&decide (eq L (dh b) < 0))=true then 181
 else if(!decide (dh b=[])&& !decide ((match fB L (eq L (dh b)).toNat with |some x=>cS x |none=>cS b)=cS b))=true then 1 else 0
def gr (L:List bM) (b:bM):List bM:=if gx L b=0 then L++[b] else L
theorem TR {L:List bM} {b:bM} (h:(!hi b)=true):gx L b=1:=by unfold gx;rw[if_pos (by simp[h])]
theorem TS {L:List bM} {b:bM} (h:decide (0<=eq L (dH b))=true):gx L b=1:=by unfold gx;rw[if_pos (by simp[h])]
theorem TT {L:List bM} {b:bM} (h:decide (64<=(L.length:Int))=true):gx L b=1:=by unfold gx;rw[if_pos (by simp[h])]
theorem C8 {b:bM} (h:hi b=true):0<=cS b/\cS b<=3/\0<=ep b/\ep b<=256:=by
 simp only[hi,vj,ar5] at h;omega
abbrev TU (L:List bM):ay:=[(1001,.cells [.own 1003]),(1003,.row 65 lK L)]
theorem uW {α:Type} {l:List α} {k:Nat} (h:k < l.length):l.take k++[l[k]]=l.take (k+1):=by
 rw[List.take_add_one,oj h];rfl
abbrev Ma (b:bM) (r k:Nat):a1:=[(0,ao 1001),(3,ao 3),(6,eM r),(58,bS oc (cy b)),(59,ae ((cy b).length:Nat)),(60,ae (k:Nat))]
abbrev Mb (L:List bM) (b:bM) (r:Nat) (l:List j7):ay:=[(r,.row 109 oc l),(3,.cells (GI b)),(1001,.cells [.own 1002]),(1002,.row 65 lK L)]
set_option maxHeartbeats 1000000 in
theorem Mc (L:List bM) (b:bM) (cW:L.length<=1000000) (hn:(dH b).length<=4294967296) (aq:(cy b).length<=1000000) (ag: ∀p,p∈cy b->(mf p).length<=4294967296):
  Fn Tryz.prog 102 [ao 1001,yb b] (kw L) [1003] (ae (gx L b)) (TU (gr L b)):=by
 have e4: ∀e,gx L b=e->e≠0->gr L b=L:=fun e E G=>by unfold gr;rw[if_neg au5]
 refine aW [14] Tryz.func102 rfl rfl rfl rfl ?_;refine⟨rfl,au (GJ (dh b) L au5) ?_⟩;refine au (ajb b hn au5 ag) ?_;refine⟨fun h=>?_,fun E=>?_⟩
 .rw[e4 1 (TR h) au5,TR h];exact⟨_,_,_,af.aX 1002 1003 rfl,rfl,rfl,ac,rfl⟩
 refine au (GJ (dH b) L au5) ?_;refine⟨fun h=>?_,fun G=>?_⟩
 .rw[e4 1 (TS h) au5,TS h];exact⟨_,_,_,af.aX 1002 1003 rfl,rfl,rfl,ac,rfl⟩
 refine⟨fun h=>?_,fun al=>?_⟩
 .rw[e4 1 (TT h) au5,TT h];exact⟨_,_,_,af.aX 1002 1003 rfl,rfl,rfl,ac,rfl⟩
 have aY:gx L b=if(!decide (dh b=[])&&decide (eq L (dh b) < 0))=true then 181 else if(!decide (dh b=[])&& !decide ((match fB L (eq L (dh b)).toNat with |some x=>cS x |none=>cS b)=cS b))=true then 1 else 0:=by
  unfold gx;rw[if_neg (by rw[show(!hi b)=false from E,show decide (0<=eq L (dH b))=false from G,show decide (64<=(L.length:Int))=false from al];simp)]
 have aF:hi b=true:=by simpa using E
 obtain⟨r1,r2,ga,jK⟩:=C8 aF;have qt:gx L b=0->gr L b=L++[b]:=fun h=>by unfold gr;rw[if_pos h]
 refine⟨fun aZ=>?a,fun aZ=>?b⟩
 case' a=>
  refine⟨fun h=>?_,fun bK=>?_⟩
  .rw[show(!decide (dh b=[]))=true from aZ,show decide (eq L (dh b) < 0)=true from h] at aY;have aY:gx L b=181:=aY;rw[e4 181 aY au5,aY];exact⟨_,_,_,af.aX 1002 1003 rfl,rfl,rfl,ac,rfl⟩
  have fD: ¬eq L (dh b) < 0:=by simpa using bK
  have ab: ∃k:Nat,∃ab:k < L.length,eq L (dh b)=(k:Nat):=by
   rcases uV (fun x=>decide (dH x=dh b)) L with⟨h,_⟩ |⟨k,x,h,hx,_⟩
   .exact absurd (show eq L (dh b) < 0 by unfold eq;omega) fD
   .exact⟨k,(ap5.1 hx).1,h⟩
  obtain⟨k,ab,yc⟩:=ab;rw[show(!decide (dh b=[]))=true from aZ,show decide (eq L (dh b) < 0)=false from bK,pN yc ab] at aY;have aY:gx L b=if(!decide (cS L[k]=cS b))=true then 1 else 0:=aY
  refine⟨fun jG=>?_,fun jG=>absurd aZ (by rw[show(!decide (dh b=[]))=false from jG];simp)⟩;refine⟨⟨au5,au5⟩,L[k],pN yc ab,rfl,fun h=>?_,fun h=>?_⟩
  .rw[show(!decide (cS L[k]=cS b))=true from h] at aY;have aY:gx L b=1:=aY;rw[e4 1 aY au5,aY];exact⟨_,_,_,af.aX 1002 1003 rfl,rfl,rfl,ac,rfl⟩
  rw[show(!decide (cS L[k]=cS b))=false from h] at aY;have eG:gx L b=0:=aY;clear aY h
 case' b=>
  rw[show(!decide (dh b=[]))=false from aZ] at aY;have eG:gx L b=0:=aY;clear aY;refine⟨fun jG=>absurd aZ (by rw[show(!decide (dh b=[]))=true from jG];simp),fun jG=>?_⟩;refine⟨rfl,?_⟩
 all_goals
  rw[qt eG,eG];refine dX [14] (X:=Nat) (Ma b 2002) (fun k=>Mb L b 2002 ((cy b).take k)) (fun k=>k<=(cy b).length) (fun k=>(cy b).length - k) 0 (ap7 _) ?_ ?_
  .exact af.trans (af.nil 6 2002 109 oc rfl rfl) (af.sub ac ac)
  intro j aa;refine⟨fun h=>?_,fun h=>?_⟩
  .have eE:j < (cy b).length:=by simpa using h
   have g':=ag _ (ar3 eE);refine⟨au5,(cy b)[j],pN rfl eE,rfl,au (KY _ g') ?_⟩;refine⟨?_,rfl,rfl,?_⟩
   .show((cy b).take j).length+1<=4294967296;rw[ap8];omega
   .refine⟨au5,j+1,eE,au5,?_⟩;exact af.trans (af.sub (K':=Ma b 72 (j+1)) (B':=Mb L b 72 ((cy b).take (j+1))) ac ⟨congrArg (fun l=>some (bd.row _ oc l)) (uW eE),rfl,rfl,rfl,trivial⟩) (af.aX 72 2002 rfl)
  .have eE:j=(cy b).length:=by
     have: ¬j < (cy b).length:=by simpa using h
     omega
   subst eE;refine bz [] (af.trans (af.sub (K':=Ma b 2002 (cy b).length) (B':=Mb L b 2002 (cy b)) ac ⟨congrArg (fun l=>some (bd.row _ oc l)) aq9,rfl,rfl,rfl,trivial⟩) (af.dV 2002 rfl)) ?_;refine⟨?_,rfl,rfl,?_⟩
   .show L.length+1<=4294967296;omega
   .exact⟨_,_,_,af.aX 83 1003 rfl,rfl,rfl,ac,rfl⟩
end
section
theorem Md (size n:Int): ∀(l:List j7) (od:Int),sC size n od l=true-> ∀p,p∈l->od < gf p/\gf p < size/\((mf p).length:Int)=n
 | [],_,_,p,ag=>by cases ag
 |q::l,od,h,p,ag=>by
  simp only[sC,vj,Bool.not_eq_true',Bool.or_eq_false_iff,decide_eq_false_iff_not,Bool.not_eq_false',ar5] at h;obtain⟨⟨⟨E,G⟩,al⟩,aZ⟩:=h;rcases ap3.1 ag with rfl |ag
  .exact⟨au5,au5,al⟩
  .have:=Md size n l (gf q) aZ p ag;exact⟨au5,this.2.1,this.2.2⟩
def pO (oe:Int) (acc:List UInt8) (p:j7):List UInt8:=laid acc (gf p*oe).toNat (acc.length - (gf p*oe).toNat) (mf p)
def Ap (b:bM) (below:List UInt8):List UInt8:=
 let aB:=List.replicate (ep b*fN (cS b)).toNat (0:UInt8)
 (cy b).foldl (pO (fN (cS b))) (if decide (dh b=[])=true then aB else laid aB 0 aB.length below)
def o2 (L:List bM) (i:Int):Option bM:=if 0<=i then fB L i.toNat else none
def ww (L:List bM) (nm:List UInt8) (bR:List UInt8->List UInt8):List UInt8:=match o2 L (eq L nm) with
 |none=>[]
 |some b=>Ap b (bR (dh b))
def uX (L:List bM) (nm:List UInt8):Int:=if decide (eq L nm < 0)=true then 181 else 0
def GK (out:List UInt8) (e:Int):aQ:=.ce [.one (.d (.ck .u8 out)),.one (.d (.int .i64 e))]
theorem TV {size oe:Int} {b:List UInt8} {p:j7} (aw:0<=oe) (E:0<=gf p) (G:gf p < size) (O:b.length=(size*oe).toNat):(gf p*oe).toNat<=b.length/\(pO oe b p).length=b.length:=by
 have:gf p*oe<=size*oe:=Int.mul_le_mul_of_nonneg_right au5 aw;have al:(gf p*oe).toNat<=b.length:=by omega
 exact⟨al,IX _ _ au5⟩
theorem TW {size oe:Int} (aw:0<=oe): ∀(l:List j7) (acc:List UInt8),(∀p,p∈l->0<=gf p/\gf p < size)->acc.length=(size*oe).toNat->(l.foldl (pO oe) acc).length=(size*oe).toNat
 | [],acc,_,ha=>ha
 |p::l,acc,ag,ha=>TW aw l (pO oe acc p) (fun q aV=>ag q (ap2 _ aV)) (by
  have:=ag p aq1;rw[(TV aw this.1 this.2 ha).2,ha])
theorem ajd {α lC:Type} (f:lC->α->lC) (x:lC) {l:List α} {k:Nat} (h:k < l.length):(l.take (k+1)).foldl f x=f ((l.take k).foldl f x) l[k]:=by
 rw[<-uW h,at9];rfl
abbrev aje (b:bM) (k:Nat):a1:=[(7,ao 7),(8,eM 30),(45,bS oc (cy b)),(46,ae ((cy b).length:Nat)),(47,ae (k:Nat))]
abbrev ajf (L:List bM) (b:bM) (x:List UInt8):ay:=[(30,.row 5 .u8 x),(7,.cells (GI b)),(1001,.cells [.own 1002]),(1002,.row 65 lK L)]
set_option maxHeartbeats 1000000 in
theorem TX (L:List bM) (nm:List UInt8) (cW:L.length<=1000000) (aF: ∀b,b∈L->hi b=true/\(cy b).length<=1000000) (bR:List UInt8->List UInt8)
  (br: ∀b,o2 L (eq L nm)=some b->(!decide (dh b=[]))=true->Fn Tryz.prog 24 [ao 1001,bV (dh b)] (kw L) [] (GK (bR (dh b)) (uX L (dh b))) (kw L)):
  Fn Tryz.prog 24 [ao 1001,bV nm] (kw L) [] (GK (ww L nm bR) (uX L nm)) (kw L):=by
 refine aW [] Tryz.func24 rfl rfl rfl rfl ?_;refine au (GJ nm L au5) ?_;refine⟨fun h=>?_,fun h=>?_⟩
 .have E: ¬0<=eq L nm:=by simp only[ar5] at h;omega
  exact aT aH rfl ⟨(show ww L nm bR=[] by unfold ww o2;rw[if_neg E]),(show(181:Int)=uX L nm by unfold uX;rw[if_pos h]),trivial⟩ ac rfl
 have hf: ¬eq L nm < 0:=by simpa using h
 have ab: ∃k:Nat,∃ab:k < L.length,eq L nm=(k:Nat):=by
  rcases uV (fun x=>decide (dH x=nm)) L with⟨h,_⟩ |⟨k,x,h,hx,_⟩
  .exact absurd (show eq L nm < 0 by unfold eq;omega) hf
  .exact⟨k,(ap5.1 hx).1,h⟩
 obtain⟨k,ab,yc⟩:=ab;have a6:o2 L (eq L nm)=some L[k]:=by unfold o2;rw[if_pos au5];exact pN yc ab
 have aY:uX L nm=0:=by unfold uX;rw[if_neg (by rw[h];simp)]
 have av:ww L nm bR=Ap L[k] (bR (dh L[k])):=by unfold ww;rw[a6]
 have br:=br _ a6;rw[aY,av];refine⟨⟨au5,au5⟩,L[k],pN yc ab,?_⟩;obtain⟨x5,g'⟩:=aF _ (ar3 ab);generalize k3:L[k]=b at*;obtain⟨r1,r2,ga,jK⟩:=C8 x5;obtain⟨cB,cL⟩:=TQ r1 r2
 have Ti:0<=ep b*fN (cS b)/\ep b*fN (cS b)<=32768:=⟨Int.mul_nonneg au5 au5,by
  have:ep b*fN (cS b)<=256*128:=Int.mul_le_mul jK cL au5 au5;omega⟩
 have aR:(List.replicate (ep b*fN (cS b)).toNat (0:UInt8)).length=(ep b*fN (cS b)).toNat:=as7
 have TY: ∀p,p∈cy b->0<=gf p/\gf p < ep b:=fun p ag=>by
  have x5:=x5;simp only[hi,vj] at x5;have:=Md _ _ _ _ x5.1.2 p ag;omega
 refine⟨rfl,au (L8 b r1 r2) ?_⟩;have ajg: -9223372036854775808<=ep b*fN (cS b)/\ep b*fN (cS b)<=9223372036854775807:=by omega
 have ajh:ep b*fN (cS b)<=4294967296:=by omega
 refine⟨ajg,⟨rfl,Ti.1,ajh⟩,rfl,rfl,fun aZ=>?a,fun aZ=>?b⟩
 case' a=>
  refine au (br aZ) ?_;refine⟨au5,?_⟩
  have O: ∃y,Ap b (bR (dh b))=(cy b).foldl (pO (fN (cS b))) y/\y=laid (List.replicate (ep b*fN (cS b)).toNat (0:UInt8)) 0 (List.replicate (ep b*fN (cS b)).toNat (0:UInt8)).length (bR (dh b))/\y.length=(ep b*fN (cS b)).toNat:=⟨_,by
   unfold Ap;simp only;rw[show decide (dh b=[])=false by simpa using aZ];rfl,rfl,(IX _ _ au5).trans aR⟩
  obtain⟨y,J,aC,Rm⟩:=O
 case' b=>
  have O: ∃y,Ap b (bR (dh b))=(cy b).foldl (pO (fN (cS b))) y/\y=(List.replicate (ep b*fN (cS b)).toNat (0:UInt8))/\y.length=(ep b*fN (cS b)).toNat:=⟨_,by
   unfold Ap;simp only;rw[show decide (dh b=[])=true by simpa using aZ];rfl,rfl,aR⟩
  obtain⟨y,J,aC,Rm⟩:=O
 all_goals
  rw[J];refine dX [] (X:=Nat) (aje b) (fun k=>ajf L b (((cy b).take k).foldl (pO (fN (cS b))) y)) (fun k=>k<=(cy b).length) (fun k=>(cy b).length - k) 0 (ap7 _) ?_ ?_
  .exact af.sub ac ⟨congrArg (fun l=>some (bd.row _ .u8 l)) aC.symm,rfl,rfl,rfl,trivial⟩
  intro j aa;refine⟨fun h=>?_,fun h=>?_⟩
  .have eE:j < (cy b).length:=by simpa using h
   have Aq:=TY _ (ar3 eE);have KP:(((cy b).take j).foldl (pO (fN (cS b))) y).length=(ep b*fN (cS b)).toNat:=TW au5 _ _ (fun p ag=>TY p (List.mem_of_mem_take ag)) au5;obtain⟨cx,cA⟩:=TV au5 Aq.1 Aq.2 KP;have aji:0<=gf (cy b)[j]*fN (cS b):=Int.mul_nonneg Aq.1 au5;have ajj: -9223372036854775808<=gf (cy b)[j]*fN (cS b)/\gf (cy b)[j]*fN (cS b)<=9223372036854775807:=by omega
   refine⟨au5,(cy b)[j],pN rfl eE,rfl,au (L8 b r1 r2) ?_⟩;refine⟨ajj,⟨aji,?_⟩,?_⟩
   .show gf (cy b)[j]*fN (cS b)<=((((cy b).take j).foldl (pO (fN (cS b))) y).length:Int);omega
   refine⟨?_,rfl,?_⟩
   .show(gf (cy b)[j]*fN (cS b)).toNat+((((cy b).take j).foldl (pO (fN (cS b))) y).length - (gf (cy b)[j]*fN (cS b)).toNat)<=(((cy b).take j).foldl (pO (fN (cS b))) y).length;omega
   .refine⟨au5,j+1,eE,au5,?_⟩;exact af.sub ac ⟨congrArg (fun l=>some (bd.row _ .u8 l)) (ajd (pO (fN (cS b))) y eE).symm,rfl,rfl,rfl,trivial⟩
  .have eE:j=(cy b).length:=by
     have: ¬j < (cy b).length:=by simpa using h
     omega
   subst eE;exact⟨_,_,_,af.trans (af.dV 30 rfl) (aH),rfl,⟨(show((cy b).take (cy b).length).foldl (pO (fN (cS b))) y=(cy b).foldl (pO (fN (cS b))) y by rw[aq9]),rfl,trivial⟩,ac,rfl⟩
def GL (L:List bM):Nat->List UInt8->List UInt8
 |0,_=>[]
 |n+1,nm=>ww L nm (GL L n)
structure lk (L:List bM):Prop where
 len:L.length<=64
 right: ∀b,b∈L->hi b=true
 GM: ∀(k:Nat) b,L[k]? =some b->decide (dh b=[])=false->0<=eq L (dh b)/\eq L (dh b) < k
theorem TZ {b:bM} (h:hi b=true):(cy b).length<=256:=by
 have G:=C8 h;simp only[hi,vj] at h
 have key: ∀(l:List j7) (od:Int),sC (ep b) (fN (cS b)) od l=true->(l.length:Int)<=max 0 (ep b - 1 - od):=by
  intro l
  induction l with
  |nil=>intro od _;simp only[List.length_nil];omega
  |cons p l br=>
   intro od h;simp only[sC,vj,Bool.not_eq_true',Bool.or_eq_false_iff,decide_eq_false_iff_not] at h;have:=br _ h.2;simp only[as4];omega
 have:=key _ _ h.1.2;omega
theorem T0 (L:List bM) (nm:List UInt8):eq L nm < L.length:=by
 rcases uV (fun x=>decide (dH x=nm)) L with⟨h,_⟩ |⟨k,x,h,hx,_⟩
 .unfold eq;omega
 .have:=(ap5.1 hx).1;unfold eq;omega
theorem ajk {L:List bM} {i:Int} {b:bM} (h:o2 L i=some b): ∃k:Nat,i=k/\L[k]? =some b:=by
 unfold o2 at h
 split at h
 .exact⟨i.toNat,au5,h⟩
 .cases h
theorem ajl {L:List bM} (bb:lk L): ∀(n:Nat) (nm:List UInt8),eq L nm < n->Fn Tryz.prog 24 [ao 1001,bV nm] (kw L) [] (GK (GL L n nm) (uX L nm)) (kw L):=by
 have cW:L.length<=1000000:=by have:=bb.len;omega
 have aF: ∀b,b∈L->hi b=true/\(cy b).length<=1000000:=fun b O=>⟨bb.right b O,by have:=TZ (bb.right b O);omega⟩
 intro n
 induction n with
 |zero=>
  intro nm h;have aw:o2 L (eq L nm)=none:=by unfold o2;rw[if_neg au5]
  have:=TX L nm cW aF (fun _=>[]) (fun b O=>by rw[aw] at O;cases O);rw[show ww L nm (fun _=>[])=[] by unfold ww;rw[aw]] at this;exact this
 |succ n br=>
  intro nm h
  exact TX L nm cW aF (GL L n) (fun b O ag=>br (dh b) (by
   obtain⟨k,ab,O⟩:=ajk O;have:=(bb.GM k b O (by simpa using ag)).2;omega))
def GN (L:List bM) (nm:List UInt8):List UInt8:=GL L (L.length+1) nm
theorem ajm {L:List bM} (bb:lk L) (nm:List UInt8):Fn Tryz.prog 24 [ao 1001,bV nm] (kw L) [] (GK (GN L nm) (uX L nm)) (kw L):=
 ajl bb _ nm (by have:=T0 L nm;omega)
end
section
abbrev T1:bx:=.bR (.int .i64) .str
abbrev T2:bx:=.bR .str (.bR .str (.bR (.int .i64) (.bR (.int .i64) (.b7 T1))))
abbrev wx:Type:=Z T1
abbrev mR:Type:=Z T2
abbrev ajn (p:wx):Int:=p.1
abbrev C9 (p:wx):List UInt8:=p.2
abbrev ajo (b:mR):List UInt8:=b.1
abbrev ajp (b:mR):List UInt8:=b.2.1
abbrev ajq (b:mR):Int:=b.2.2.1
abbrev T3 (b:mR):Int:=b.2.2.2.1
abbrev ajr (b:mR):List wx:=b.2.2.2.2
def sD (p:wx):j7:=(ajn p,C9 p)
def i2 (b:mR):bM:=(ajo b,ajp b,ajq b,T3 b,(ajr b).map sD)
theorem ajs {α lC:Type} (f:α->lC) {l:List α} {k:Nat} (h:k < l.length):(l.take k).map f++[f l[k]]=(l.take (k+1)).map f:=by
 rw[<-uW h,as3];rfl
end
section
theorem ajt (b:bM) (nm:List UInt8):Fn Tryz.prog 125 [yb b,ao 1001] [(1001,.cells [.d (.str nm)])] [] (fI (decide (dh b=nm))) [(1001,.cells [.d (.str nm)])]:=by
 refine aW [] Tryz.func125 rfl rfl rfl rfl ?_;refine⟨rfl,?_⟩;exact aT aH rfl rfl ac rfl
theorem aju (g:Nat) (p:bM->Bool) (nm:List UInt8) (L:List bM) (cW:L.length<=4294967296) (ax: ∀b,Fn Tryz.prog g [yb b,ao 1001] [(1001,.cells [.d (.str nm)])] [] (fI (p b)) [(1001,.cells [.d (.str nm)])]):
  Fn Tryz.prog 124 [eM 1002,kH (.cT g [.p 1001 0])] [(1001,.cells [.d (.str nm)]),(1002,.row 65 lK L)] [] (fI (decide (0<=mg p L))) [(1001,.cells [.d (.str nm)]),(1002,.row 65 lK L)]:=by
 refine aW [] Tryz.func124 rfl rfl rfl rfl ?_;refine au (TO g p nm L cW ax) ?_;exact aT aH rfl rfl ac rfl
def wy (L:List bM) (nm:List UInt8):Bool:=decide (0<=mg (fun b=>decide (dh b=nm)) L)
end
section
end
section
abbrev og:bx:=.int .i64
abbrev ajv:bx:=.bR .str (.b7 og)
abbrev GO:bx:=.bR og (.bR og (.bR og (.bR (.b7 .u8) (.b7 og))))
abbrev GP:bx:=.bR og (.bR og (.bR .str (.bR .str (.bR (.b7 ajv) GO))))
abbrev ajw:bx:=.bR og (.bR og (.bR T2 (.bR .str GP)))
abbrev tE:Type:=Z ajw
abbrev T4 (o:tE):Int:=o.1
abbrev ajx (o:tE):Int:=o.2.1
abbrev T5 (o:tE):mR:=o.2.2.1
abbrev ajy (o:tE):List UInt8:=o.2.2.2.1
abbrev Me (o:tE):Z GP:=o.2.2.2.2
abbrev ajz (o:Z GP):Int:=o.2.1
abbrev T6 (o:Z GP):Z GO:=o.2.2.2.2.2
abbrev ajA (o:Z GO):Int:=o.1
abbrev ajB (o:Z GO):Int:=o.2.2.1
def over (n a b:Int):Bool:=decide (a < n)&&decide (n<=b)
def Mf (o:tE):Bool:=over (T3 (T5 o)) 12 256||over (ajx o) 100 4096||over (ajz (Me o)) 100 4096||(decide (ajA (T6 (Me o))=4)&&over (ajB (T6 (Me o))) 100 4096)
end
section
theorem lk.nil:lk []:=⟨au7,fun b O=>by simp at O,fun k b ab=>by simp at ab⟩
theorem C' {L:List bM} {b:bM} (h:gx L b=0):hi b=true/\eq L (dH b) < 0/\L.length < 64/\(decide (dh b=[])=false->0<=eq L (dh b)):=by
 unfold gx at h
 split at h
 .cases h
 .rename_i E
  split at h
  .cases h
  .rename_i G;simp only[Bool.or_eq_true,Bool.not_eq_true',ar5,not_or,Bool.not_eq_false] at E;refine⟨E.1.1,au5,au5,fun h=>?_⟩;rw[h] at G;simp only[Bool.not_false,Bool.true_and,ar5] at G;omega
theorem T7 {α:Type} {p:α->Bool} {L:List α} (x:α) (h:0<=mg p L):mg p (L++[x])=mg p L:=by
 unfold mg at*;rw[List.findIdx?_append]
 cases hf:L.findIdx? p with
 |none=>rw[hf] at h;exact absurd h au6
 |some k=>simp
theorem T8 {α:Type} {L:List α} {b:α} (k:Nat) (x:α) (hx:(L++[b])[k]? =some x):L[k]? =some x\/(k=L.length/\x=b):=by
 rcases Nat.lt_or_ge k L.length with h |h
 .rw[ar7 h] at hx;exact .inl hx
 .rw[ar9 h] at hx
  cases ab:k - L.length with
  |zero=>rw[ab] at hx;exact .inr ⟨au5,by simpa using hx.symm⟩
  |succ n=>rw[ab] at hx;simp at hx
theorem lk.add {L:List bM} (bb:lk L) (b:bM):lk (gr L b):=by
 unfold gr
 split
 .rename_i h;obtain⟨E,G,al,aZ⟩:=C' h;refine⟨by simp;omega,fun x hx=>?_,fun k x ab ag=>?_⟩
  .rcases aq8.1 hx with hx |hx
   .exact bb.right x hx
   .simp only[ap3,List.not_mem_nil,or_false] at hx;rw[hx];exact E
  .rcases T8 k x ab with ab |⟨rfl,rfl⟩
   .have:=bb.GM k x ab ag;unfold eq at*;rw[T7 b this.1];exact this
   .have:=aZ ag;have bw:=T0 L (dh x);unfold eq at*;rw[T7 x this];exact⟨this,bw⟩
 .exact bb
end
section
def Ar (L:List bM) (o:tE):List bM:=if decide (T4 o=0)=true then gr L (i2 (T5 o)) else L
abbrev Mg (r:Nat) (L:List bM):ay:=[(1001,.cells [.own r]),(r,.row 65 lK L)]
end
section
abbrev T9 (r k:Nat) (L:List bM):a1:=[(3,eM r),(9,eM 1002),(10,ae (L.length:Nat)),(11,ae (k:Nat))]
abbrev T' (L:List bM) (r:Nat) (l:List (List UInt8)):ay:=(r,.row 9 .str l)::kw L
theorem ajC (L:List bM) (cW:L.length<=1000000):Fn Tryz.prog 60 [ao 1001] (kw L) [] (bS .str (L.map dH)) (kw L):=by
 refine aW [] Tryz.func60 rfl rfl rfl rfl ?_;refine dX [] (X:=Nat) (fun k=>T9 2002 k L) (fun k=>T' L 2002 ((L.take k).map dH)) (fun k=>k<=L.length) (fun k=>L.length - k) 0 (ap7 _) ?_ ?_
 .exact af.trans (af.nil 3 2002 9 .str rfl rfl) (af.sub ac ac)
 intro k ab;refine⟨fun h=>?_,fun h=>?_⟩
 .have cn:k < L.length:=by simpa using h
  refine⟨⟨au5,au5⟩,L[k],pN rfl cn,rfl,?_,rfl,?_⟩
  .show((L.take k).map dH).length+1<=4294967296;rw[aq3,ap8];omega
  refine⟨au5,k+1,cn,au5,?_⟩;exact af.trans (af.sub (K':=T9 19 (k+1) L) (B':=T' L 19 ((L.take (k+1)).map dH)) ac ⟨congrArg (fun l=>some (bd.row _ .str l)) (ajs dH cn),rfl,rfl,trivial⟩) (af.aX 19 2002 rfl)
 .have cn:k=L.length:=by
    have: ¬k < L.length:=by simpa using h
    omega
  subst cn;exact⟨_,_,_,af.dV 2002 rfl,rfl,(show(L.take L.length).map dH=L.map dH by rw[aq9]),ac,rfl⟩
theorem ajD {L:List bM} {b:bM} (h:b∈L):0<=eq L (dH b):=by
 unfold eq;rcases uV (fun x=>decide (dH x=dH b)) L with⟨_,hn⟩ |⟨k,x,h,_⟩
 .obtain⟨i,aI,rfl⟩:=List.getElem_of_mem h;have:=hn i _ (oj aI);simp at this
 .omega
end
end Go.Proofs.YthnboghbhgapcaaGreat
