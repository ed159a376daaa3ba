/-
A part of the proof of this claim: lemmas, with no condition beyond what each says.
-/
import Derived.Test.YtkfbeijmgggkmaaGreatProg
import Derived.Test.YtkfbeijmgggkmaaGreatZd11
set_option linter.unusedVariables false
set_option linter.unusedSimpArgs false
set_option maxRecDepth 10000
set_option maxHeartbeats 4000000
namespace Go.Proofs.YtkfbeijmgggkmaaGreat
open Go.RowKit Go.Proofs Tryz
section
structure aL where
 nm:aC3
 back:aC3
 ad:Nat
 am:Nat
 im:bE
 cP:Option (Nat->Nat)
def kN (d:aL):bc:=match d.cP with
 |none=>jb d.im
 |some bs=>.nh (dD d.im) (fun c=>cond (Nat.beq c 1001) d.am (bs c))
abbrev lR (d:aL):Z .str×Z .aM:=((d.nm:Z .str),(some d.ad:Z .aM))
def c6 (L:List aL):List (Z .str×Z .aM):=L.map lR
abbrev Gy (am:Nat) (back:aC3):List bB:=[.d (.aM (some am)),.d (.str back)]
def tP (am:Nat) (back:aC3):bc:=bc.ch (.cells (Gy am back)) (fun _=>rfl)
def md (L:List aL):List (Nat×bc):=L.map fun d=>(d.ad,tP d.am d.back)
def ig (L:List aL):List (Nat×bc):=L.map fun d=>(d.am,kN d)
abbrev Lq (z R:Int):List bB:=[.d (.int .i64 z),.d (.int .i64 R),.mp 1002]
abbrev bO (z R:Int) (L:List aL):az:=[(1001,.cells (Lq z R)),(1002,.map .str .aM (c6 L)),(1003,.aG (.bx (md L))),(1004,.aG (.bx (ig L)))]
def dk (L:List aL) (nm:aC3):Option aL:=L.find? fun d=>decide (d.nm=nm)
theorem cR {L:List aL} {nm:aC3} {d:aL} (h:dk L nm=some d):d∈L/\d.nm=nm:=⟨ax4 h,by have:=List.find?_some h;simpa using this⟩
theorem j8 (nm:aC3): ∀L:List aL,(bY (aI:=.str) (aK:=.aM) (c6 L) nm).getD (cO .aM)=((dk L nm).map (·.ad):Option Nat)
 | []=>rfl
 |d::L=>by
  have bq:=j8 nm L;show(bY (aI:=.str) (aK:=.aM) (lR d::c6 L) nm).getD (cO .aM)=_;rw[show dk (d::L) nm=if decide (d.nm=nm)=true then some d else dk L nm by unfold dk;rw[List.find?_cons];split <;>rename_i h <;>rw[h] <;>rfl];rw[show bY (aI:=.str) (aK:=.aM) (lR d::c6 L) nm=match f0 .str (nm:Z .str) (lR d).1 with |true=>some (lR d).2 |false=>bY (aI:=.str) (aK:=.aM) (c6 L) nm from rfl]
  by_cases e:d.nm=nm
  .rw[show f0 .str (nm:Z .str) (lR d).1=true from(qr _ _).2 e.symm,show decide (d.nm=nm)=true from ar0 e];rfl
  .rw[show f0 .str (nm:Z .str) (lR d).1=false from rr (aI:=.str) qr (fun h=>e h.symm),show decide (d.nm=nm)=false from at0 e];exact bq
theorem Lr {f:aL->Nat×bc}: ∀{L:List aL},(L.map fun d=>(f d).1).Nodup-> ∀{d:aL},d∈L->eu (L.map f) (f d).1=some (f d).2
 | [],_,d,h=>by cases h
 |e::L,hn,d,h=>by
  rw[ar4] at hn;obtain⟨cU,dU⟩:=as8.1 hn;rw[ar4];unfold eu;rcases aq5.1 h with rfl |h
  .rw[if_pos rfl]
  .rw[if_neg (fun e=>cU (by rw[e];exact ar8 (f:=fun d=>(f d).1) h))];exact Lr dU h
structure iP (L:List aL):Prop where
 jd:(L.map (·.nm)).Nodup
 me:(L.map (·.ad)).Nodup
 yc:(L.map (·.am)).Nodup
theorem iP.D {L:List aL} (h:iP L) {d:aL} (H:d∈L):eu (md L) d.ad=some (tP d.am d.back):=Lr (f:=fun d=>(d.ad,tP d.am d.back)) h.me H
theorem iP.M {L:List aL} (h:iP L) {d:aL} (H:d∈L):eu (ig L) d.am=some (kN d):=Lr (f:=fun d=>(d.am,kN d)) h.yc H
theorem yd:(Tryz.prog.info? 112).map (·.size)=some 1:=by kernel_rfl
theorem Gz:(Tryz.prog.info? 9).map (·.size)=some 1:=by kernel_rfl
theorem Aq (z R:Int) (L:List aL) (b:aC3):Fn Tryz.prog 59 [aq 1001,bT b] (bO z R L) [] (fI (decide (b=[])||(dk L b).isSome)) (bO z R L):=by
 have aZ:=j8 b L;refine aU [] Tryz.func59 ?_;refine⟨fun h=>?_,fun h=>?_⟩
 .have h:b=[]:=gd h;exact eG br rfl (show true=_ by rw[ar0 h];rfl)
 .have h: ¬b=[]:=mu h;refine⟨fun d5 h'=>?_,fun h'=>?_⟩
  .have h':(bY (aI:=.str) (aK:=.aM) (c6 L) b).getD (cO .aM)=some d5:=h';rw[aZ] at h'
   exact⟨_,_,_,br,rfl,(show true=_ by rw[at0 h];cases e:dk L b with
    |none=>rw[e] at h';cases h'
    |some d=>rfl),aC,rfl⟩
  .have h':(bY (aI:=.str) (aK:=.aM) (c6 L) b).getD (cO .aM)=none:=h';rw[aZ] at h'
   exact⟨_,_,_,br,rfl,(show false=_ by rw[at0 h];cases e:dk L b with
    |none=>rfl
    |some d=>rw[e] at h';cases h'),aC,rfl⟩
theorem afo {L:List aL} {nm:aC3} {d5:Nat} (h:(bY (aI:=.str) (aK:=.aM) (c6 L) nm).getD (cO .aM)=some d5): ∃d,dk L nm=some d/\d.ad=d5:=by
 rw[j8] at h
 cases e:dk L nm with
 |none=>rw[e] at h;cases h
 |some d=>
  rw[e] at h;injection h with h
  exact⟨d,rfl,h⟩
theorem oe {x:Option Nat} {b:Nat} (h:x=some b):aP.c (dP.one (bB.d (D.aM x)))= .c (.one (.d (.aM (some b)))):=by rw[h]
theorem jM (z R:Int) (L:List aL) (fa:iP L) (nm:aC3) (d:aL) (H:dk L nm=some d):Fn Tryz.prog 111 [aq 1001,bT nm] (bO z R L) [] (dr d.am) (bO z R L):=by
 obtain⟨o8,gj,gk⟩:=ku yd;have cL:=fa.D (cR H).1;have h':(bY (aI:=.str) (aK:=.aM) (c6 L) nm).getD (cO .aM)=some d.ad:=by rw[j8,H];rfl
 refine aU [] Tryz.func111 ?_;refine⟨fun d5 O=>⟨_,_,fun N=>i' (b:=d.ad) rfl (by exact oe h') N,rfl,?_⟩,fun O=>absurd (show(bY (aI:=.str) (aK:=.aM) (c6 L) nm).getD (cO .aM)=none from O) aA0⟩;refine⟨_,_,fun N=>jq rfl Tryz.underlying122 rfl rfl gj az6 rfl N,rfl,?_⟩;refine⟨_,_,fun N=>lq (q:=1003) rfl Tryz.underlying112 rfl rfl rfl cL rfl N,rfl,?_⟩;exact bg
theorem afp (z R:Int) (L:List aL) (nm:aC3) (H:dk L nm=none):Fn Tryz.prog 111 [aq 1001,bT nm] (bO z R L) [] (.c mP) (bO z R L):=by
 have h':(bY (aI:=.str) (aK:=.aM) (c6 L) nm).getD (cO .aM)=none:=by rw[j8,H];rfl
 refine aU [] Tryz.func111 ?_;exact⟨fun d5 O=>absurd (show(bY (aI:=.str) (aK:=.aM) (c6 L) nm).getD (cO .aM)=some d5 from O) aA0,fun _=>bg⟩
theorem afq (z R:Int) (L:List aL) (fa:iP L) (nm:aC3) (d:aL) (H:dk L nm=some d):Fn Tryz.prog 114 [aq 1001,bT nm] (bO z R L) [] (.ci [.one (.d (.str d.back)),dz 0]) (bO z R L):=by
 obtain⟨o8,gj,gk⟩:=ku Gz;have cL:=fa.D (cR H).1;have h':(bY (aI:=.str) (aK:=.aM) (c6 L) nm).getD (cO .aM)=some d.ad:=by rw[j8,H];rfl
 refine aU [] Tryz.func114 ?_;refine⟨fun d5 O=>⟨_,_,fun N=>i' (b:=d.ad) rfl (by exact oe h') N,rfl,?_⟩,fun O=>absurd (show(bY (aI:=.str) (aK:=.aM) (c6 L) nm).getD (cO .aM)=none from O) aA0⟩;refine⟨_,_,fun N=>jq rfl Tryz.underlying122 rfl rfl gj az6 rfl N,rfl,?_⟩;refine⟨_,_,fun N=>lq (q:=1003) rfl Tryz.underlying9 rfl rfl rfl cL rfl N,rfl,?_⟩;exact bg
theorem afr (z R:Int) (L:List aL) (nm:aC3) (H:dk L nm=none):Fn Tryz.prog 114 [aq 1001,bT nm] (bO z R L) [] (.ci [.one (.d (.str [])),dz 140]) (bO z R L):=by
 have h':(bY (aI:=.str) (aK:=.aM) (c6 L) nm).getD (cO .aM)=none:=by rw[j8,H];rfl
 refine aU [] Tryz.func114 ?_;exact⟨fun d5 O=>absurd (show(bY (aI:=.str) (aK:=.aM) (c6 L) nm).getD (cO .aM)=some d5 from O) aA0,fun _=>bg⟩
inductive ed (L:List aL):aC3->Nat->Prop where
 |gone {nm}:dk L nm=none->ed L nm 0
 |base {nm d}:dk L nm=some d->d.back=[]->ed L nm 0
 |step {nm d k}:dk L nm=some d->d.back≠[]->ed L d.back k->ed L nm (k+1)
def c4 (L:List aL):Nat->aC3->List aC3
 |0,_=>[]
 |k+1,nm=>match dk L nm with
  |none=>[]
  |some d=>d.back::c4 L k d.back
def eT (L:List aL):Nat->aC3->aC3
 |0,nm=>nm
 |j+1,nm=>match dk L nm with
  |none=>nm
  |some d=>eT L j d.back
theorem Ar (L:List aL): ∀(j:Nat) (nm:aC3),eT L (j+1) nm=match dk L (eT L j nm) with
  |none=>eT L j nm
  |some d=>d.back
 |0,nm=>by
  show(match dk L nm with |none=>nm |some d=>d.back)=_;rfl
 |j+1,nm=>by
  show(match dk L nm with |none=>nm |some d=>eT L (j+1) d.back)=_
  cases e:dk L nm with
  |none=>
   simp only;rw[show eT L (j+1) nm=nm by show(match dk L nm with |none=>nm |some d=>eT L j d.back)=nm;rw[e]];rw[e]
  |some d=>
   simp only;rw[Ar L j d.back];rw[show eT L (j+1) nm=eT L j d.back by show(match dk L nm with |none=>nm |some d=>eT L j d.back)=_;rw[e]]
theorem GA {L:List aL}: ∀{k:Nat} {nm:aC3},ed L nm k-> ∀j,j<=k->ed L (eT L j nm) (k - j)
 |_,_,h,0,_=>h
 |k+1,nm,.step (d:=d) E G af,j+1,V=>by
  rw[show eT L (j+1) nm=eT L j d.back by show(match dk L nm with |none=>nm |some d=>eT L j d.back)=_;rw[E]];rw[Nat.add_sub_add_right];exact GA af j ay4
 |0,_,_,j+1,V=>absurd V ay4
theorem pO {L:List aL} {nm:aC3} {k:Nat} (h:ed L nm k):(c4 L k nm).length=k:=by
 induction h with
 |gone _=>rfl
 |base _ _=>rfl
 |step E G _ bq=>
  unfold c4;rw[E];simp only[at8,bq]
theorem GB {L:List aL}: ∀{k:Nat} {nm:aC3},ed L nm k-> ∀j,j < k->(c4 L k nm).take (j+1)=(c4 L k nm).take j++[eT L (j+1) nm]
 |k+1,nm,.step (d:=d) E G af,0,_=>by
  unfold c4;rw[E];simp only[List.take_succ_cons,List.take_zero,ay0];rw[show eT L 1 nm=d.back by show(match dk L nm with |none=>nm |some d=>eT L 0 d.back)=_;rw[E];rfl]
 |k+1,nm,.step (d:=d) E G af,j+1,V=>by
  have bq:=GB af j ay4;unfold c4;rw[E];simp only[List.take_succ_cons,List.cons_append];rw[bq];rw[show eT L (j+1+1) nm=eT L (j+1) d.back by show(match dk L nm with |none=>nm |some d=>eT L (j+1) d.back)=_;rw[E]]
 |0,_,_,j,V=>absurd V ay4
abbrev As (x:Option Nat):aP:=.c (.one (.d (.aM x)))
abbrev SE (L:List aL) (nm:aC3) (j:Nat):aY:=[(0,aq 1001),(5,eM 5002),(6,As ((dk L (eT L j nm)).map (·.ad)))]
abbrev SF (z R:Int) (L:List aL) (k:Nat) (nm:aC3) (j:Nat):az:=bO z R L++[(5002,.row 9 .str ((c4 L k nm).take j))]
abbrev afs (L:List aL) (nm:aC3) (j:Nat):aY:=[(0,aq 1001),(5,eM 35),(6,As ((dk L (eT L j nm)).map (·.ad)))]
abbrev aft (z R:Int) (L:List aL) (k:Nat) (nm:aC3) (j:Nat):az:=bO z R L++[(35,.row 9 .str ((c4 L k nm).take j))]
theorem At (z R:Int) (L:List aL) (fa:iP L) (nm:aC3) (k:Nat) (aa:ed L nm k) (hr:k<=1000000):Fn Tryz.prog 60 [aq 1001,bT nm] (bO z R L) [] (bQ .str (c4 L k nm)) (bO z R L):=by
 obtain⟨o8,gj,gk⟩:=ku Gz;have fR:=pO aa;refine aU [2,7] Tryz.func60 ?_;refine bu [7] (br) <| d2 [6,4,7] (X:=Nat) (SE L nm) (fun j=>SF z R L k nm j) (fun j=>j<=k) (fun j=>k - j) 0 (aq8 _) ?_ ?_
 .refine(ac.nil 5 5002 9 .str rfl rfl).trans (ac.sub ⟨rfl,rfl,?_,trivial⟩ aC);exact j8 nm L
 intro j V;have jN:=GA aa j V;have nW:k - j=0->(c4 L k nm).take j=c4 L k nm:=fun h=>at2 ay4
 refine⟨fun d5 h'=>?_,fun h'=>?_⟩
 .obtain⟨d,H,rfl⟩: ∃d,dk L (eT L j nm)=some d/\d.ad=d5:=by
   have h':(dk L (eT L j nm)).map (·.ad)=some d5:=h'
   cases e:dk L (eT L j nm) with
   |none=>rw[e] at h';cases h'
   |some d=>rw[e] at h';injection h' with h';exact⟨d,rfl,h'⟩
  have cL:=fa.D (cR H).1;have hx:(dk L (eT L j nm)).map (·.ad)=some d.ad:=by rw[H];rfl
  refine⟨_,_,fun N=>i' (b:=d.ad) rfl aB1 N,rfl,?_⟩;refine⟨_,_,fun N=>jq rfl Tryz.underlying122 rfl rfl gj az6 rfl N,rfl,?_⟩;refine⟨_,_,fun N=>lq (q:=1003) rfl Tryz.underlying9 rfl rfl rfl cL rfl N,rfl,?_⟩;refine⟨fun O=>?_,fun O=>?_⟩
  .have O:d.back=[]:=gd O
   have au:k - j=0:=by
    generalize k - j=m at jN
    cases jN with
    |gone h=>rfl
    |base _ _=>rfl
    |step E G _=>rw[H] at E;injection E with E;rw[<-E] at G;exact absurd O G
   have cq:=nW au;exact bu [] (br) ⟨_,_,_,ac.d0 5002 rfl,rfl,cq,aC,rfl⟩
  .have O: ¬d.back=[]:=mu O
   have jK:j < k:=by
    rcases Nat.lt_or_ge j k with h |h
    .exact h
    .exfalso;have au:k - j=0:=az2
     rw[au] at jN
     cases jN with
     |gone h=>rw[H] at h;cases h
     |base E G=>rw[H] at E;injection E with E;rw[<-E] at G;exact O G
   have SG:eT L (j+1) nm=d.back:=by rw[Ar,H]
   have nb:=GB aa j jK;rw[SG] at nb;have mT:((c4 L k nm).take j).length+1<=4294967296:=aA2
   refine bu [4] (cM (SE L nm j) (SF z R L k nm j)) ⟨_,_,fun N=>i' (b:=d.ad) rfl aB1 N,rfl,?_⟩;refine⟨_,_,fun N=>jq rfl Tryz.underlying122 rfl rfl gj az6 rfl N,rfl,?_⟩;refine⟨_,_,fun N=>lq (q:=1003) rfl Tryz.underlying9 rfl rfl rfl cL rfl N,rfl,?_⟩;refine⟨mT,rfl,bu [] (ac.sub (K':=afs L nm j) (B':=aft z R L k nm (j+1)) aC ⟨rfl,rfl,rfl,rfl,congrArg (fun l:List aC3=>some (ba.row 9 .str l)) nb.symm,trivial⟩) ⟨_,_,fun N=>i' (b:=d.ad) rfl aB1 N,rfl,?_⟩⟩;refine⟨_,_,fun N=>jq rfl Tryz.underlying122 rfl rfl gj az6 rfl N,rfl,?_⟩;refine⟨_,_,fun N=>lq (q:=1003) rfl Tryz.underlying9 rfl rfl rfl cL rfl N,rfl,?_⟩;refine⟨rfl,j+1,ay4,ay4,(ac.aV 35 5002 rfl).trans (ac.sub ⟨rfl,rfl,?_,trivial⟩ aC)⟩;rw[SG];exact j8 d.back L
 .have H:dk L (eT L j nm)=none:=by
   have h':(dk L (eT L j nm)).map (·.ad)=none:=h'
   cases e:dk L (eT L j nm) with
   |none=>rfl
   |some d=>rw[e] at h';cases h'
  have au:k - j=0:=by
   generalize k - j=m at jN
   cases jN with
   |gone h=>rfl
   |base _ _=>rfl
   |step E G _=>rw[H] at E;cases E
  have cq:=nW au;exact bu [] (br) ⟨_,_,_,ac.d0 5002 rfl,rfl,cq,aC,rfl⟩
theorem h5 {f:FuncId} {args:List aP} {res:aP} {d:aL} {M:List (Nat×bc)} (h:Fn Tryz.prog f (aq 1001::args) (dD d.im) [] res (dD d.im)) (aj:eu M d.am=some (kN d)) (E:nZ 1001 [1002,1003,1004] (aq 1001::args) (dD d.im) [] [] []=true) (G:n0 1001 (mO [1002,1003,1004] [] []) res (dD d.im) []=true)
  (af:(args.all fun v=>v.i7 [])=true) (aW:res.i7 []=true):Fn Tryz.prog f (dr d.am::args) [(1004,.aG (.bx M))] [] res [(1004,.aG (.bx M))]:=by
 have fU: ∀{v:aP},v.i7 []=true->v.has 1001=false:=fun {v} ay=>by
  cases e:v.has 1001 with
  |false=>rfl
  |true=>exact absurd (aP.kK ay e) List.not_mem_nil
 cases ai:d.cP with
 |none=>
  rw[show kN d=jb d.im by unfold kN;rw[ai]] at aj;have J:Fn Tryz.prog f (aq 1001::args) [(1001,.aG (jb d.im))] [] res [(1001,.aG (jb d.im))]:=Fn.close (bp:=dD d.im) (dG:=dD d.im) (aJ:=[]) (aO:=[]) [1002,1003,1004] az3 (fun _ _ _ _ h=>h) (fun _ _ _ _ h=>h) E G;have:=(cx.bx (c:=1001) (q:=1004) (b:=d.am) (args:=args) (aJ:=[]) (bb:=[]) (X:=Unit) (res:=fun _=>res) (aO:=fun _=>[]) (o:=jb d.im) (o':=fun _=>jb d.im) (L:=M) J.x aj (as4.2 fun v ay=>by rw[fU (as4.1 af v ay)];rfl) ⟨rfl,rfl⟩ rfl (fun _=>by rw[fU aW];rfl)).fn;rw[xX aj] at this;exact this
 |some bs=>
  rw[show kN d= .nh (dD d.im) (fun c=>cond (Nat.beq c 1001) d.am (bs c)) by unfold kN;rw[ai]] at aj;exact Fn.adn (c:=1001) h aj rfl rfl af aW
theorem afu {s:bE} (ap:gh s) {k:Nat} (aa:k < s.t.length):La s (k*2 ^s.z) (2 ^s.z)=eh s k none:=by
 have dH:=u0 ap aa none;have ai:=jc ap.z;have dc:aH s=16*2 ^s.z:=rfl
 have bF:16*(k*2 ^s.z)/aH s=k:=by
  rw[dc,show 16*(k*2 ^s.z)=k*(16*2 ^s.z) by rw[Nat.mul_left_comm],Nat.mul_div_cancel _ ay4]
 have em:16*(k*2 ^s.z)=k*aH s:=by rw[dc,Nat.mul_left_comm]
 have ae:cD (aH s) (k*2 ^s.z) (2 ^s.z)=1:=by
  have au:=tL (a:=k*2 ^s.z) (l:=2 ^s.z) (k:=0) (ob ap.z);have E:=tL (a:=k*2 ^s.z) (l:=2 ^s.z) (k:=1) (ob ap.z);rw[bF,Nat.mul_add,em] at au E;rw[aw3] at au;rw[aw4] at E;have a0:=au.1 ⟨ay4,ay4⟩
  have bZ: ¬1 < cD (aH s) (k*2 ^s.z) (2 ^s.z):=fun h=>by
   have:=(E.2 h).2;omega
  omega
 unfold La;rw[ae];show[]++Ai s (k*2 ^s.z) (2 ^s.z) 0=_;rw[ay0];unfold Ai;have KS:(bj (aH s) (k*2 ^s.z) (2 ^s.z) 0).c=k:=by unfold bj;simp only[bF,aw3]
 have afv:(bj (aH s) (k*2 ^s.z) (2 ^s.z) 0).a=0:=by
  show 16*(k*2 ^s.z) - (16*(k*2 ^s.z)/aH s+0)*aH s=0;rw[bF,aw3,em,Nat.sub_self]
 have u3:(bj (aH s) (k*2 ^s.z) (2 ^s.z) 0).b=aH s:=by
  show min (16*(k*2 ^s.z+2 ^s.z) - (16*(k*2 ^s.z)/aH s+0)*aH s) (aH s)=aH s;rw[bF,aw3,Nat.mul_add,em,show 16*2 ^s.z=aH s from rfl,Nat.add_sub_cancel_left,Nat.min_self]
 rw[KS,afv,u3,List.drop_zero,at2 ay4]
theorem afw {s:bE} (ap:gh s) {k:Nat} (aa:k < s.t.length):d3 s ((k*2 ^s.z:Nat):Int) ((2 ^s.z:Nat):Int)=0:=by
 have h:k*2 ^s.z+2 ^s.z<=e7 s:=by
  have:=au8 (2 ^s.z) (show k+1<=s.t.length from aa);rw[aw4] at this;exact this
 unfold d3;generalize k*2 ^s.z=Q at*;generalize 2 ^s.z=P at*;rw[if_neg ay4,if_neg ay4]
structure nt (z:Nat) (R:Nat) (L:List aL):Prop extends iP L where
 b3:z<=3
 wG:R<=512
 len:L.length<=16
 gl: ∀d,d∈L->gh d.im/\d.im.z=z/\d.im.l.length=R
 iy: ∀d,d∈L->d.back≠[]-> ∃e,dk L d.back=some e
 ne: ∀d,d∈L->d.nm≠[]
 tQ: ∀d,d∈L-> ∃k,k<=8/\ed L d.nm k
theorem Ls {z R:Nat} {L:List aL} (h:nt z R L) {nm:aC3} {k:Nat} (aa:ed L nm k): ∀n,n∈c4 L k nm-> ∃e,dk L n=some e:=by
 induction aa with
 |gone _=>intro n hn;cases hn
 |base _ _=>intro n hn;cases hn
 | @step nm d k E G af bq=>
  intro n hn;unfold c4 at hn;rw[E] at hn;rcases aq5.1 hn with rfl |hn
  .exact h.iy d (cR E).1 G
  .exact bq n hn
def hs (z:Nat) (L:List aL) (k:Nat):List aC3->Nat->aC3×Nat
 | [],_=>(List.replicate (16*2 ^z) 0,0)
 |n::ns,i=>match dk L n with
  |none=>([],0)
  |some d=>if k < d.im.t.length/\(d.im.t.getD k ck).1≠0 then(eh d.im k none,i+1) else hs z L k ns (i+1)
theorem SH {z R:Nat} {L:List aL} (h:nt z R L) (k:Nat): ∀(ns:List aC3) (i:Nat),(hs z L k ns i).1.length<=128
 | [],i=>by
  show(List.replicate (16*2 ^z) (0:UInt8)).length<=128;rw[ar7];have:=jc h.b3;omega
 |n::ns,i=>by
  unfold hs
  cases e:dk L n with
  |none=>exact aq8 _
  |some d=>
   simp only
   split
   .rename_i bf;obtain⟨fq,gP,_⟩:=h.gl d (cR e).1;rw[u0 fq bf.1 none];exact(tK fq.z).2
   .exact SH h k ns (i+1)
abbrev GC (z:Nat) (k:Nat) (l:List aC3) (j:Nat):aY:=[(0,aq 1001),(2,ab (k:Int)),(8,ab ((2 ^z:Nat):Int)),(24,bQ .str l),(25,ab (l.length:Nat)),(26,ab (j:Nat))]
abbrev afx (z:Nat) (nm:aC3) (k:Nat):aY:=[(1000000+(1000000+20),.undef),(0,aq 1001),(1,bT nm),(2,ab (k:Int)),(8,ab ((2 ^z:Nat):Int))]
theorem afy:(Tryz.prog.info? 9).map (fun i=>(i.zero,i.size,i.bytes))=some (some (.string ⟨#[]⟩),1,16):=by kernel_rfl
theorem afz (z R:Nat) (L:List aL) (d7:nt z R L) (nm:aC3) (bN:aL) (au:dk L nm=some bN) (cJ:Nat) (ie:ed L nm cJ) (mX:cJ<=100) (k:Nat) (aa:k<=100000):
  Fn Tryz.prog 147 [aq 1001,bT nm,ab (k:Int)] (bO z R L) [] (.ci [.one (.d (.co .u8 (hs z L k (nm::c4 L cJ nm) 0).1)),.one (.d (.int .i64 (((hs z L k (nm::c4 L cJ nm) 0).2:Nat):Int)))]) (bO z R L):=by
 obtain⟨o8,gj,gk⟩:=ku yd;obtain⟨aqk,afA,afB,afC,aql⟩:=info_parts afy;have ai:=jc d7.b3;have bV:=pO ie
 have ht: ∀n,n∈nm::c4 L cJ nm-> ∃e,dk L n=some e:=fun n hn=>by
  rcases aq5.1 hn with rfl |hn
  .exact⟨bN,au⟩
  .exact Ls d7 ie n hn
 have ae:(1:Int)*((2 ^z:Nat):Int)=((2 ^z:Nat):Int):=Int.one_mul _;obtain⟨l,ak⟩: ∃l,l=nm::c4 L cJ nm:=⟨_,rfl⟩;have mT:l.length=cJ+1:=by rw[ak,at8,bV]
 refine aU [2,5,6,7,8,10] Tryz.func147 ?_;have m1:(0:Int)<=1/\(0:Int)<=(z:Int)/\(z:Int)<=64:=by have:=d7.b3;omega
 have m2:(-9223372036854775808:Int)<=1*((2 ^z:Nat):Int)/\(1:Int)*((2 ^z:Nat):Int)<=9223372036854775807:=by rw[ae];omega
 refine⟨m1,m2,bw.acV 20 ay5 <| bu [5,6,7,8,10] (ac.sub (K':=afx z nm k) (B':=bO z R L) ⟨trivial,rfl,rfl,rfl,ae,trivial⟩ aC) ⟨_,_,fun N=>acW (d:=20) rfl Tryz.underlying45 afA afB afC rfl N,rfl,?_⟩⟩;refine av (At z R L d7.toiP nm cJ ie ay4) ?_;have g8: [nm].length+(c4 L cJ nm).length<=4294967296:=by rw[bV];simp;omega
 refine⟨g8,rfl,d2 [5,6,7,8,10] (X:=Nat) (GC z k l) (fun _=>bO z R L) (fun j=>j<=l.length/\hs z L k (l.drop j) j=hs z L k l 0) (fun j=>l.length - j) 0 ⟨aq8 _,by rw[List.drop_zero]⟩ ?_ ?_⟩
 .subst ak;exact(ac.d0 (e:=9) (u:=.str) (xs:=nm::c4 L cJ nm) 24 rfl).trans (ac.sub aC aC)
 rintro j ⟨V,jm⟩;rw[<-ak];refine⟨fun h=>?_,fun h=>?_⟩
 .have h:decide ((j:Int) < (l.length:Nat))=true:=h;have ft:j < l.length:=az3
  obtain⟨d,H⟩:=ht l[j] (by rw[<-ak];exact as3 ft);have GD:=(cR H).1;obtain⟨fq,gP,mW⟩:=d7.gl d GD;have lS:=d7.toiP.D GD;have fy:=d7.toiP.M GD;have hx:(bY (aI:=.str) (aK:=.aM) (c6 L) l[j]).getD (cO .aM)=some d.ad:=by rw[j8,H];rfl
  have CT:l.drop j=l[j]::l.drop (j+1):=av6 ft
  have ye:hs z L k (l.drop j) j=if k < d.im.t.length/\(d.im.t.getD k ck).1≠0 then(eh d.im k none,j+1) else hs z L k (l.drop (j+1)) (j+1):=by
   rw[CT];show(match dk L l[j] with |none=>([],0) |some d=>_)=_;rw[H]
  have m3:(0:Int)<=(j:Int):=az2
  have rH:c1 ((j:Int)+1):=az2
  refine⟨m3,l[j],jJ (n:=j) ft,?_⟩;generalize l[j]=n at*;refine bu [6,7,8,10] (cM ((9,ab (j:Nat))::(10,bT n)::GC z k l j) (bO z R L)) ⟨_,_,fun N=>i' (b:=d.ad) rfl aB1 N,rfl,?_⟩;refine⟨_,_,fun N=>jq rfl Tryz.underlying122 rfl rfl gj az6 rfl N,rfl,?_⟩;refine⟨_,_,fun N=>lq (q:=1003) rfl Tryz.underlying112 rfl rfl rfl lS rfl N,rfl,?_⟩;refine bu [7,8,10] (cM ((9,ab (j:Nat))::(11,dr d.am)::GC z k l j) (bO z R L)) <| av (h5 (np d.im) fy rfl rfl rfl rfl) ⟨fun E=>?_,fun E=>?_⟩
  .have E:(k:Int) < (d.im.t.length:Nat):=gd E;have ct:k < d.im.t.length:=az2
   refine av (h5 (Ak d.im fq.eS k ct) fy rfl rfl rfl rfl) ⟨fun G=>?_,fun G=>?_⟩
   .have G:(d.im.t.getD k ck).1≠0:=by
     have G:(!decide ((d.im.t.getD k ck).1=0))=true:=G;simpa using G
    rw[ye,if_pos ⟨ct,G⟩] at jm;have eb:=afw fq ct;have og:=St d.im fq (k*2 ^d.im.z) (2 ^d.im.z) eb;rw[afu fq ct] at og;rw[gP] at og eb;have dd:((k*2 ^z:Nat):Int)=(k:Int)*((2 ^z:Nat):Int):=Int.natCast_mul _ _;rw[dd] at og
    have jr:c1 ((k:Int)*((2 ^z:Nat):Int)):=by
     rw[<-dd];have:=av1 aa ai.2;omega
    refine bu [8,10] (cM ((9,ab (j:Nat))::(11,dr d.am)::GC z k l j) (bO z R L)) ⟨jr,av (h5 og fy rfl rfl rfl rfl) <| bu [] (br) ?_⟩;have tM:c1 ((j:Int)+1):=az2
    refine⟨tM,_,_,_,br,rfl,⟨?_,?_,trivial⟩,aC,rfl⟩
    .exact congrArg Prod.fst jm
    .show(j:Int)+1=_;rw[<-jm];rfl
   .have G:(d.im.t.getD k ck).1=0:=by
     have G:(!decide ((d.im.t.getD k ck).1=0))=false:=G;simpa using G
    rw[ye,if_neg (fun h=>h.2 G)] at jm;exact⟨rH,j+1,⟨ft,jm⟩,ay4,ac.sub aC aC⟩
  .have E: ¬(k:Int) < (d.im.t.length:Nat):=mu E;rw[ye,if_neg (fun h=>E (by have:=h.1;omega))] at jm;exact⟨rH,j+1,⟨ft,jm⟩,ay4,ac.sub aC aC⟩
 .have h:decide ((j:Int) < (l.length:Nat))=false:=h;have ft:j=l.length:=aB5
  subst ft;rw[List.drop_length] at jm;have Au:((2 ^z:Nat):Int)*16=((16*2 ^z:Nat):Int):=az2
  have Lt:c1 (((2 ^z:Nat):Int)*16):=by rw[Au];omega
  have Lu:((2 ^z:Nat):Int)*16=((2 ^z:Nat):Int)*16/\(0:Int)<=((2 ^z:Nat):Int)*16/\((2 ^z:Nat):Int)*16<=4294967296:=by rw[Au];omega
  refine bu [] (br) ⟨Lt,Lu,rfl,_,_,_,ac.d0 65 rfl,rfl,⟨?_,?_,trivial⟩,aC,rfl⟩
  .have afD:List.replicate (((2 ^z:Nat):Int)*16).toNat (0:UInt8)=(hs z L k l 0).1:=by
    rw[<-jm,Au];rfl
   exact afD
  .show(0:Int)=_;rw[<-jm];rfl
theorem afE {a b:Int} (E:0<=a) (G:a<=9223372036854775807) (af:0<=b) (aW:b<=9223372036854775807):
  IntKind.i64.wrap (((BitVec.ofInt 64 a &&& BitVec.ofInt 64 b).toNat:Nat):Int)=((a.toNat &&& b.toNat:Nat):Int):=by
 have ae:(BitVec.ofInt 64 a).toNat=a.toNat:=aB4
 have ao:(BitVec.ofInt 64 b).toNat=b.toNat:=aB4
 rw[BitVec.toNat_and,ae,ao];have h:a.toNat &&& b.toNat < 2 ^63:=Nat.and_lt_two_pow _ ay4;exact xu (by simp only[uk];omega)
theorem GE {P:Program} {ids:aC4} {K:aY} {B:az} {o:Oper} {T fG:TypeId} {x y:Operand} {a b:Int} (ah:o.op= .binOp .and T x y fG) (hx:a2 K x= .c (.one (.d (.int .i64 a)))) (aD:a2 K y= .c (.one (.d (.int .i64 b)))) (E:0<=a) (G:a<=9223372036854775807) (af:0<=b) (aW:b<=9223372036854775807) (N:Nat):
  bA P N ids o K B (.c (.one (.d (.int .i64 ((a.toNat &&& b.toNat:Nat):Int))))) ⟨[],[],[]⟩:=by
 have m1:x∈o.op.operands:=az1
 have m2:y∈o.op.operands:=az1
 refine bA.val fun K' B' g1 g2 C ρ F fi w aj ar=>?_
 have ae:=ar.int ((g1 x m1).trans hx);have ao:=ar.int ((g1 y m2).trans aD);refine⟨_,?_,rfl⟩;have e:=afE E G af aW
 have aw:Op.intBits .and .i64 a b=pure (.int .i64 ((a.toNat &&& b.toNat:Nat):Int)):=by
  exact congrArg (fun aB:Int=>(pure (Value.int .i64 aB):Sem Value)) e
 simp only[execOp,ah,ae,ao,eqGuard,binOp,aw];simp[go_sem]
def fu (z:Nat) (L:List aL) (nm:aC3) (cJ k:Nat):aC3:=(hs z L k (nm::c4 L cJ nm) 0).1
theorem Lv (z R:Nat) (L:List aL) (d7:nt z R L) (nm:aC3) (bN:aL) (au:dk L nm=some bN) (cJ:Nat) (ie:ed L nm cJ) (mX:cJ<=100) (k:Nat) (aa:k < bN.im.t.length):
  Fn Tryz.prog 88 [aq 1001,bT nm,ab (k:Int)] (bO z R L) [] (bQ .u8 (fu z L nm cJ k)) (bO z R L):=by
 obtain⟨o8,gj,gk⟩:=ku yd;have H:=(cR au).1;obtain⟨fq,gP,mW⟩:=d7.gl bN H;have lS:=d7.toiP.D H;have fy:=d7.toiP.M H;have hx:(bY (aI:=.str) (aK:=.aM) (c6 L) nm).getD (cO .aM)=some bN.ad:=aB6
 have nr:=fq.eS;refine aU [2,4] Tryz.func88 ?_;refine bu [4] (br) ?_;refine⟨fun d5 O=>⟨fun h=>absurd (gd h) ay4,fun _=>⟨_,_,fun N=>i' (b:=bN.ad) rfl aB1 N,rfl,?_⟩⟩,fun O=>absurd (show(bY (aI:=.str) (aK:=.aM) (c6 L) nm).getD (cO .aM)=none from O) aA3⟩;refine⟨_,_,fun N=>jq rfl Tryz.underlying122 rfl rfl gj az6 rfl N,rfl,?_⟩;refine⟨_,_,fun N=>lq (q:=1003) rfl Tryz.underlying112 rfl rfl rfl lS rfl N,rfl,?_⟩;refine av (h5 (np bN.im) fy rfl rfl rfl rfl) ⟨fun h=>?_,fun _=>?_⟩
 .exfalso;have h:((bN.im.t.length:Nat):Int)<=(k:Int):=gd h;omega
 exact bu [] (cM [(0,aq 1001),(1,bT nm),(2,ab (k:Int))] (bO z R L)) <| av (afz z R L d7 nm bN au cJ ie mX k ay4) bg
theorem SI (z R:Nat) (E:z<=3) (af:R<=512):Fn Tryz.prog 26 [ab (z:Int),ab (R:Int)] [] [1001,1002,1003,1004] (.ci [.one (.ptr 1001 0),dz 0]) (bO z R []):=by
 refine aU [2] Tryz.func26 ?_;exact av (Fn.aV [(1001,2001),(1002,2002),(1003,2003),(1004,2004)] (afm z 0 R E ay5 af)) <| bu [] (cM [(0,ab (z:Int)),(1,ab (R:Int)),(7,ab 0)] []) <| dt ⟨rfl,rfl,_,_,_,(ac.aV 21 1001 rfl).trans ((ac.aV 19 1002 rfl).trans ((ac.ro 1003 rfl).trans (ac.ro 1004 rfl))),rfl,aC,aC,rfl⟩
def jt (z:Nat) (L:List aL) (nm:aC3) (cJ s:Nat):aC3:=((fu z L nm cJ (s/2 ^z)).take (s % 2 ^z*16+16)).drop (s % 2 ^z*16)
def jO (z:Nat) (L:List aL) (nm:aC3) (cJ a:Nat):Nat->aC3
 |0=>[]
 |j+1=>jO z L nm cJ a j++jt z L nm cJ (a+j)
theorem Lw {z R:Nat} {L:List aL} (h:nt z R L) (k:Nat): ∀(ns:List aC3) (i:Nat),(∀n,n∈ns-> ∃e,dk L n=some e)->(hs z L k ns i).1.length=16*2 ^z
 | [],i,_=>ar7
 |n::ns,i,hn=>by
  obtain⟨d,e⟩:=hn n (ar2 ..);unfold hs;rw[e];simp only
  split
  .rename_i bf;obtain⟨fq,gP,_⟩:=h.gl d (cR e).1;rw[u0 fq bf.1 none];show 16*2 ^d.im.z=_;rw[gP]
  .exact Lw h k ns (i+1) fun n aA=>hn n (aq2 _ aA)
theorem yf {z R:Nat} {L:List aL} (h:nt z R L) {nm:aC3} {bN:aL} (au:dk L nm=some bN) {cJ:Nat} (ie:ed L nm cJ) (k:Nat):(fu z L nm cJ k).length=16*2 ^z:=
 Lw h k _ 0 fun n hn=>by
  rcases aq5.1 hn with rfl |hn
  .exact⟨bN,au⟩
  .exact Ls h ie n hn
theorem C5 {z R:Nat} {L:List aL} (h:nt z R L) {nm:aC3} {bN:aL} (au:dk L nm=some bN) {cJ:Nat} (ie:ed L nm cJ) (a:Nat): ∀j,(jO z L nm cJ a j).length=16*j
 |0=>rfl
 |j+1=>by
  have bq:=C5 h au ie a j;have J:=yf h au ie ((a+j)/2 ^z);have ai:=(jc h.b3).1;have aA:(a+j) % 2 ^z < 2 ^z:=Nat.mod_lt _ ay4;show(jO z L nm cJ a j++jt z L nm cJ (a+j)).length=_;rw[aq1,bq];unfold jt;rw[au9,aq9,J];generalize(a+j) % 2 ^z=m at*;generalize 2 ^z=P at*;omega
abbrev SJ (nm:aC3) (a l j:Nat):aY:=[(0,aq 1001),(1,bT nm),(2,ab (a:Int)),(3,ab (l:Int)),(13,eM 5002),(14,ab ((a+j:Nat):Int))]
abbrev afF (nm:aC3) (a l j:Nat):aY:=[(0,aq 1001),(1,bT nm),(2,ab (a:Int)),(3,ab (l:Int)),(13,eM 70),(14,ab ((a+j:Nat):Int))]
abbrev SK (z R:Int) (L:List aL) (acc:aC3):az:=bO z R L++[(5002,.row 5 .u8 acc)]
abbrev afG (z R:Int) (L:List aL) (acc:aC3):az:=bO z R L++[(70,.row 5 .u8 acc)]
theorem afH (z R:Nat) (L:List aL) (d7:nt z R L) (nm:aC3) (bN:aL) (au:dk L nm=some bN) (cJ:Nat) (ie:ed L nm cJ) (mX:cJ<=100) (a l:Nat) (eb:d3 bN.im a l=0):
  Fn Tryz.prog 45 [aq 1001,bT nm,ab (a:Int),ab (l:Int)] (bO z R L) [2001] (.ci [.one (.own 2001),dz 0]) (bO z R L++[(2001,.row 5 .u8 (jO z L nm cJ a l))]):=by
 obtain⟨o8,gj,gk⟩:=ku yd;have H:=(cR au).1;obtain⟨fq,gP,mW⟩:=d7.gl bN H;have lS:=d7.toiP.D H;have fy:=d7.toiP.M H;have hx:(bY (aI:=.str) (aK:=.aM) (c6 L) nm).getD (cO .aM)=some bN.ad:=aB6
 have ai:=jc d7.b3;have dB:=oc eb;have x9:e7 bN.im<=2048:=av1 fq.eS (jc fq.z).2;have C6:e7 bN.im=bN.im.t.length*2 ^z:=by unfold e7;rw[gP]
 refine aU [2,5,7,9,11,12] Tryz.func45 ?_;refine bu [5,7,9,11,12] (br) ?_;refine⟨fun d5 O=>⟨_,_,fun N=>i' (b:=bN.ad) rfl aB1 N,rfl,?_⟩,fun O=>absurd (show(bY (aI:=.str) (aK:=.aM) (c6 L) nm).getD (cO .aM)=none from O) aA3⟩;refine⟨_,_,fun N=>jq rfl Tryz.underlying122 rfl rfl gj az6 rfl N,rfl,?_⟩;refine⟨_,_,fun N=>lq (q:=1003) rfl Tryz.underlying112 rfl rfl rfl lS rfl N,rfl,?_⟩;refine av (h5 (St bN.im fq a l eb) fy rfl rfl rfl rfl) <| bu [7,9,11,12] (cM [(0,aq 1001),(1,bT nm),(2,ab (a:Int)),(3,ab (l:Int)),(12,ab 0)] (bO z R L)) <| dt <| bu [9,11,12] (br) <| d2 [11,12] (X:=Nat) (SJ nm a l) (fun j=>SK z R L (jO z L nm cJ a j)) (fun j=>j<=l) (fun j=>l - j) 0 (aq8 _) ?_ ?_
 .exact(ac.nil 13 5002 5 .u8 rfl rfl).trans (ac.sub aC aC)
 intro j V;have m1:c1 ((a:Int)+(l:Int)):=az2
 refine⟨m1,fun h=>?_,fun h=>?_⟩
 .have h:((a+j:Nat):Int) < (a:Int)+(l:Int):=gd h;have sb:j < l:=az2
  have Lx:=C5 d7 au ie a j
  have ct:(a+j)/2 ^z < bN.im.t.length:=by
   rw[ax0 ay4,<-C6];omega
  have dH:=yf d7 au ie ((a+j)/2 ^z);have Pj:(a+j) % 2 ^z < 2 ^z:=Nat.mod_lt _ ay4;have afI:=Lv z R L d7 nm bN au cJ ie mX ((a+j)/2 ^z) ct;have m2:(0:Int)<=((a+j:Nat):Int)/\(0:Int)<=(z:Int)/\(z:Int)<=64:=by have:=d7.b3;omega
  have m3:(0:Int)<=1/\(0:Int)<=(z:Int)/\(z:Int)<=64:=by have:=d7.b3;omega
  have ae:(1:Int)*((2 ^z:Nat):Int)=((2 ^z:Nat):Int):=Int.one_mul _;have jr:(-9223372036854775808:Int)<=1*((2 ^z:Nat):Int)/\(1:Int)*((2 ^z:Nat):Int)<=9223372036854775807:=aC2
  have tM:(-9223372036854775808:Int)<=1*((2 ^z:Nat):Int) - 1/\(1:Int)*((2 ^z:Nat):Int) - 1<=9223372036854775807:=aC2
  refine bu [12] (br) ⟨m2,m3,jr,tM,?_⟩;have et:(1*((2 ^z:Nat):Int) - 1).toNat=2 ^z - 1:=aC2
  have ev:(((((a+j:Nat):Int)).toNat &&& (1*((2 ^z:Nat):Int) - 1).toNat:Nat):Int)=(((a+j) % 2 ^z:Nat):Int):=by
   rw[et,show(((a+j:Nat):Int)).toNat=a+j from rfl,Nat.and_two_pow_sub_one_eq_mod]
  have Au:(((((a+j:Nat):Int)).toNat &&& (1*((2 ^z:Nat):Int) - 1).toNat:Nat):Int)*16=(((a+j) % 2 ^z*16:Nat):Int):=by rw[ev];omega
  have afJ:((a+j:Nat):Int)/((2 ^z:Nat):Int)=(((a+j)/2 ^z:Nat):Int):=rfl
  have rH:c1 ((((((a+j:Nat):Int)).toNat &&& (1*((2 ^z:Nat):Int) - 1).toNat:Nat):Int)*16):=by
   rw[Au];generalize(a+j) % 2 ^z=m at*;generalize 2 ^z=P at*;omega
  refine⟨_,_,fun N=>GE rfl rfl rfl m2.1 ay4 aC2 tM.2 N,rfl,?_⟩;refine⟨rH,rfl,?_⟩
  have Lt:c1 ((((a+j) % 2 ^z*16:Nat):Int)+16):=by
   generalize(a+j) % 2 ^z=m at*;generalize 2 ^z=P at*;omega
  have Lu:(0:Int)<=(((a+j) % 2 ^z*16:Nat):Int)/\(((a+j) % 2 ^z*16:Nat):Int)<=(((a+j) % 2 ^z*16:Nat):Int)+16/\(((a+j) % 2 ^z*16:Nat):Int)+16<=(((fu z L nm cJ ((a+j)/2 ^z)).length:Nat):Int):=by
   rw[dH];generalize(a+j) % 2 ^z=m at*;generalize 2 ^z=P at*;omega
  have Ly:(jO z L nm cJ a j).length+(jt z L nm cJ (a+j)).length<=4294967296:=by
   have:=C5 d7 au ie a (j+1);rw[show jO z L nm cJ a (j+1)=jO z L nm cJ a j++jt z L nm cJ (a+j) from rfl,aq1] at this;omega
  refine bu [] (ac.sub (K':=(15,ab (((a+j)/2 ^z:Nat):Int))::(16,ab (((a+j) % 2 ^z*16:Nat):Int))::SJ nm a l j) (B':=SK z R L (jO z L nm cJ a j)) ⟨afJ,Au,rfl,rfl,rfl,rfl,rfl,rfl,trivial⟩ aC) <| av afI ⟨Lt,Lu,Ly,rfl,?_⟩;have afK:c1 (((a+j:Nat):Int)+1):=az2
  exact⟨afK,j+1,ay4,ay4,ac.trans (cM (afF nm a l (j+1)) (afG z R L (jO z L nm cJ a (j+1)))) (ac.aV 70 5002 rfl)⟩
 .have h: ¬((a+j:Nat):Int) < (a:Int)+(l:Int):=mu h;have sb:j=l:=az2
  subst sb;exact⟨_,_,_,ac.aV 5002 2001 rfl,rfl,aC,aC,rfl⟩
theorem afL (z R:Nat) (L:List aL) (d7:nt z R L) (nm:aC3) (bN:aL) (au:dk L nm=some bN) (cJ:Nat) (ie:ed L nm cJ) (mX:cJ<=100) (a l:Nat) (eb:d3 bN.im a l=0):
  Fn Tryz.prog 45 [aq 1001,bT nm,ab (a:Int),ab (l:Int)] (bO z R L) [] (.ci [.one (.d (.co .u8 (jO z L nm cJ a l))),dz 0]) (bO z R L):=
 Fn.aeF (d:=2001) (afH z R L d7 nm bN au cJ ie mX a l eb) rfl rfl rfl
theorem afM (z R:Int) (L:List aL) (nm:aC3) (au:dk L nm=none) (a l:Int):
  Fn Tryz.prog 45 [aq 1001,bT nm,ab a,ab l] (bO z R L) [] (.ci [.one .dK,dz 140]) (bO z R L):=by
 have hx:(bY (aI:=.str) (aK:=.aM) (c6 L) nm).getD (cO .aM)=none:=aB6
 refine aU [] Tryz.func45 ?_;exact⟨fun d5 O=>absurd (show(bY (aI:=.str) (aK:=.aM) (c6 L) nm).getD (cO .aM)=some d5 from O) aA3,fun _=>bg⟩
theorem afN (z R:Nat) (L:List aL) (d7:nt z R L) (nm:aC3) (bN:aL) (au:dk L nm=some bN) (a l:Int) (eb:d3 bN.im a l≠0):
  Fn Tryz.prog 45 [aq 1001,bT nm,ab a,ab l] (bO z R L) [] (.ci [.one .dK,dz (d3 bN.im a l)]) (bO z R L):=by
 obtain⟨o8,gj,gk⟩:=ku yd;have H:=(cR au).1;obtain⟨fq,gP,mW⟩:=d7.gl bN H;have lS:=d7.toiP.D H;have fy:=d7.toiP.M H;have hx:(bY (aI:=.str) (aK:=.aM) (c6 L) nm).getD (cO .aM)=some bN.ad:=aB6
 refine aU [] Tryz.func45 ?_;refine⟨fun d5 O=>⟨_,_,fun N=>i' (b:=bN.ad) rfl aB1 N,rfl,?_⟩,fun O=>absurd (show(bY (aI:=.str) (aK:=.aM) (c6 L) nm).getD (cO .aM)=none from O) aA3⟩;refine⟨_,_,fun N=>jq rfl Tryz.underlying122 rfl rfl gj az6 rfl N,rfl,?_⟩;refine⟨_,_,fun N=>lq (q:=1003) rfl Tryz.underlying112 rfl rfl rfl lS rfl N,rfl,?_⟩;refine av (h5 (aeX bN.im fq a l eb) fy rfl rfl rfl rfl) ?_;exact⟨fun _=>bg,fun h=>absurd (show d3 bN.im a l=0 by have h:(!decide (d3 bN.im a l=0))=false:=h;simpa using h) eb⟩
end
section
open Go.RowKit Go.Proofs Go.Maps Go.Shelf Go.MapKept Tryz
open Go.WideElems (Fit rd rg pl rd_val rd_key rg_of)
def afO {aK:bz} (p:Z .str×Z aK):aC3:=p.1
def mf {aK:bz} (es:List (Z .str×Z aK)):List aC3:=es.map afO
def oh {aK:bz} (es:List (Z .str×Z aK)):List aC3:=(mf es).mergeSort leB
abbrev pP:Value->Option (DataW Unit×List MemPlace):=fun _=>some (.nil,[])
theorem SL {I:Nat->Prop} {w:World} {aK:bz}: ∀{l:List (Z .str×Z aK)} {es:List MapEntry},ir I w .str aK l es->es.map (·.key)=(mf l).map encStr
 | [],_,h=>by rw[show _=[] from h];rfl
 |p::l,_,⟨e,r,h,E,_,af⟩=>by
  rw[h,ar4,SL af,E];rfl
theorem afP {P:Program} {k:TypeId} (aa:P.underlying k=some .string) (s:aC3) (h:s.length<=maxLen):keyOf P k (encStr s)=some (.string s):=by
 simp only[keyOf,aa,encStr,mapKey,ByteArray.size,List.size_toArray];rw[if_pos h]
theorem SM: ∀{l m:List aC3},l.map encStr=m.map encStr->l=m
 | [],[],_=>rfl
 | [],_::_,h=>by simp at h
 |_::_,[],h=>by simp at h
 |x::l,y::m,h=>by
  simp only[ar4,List.cons.injEq] at h;rw[encStr_inj h.1,SM h.2]
theorem SN {P:Program} {k:TypeId} (aa:P.underlying k=some .string) {I:Nat->Prop} {w:World} {aK:bz} {es:List (Z .str×Z aK)} {bR:List MapEntry} {bS b:Nat} (O:w.heap[b]? =some (.map (List.toArray bR) bS))
  (aA:ir I w .str aK es bR) (c5:l4 bR bS) (hn:(mf es).Nodup) (ak: ∀s∈mf es,s.length<=maxLen) (aw:es.length<=maxLen):
  ∃ju,w.ownsMap P k pP b es.length ju/\Maps.size ju=es.length/\(strKeys ju).Perm (mf es):=by
 have bV:=BB aA;have yg:=SL aA
 have C7: ∀x∈bR,∃s:aC3,x.key=encStr s/\s.length<=maxLen/\rg P k pP x=(.string s,.nil)/\ ∃y,rd P k pP x=some y:=by
  intro x hx;have:x.key∈(mf es).map encStr:=by rw[<-yg];exact ar8 hx
  obtain⟨s,ai,U⟩:=as9.1 this;have Lz:keyOf P k x.key=some (.string s):=U▸afP aa _ (ak s ai);have og:rd P k pP x=some (.string s,.nil):=by simp[rd,Lz]
  exact⟨s,U.symm,ak s ai,rg_of og,_,og⟩
 have o9:=Go.WideShapes.sorted_perm (bR.map (rg P k pP))
 have ie:(bR.map (rg P k pP)).map (fun p=>strOf p.1)=mf es:=by
  refine SM ?_;rw[<-yg,at7,at7];refine as2 fun x hx=>?_
  obtain⟨s,ae,_,ao,_⟩:=C7 x hx;simp[ao,ae,strOf]
 refine⟨.map ((bR.map (rg P k pP)).foldr DataW.insert []),⟨List.toArray bR,bS,O,⟨by simp[bV];exact aw,(stamped_iff _ _).2 ⟨c5.2,c5.1.imp fun h=>by omega,?_⟩,fun x hx=>(C7 x hx).choose_spec.2.2.2⟩,by simp[bV],rfl⟩,?_,?_⟩
 .have E:(bR.map (·.key)).Pairwise (· ≠ ·):=by
   rw[yg];exact List.pairwise_map.2 (hn.imp fun a7 e=>a7 (encStr_inj e))
  exact List.pairwise_map.1 E
 .show List.length _=_;rw[o9.length_eq,ar1,bV]
 .show(List.map (fun p=>strOf (Prod.fst p)) _).Perm _;rw[<-ie];exact o9.map _
theorem afQ (es:List (Z .str×Z .aM)):Fn Tryz.prog 207 [.c (.one (.mp 1001))] [(1001,.map .str .aM es)] [2001] (.c (.one (.cY 231 [.p 2001 0]))) [(2001,.cells [.mp 1001]),(1001,.map .str .aM es)]:=by
 refine aU [] Tryz.func207 ?_;exact⟨rfl,_,_,_,ac.aV 1 2001 rfl,rfl,rfl,aC,rfl⟩
theorem fC.SO {I D:Nat->Prop} {w:World} {v:Value} {l:List aC3} (h:fC D w 1 v l.length (l.map encStr)) (cf: ∀b,b < w.heap.size->D b->I b):cu I w (.b' .str) l (fun _=>some v):=by
 obtain⟨_,A,c,au,E,G,af⟩:=h;refine⟨A,c,congrArg some au,E,G,fun ai=>?_⟩;obtain⟨b,o,eQ,O,bt,hx⟩:=af ai;refine⟨b,o,eQ,cf b bt O,fun i x aF=>?_⟩;have:=hx i (encStr x) (by rw[as0,show l[i]? =some x from aF];rfl);simpa[cu,aQ,encStr] using this
theorem SP (m:Nat):AnyZ.SortsIn Tryz.prog RE Fence.wide m:=
 ⟨fun bk off cap hc W cZ jh cC=>callsIn_wide.2 (AnyM.slices_Sort_string RG bk off cap hc W cZ jh cC),
  fun p cap W=>callsIn_wide.2 (AnyM.slices_Sort_string_none RG p cap W)⟩
theorem afR (es:List (Z .str×Z .aM)) (hn:(mf es).Nodup) (ak: ∀s∈mf es,s.length<=maxLen) (aw:es.length<=4294967296):
  Fn Tryz.prog 50 [.c (.one (.cY 231 [.p 2001 0]))] [(2001,.cells [.mp 1001]),(1001,.map .str .aM es)] [] (bQ .str (oh es)) [(2001,.cells [.mp 1001]),(1001,.map .str .aM es)]:=by
 refine⟨ay7,fun ρ F I w bU a8 cZ bh eE bV dy=>?_⟩
 match bU,bV with
 | [v],_=>
  obtain⟨aE,ay,fZ,r,hD,kO,ax⟩:=dy 0 _ v rfl rfl;have ax:r=[]:=ax;have kO:fZ= .pointer (some ⟨(ρ 2001).bk,0,none⟩):=kO;subst ax kO hD ay;obtain⟨_,aE,T,gX,hD⟩:=cZ 2001 _ rfl;obtain⟨x,r,hD,hx,ax⟩:=hD;have ax:r=[]:=ax;have hx:x= .map (some (ρ 1001).bk):=hx;subst ax hx hD;obtain⟨_,bR,bS,hm,aA,c5⟩:=cZ 1001 _ rfl;have GF:(4294967296:Nat)<=maxLen:=by decide
  obtain⟨ju,dw,cC,o9⟩:=SN (P:=Tryz.prog) (k:=9) ay7 hm aA c5 hn ak ay4;have bt:(ρ 2001).bk < w.heap.size:=l3 gX
  have u4:SeqGives Fence.wide 2 Tryz.prog 231 #[.pointer (some ⟨(ρ 2001).bk,0,none⟩)] encStr (fun hc=>hc.Perm (strKeys ju)) (Maps.size ju) w:=
   AnyZ.keys_gives (ρ:=RD) {ads with} Fence.wide _ trivial rfl ay4 (ρ 2001).bk (ρ 1001).bk es.length ju w bt (oS gX rfl) dw
  have J:=AnyZ.sorted_in RF Fence.wide 5 trivial trivial trivial trivial rfl ay4 (SP _) (enters_of Tryz.func94 ay7 rfl) 231 #[.pointer (some ⟨(ρ 2001).bk,0,none⟩)] trivial (enters_of Tryz.func231 ay7 rfl) _ _ aB0 aB0 _ u4;refine(callsIn_wide.1 J).mono ?_;rintro e w' ⟨v,hc,rfl,ar,fK,yh,gF⟩;have a1:cm I w (fun b=>b < w'.heap.size/\(I b\/w.heap.size<=b)) w':=fun b fN=>⟨⟨ar6 (a8 b fN) gF.size,.inl fN⟩,gF.block b (a8 b fN)⟩
  refine⟨v,ρ,F,rfl,cS.pq gF,fun _ _=>rfl,_,a1,fun b h=>⟨h.1,h.2.imp id .inr⟩,fun c ch J=>Holds.cp a1 (fun b O=>gF.block b (bh c ch J b O).1) gF.size ch (fun _ _=>rfl) (cZ c ch J),fun c ch J b O=>?_,fun c b9 ch ch' b E G=>eE c b9 ch ch' b E G,?_⟩
  .have:=bh c ch J b O;exact⟨ar6 this.1 gF.size,fun h=>(by rcases h.2 with h |h;exact this.2 h;omega),.inl ⟨c,ch,J,O⟩⟩
  .have aa:hc.mergeSort (fun x y=>decide (x<=y))=oh es:=Go.mergeSort_of_perm (ar.trans o9);rw[aa] at fK;have hB:=fC.ps fK;have wH:hc.length=(oh es).length:=by rw[<-aa,List.length_mergeSort]
   rw[wH] at hB;exact(hB.za fun i _ aF=>(fK.lt i aF).1).SO fun b E G=>⟨E,.inr G⟩
theorem C8 (L:List aL):mf (c6 L)=L.map (·.nm):=by
 unfold mf c6;rw[at7];rfl
def mg (L:List aL):List aC3:=oh (c6 L)
theorem afS {L:List aL} {n:aC3} (h:n∈mg L): ∃d,dk L n=some d:=by
 unfold mg oh at h;rw[List.mem_mergeSort,C8] at h;obtain⟨d,H,e⟩:=as9.1 h
 cases ao:dk L n with
 |some d=>exact⟨d,rfl⟩
 |none=>
  unfold dk at ao;have:=List.find?_eq_none.1 ao d H;simp[e] at this
theorem SQ (L:List aL):(mg L).length=L.length:=by
 unfold mg oh;rw[List.length_mergeSort,C8,ar1]
theorem SR (z R:Int) (L:List aL) (fa:iP L) (ak: ∀d,d∈L->d.nm.length<=100000) (oi:L.length<=100):Fn Tryz.prog 166 [aq 1001] (bO z R L) [] (bQ .str (mg L)) (bO z R L):=by
 have aa:(mf (c6 L)).Nodup:=by rw[C8];exact fa.jd
 have aA: ∀s∈mf (c6 L),s.length<=maxLen:=fun s aw=>by
  rw[C8] at aw;obtain⟨d,H,rfl⟩:=as9.1 aw;exact aw2 (ak d H) ay5
 have aw:(c6 L).length<=4294967296:=by unfold c6;rw[ar1];omega
 refine aU [] Tryz.func166 ?_;exact av (Fn.aV [(1001,1002),(2001,5001)] (afQ (c6 L))) <| av (Fn.aV [(1001,1002),(2001,5001)] (afR (c6 L) aa aA aw)) bg
def mh (L:List aL) (nm n:aC3):Bool:= !decide (nm=[])&&decide (((dk L n).map (·.back)).getD []=nm)
def rJ (L:List aL) (nm:aC3):List aC3:=(mg L).filter (mh L nm)
abbrev LA (nm:aC3) (l:List aC3) (j:Nat):aY:=[(0,aq 1001),(1,bT nm),(5,eM 5002),(9,bQ .str l),(10,ab (l.length:Nat)),(11,ab (j:Nat))]
abbrev afT (nm:aC3) (l:List aC3) (j:Nat):aY:=[(0,aq 1001),(1,bT nm),(5,eM 33),(9,bQ .str l),(10,ab (l.length:Nat)),(11,ab (j:Nat))]
abbrev LB (z R:Int) (L:List aL) (x:List aC3):az:=bO z R L++[(5002,.row 9 .str x)]
abbrev afU (z R:Int) (L:List aL) (x:List aC3):az:=bO z R L++[(33,.row 9 .str x)]
theorem afV (z R:Int) (L:List aL) (fa:iP L) (ak: ∀d,d∈L->d.nm.length<=100000) (oi:L.length<=100) (nm:aC3):Fn Tryz.prog 115 [aq 1001,bT nm] (bO z R L) [] (bQ .str (rJ L nm)) (bO z R L):=by
 obtain⟨o8,gj,gk⟩:=ku Gz;have lm:=@afS L;have bV:=SQ L;have z7:=SR z R L fa ak oi;unfold rJ;generalize mg L=l at*;refine aU [5,6,8] Tryz.func115 ?_;refine av z7 <| d2 [5,6,8] (X:=Nat) (LA nm l) (fun j=>LB z R L ((l.take j).filter (mh L nm))) (fun j=>j<=l.length) (fun j=>l.length - j) 0 (aq8 _) ?_ ?_
 .exact(ac.nil 5 5002 9 .str rfl rfl).trans (ac.sub aC aC)
 intro j V;refine⟨fun h=>?_,fun h=>?_⟩
 .have h:decide ((j:Int) < (l.length:Nat))=true:=h;have ft:j < l.length:=az3
  obtain⟨d,H⟩:=lm (as3 ft);have lS:=fa.D (cR H).1;have hx:(bY (aI:=.str) (aK:=.aM) (c6 L) l[j]).getD (cO .aM)=some d.ad:=by rw[j8,H];rfl
  have a6:mh L nm l[j]=(!decide (nm=[])&&decide (d.back=nm)):=by unfold mh;rw[H];rfl
  have ye:(l.take (j+1)).filter (mh L nm)=(l.take j).filter (mh L nm)++(if mh L nm l[j]=true then[l[j]] else[]):=by
   rw[at5 ft,List.filter_append]
   congr 1
   by_cases e:mh L nm l[j]=true
   .rw[if_pos e,List.filter_cons_of_pos e];rfl
   .rw[if_neg e,List.filter_cons_of_neg e];rfl
  have LC:((l.take j).filter (mh L nm)).length<=j:=aw2 (List.length_filter_le _ _) aA2;have m3:(0:Int)<=(j:Int):=az2
  have rH:c1 ((j:Int)+1):=az2
  have eI:mh L nm l[j]=false->(l.take (j+1)).filter (mh L nm)=(l.take j).filter (mh L nm):=fun e=>by rw[ye,if_neg (by rw[e];decide),at6]
  refine⟨m3,l[j],jJ (n:=j) ft,?_⟩;generalize l[j]=n at*;refine bu [6,8] (cM ((7,bT n)::LA nm l j) (LB z R L ((l.take j).filter (mh L nm)))) ⟨fun E=>?_,fun E=>?_⟩
  .have E: ¬nm=[]:=by
    have E:(!decide (nm=[]))=true:=E;simpa using E
   refine⟨_,_,fun N=>i' (b:=d.ad) rfl aB1 N,rfl,?_⟩;refine⟨_,_,fun N=>jq rfl Tryz.underlying122 rfl rfl gj az6 rfl N,rfl,?_⟩;refine⟨_,_,fun N=>lq (q:=1003) rfl Tryz.underlying9 rfl rfl rfl lS rfl N,rfl,?_⟩;refine⟨fun G=>?_,fun G=>?_⟩
   .have G:d.back=nm:=gd G;have E8:mh L nm n=true:=by rw[a6,at0 E,ar0 G];rfl
    rw[if_pos E8] at ye;have Ly:((l.take j).filter (mh L nm)).length+1<=4294967296:=az2
    exact bu [] (cM ((7,bT n)::LA nm l j) (LB z R L ((l.take j).filter (mh L nm)))) ⟨Ly,rfl,rH,j+1,ft,ay4,ac.trans (ac.sub (K':=afT nm l (j+1)) (B':=afU z R L ((l.take (j+1)).filter (mh L nm))) aC ⟨rfl,rfl,rfl,rfl,congrArg (fun l:List aC3=>some (ba.row 9 .str l)) ye.symm,trivial⟩) (ac.aV 33 5002 rfl)⟩
   .have G: ¬d.back=nm:=mu G;have aa:=eI (by rw[a6,at0 G,Bool.and_false]);exact⟨rH,j+1,ft,ay4,ac.sub aC ⟨rfl,rfl,rfl,rfl,congrArg (fun l:List aC3=>some (ba.row 9 .str l)) aa.symm,trivial⟩⟩
  .have E:nm=[]:=by
    have E:(!decide (nm=[]))=false:=E;simpa using E
   have aa:=eI (by rw[a6,ar0 E];rfl);exact⟨rH,j+1,ft,ay4,ac.sub aC ⟨rfl,rfl,rfl,rfl,congrArg (fun l:List aC3=>some (ba.row 9 .str l)) aa.symm,trivial⟩⟩
 .have h:decide ((j:Int) < (l.length:Nat))=false:=h;have ft:j=l.length:=aB5
  subst ft;have cq:(l.take l.length).filter (mh L nm)=l.filter (mh L nm):=by rw[ar9]
  exact bu [] (br) ⟨_,_,_,ac.d0 5002 rfl,rfl,cq,aC,rfl⟩
theorem tR (d:aL) (L:List aL) (nm:aC3):dk (d::L) nm=if d.nm=nm then some d else dk L nm:=by
 unfold dk;rw[List.find?_cons]
 by_cases e:d.nm=nm
 .rw[ar0 e,if_pos e]
 .rw[at0 e,if_neg e]
end
section
theorem afW:(Tryz.prog.info? 5).map (fun i=>(i.zero,i.size,i.bytes))=some (some (.int .u8 0),1,1):=by kernel_rfl
theorem afX:(Tryz.prog.info? 5).map (·.size)=some 1:=by kernel_rfl
theorem afY (v:Value) (l:aC3) (D:Nat->Prop) (w:World) (ay:qa D w v l) (aw:l.length<=4294967296):
  Calls Tryz.prog 169 #[v] w fun e w'=> ∃df,e= .returned df/\qa (fun i=>w.heap.size<=i) w' df l/\Below w.heap.size w w':=by
 obtain⟨A,c,rfl,dL,dS⟩:=ay.form;have SS:=Lib.hid ay;clear ay;generalize hn:l.length=n at*;have ST:=Lib.hid hn;clear hn;rcases A with _ |ad
 .have yh:=Lib.run_eql_slice_nil (P:=Tryz.prog)
  have au:l=[]:=by
   obtain⟨ak,A',b9,U,_,_,af⟩:=SS.out;rcases Nat.eq_zero_or_pos l.length with h |h
   .exact at9 h
   .obtain⟨b,o,ha,_⟩:=af h;subst ha;cases U
  have afZ:=Lib.hid au;clear au
  go_enter Tryz.func169,Tryz.ntmps169
  go_wp2_with fail
  go_ret
  refine⟨_,rfl,?_,Below.refl _ _⟩;rw[afZ.out];exact fC.nil _ _ _
 .have yh:=Lib.run_eql_slice_nil (P:=Tryz.prog)
  go_enter Tryz.func169,Tryz.ntmps169
  clear dS dL
  go_wp2_with (at_builtin;refine O4 _ rfl (.tmp 5) (.tmp 6) _ rfl w.heap.size 5 _ 1 1 Tryz.underlying31 afW rfl ay4 (.slice (some ⟨w.heap.size,0,none⟩) 0 0) 0 [] rfl ?cI D (.slice (some ad) n c) n (l.map hj) rfl ?cE (IF l) ?hN ?tS ?C9 ?_)
  case cI=>exact⟨ay6,.inr ⟨w.heap.size,0,#[],rfl,aq0 _,heap_alloc_new w _,aq0 _,ay5,rfl,rfl⟩⟩
  case cE=>
   have h:=SS.out;unfold qa at h;rw[ST.out] at h;exact h.mono (ta.pq ((Below.refl _ _).alloc (aq0 _) _)) ay6 (fun _ _ h=>h)
  case hN=>simp only[maxLen];omega
  case tS=>omega
  case C9=>simp
  intro df dX dw rK jN
  go_wp2
  go_ret
  refine⟨df,rfl,?_,?_⟩
  .unfold qa;rw[ST.out];have h:=fC.ps dw;exact h.za fun i _ aF=>(dw.lt i aF).1
  .exact((Below.refl _ _).alloc (aq0 _) _).grown rK ay6 (fun k aa=>by simp[Value.ownBlock] at aa;omega)
end
section
def qA (c:UInt8):Bool:=(97<=c.toNat&&c.toNat<=122)||(48<=c.toNat&&c.toNat<=57)||c.toNat == 46||c.toNat == 45
def yi (s:ByteArray):Bool:=decide (1<=s.size)&&decide (s.size<=15)&&s.data.toList.all qA
theorem af0 (s:ByteArray) (pos:Nat) (h:pos < s.size) (ha: ¬(s[pos]'h).toNat < 128):128<=(Utf8.decode s pos).1/\(Utf8.decode s pos).1<=1114111:=by
 have e:s.get! (pos+0)=s[pos]'h:=by
  show s.get! pos=_;simp[ByteArray.get!,getElem!_pos,h];rfl
 have O:(s[pos]'h).toNat < 256:=(s[pos]'h).toNat_lt;unfold Utf8.decode;simp only[e];rw[if_neg ay4]
 split
 .split <;>simp[Utf8.runeError] <;>omega
 .split
  .split
   .rename_i G;simp[Utf8.valid] at G;simp only;omega
   .simp[Utf8.runeError]
  .split
   .split
    .rename_i G;simp[Utf8.valid] at G;simp only;omega
    .simp[Utf8.runeError]
   .simp[Utf8.runeError]
theorem af1 {P:Program} (w:World) (s:ByteArray) (pos:Nat) (ty:TypeId) (h:pos < s.size):
  (Instr.next (.pointer (some ⟨w.heap.size,0,none⟩)) true ty).run P (w.iter s pos)=
   .ok (.tuple #[.bool true,.int .i64 pos,.int .i32 (Utf8.decode s pos).1]) (w.iter s (pos+(Utf8.decode s pos).2)):=by
 simp only[Instr.next,getObj,setObj,Sem.run_bind,Sem.run,World.iter_heap,Result.andThen,h,if_true];simp[goInt,World.iter_set]
theorem SU {s:ByteArray} {j:Nat} (V:j < s.size) (h:qA (s[j]'V)=false):yi s=false:=by
 unfold yi
 have:s.data.toList.all qA=false:=by
  rw[List.all_eq_false];exact⟨s[j]'V,as3 aA5,by simp[h]⟩
 rw[this,Bool.and_false]
def LD (B:Nat) (w:World):Nat:=match w.heap[B]? with |some (.stringIter _ p)=>p |_=>0
theorem SV (w:World) (s:ByteArray) (k:Nat):LD w.heap.size (w.iter s k)=k:=by simp[LD,World.iter_heap]
theorem LE (w:World) (s:ByteArray) (k:Nat):Below w.heap.size w (w.iter s k):=(Below.refl _ _).alloc (aq0 _) _
theorem af2 {s:ByteArray} {k:Nat} (h: ∀j (V:j < s.size),j < k->qA (s[j]'V)=true) (aa:k < s.size) (E:qA (s[k]'aa)=true): ∀j (V:j < s.size),j < k+1->qA (s[j]'V)=true:=by
 intro j V bt
 by_cases e:j=k
 .subst e;exact E
 .exact h j V ay4
theorem af3 {s:ByteArray} (h: ∀j (V:j < s.size),qA (s[j]'V)=true):yi s=(decide (1<=s.size)&&decide (s.size<=15)):=by
 unfold yi
 have:s.data.toList.all qA=true:=by
  rw[as4];intro x hx;obtain⟨j,V,rfl⟩:=aw0 hx;exact h j aA5
 rw[this,Bool.and_true]
theorem af4 (s:ByteArray) (w:World) (aw:s.size<=maxLen):
  Calls Tryz.prog 58 #[.string s] w fun e w'=>e= .returned (.bool (yi s))/\Below w.heap.size w w':=by
 unfold maxLen at aw
 go_enter Tryz.func58,Tryz.ntmps58
 go_wp2
 go_loopw [4,7,8,9,10,11,12,13,14,15,16,17,18,19,20,21,22,23,24,25,26,27,28,29,30,31] (fun _ _ _ _ _ _ _ _ _ _ _ _ _ _ _ _ _ _ _ _ _ _ _ _ _ _ wr=> ∃k:Nat,k<=s.size/\wr=w.iter s k/\ ∀j (V:j < s.size),j < k->qA (s[j]'V)=true) (fun _ _ _ _ _ _ _ _ _ _ _ _ _ _ _ _ _ _ _ _ _ _ _ _ _ _ wr=>s.size - LD w.heap.size wr)
 case atStart=>exact⟨0,aq8 _,rfl,fun _ _ h=>absurd h ay4⟩
 case round=>
  obtain⟨k,aa,rfl,dB⟩:=hrel;have LF:=Lib.hid dB;clear dB
  by_cases bt:k < s.size
  .by_cases ha:(s[k]'bt).toNat < 128
   .have hn:=fun ty=>run_next_ascii (P:=Tryz.prog) w s k ty bt ha
    go_wp2
    all_goals first
     |(
      refine⟨⟨k+1,bt,rfl,af2 LF.out bt ?_⟩,?_⟩
      .clear hn;simp_all [qA];omega
      .rw[SV,SV];omega)
     |(
      go_ret
      refine⟨?_,LE _ _ _⟩;rw[SU bt (by clear hn;simp_all [qA];omega)];rfl)
   .obtain⟨hJ,jj⟩:=af0 s k bt ha;have hn:=fun ty=>af1 (P:=Tryz.prog) w s k ty bt
    generalize Utf8.decode s k=d at*;have b1:(((d.1:Nat):Int) != 46)=true:=by rw[bne_iff_ne];omega
    have b2:(((d.1:Nat):Int) != 45)=true:=by rw[bne_iff_ne];omega
    go_wp2
    go_ret
    exact⟨by rw[SU bt (by clear hn;simp[qA];omega)];rfl,LE _ _ _⟩
  .have hn:=fun ty=>run_next_end (P:=Tryz.prog) w s k ty bt
   have eD:k=s.size:=az2
   have ax:yi s=(decide (1<=s.size)&&decide (s.size<=15)):=af3 fun j V=>LF.out j V ay4
   clear eD LF;have af5:=Lib.hid ax;clear ax
   go_wp2
   all_goals
    go_ret
    refine⟨?_,LE _ _ _⟩;rw[af5.out];refine congrArg (fun b=>Ending.returned (.bool b)) ?_;rw[Bool.eq_iff_iff];simp;omega
end
section
theorem Fn.pure {P:Program} {f:FuncId} {args:List aP} {res:aP} (fT:jA P f=true)
  (h: ∀(ρ:Nat->bn) (I:Nat->Prop) (w:World) (bU:List Value),(∀b,I b->b < w.heap.size)->bU.length=args.length->(∀(i:Nat) (v:aP) (x:Value),args[i]? =some v->bU[i]? =some x->cw ρ I w v x)->
   Calls P f bU.toArray w fun e w'=> ∃x,e= .returned x/\Below w.heap.size w w'/\ ∀I':Nat->Prop,cm I w I' w'->(∀b,w.heap.size<=b->b < w'.heap.size->I' b)->cw ρ I' w' res x):Fn P f args [] [] res []:=by
 refine⟨fT,?_⟩;intro ρ F I w bU a8 _ _ _ bV dy;refine(h ρ I w bU a8 bV dy).mono ?_;rintro e w' ⟨x,rfl,O,hx⟩;have a1:cm I w (fun b=>b < w'.heap.size/\(I b\/w.heap.size<=b)) w':=fun b fN=>⟨⟨ar6 (a8 b fN) O.size,.inl fN⟩,O.block b (a8 b fN)⟩
 exact⟨x,ρ,F,rfl,cS.pq O,fun _ _=>rfl,_,a1,fun b h=>⟨h.1,h.2.imp id .inr⟩,fun c ch J=>(by simp[ag] at J),fun c ch J=>(by simp[ag] at J),fun c b9 ch ch' b J=>(by simp[ag] at J),hx _ a1 fun b E G=>⟨G,.inr E⟩⟩
theorem SW {P:Program} {f:FuncId} {s:aP} {res:aP} (fT:jA P f=true)
  (h: ∀(ρ:Nat->bn) (I:Nat->Prop) (w:World) (v:Value),(∀b,I b->b < w.heap.size)->cw ρ I w s v->
   Calls P f #[v] w fun e w'=> ∃x,e= .returned x/\Below w.heap.size w w'/\ ∀I':Nat->Prop,cm I w I' w'->(∀b,w.heap.size<=b->b < w'.heap.size->I' b)->cw ρ I' w' res x):Fn P f [s] [] [] res []:=
 Fn.pure fT fun ρ I w bU a8 ak H=>by
  match bU,ak with
  | [v],_=>exact h ρ I w v a8 (H 0 s v rfl rfl)
theorem cu.bytes {I:Nat->Prop} {w:World} {v:Value} {l:aC3} (a8: ∀b,I b->b < w.heap.size) (h:cu I w (.b' .u8) l (fun _=>some v)):qa I w v l:=by
 obtain⟨A,cap,au,E,G,af⟩:=h;injection au with au
 refine⟨ay6,A,cap,au,E,G,fun ai=>?_⟩;obtain⟨b,o,eQ,O,hx⟩:=af ai;refine⟨b,o,eQ,O,a8 b O,fun j u a6=>?_⟩;rw[as0] at a6;obtain⟨x,BW,rfl⟩:=at3.1 a6;have:=hx j x BW;simpa[cu,aQ,hj] using this
theorem qa.af6 {I D:Nat->Prop} {w:World} {v:Value} {l:aC3} (h:qa D w v l) (cf: ∀b,b < w.heap.size->D b->I b):cu I w (.b' .u8) l (fun _=>some v):=by
 obtain⟨_,A,cap,au,E,G,af⟩:=h;refine⟨A,cap,congrArg some au,E,G,fun ai=>?_⟩;obtain⟨b,o,eQ,O,bt,hx⟩:=af ai;refine⟨b,o,eQ,cf b bt O,fun i x aF=>?_⟩;have:=hx i (hj x) (by rw[as0,show l[i]? =some x from aF];rfl);simpa[cu,aQ,hj] using this
def gY (s:aC3):Bool:=decide (1<=s.length)&&decide (s.length<=15)&&s.all qA
theorem qB (s:aC3) (aw:s.length<=4294967296):Fn Tryz.prog 58 [bT s] [] [] (fI (gY s)) []:=
 SW ay7 fun ρ I w v a8 ay=>by
  rw[show v= .string ⟨s.toArray⟩ from ay];refine(af4 ⟨s.toArray⟩ w (by simp only[ByteArray.size,maxLen,List.size_toArray];omega)).mono ?_;rintro e w' ⟨rfl,O⟩;exact⟨_,rfl,O,fun I' _ _=>show Value.bool _=Value.bool _ by simp[yi,gY,ByteArray.size]⟩
theorem LG (l:aC3) (aw:l.length<=4294967296):Fn Tryz.prog 169 [bQ .u8 l] [] [] (bQ .u8 l) []:=
 SW ay7 fun ρ I w v a8 ay=>by
  refine(afY v l I w (cu.bytes a8 ay) aw).mono ?_;rintro e w' ⟨x,rfl,hx,O⟩;exact⟨x,rfl,O,fun I' _ hn=>hx.af6 fun b E G=>hn b G E⟩
end
section
theorem fM.Av {I:Nat->Prop} {w:World} {L L':List (Nat×bc)} (h:L.Perm L'): ∀{F:Nat->Prop},fM I w L F->fM I w L' F:=by
 induction h with
 |nil=>exact fun h=>h
 |cons x h bq=>
  rintro F ⟨cG,cN,p,E,G,af,aW,bG⟩;exact⟨cG,cN,p,E,G,af,aW,bq bG⟩
 |swap x y l=>
  rintro F ⟨cG,cN,p,E,G,af,aW,rn,tA,r,g1,g2,cX,jD,Cp⟩;refine⟨rn,fun aB=>cG aB\/tA aB,r,fun aB=>by rw[E,g1];exact KE,fun aB aN aD=>?_,cX,jD,cG,tA,p,fun aB=>Iff.rfl,fun aB aN aD=>G aB aN ((g1 aB).2 (.inr aD)),af,aW,Cp⟩;rcases aD with aD |aD
  .exact G aB aD ((g1 aB).2 (.inl aN))
  .exact g2 aB aN aD
 |trans _ _ oL oM=>exact fun h=>oM (oL h)
theorem ac.Av {ids:aC4} {K:aY} {B:az} (q:Nat) {L L':List (Nat×bc)} (ai:L.Perm L') (aT:ag B q=some (.aG (.bx L))):ac ids K B K ((q,.aG (.bx L'))::B):=by
 rintro N C a w ⟨hn,H,ρ,F,aj,ar⟩;obtain⟨bI,a1⟩:=aj.hI (w':=w) (ch:=.aG (.bx L')) aT (cS.refl _ _) fun I a8=>((aj.holds q _ aT:fM _ w L (F q)).Av ai).cp a8 (aq0 _) fun _ _=>rfl
 exact⟨hn,H,ρ,F,bI,ar.mono a1 fun _ _ _=>rfl⟩
theorem af7 {s:bE}:(jb s).o3:=by
 rintro I F w p ⟨ρ,ce,E,G,af,aW⟩;obtain⟨bh,_⟩:=G 1001 _ rfl;exact(aW _).2 ⟨1001,_,rfl,(bh _).2 (by rw[E])⟩
def LH (L:List aL):Prop:= ∀d,d∈L->d.cP=none
theorem af8 {d:aL} (h:d.cP=none):kN d=jb d.im:=by unfold kN;rw[h]
theorem af9 (L:List aL) (cL:LH L): ∀p∈ig L,p.2.o3:=fun p ai=>by
 obtain⟨d,H,rfl⟩:=as9.1 ai;show(kN d).o3;rw[af8 (cL d H)];exact af7
theorem af' (L:List aL): ∀p∈md L,p.2.o3:=fun p ai=>by
 obtain⟨d,_,rfl⟩:=as9.1 ai;exact fun I F w p h=>(h.1 _).2 rfl
theorem C' (z size R:Nat) (E:z<=3) (G:size<=256) (af:R<=512):Fn Tryz.prog 57 [ab (z:Int),ab (size:Int),ab (R:Int)] [] [1001] (.ci [.one (.ptr 1001 0),dz 0]) [(1001,.aG (jb (gi z size R)))]:=by
 refine aU [3] Tryz.func57 ?_;refine av (Fn.aV [(1001,1002),(1002,2002)] (K3 size G)) <| av (Fn.aV [(1001,1003),(1002,2003)] (Gh (R:Int) ay4 ay4)) <| bu [] (cM [(0,ab (z:Int)),(8,aq 1002),(9,ab 0),(10,aq 1003),(11,ab 0)] [(1002,.aG (rz (List.replicate size ck))),(1003,.aG (rA (List.replicate R (0:Int))))]) <| dt <| dt ⟨fun h=>?_,fun h=>?_⟩
 .exfalso;have h:(z:Int) < 0:=gd h;omega
 refine⟨fun h=>?_,fun h=>?_⟩
 .exfalso;have h:(3:Int) < (z:Int):=gd h;omega
 exact⟨rfl,rfl,_,_,_,ac.trans (ac.trans (ac.aV 41 1001 rfl) (ac.trans (ac.aV 39 1004 rfl) (ac.Ru 1004 rfl))) (ac.close 1001 (dD (gi z size R)) aC rfl fun _ _ _ _ h=>h),rfl,aC,aC,rfl⟩
abbrev Aw (nm:aC3) (x:Z .aM):Z .str×Z .aM:=((nm:Z .str),x)
theorem SX (nm:aC3) (x:Z .aM): ∀L:List aL,dk L nm=none->dx (aI:=.str) (aK:=.aM) (c6 L) (nm:Z .str) x=(c6 L++[Aw nm x]:List (Z .str×Z .aM))
 | [],_=>rfl
 |d::L,h=>by
  rw[tR] at h
  by_cases e:d.nm=nm
  .rw[if_pos e] at h;cases h
  .rw[if_neg e] at h;have bq:=SX nm x L h;show dx (aI:=.str) (aK:=.aM) (lR d::c6 L) (nm:Z .str) x=_;rw[show dx (aI:=.str) (aK:=.aM) (lR d::c6 L) (nm:Z .str) x=(match f0 .str (nm:Z .str) (lR d).1 with |true=>Aw nm x::c6 L |false=>lR d::dx (aI:=.str) (aK:=.aM) (c6 L) (nm:Z .str) x:List (Z .str×Z .aM)) from rfl];rw[show f0 .str (nm:Z .str) (lR d).1=false from rr (aI:=.str) qr (fun h=>e h.symm)];simp only;rw[bq];rfl
abbrev kP (L:List aL) (nm back:aC3) (ad am:Nat) (im:bE):List aL:=L++[⟨nm,back,ad,am,im,none⟩]
theorem iP.add {L:List aL} (h:iP L) {nm back:aC3} {ad am:Nat} {im:bE} (au:dk L nm=none) (ha:ad∉L.map (·.ad)) (aA:am∉L.map (·.am)):iP (kP L nm back ad am im):=by
 have key: ∀{α:Type} (f:aL->α) (d:aL),(L.map f).Nodup->f d∉L.map f->((L++[d]).map f).Nodup:=fun f d E G=>by
  rw[au0];refine List.nodup_append.2 ⟨E,ay6,fun a ha b O e=>?_⟩;rw[ar4,ax6,ar5] at O;exact G (by rw[<-O,<-e];exact ha)
 refine⟨key _ _ h.jd fun hx=>?_,key _ _ h.me ha,key _ _ h.yc aA⟩;obtain⟨d,H,e⟩:=as9.1 hx;have:=List.find?_eq_none.1 au d H;exact this (by simpa using e)
abbrev Da (nm back:aC3):aY:=[(0,aq 1001),(1,bT nm),(3,bT back),(9,aq 2001),(10,ab 0)]
abbrev Db (z R:Int) (L:List aL) (im:bE):az:=bO z R L++[(2001,.aG (jb im))]
theorem aga (L:List aL) (nm back:aC3) (ad am:Nat) (im:bE):c6 (kP L nm back ad am im)=(c6 L++[Aw nm (some ad:Option Nat)]:List (Z .str×Z .aM)):=by
 induction L with
 |nil=>rfl
 |cons d L bq=>
  show lR d::c6 (kP L nm back ad am im)=lR d::(c6 L++[Aw nm (some ad:Option Nat)]);rw[bq]
abbrev agb (L:List aL) (nm back:aC3) (am:Nat) (im:bE):List aL:=⟨nm,back,0,am,im,none⟩::L
theorem SY {f:aL->Nat×bc} (L:List aL) (d:aL):(f d::L.map f).Perm ((L++[d]).map f):=by
 rw[au0];exact List.perm_append_comm (l₁:=[f d]) (l₂:=L.map f)
abbrev agc (nm back:aC3) (am:Nat):aY:=[(0,aq 1001),(1,bT nm),(3,bT back),(9,dr am)]
abbrev agd (z R:Int) (L:List aL) (am:Nat) (im:bE):az:=[(1001,.cells (Lq z R)),(1002,.map .str .aM (c6 L)),(1003,.aG (.bx (md L))),(1004,.aG (.bx ((am,jb im)::ig L)))]
theorem age (z size R:Nat) (E:z<=3) (G:size<=256) (af:R<=512) (L:List aL) (fa:iP L) (bl:LH L) (nm back:aC3) (ak:nm.length<=4294967296) (ax:gY nm=true) (au:dk L nm=none) (oi:L.length < 16) (k:Nat) (O:back=[]\/(dk L back).isSome=true/\ed L back k/\k+1<=8):
  cx Tryz.prog 27 [aq 1001,bT nm,ab (size:Int),bT back] (bO z R L) [] (X:={p:Nat×Nat//iP (kP L nm back p.1 p.2 (gi z size R))}) (fun _=>ab 0) (fun p=>bO z R (kP L nm back p.1.1 p.1.2 (gi z size R))):=by
 have hx:(bY (aI:=.str) (aK:=.aM) (c6 L) nm).getD (cO .aM)=none:=aB6
 have bV:(c6 L).length=L.length:=ar1 ..;have ht:=Aq z R L back
 have SZ:(decide (back=[])||(dk L back).isSome)=true:=by
  rcases O with O |⟨O,_⟩
  .rw[ar0 O];rfl
  .rw[O,Bool.or_true]
 rw[SZ] at ht;have l6:=C' z size R E G af;refine hO [2,10] Tryz.func27 ?_;refine av (Fn.aV [(1001,2001)] l6) ⟨rfl,bu [10] (cM (Da nm back) (Db z R L (gi z size R))) <| av (qB _ ak) ⟨fun ae=>?_,fun ae=>?_⟩⟩
 .rw[ax] at ae;cases ae
 refine⟨fun ao=>?_,fun ao=>?_⟩
 .exact absurd ao ay5
 refine⟨fun d5 bm=>?_,fun bm=>?_⟩
 .exfalso;have:(bY (aI:=.str) (aK:=.aM) (c6 L) nm).getD (cO .aM)=some d5:=bm;rw[hx] at this
  cases this
 refine⟨fun c0=>?_,fun c0=>?_⟩
 .exfalso;have c0:(16:Int)<=((c6 L).length:Int):=gd c0;omega
 refine av ht ⟨fun fQ=>absurd fQ ay5,fun _=>⟨fun hY=>?_,fun hY=>?_⟩⟩
 focus
  have hY: ¬back=[]:=by simpa using hY
  obtain⟨_,aa,mX⟩:=O.resolve_left hY;have fR:=At z R L fa back k aa ay4;have yj:=pO aa;generalize c4 L k back=bs at fR yj;refine av fR ?_;have m1: -9223372036854775808<=(bs.length:Int)+1/\(bs.length:Int)+1<=9223372036854775807:=az2
  refine⟨m1,fun pb=>?_,fun _=>?_⟩
  .exfalso;have pb:(8:Int) < (bs.length:Int)+1:=gd pb;omega
 all_goals
  refine bw.e4 (di.name 9 2001 rfl rfl) fun am=>?_
  refine bw.le (K':=agc nm back am) (B':=agd z R L am (gi z size R)) (ac.trans (ac.put 1004 2001 ay5 rfl rfl) (ac.sub aC aC)) <| bw.e4 (di.Cx 1004 (L:=(am,jb (gi z size R))::ig L) (af9 (agb L nm back am (gi z size R)) (fun d H=>(aq5.1 H).elim (fun e=>by rw[e]) (bl d))) rfl) fun dC=>bw.iL e3 ay7 ⟨rfl,_,ac7 (c:=1002) (d:=72) (q:=1003) (aI:=.str) (l:=Gy am back) (h:=fun _=>rfl) rfl Tryz.underlying115 (dk:=.string) ay7 rfl rfl rfl rfl rfl rfl rfl ay5 ay5 ay5 (af' L),fun v e ay=>?_⟩
  obtain⟨ad,F3,rfl,rfl⟩:=ay;have LI:ad∉L.map (·.ad):=fun h=>F3 (by unfold md;rw[at7];exact h)
  have agf:am∉L.map (·.am):=fun h=>(as8.1 dC.down).1 (by show am∈(ig L).map (·.1);unfold ig;rw[at7];exact h)
  have pc:dx (aI:=.str) (aK:=.aM) (c6 L) (nm:Z .str) (some ad:Option Nat)=c6 (kP L nm back ad am (gi z size R)):=(SX nm _ L au).trans (aga L nm back ad am (gi z size R)).symm;exact⟨⟨(ad,am),fa.add au LI agf⟩,_,_,_,ac.trans (ac.Av 1003 (SY (f:=fun d=>(d.ad,tP d.am d.back)) L ⟨nm,back,ad,am,gi z size R,none⟩) rfl) (ac.Av 1004 (SY (f:=fun d=>(d.am,kN d)) L ⟨nm,back,ad,am,gi z size R,none⟩) rfl),rfl,rfl,⟨rfl,congrArg (fun e=>some (ba.map .str .aM e)) pc,rfl,rfl,trivial⟩,rfl⟩
theorem agh (z R:Int) (size:Int) (L:List aL) (nm back:aC3) (ak:nm.length<=4294967296) (h:(gY nm&&j7 z size R)=false):Fn Tryz.prog 27 [aq 1001,bT nm,ab size,bT back] (bO z R L) [] (ab 1) (bO z R L):=by
 rcases Bool.eq_false_or_eq_true (j7 z size R) with G |G
 .have ax:gY nm=false:=by rw[G,Bool.and_true] at h;exact h
  unfold j7 at G;simp only[vj,as5] at G;obtain⟨⟨⟨bZ,cg⟩,a3,a4⟩,a5,gB⟩:=G;obtain⟨b,rfl⟩:=Int.eq_ofNat_of_zero_le a5;obtain⟨aB,rfl⟩:=Int.eq_ofNat_of_zero_le bZ;obtain⟨r,rfl⟩:=Int.eq_ofNat_of_zero_le a3;have l6:=C' b aB r ay4 ay4 ay4;refine aU [2] Tryz.func27 ?_;refine av (Fn.aV [(1001,2001)] l6) ⟨rfl,bu [] (cM (Da nm back) (Db b r L (gi b aB r))) <| av (qB _ ak) ⟨fun ae=>?_,fun ae=>?_⟩⟩
  .exact bg
  .rw[ax] at ae;cases ae
 .have l6:=SD z size R G;refine aU [2] Tryz.func27 ?_;refine av l6 ⟨rfl,bu [] (cM [(0,aq 1001),(1,bT nm),(3,bT back),(10,ab 1)] (bO z R L)) <| av (qB _ ak) ⟨fun ae=>?_,fun ae=>?_⟩⟩
  .exact bg
  refine⟨fun ao=>?_,fun ao=>?_⟩
  .exact bg
  .exact absurd ao ay5
theorem agi (z size R:Nat) (E:z<=3) (G:size<=256) (af:R<=512) (L:List aL) (nm back:aC3) (ak:nm.length<=4294967296) (ax:gY nm=true) (au:(dk L nm).isSome=true\/16<=L.length):
  Fn Tryz.prog 27 [aq 1001,bT nm,ab (size:Int),bT back] (bO z R L) [] (ab 143) (bO z R L):=by
 have hx:(bY (aI:=.str) (aK:=.aM) (c6 L) nm).getD (cO .aM)=((dk L nm).map (·.ad):Option Nat):=j8 nm L;have bV:(c6 L).length=L.length:=ar1 ..;have l6:=C' z size R E G af;refine aU [2] Tryz.func27 ?_;refine av (Fn.aV [(1001,2001)] l6) ⟨rfl,bu [] (cM (Da nm back) (Db z R L (gi z size R))) <| av (qB _ ak) ⟨fun ae=>?_,fun ae=>?_⟩⟩
 .rw[ax] at ae;cases ae
 refine⟨fun ao=>?_,fun ao=>?_⟩
 .exact absurd ao ay5
 refine⟨fun d5 bm=>?_,fun bm=>?_⟩
 .exact bg
 refine⟨fun c0=>?_,fun c0=>?_⟩
 .exact bg
 .exfalso;have c0: ¬(16:Int)<=((c6 L).length:Int):=mu c0;have bm:(bY (aI:=.str) (aK:=.aM) (c6 L) nm).getD (cO .aM)=none:=bm;rw[hx] at bm;rcases au with au |au
  .obtain⟨d,H⟩:=at4.1 au;rw[H] at bm
   cases bm
  .omega
theorem agj (z size R:Nat) (E:z<=3) (G:size<=256) (af:R<=512) (L:List aL) (nm back:aC3) (ak:nm.length<=4294967296) (ax:gY nm=true) (au:dk L nm=none) (oi:L.length < 16) (O:(decide (back=[])||(dk L back).isSome)=false):
  Fn Tryz.prog 27 [aq 1001,bT nm,ab (size:Int),bT back] (bO z R L) [] (ab 140) (bO z R L):=by
 have hx:(bY (aI:=.str) (aK:=.aM) (c6 L) nm).getD (cO .aM)=none:=aB6
 have bV:(c6 L).length=L.length:=ar1 ..;have ht:=Aq z R L back;rw[O] at ht;have l6:=C' z size R E G af;refine aU [2] Tryz.func27 ?_;refine av (Fn.aV [(1001,2001)] l6) ⟨rfl,bu [] (cM (Da nm back) (Db z R L (gi z size R))) <| av (qB _ ak) ⟨fun ae=>?_,fun ae=>?_⟩⟩
 .rw[ax] at ae;cases ae
 refine⟨fun ao=>?_,fun ao=>?_⟩
 .exact absurd ao ay5
 refine⟨fun d5 bm=>?_,fun bm=>?_⟩
 .exfalso;have:(bY (aI:=.str) (aK:=.aM) (c6 L) nm).getD (cO .aM)=some d5:=bm;rw[hx] at this
  cases this
 refine⟨fun c0=>?_,fun c0=>?_⟩
 .exfalso;have c0:(16:Int)<=((c6 L).length:Int):=gd c0;omega
 exact av ht ⟨fun _=>bg,fun fQ=>absurd fQ ay5⟩
theorem agk (z size R:Nat) (E:z<=3) (G:size<=256) (af:R<=512) (L:List aL) (fa:iP L) (nm back:aC3) (ak:nm.length<=4294967296) (ax:gY nm=true) (au:dk L nm=none) (oi:L.length < 16) (tT:back≠[]) (O:(dk L back).isSome=true) (k:Nat) (aa:ed L back k) (hr:k<=1000000) (mX:8 < k+1):
  Fn Tryz.prog 27 [aq 1001,bT nm,ab (size:Int),bT back] (bO z R L) [] (ab 142) (bO z R L):=by
 have hx:(bY (aI:=.str) (aK:=.aM) (c6 L) nm).getD (cO .aM)=none:=aB6
 have bV:(c6 L).length=L.length:=ar1 ..;have ht:=Aq z R L back;rw[O,Bool.or_true] at ht;have l6:=C' z size R E G af;refine aU [2] Tryz.func27 ?_;refine av (Fn.aV [(1001,2001)] l6) ⟨rfl,bu [] (cM (Da nm back) (Db z R L (gi z size R))) <| av (qB _ ak) ⟨fun ae=>?_,fun ae=>?_⟩⟩
 .rw[ax] at ae;cases ae
 refine⟨fun ao=>?_,fun ao=>?_⟩
 .exact absurd ao ay5
 refine⟨fun d5 bm=>?_,fun bm=>?_⟩
 .exfalso;have:(bY (aI:=.str) (aK:=.aM) (c6 L) nm).getD (cO .aM)=some d5:=bm;rw[hx] at this
  cases this
 refine⟨fun c0=>?_,fun c0=>?_⟩
 .exfalso;have c0:(16:Int)<=((c6 L).length:Int):=gd c0;omega
 refine av ht ⟨fun fQ=>absurd fQ ay5,fun _=>⟨fun hY=>?_,fun hY=>absurd (by simpa using hY) tT⟩⟩;have fR:=At z R L fa back k aa hr;have yj:=pO aa;generalize c4 L k back=bs at fR yj;refine av fR ?_;have m1: -9223372036854775808<=(bs.length:Int)+1/\(bs.length:Int)+1<=9223372036854775807:=az2
 refine⟨m1,fun _=>?_,fun pb=>?_⟩
 .exact bg
 .exfalso;have pb: ¬(8:Int) < (bs.length:Int)+1:=mu pb;omega
def yk (l:List aC3) (v:aC3):Int:=match l.idxOf? v with
 |some i=>(i:Nat)
 |none=> -1
theorem agl (l:List aC3) (v:aC3) (ak:l.length<=4294967296):Fn Tryz.prog 118 [bQ .str l,bT v] [] [] (ab (yk l v)) []:=by
 refine aU [] Tryz.func118 ?_;refine d2 [] (X:=Nat) (fun k=>[(0,bQ .str l),(1,bT v),(7,ab (l.length:Nat)),(8,ab (k:Nat))]) (fun _=>[]) (fun k=>k<=l.length/\ ∀(i:Nat),i < k->l[i]? ≠some v) (fun k=>l.length - k) 0 ⟨aq8 _,fun i h=>absurd h (ax7 _)⟩ ?_ ?_
 .exact ac.sub aC trivial
 intro k ⟨aa,ai⟩;refine⟨fun h=>?_,fun h=>?_⟩
 .have ct:k < l.length:=by
   have h:decide ((k:Int) < (l.length:Int))=true:=h;simpa using h
  refine⟨ay4,l[k],jJ (n:=k) ct,fun G=>?_,fun G=>?_⟩
  .have G:v=l[k]:=gd G;refine⟨_,_,_,br,rfl,(show((k:Nat):Int)=yk l v from ?_),trivial,rfl⟩
   have:l.idxOf? v=some k:=by
    rw[List.idxOf?_eq_some_iff];refine⟨ct,by simp[G],fun j V=>?_⟩;have:=ai j V;rw[oj ay4] at this;simpa using this
   rw[yk,this]
  .have G: ¬v=l[k]:=mu G;have m1: -9223372036854775808<=(k:Int)+1/\(k:Int)+1<=9223372036854775807:=az2
   have m2:k+1<=l.length:=az2
   have m3:l.length - (k+1) < l.length - k:=az2
   refine⟨m1,k+1,⟨m2,fun i aF=>?_⟩,m3,ac.sub aC trivial⟩;rcases Nat.lt_or_ge i k with aW |aW
   .exact ai i aW
   .have:i=k:=az2
    subst this;rw[oj ct];intro e;injection e with e
    exact G e.symm
 .have h:decide ((k:Int) < (l.length:Int))=false:=h;have eD:k=l.length:=aB5
  refine⟨_,_,_,br,rfl,(show(-1:Int)=yk l v from ?_),trivial,rfl⟩
  have:l.idxOf? v=none:=by
   rw[List.idxOf?_eq_none_iff];intro aA;obtain⟨i,aF,e⟩:=aw0 aA;have:=ai i ay4;rw[oj aF] at this;exact this (by rw[e])
  rw[yk,this]
theorem LJ (l:List aC3) (v:aC3) (ak:l.length<=4294967296):Fn Tryz.prog 74 [bQ .str l,bT v] [] [] (fI (l.contains v)) []:=by
 refine aU [] Tryz.func74 ?_;refine av (agl l v ak) ⟨_,_,_,br,rfl,(show decide (0<=yk l v)=l.contains v from ?_),trivial,rfl⟩;unfold yk
 cases h:l.idxOf? v with
 |none=>
  rw[List.idxOf?_eq_none_iff] at h;simp[h]
 |some i=>
  obtain⟨aF,e,_⟩:=List.idxOf?_eq_some_iff.1 h
  have:v∈l:=by
   have:=as3 aF
   rwa[show l[i]=v by simpa using e] at this
  simp[this]
theorem agm (z R:Int) (L:List aL) (nm back:aC3) (h:(dk L nm).isSome=false\/(decide (back=[])||(dk L back).isSome)=false):Fn Tryz.prog 303 [aq 1001,bT nm,bT back] (bO z R L) [] (ab 140) (bO z R L):=by
 have ht:=Aq z R L back;refine aU [] Tryz.func303 ?_;refine⟨fun d5 bm=>?_,fun bm=>?_⟩
 .obtain⟨d,H,_⟩:=afo bm;have O:(decide (back=[])||(dk L back).isSome)=false:=h.resolve_left (by rw[H];intro h;cases h);rw[O] at ht;exact av ht ⟨fun _=>bg,fun fQ=>absurd fQ ay5⟩
 .exact bg
theorem agn (z R:Int) (L:List aL) (fa:iP L) (nm back:aC3) (d:aL) (H:dk L nm=some d) (aa:(decide (back=[])||(dk L back).isSome)=true) (k:Nat) (cf:ed L back k) (hr:k<=1000000) (h:nm=back\/nm∈c4 L k back):Fn Tryz.prog 303 [aq 1001,bT nm,bT back] (bO z R L) [] (ab 141) (bO z R L):=by
 have ht:=Aq z R L back;rw[aa] at ht;have hx:(bY (aI:=.str) (aK:=.aM) (c6 L) nm).getD (cO .aM)=some d.ad:=by rw[j8,H];rfl
 have fR:=At z R L fa back k cf hr;have yj:=pO cf;generalize c4 L k back=bs at fR yj h;have lH:=LJ bs nm ay4;refine aU [] Tryz.func303 ?_;refine⟨fun d5 bm=>av ht ⟨fun fQ=>absurd fQ ay5,fun _=>⟨fun hY=>?_,fun hY=>?_⟩⟩,fun O=>absurd (show(bY (aI:=.str) (aK:=.aM) (c6 L) nm).getD (cO .aM)=none from O) aA3⟩
 .exact bg
 .have hY: ¬nm=back:=mu hY;have aA:bs.contains nm=true:=by simpa using h.resolve_left hY
  rw[aA] at lH;exact av fR <| av lH ⟨fun _=>bg,fun fQ=>absurd fQ ay5⟩
def eU (nm back:aC3) (d:aL):aL:=if d.nm=nm then {d with back:=back} else d
def d4 (L:List aL) (nm back:aC3):List aL:=L.map (eU nm back)
theorem yl (nm back:aC3) (d:aL):(eU nm back d).nm=d.nm:=by unfold eU;split <;>rfl
theorem GG (nm back:aC3) (d:aL):(eU nm back d).ad=d.ad:=by unfold eU;split <;>rfl
theorem GH (nm back:aC3) (d:aL):(eU nm back d).am=d.am:=by unfold eU;split <;>rfl
theorem Dc (nm back:aC3) (d:aL):(eU nm back d).im=d.im:=by unfold eU;split <;>rfl
theorem S0 (nm back:aC3) (d:aL):(eU nm back d).cP=d.cP:=by unfold eU;split <;>rfl
theorem ago (L:List aL) (nm back:aC3):c6 (d4 L nm back)=c6 L:=by
 unfold c6 d4;rw[at7];refine as2 fun d _=>?_
 show lR (eU nm back d)=lR d;unfold lR;rw[yl,GG]
theorem agp (L:List aL) (nm back:aC3):ig (d4 L nm back)=ig L:=by
 unfold ig d4;rw[at7];refine as2 fun d _=>?_
 show((eU nm back d).am,kN (eU nm back d))=_;unfold kN;rw[GH,Dc,S0]
theorem iP.d4 {L:List aL} (h:iP L) (nm back:aC3):iP (d4 L nm back):=by
 have key: ∀{α:Type} (f:aL->α),(∀d,f (eU nm back d)=f d)->(Go.Proofs.YtkfbeijmgggkmaaGreat.d4 L nm back).map f=L.map f:=fun f hf=>by
  unfold Go.Proofs.YtkfbeijmgggkmaaGreat.d4;rw[at7];exact as2 fun d _=>hf d
 exact⟨by rw[key _ (yl nm back)];exact h.jd,by rw[key _ (GG nm back)];exact h.me,by rw[key _ (GH nm back)];exact h.yc⟩
theorem LK {L:List aL} {nm:aC3} (back:aC3) (h:nm∉L.map (·.nm)):d4 L nm back=L:=by
 unfold d4;refine(as2 fun d H=>?_).trans (List.map_id' L);unfold eU;rw[if_neg fun e=>h (by rw[<-e];exact ar8 H)]
theorem LL {back:aC3} {nm:aC3}: ∀{L:List aL},(L.map (·.nm)).Nodup->(L.map (·.ad)).Nodup-> ∀{d:aL},dk L nm=some d->e' (md L) d.ad (tP d.am back)=md (d4 L nm back)
 | [],_,_,d,h=>by cases h
 |e::L,hn,ha,d,h=>by
  rw[ar4] at hn ha;obtain⟨cU,dU⟩:=as8.1 hn;obtain⟨bZ,cg⟩:=as8.1 ha;rw[tR] at h;show e' ((e.ad,tP e.am e.back)::md L) d.ad (tP d.am back)=md (eU nm back e::d4 L nm back);unfold e'
  by_cases c:e.nm=nm
  .rw[if_pos c] at h;injection h with h
   subst h;rw[if_pos rfl,LK back (by rw[<-c];exact cU)];unfold eU;rw[if_pos c];rfl
  .rw[if_neg c] at h;have a7: ¬e.ad=d.ad:=fun x=>bZ (by rw[x];exact ar8 (f:=fun d:aL=>d.ad) (cR h).1)
   rw[if_neg a7,LL dU cg h];unfold eU;rw[if_neg c];rfl
theorem mi (nm back n:aC3): ∀L:List aL,dk (d4 L nm back) n=(dk L n).map (eU nm back)
 | []=>rfl
 |d::L=>by
  show dk (eU nm back d::d4 L nm back) n=_;rw[tR,tR,yl,mi nm back n L]
  split <;>rfl
theorem agq {L:List aL} (hn:(L.map (·.nm)).Nodup) {nm back:aC3} {d:aL} (h:dk L nm=some d):d4 (d4 L nm back) nm d.back=L:=by
 induction L with
 |nil=>cases h
 |cons e L bq=>
  rw[ar4] at hn;obtain⟨cU,dU⟩:=as8.1 hn;rw[tR] at h;show eU nm d.back (eU nm back e)::d4 (d4 L nm back) nm d.back=e::L
  by_cases c:e.nm=nm
  .rw[if_pos c] at h;injection h with h
   subst h;have cL:nm∉L.map (·.nm):=by rw[<-c];exact cU
   rw[LK back cL,LK _ cL]
   congr 1
   unfold eU;rw[if_pos c,if_pos c]
  .rw[if_neg c] at h;rw[bq dU h]
   congr 1
   unfold eU;rw[if_neg c,if_neg c]
abbrev agr (nm back q3:aC3) (ad:Nat):aY:=[(0,aq 1001),(1,bT nm),(2,bT back),(7,dr ad),(8,bT q3)]
abbrev ags (q3:aC3) (ad:Nat) (l:List aC3) (j:Nat):aY:=[(0,aq 1001),(7,dr ad),(8,bT q3),(46,bQ .str l),(47,ab (l.length:Nat)),(48,ab (j:Nat))]
theorem S1 {I:Nat->Prop} {w:World} {s:aC3} {aB:Value} (h:gK I w (.str s) aB):aB.cells=List.toArray [aB]/\aB.oneCell'=true:=by
 have h:aB= .string ⟨s.toArray⟩:=h;subst h;exact⟨rfl,rfl⟩
theorem agt (z R:Int) (L:List aL) (fa:iP L) (ak: ∀d,d∈L->d.nm.length<=100000) (oi:L.length<=100) (nm back:aC3) (d:aL) (H:dk L nm=some d) (aa:(decide (back=[])||(dk L back).isSome)=true) (k:Nat) (cf:ed L back k) (hr:k<=1000000) (h: ¬(nm=back\/nm∈c4 L k back))
  (Ax:aC3->Nat) (agu: ∀n∈mg L,ed (d4 L nm back) n (Ax n)/\Ax n<=1000000) (r:Int) (GI:List aL) (bv:(∀n∈mg L,Ax n<=8)->r=0/\GI=d4 L nm back) (fU:(∃n∈mg L,8 < Ax n)->r=142/\GI=L):
  Fn Tryz.prog 303 [aq 1001,bT nm,bT back] (bO z R L) [] (ab r) (bO z R GI):=by
 obtain⟨o8,gj,gk⟩:=ku Gz;have ht:=Aq z R L back;rw[aa] at ht;have hx:(bY (aI:=.str) (aK:=.aM) (c6 L) nm).getD (cO .aM)=some d.ad:=by rw[j8,H];rfl
 have fR:=At z R L fa back k cf hr;have yj:=pO cf;generalize c4 L k back=bs at fR yj h;have lH:=LJ bs nm ay4
 have Cj:bs.contains nm=false:=by
  have:=fun e=>h (.inr e)
  simpa using this
 rw[Cj] at lH;have lS:=fa.D (cR H).1;have Dd:=fa.d4 nm back;have k6:dk (d4 L nm back) nm=some (eU nm back d):=by rw[mi,H];rfl
 have S2:=Dd.D (cR k6).1;rw[GG,GH,show(eU nm back d).back=back by unfold eU;rw[if_pos (cR H).2]] at S2;have pc:=ago L nm back;have wI:=agp L nm back;have sG:e' (md L) d.ad (tP d.am back)=md (d4 L nm back):=LL fa.jd fa.me H
 have agv:e' (md (d4 L nm back)) d.ad (tP d.am d.back)=md L:=by
  have:=LL (back:=d.back) Dd.jd Dd.me k6;rw[GG,GH,agq fa.jd H] at this;exact this
 have z7:=SR z R (d4 L nm back) Dd (fun x hx=>by
  obtain⟨y,aD,rfl⟩:=as9.1 hx;rw[yl];exact ak y aD) (by unfold d4;rw[ar1];exact oi)
 have mj:mg (d4 L nm back)=mg L:=by unfold mg;rw[pc]
 rw[mj] at z7;have bV:=SQ L;generalize mg L=l at*;refine aU [6,8,12] Tryz.func303 ?_;refine⟨fun d5 bm=>av ht ⟨fun fQ=>absurd fQ ay5,fun _=>⟨fun hY=>?_,fun hY=>?_⟩⟩,fun O=>absurd (show(bY (aI:=.str) (aK:=.aM) (c6 L) nm).getD (cO .aM)=none from O) aA3⟩
 .exact absurd (.inl (gd hY)) h
 refine av fR <| av lH ⟨fun fQ=>absurd fQ ay5,fun _=>bu [8,12] (br) ⟨_,_,fun N=>i' (b:=d.ad) rfl aB1 N,rfl,?_⟩⟩;refine⟨_,_,fun N=>jq rfl Tryz.underlying122 rfl rfl gj az6 rfl N,rfl,?_⟩;refine⟨_,_,fun N=>lq (q:=1003) rfl Tryz.underlying9 rfl rfl rfl lS rfl N,rfl,?_⟩;refine⟨_,_,fun N=>i' (b:=d.ad) rfl aB1 N,rfl,?_⟩;refine⟨_,_,fun N=>jq rfl Tryz.underlying122 rfl rfl gj az6 rfl N,rfl,?_⟩;refine⟨_,_,fun N=>zY (q:=1003) (b:=d.ad) (j:=1) (y:=.str back) (l:=Gy d.am d.back) (h':=fun _=>rfl) rfl gj gk rfl rfl rfl lS (Nat.lt_succ_self 1) S1 N,rfl,?_⟩;refine bu [12] (ac.sub (K':=agr nm back d.back d.ad) (B':=bO z R (d4 L nm back)) ⟨rfl,rfl,rfl,hx,rfl,trivial⟩ ⟨rfl,congrArg (fun e=>some (ba.map .str .aM e)) pc.symm,congrArg (fun e=>some (ba.aG (.bx e))) sG,congrArg (fun e=>some (ba.aG (.bx e))) wI.symm,trivial⟩) <| av z7 ?_;refine d2 [12] (X:=Nat) (ags d.back d.ad l) (fun _=>bO z R (d4 L nm back)) (fun j=>j<=l.length/\ ∀n∈l.take j,Ax n<=8) (fun j=>l.length - j) 0 ⟨aq8 _,fun n hn=>by rw[List.take_zero] at hn;cases hn⟩ ?_ ?_
 .exact ac.sub aC aC
 intro j ⟨V,LM⟩;refine⟨fun h=>?_,fun h=>?_⟩
 .have h:decide ((j:Int) < (l.length:Nat))=true:=h;have ft:j < l.length:=az3
  have m3:(0:Int)<=(j:Int):=az2
  have rH:c1 ((j:Int)+1):=az2
  obtain⟨S3,KU⟩:=agu _ (as3 ft);have lm:=as3 ft;have nb:=at5 ft;have hm:=At z R (d4 L nm back) Dd _ _ S3 KU;have agw:=pO S3;refine⟨m3,l[j],jJ (n:=j) ft,?_⟩;generalize l[j]=n at*;generalize c4 (d4 L nm back) (Ax n) n=ns at hm agw;refine av hm ⟨fun pb=>?_,fun pb=>?_⟩
  .have pb:(8:Int) < (ns.length:Int):=gd pb;obtain⟨rfl,rfl⟩:=fU ⟨n,lm,ay4⟩;refine bu [] (cM [(7,dr d.ad),(8,bT d.back)] (bO z R (d4 GI nm back))) ⟨_,_,fun N=>i' (b:=d.ad) rfl rfl N,rfl,?_⟩;refine⟨_,_,fun N=>jq rfl Tryz.underlying122 rfl rfl gj az6 rfl N,rfl,?_⟩;refine⟨_,_,fun N=>zY (q:=1003) (b:=d.ad) (j:=1) (y:=.str d.back) (l:=Gy d.am back) (h':=fun _=>rfl) rfl gj gk rfl rfl rfl S2 (Nat.lt_succ_self 1) S1 N,rfl,?_⟩;exact sx br rfl rfl ⟨rfl,congrArg (fun e=>some (ba.map .str .aM e)) pc,congrArg (fun e=>some (ba.aG (.bx e))) agv,congrArg (fun e=>some (ba.aG (.bx e))) wI,trivial⟩ rfl
  .have pb: ¬(8:Int) < (ns.length:Int):=mu pb;refine⟨rH,j+1,⟨ft,fun n' uS=>?_⟩,ay4,ac.sub aC aC⟩;rw[nb] at uS;rcases as1.1 uS with uS |uS
   .exact LM n' uS
   .rw[ar5] at uS;subst uS;omega
 .have h:decide ((j:Int) < (l.length:Nat))=false:=h;have ft:j=l.length:=aB5
  subst ft;rw[ar9] at LM;obtain⟨rfl,rfl⟩:=bv LM;exact bg
end
end Go.Proofs.YtkfbeijmgggkmaaGreat
