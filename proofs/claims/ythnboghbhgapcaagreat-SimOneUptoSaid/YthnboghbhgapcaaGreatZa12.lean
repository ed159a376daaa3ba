/-
A part of the proof of this claim: lemmas, with no condition beyond what each says.
-/
import Derived.Test.YthnboghbhgapcaaGreatProg
import Derived.Test.YthnboghbhgapcaaGreatZa11
set_option linter.unusedVariables false
set_option linter.unusedSimpArgs false
set_option maxRecDepth 10000
namespace Go.Proofs.YthnboghbhgapcaaGreat
open Go.RowKit Go.Proofs
section
structure aO where
 nm:List UInt8
 back:List UInt8
 ad:Nat
 am:Nat
 im:bL
 cP:Option (Nat->Nat)
def kr (d:aO):bh:=match d.cP with
 |none=>iZ d.im
 |some bs=>.m6 (dx d.im) (fun c=>cond (Nat.beq c 1001) d.am (bs c))
abbrev lF (d:aO):Z .str×Z .aM:=((d.nm:Z .str),(some d.ad:Z .aM))
def c3 (L:List aO):List (Z .str×Z .aM):=L.map lF
abbrev fSz (am:Nat) (back:List UInt8):List bC:=[.d (.aM (some am)),.d (.str back)]
def tv (am:Nat) (back:List UInt8):bh:=bh.ch (.cells (fSz am back)) (fun _=>rfl)
def l6 (L:List aO):List (Nat×bh):=L.map fun d=>(d.ad,tv d.am d.back)
def h6 (L:List aO):List (Nat×bh):=L.map fun d=>(d.am,kr d)
abbrev KI (z U:Int):List bC:=[.d (.int .i64 z),.d (.int .i64 U),.mp 1002]
abbrev bP (z U:Int) (L:List aO):ay:=[(1001,.cells (KI z U)),(1002,.map .str .aM (c3 L)),(1003,.aG (.bA (l6 L))),(1004,.aG (.bA (h6 L)))]
def dk (L:List aO) (nm:List UInt8):Option aO:=L.find? fun d=>decide (d.nm=nm)
theorem c1 {L:List aO} {nm:List UInt8} {d:aO} (h:dk L nm=some d):d∈L/\d.nm=nm:=⟨at8 h,by have:=List.find?_some h;simpa using this⟩
theorem jP (nm:List UInt8): ∀L:List aO,(b0 (aJ:=.str) (aL:=.aM) (c3 L) nm).getD (cK .aM)=((dk L nm).map (·.ad):Option Nat)
 | []=>rfl
 |d::L=>by
  have br:=jP nm L;show(b0 (aJ:=.str) (aL:=.aM) (lF d::c3 L) nm).getD (cK .aM)=_;rw[show dk (d::L) nm=if decide (d.nm=nm)=true then some d else dk L nm by unfold dk;rw[List.find?_cons];split <;>rename_i h <;>rw[h] <;>rfl];rw[show b0 (aJ:=.str) (aL:=.aM) (lF d::c3 L) nm=match fV .str (nm:Z .str) (lF d).1 with |true=>some (lF d).2 |false=>b0 (aJ:=.str) (aL:=.aM) (c3 L) nm from rfl]
  by_cases e:d.nm=nm
  .rw[show fV .str (nm:Z .str) (lF d).1=true from(qd _ _).2 e.symm,show decide (d.nm=nm)=true from aq2 e];rfl
  .rw[show fV .str (nm:Z .str) (lF d).1=false from ra (aJ:=.str) qd (fun h=>e h.symm),show decide (d.nm=nm)=false from ar8 e];exact br
theorem KJ {f:aO->Nat×bh}: ∀{L:List aO},(L.map fun d=>(f d).1).Nodup-> ∀{d:aO},d∈L->eg (L.map f) (f d).1=some (f d).2
 | [],_,d,h=>by cases h
 |e::L,hn,d,h=>by
  rw[aq4] at hn;obtain⟨cH,dF⟩:=aq7.1 hn;rw[aq4];unfold eg;rcases ap3.1 h with rfl |h
  .rw[if_pos rfl]
  .rw[if_neg (fun e=>cH (by rw[e];exact aq6 (f:=fun d=>(f d).1) h))];exact KJ dF h
structure hU (L:List aO):Prop where
 ik:(L.map (·.nm)).Nodup
 lf:(L.map (·.ad)).Nodup
 wc:(L.map (·.am)).Nodup
theorem hU.D {L:List aO} (h:hU L) {d:aO} (J:d∈L):eg (l6 L) d.ad=some (tv d.am d.back):=KJ (f:=fun d=>(d.ad,tv d.am d.back)) h.lf J
theorem hU.M {L:List aO} (h:hU L) {d:aO} (J:d∈L):eg (h6 L) d.am=some (kr d):=KJ (f:=fun d=>(d.am,kr d)) h.wc J
theorem xQ:(Tryz.prog.info? 43).map (·.size)=some 1:=by kernel_rfl
theorem FT:(Tryz.prog.info? 9).map (·.size)=some 1:=by kernel_rfl
theorem zN (z U:Int) (L:List aO) (b:List UInt8):Fn Tryz.prog 41 [ao 1001,bV b] (bP z U L) [] (fI (decide (b=[])||(dk L b).isSome)) (bP z U L):=by
 have a6:=jP b L;refine aW [] Tryz.func41 rfl rfl rfl rfl ?_;refine⟨fun h=>?_,fun h=>?_⟩
 .have h:b=[]:=gd h;exact aT aH rfl (show true=_ by rw[aq2 h];rfl) ac rfl
 .have h: ¬b=[]:=mu h;refine⟨fun dZ h'=>?_,fun h'=>?_⟩
  .have h':(b0 (aJ:=.str) (aL:=.aM) (c3 L) b).getD (cK .aM)=some dZ:=h';rw[a6] at h'
   exact⟨_,_,_,aH,rfl,(show true=_ by rw[ar8 h];cases e:dk L b with
    |none=>rw[e] at h';cases h'
    |some d=>rfl),ac,rfl⟩
  .have h':(b0 (aJ:=.str) (aL:=.aM) (c3 L) b).getD (cK .aM)=none:=h';rw[a6] at h'
   exact⟨_,_,_,aH,rfl,(show false=_ by rw[ar8 h];cases e:dk L b with
    |none=>rfl
    |some d=>rw[e] at h';cases h'),ac,rfl⟩
theorem aev {L:List aO} {nm:List UInt8} {dZ:Nat} (h:(b0 (aJ:=.str) (aL:=.aM) (c3 L) nm).getD (cK .aM)=some dZ): ∃d,dk L nm=some d/\d.ad=dZ:=by
 rw[jP] at h
 cases e:dk L nm with
 |none=>rw[e] at h;cases h
 |some d=>
  rw[e] at h;injection h with h
  exact⟨d,rfl,h⟩
theorem nY {x:Option Nat} {b:Nat} (h:x=some b):aQ.c (dI.one (bC.d (D.aM x)))= .c (.one (.d (.aM (some b)))):=by rw[h]
theorem jx (z U:Int) (L:List aO) (eH:hU L) (nm:List UInt8) (d:aO) (J:dk L nm=some d):Fn Tryz.prog 13 [ao 1001,bV nm] (bP z U L) [] (dn d.am) (bP z U L):=by
 obtain⟨oU,gb,gc⟩:=j5 xQ;have cW:=eH.D (c1 J).1;have h':(b0 (aJ:=.str) (aL:=.aM) (c3 L) nm).getD (cK .aM)=some d.ad:=by rw[jP,J];rfl
 refine aW [] Tryz.func13 rfl rfl rfl rfl ?_;refine⟨fun dZ O=>?_,fun O=>absurd (show(b0 (aJ:=.str) (aL:=.aM) (c3 L) nm).getD (cK .aM)=none from O) (by rw[h'];intro h;cases h)⟩;refine⟨_,_,fun N=>iY (b:=d.ad) rfl (by exact nY h') N,rfl,?_⟩;refine⟨_,_,fun N=>jb rfl Tryz.underlying86 rfl rfl gb (by rw[gc];decide) rfl N,rfl,?_⟩;refine⟨_,_,fun N=>k8 (q:=1003) rfl Tryz.underlying43 rfl rfl rfl cW rfl N,rfl,?_⟩;exact aT aH rfl rfl ac rfl
theorem aew (z U:Int) (L:List aO) (nm:List UInt8) (J:dk L nm=none):Fn Tryz.prog 13 [ao 1001,bV nm] (bP z U L) [] (.c mF) (bP z U L):=by
 have h':(b0 (aJ:=.str) (aL:=.aM) (c3 L) nm).getD (cK .aM)=none:=by rw[jP,J];rfl
 refine aW [] Tryz.func13 rfl rfl rfl rfl ?_;refine⟨fun dZ O=>absurd (show(b0 (aJ:=.str) (aL:=.aM) (c3 L) nm).getD (cK .aM)=some dZ from O) (by rw[h'];intro h;cases h),fun _=>?_⟩;exact aT aH rfl rfl ac rfl
theorem aex (z U:Int) (L:List aO) (eH:hU L) (nm:List UInt8) (d:aO) (J:dk L nm=some d):Fn Tryz.prog 16 [ao 1001,bV nm] (bP z U L) [] (.ce [.one (.d (.str d.back)),dw 0]) (bP z U L):=by
 obtain⟨oU,gb,gc⟩:=j5 FT;have cW:=eH.D (c1 J).1;have h':(b0 (aJ:=.str) (aL:=.aM) (c3 L) nm).getD (cK .aM)=some d.ad:=by rw[jP,J];rfl
 refine aW [] Tryz.func16 rfl rfl rfl rfl ?_;refine⟨fun dZ O=>?_,fun O=>absurd (show(b0 (aJ:=.str) (aL:=.aM) (c3 L) nm).getD (cK .aM)=none from O) (by rw[h'];intro h;cases h)⟩;refine⟨_,_,fun N=>iY (b:=d.ad) rfl (by exact nY h') N,rfl,?_⟩;refine⟨_,_,fun N=>jb rfl Tryz.underlying86 rfl rfl gb (by rw[gc];decide) rfl N,rfl,?_⟩;refine⟨_,_,fun N=>k8 (q:=1003) rfl Tryz.underlying9 rfl rfl rfl cW rfl N,rfl,?_⟩;exact aT aH rfl ac ac rfl
theorem aey (z U:Int) (L:List aO) (nm:List UInt8) (J:dk L nm=none):Fn Tryz.prog 16 [ao 1001,bV nm] (bP z U L) [] (.ce [.one (.d (.str [])),dw 140]) (bP z U L):=by
 have h':(b0 (aJ:=.str) (aL:=.aM) (c3 L) nm).getD (cK .aM)=none:=by rw[jP,J];rfl
 refine aW [] Tryz.func16 rfl rfl rfl rfl ?_;refine⟨fun dZ O=>absurd (show(b0 (aJ:=.str) (aL:=.aM) (c3 L) nm).getD (cK .aM)=some dZ from O) (by rw[h'];intro h;cases h),fun _=>?_⟩;exact aT aH rfl ac ac rfl
inductive eP (L:List aO):List UInt8->Nat->Prop where
 |gone {nm}:dk L nm=none->eP L nm 0
 |base {nm d}:dk L nm=some d->d.back=[]->eP L nm 0
 |step {nm d k}:dk L nm=some d->d.back≠[]->eP L d.back k->eP L nm (k+1)
def ey (L:List aO):Nat->List UInt8->List (List UInt8)
 |0,_=>[]
 |k+1,nm=>match dk L nm with
  |none=>[]
  |some d=>d.back::ey L k d.back
def eI (L:List aO):Nat->List UInt8->List UInt8
 |0,nm=>nm
 |j+1,nm=>match dk L nm with
  |none=>nm
  |some d=>eI L j d.back
theorem zO (L:List aO): ∀(j:Nat) (nm:List UInt8),eI L (j+1) nm=match dk L (eI L j nm) with
  |none=>eI L j nm
  |some d=>d.back
 |0,nm=>by
  show(match dk L nm with |none=>nm |some d=>d.back)=_;rfl
 |j+1,nm=>by
  show(match dk L nm with |none=>nm |some d=>eI L (j+1) d.back)=_
  cases e:dk L nm with
  |none=>
   simp only;rw[show eI L (j+1) nm=nm by show(match dk L nm with |none=>nm |some d=>eI L j d.back)=nm;rw[e]];rw[e]
  |some d=>
   simp only;rw[zO L j d.back];rw[show eI L (j+1) nm=eI L j d.back by show(match dk L nm with |none=>nm |some d=>eI L j d.back)=_;rw[e]]
theorem FU {L:List aO}: ∀{k:Nat} {nm:List UInt8},eP L nm k-> ∀j,j<=k->eP L (eI L j nm) (k - j)
 |_,_,h,0,_=>h
 |k+1,nm,.step (d:=d) E G al,j+1,aa=>by
  rw[show eI L (j+1) nm=eI L j d.back by show(match dk L nm with |none=>nm |some d=>eI L j d.back)=_;rw[E]];rw[Nat.add_sub_add_right];exact FU al j au5
 |0,_,_,j+1,aa=>absurd aa au5
theorem rs {L:List aO} {nm:List UInt8} {k:Nat} (h:eP L nm k):(ey L k nm).length=k:=by
 induction h with
 |gone _=>rfl
 |base _ _=>rfl
 |step E G _ br=>
  unfold ey;rw[E];simp only[as4,br]
theorem FV {L:List aO}: ∀{k:Nat} {nm:List UInt8},eP L nm k-> ∀j,j < k->(ey L k nm).take (j+1)=(ey L k nm).take j++[eI L (j+1) nm]
 |k+1,nm,.step (d:=d) E G al,0,_=>by
  unfold ey;rw[E];simp only[List.take_succ_cons,List.take_zero,List.nil_append];rw[show eI L 1 nm=d.back by show(match dk L nm with |none=>nm |some d=>eI L 0 d.back)=_;rw[E];rfl]
 |k+1,nm,.step (d:=d) E G al,j+1,aa=>by
  have br:=FV al j au5;unfold ey;rw[E];simp only[List.take_succ_cons,List.cons_append];rw[br];rw[show eI L (j+1+1) nm=eI L (j+1) d.back by show(match dk L nm with |none=>nm |some d=>eI L (j+1) d.back)=_;rw[E]]
 |0,_,_,j,aa=>absurd aa au5
abbrev zP (x:Option Nat):aQ:=.c (.one (.d (.aM x)))
abbrev RN (L:List aO) (nm:List UInt8) (j:Nat):a1:=[(0,ao 1001),(5,eM 5002),(6,zP ((dk L (eI L j nm)).map (·.ad)))]
abbrev RO (z U:Int) (L:List aO) (k:Nat) (nm:List UInt8) (j:Nat):ay:=bP z U L++[(5002,.row 9 .str ((ey L k nm).take j))]
abbrev aez (L:List aO) (nm:List UInt8) (j:Nat):a1:=[(0,ao 1001),(5,eM 35),(6,zP ((dk L (eI L j nm)).map (·.ad)))]
abbrev aeA (z U:Int) (L:List aO) (k:Nat) (nm:List UInt8) (j:Nat):ay:=bP z U L++[(35,.row 9 .str ((ey L k nm).take j))]
theorem zQ (z U:Int) (L:List aO) (eH:hU L) (nm:List UInt8) (k:Nat) (ab:eP L nm k) (hg:k<=1000000):Fn Tryz.prog 42 [ao 1001,bV nm] (bP z U L) [] (bS .str (ey L k nm)) (bP z U L):=by
 obtain⟨oU,gb,gc⟩:=j5 FT;have hb:=rs ab;refine aW [2,7] Tryz.func42 rfl rfl rfl rfl ?_;refine bz [7] (aH) ?_;refine dX [6,4,7] (X:=Nat) (RN L nm) (fun j=>RO z U L k nm j) (fun j=>j<=k) (fun j=>k - j) 0 (ap7 _) ?_ ?_
 .refine(af.nil 5 5002 9 .str rfl rfl).trans (af.sub ⟨rfl,rfl,?_,trivial⟩ ac);exact jP nm L
 intro j aa;have iR:=FU ab j aa;have nM:k - j=0->(ey L k nm).take j=ey L k nm:=fun h=>List.take_of_length_le au5
 refine⟨fun dZ h'=>?_,fun h'=>?_⟩
 .obtain⟨d,J,rfl⟩: ∃d,dk L (eI L j nm)=some d/\d.ad=dZ:=by
   have h':(dk L (eI L j nm)).map (·.ad)=some dZ:=h'
   cases e:dk L (eI L j nm) with
   |none=>rw[e] at h';cases h'
   |some d=>rw[e] at h';injection h' with h';exact⟨d,rfl,h'⟩
  have cW:=eH.D (c1 J).1;have hx:(dk L (eI L j nm)).map (·.ad)=some d.ad:=by rw[J];rfl
  refine⟨_,_,fun N=>iY (b:=d.ad) rfl (by exact nY hx) N,rfl,?_⟩;refine⟨_,_,fun N=>jb rfl Tryz.underlying86 rfl rfl gb (by rw[gc];decide) rfl N,rfl,?_⟩;refine⟨_,_,fun N=>k8 (q:=1003) rfl Tryz.underlying9 rfl rfl rfl cW rfl N,rfl,?_⟩;refine⟨fun O=>?_,fun O=>?_⟩
  .have O:d.back=[]:=gd O
   have aw:k - j=0:=by
    generalize k - j=m at iR
    cases iR with
    |gone h=>rfl
    |base _ _=>rfl
    |step E G _=>rw[J] at E;injection E with E;rw[<-E] at G;exact absurd O G
   have cr:=nM aw;refine bz [] (aH) ?_;exact⟨_,_,_,af.dV 5002 rfl,rfl,cr,ac,rfl⟩
  .have O: ¬d.back=[]:=mu O
   have lD:j < k:=by
    rcases Nat.lt_or_ge j k with h |h
    .exact h
    .exfalso;have aw:k - j=0:=by omega
     rw[aw] at iR
     cases iR with
     |gone h=>rw[J] at h;cases h
     |base E G=>rw[J] at E;injection E with E;rw[<-E] at G;exact O G
   have RP:eI L (j+1) nm=d.back:=by rw[zO,J]
   have mZ:=FV ab j lD;rw[RP] at mZ;have mI:((ey L k nm).take j).length+1<=4294967296:=by rw[ap8];omega
   refine bz [4] (cG (RN L nm j) (RO z U L k nm j)) ?_;refine⟨_,_,fun N=>iY (b:=d.ad) rfl (by exact nY hx) N,rfl,?_⟩;refine⟨_,_,fun N=>jb rfl Tryz.underlying86 rfl rfl gb (by rw[gc];decide) rfl N,rfl,?_⟩;refine⟨_,_,fun N=>k8 (q:=1003) rfl Tryz.underlying9 rfl rfl rfl cW rfl N,rfl,?_⟩;refine⟨mI,rfl,bz [] (af.sub (K':=aez L nm j) (B':=aeA z U L k nm (j+1)) ac ⟨rfl,rfl,rfl,rfl,congrArg (fun l:List (List UInt8)=>some (bd.row 9 .str l)) mZ.symm,trivial⟩) ?_⟩;refine⟨_,_,fun N=>iY (b:=d.ad) rfl (by exact nY hx) N,rfl,?_⟩;refine⟨_,_,fun N=>jb rfl Tryz.underlying86 rfl rfl gb (by rw[gc];decide) rfl N,rfl,?_⟩;refine⟨_,_,fun N=>k8 (q:=1003) rfl Tryz.underlying9 rfl rfl rfl cW rfl N,rfl,?_⟩;refine⟨rfl,j+1,au5,au5,(af.aX 35 5002 rfl).trans (af.sub ⟨rfl,rfl,?_,trivial⟩ ac)⟩;rw[RP];exact jP d.back L
 .have J:dk L (eI L j nm)=none:=by
   have h':(dk L (eI L j nm)).map (·.ad)=none:=h'
   cases e:dk L (eI L j nm) with
   |none=>rfl
   |some d=>rw[e] at h';cases h'
  have aw:k - j=0:=by
   generalize k - j=m at iR
   cases iR with
   |gone h=>rfl
   |base _ _=>rfl
   |step E G _=>rw[J] at E;cases E
  have cr:=nM aw;refine bz [] (aH) ?_;exact⟨_,_,_,af.dV 5002 rfl,rfl,cr,ac,rfl⟩
theorem hV {f:FuncId} {args:List aQ} {res:aQ} {d:aO} {M:List (Nat×bh)} (h:Fn Tryz.prog f (ao 1001::args) (dx d.im) [] res (dx d.im)) (ar:eg M d.am=some (kr d)) (E:nO 1001 [1002,1003,1004] (ao 1001::args) (dx d.im) [] [] []=true) (G:nP 1001 (mE [1002,1003,1004] [] []) res (dx d.im) []=true)
  (al:(args.all fun v=>v.iW [])=true) (aZ:res.iW []=true):Fn Tryz.prog f (dn d.am::args) [(1004,.aG (.bA M))] [] res [(1004,.aG (.bA M))]:=by
 have e4: ∀{v:aQ},v.iW []=true->v.has 1001=false:=fun {v} az=>by
  cases e:v.has 1001 with
  |false=>rfl
  |true=>exact absurd (aQ.km az e) List.not_mem_nil
 cases ag:d.cP with
 |none=>
  rw[show kr d=iZ d.im by unfold kr;rw[ag]] at ar;have H:Fn Tryz.prog f (ao 1001::args) [(1001,.aG (iZ d.im))] [] res [(1001,.aG (iZ d.im))]:=Fn.close (bp:=dx d.im) (dv:=dx d.im) (aK:=[]) (aP:=[]) [1002,1003,1004] (by simpa using h) (fun _ _ _ _ h=>h) (fun _ _ _ _ h=>h) E G;have:=(cv.bA (c:=1001) (q:=1004) (b:=d.am) (args:=args) (aK:=[]) (bf:=[]) (X:=Unit) (res:=fun _=>res) (aP:=fun _=>[]) (o:=iZ d.im) (o':=fun _=>iZ d.im) (L:=M) H.x ar (ar4.2 fun v az=>by rw[e4 (ar4.1 al v az)];rfl) ⟨rfl,rfl⟩ rfl (fun _=>by rw[e4 aZ];rfl)).fn;rw[xz ar] at this;exact this
 |some bs=>
  rw[show kr d= .m6 (dx d.im) (fun c=>cond (Nat.beq c 1001) d.am (bs c)) by unfold kr;rw[ag]] at ar;exact Fn.acs (c:=1001) h ar rfl rfl al aZ
theorem aeB {s:bL} (aE:gB s) {k:Nat} (ab:k < s.t.length):Kt s (k*2 ^s.z) (2 ^s.z)=fL s k none:=by
 have dJ:=xI aE ab none;have ag:=ko aE.z;have d2:aN s=16*2 ^s.z:=rfl
 have bG:16*(k*2 ^s.z)/aN s=k:=by
  rw[d2,show 16*(k*2 ^s.z)=k*(16*2 ^s.z) by rw[Nat.mul_left_comm],Nat.mul_div_cancel _ au5]
 have em:16*(k*2 ^s.z)=k*aN s:=by rw[d2,Nat.mul_left_comm]
 have aj:cO (aN s) (k*2 ^s.z) (2 ^s.z)=1:=by
  have aw:=xJ (a:=k*2 ^s.z) (l:=2 ^s.z) (k:=0) (sk aE.z);have E:=xJ (a:=k*2 ^s.z) (l:=2 ^s.z) (k:=1) (sk aE.z);rw[bG,Nat.mul_add,em] at aw E;rw[Nat.add_zero] at aw;rw[Nat.succ_mul] at E;have a0:=aw.1 ⟨au5,au5⟩
  have b4: ¬1 < cO (aN s) (k*2 ^s.z) (2 ^s.z):=fun h=>by
   have:=(E.2 h).2;omega
  omega
 unfold Kt;rw[aj];show[]++zJ s (k*2 ^s.z) (2 ^s.z) 0=_;rw[List.nil_append];unfold zJ;have Kb:(bq (aN s) (k*2 ^s.z) (2 ^s.z) 0).c=k:=by unfold bq;simp only[bG,Nat.add_zero]
 have aeC:(bq (aN s) (k*2 ^s.z) (2 ^s.z) 0).a=0:=by
  show 16*(k*2 ^s.z) - (16*(k*2 ^s.z)/aN s+0)*aN s=0;rw[bG,Nat.add_zero,em,Nat.sub_self]
 have Cu:(bq (aN s) (k*2 ^s.z) (2 ^s.z) 0).b=aN s:=by
  show min (16*(k*2 ^s.z+2 ^s.z) - (16*(k*2 ^s.z)/aN s+0)*aN s) (aN s)=aN s;rw[bG,Nat.add_zero,Nat.mul_add,em,show 16*2 ^s.z=aN s from rfl,Nat.add_sub_cancel_left,Nat.min_self]
 rw[Kb,aeC,Cu,List.drop_zero,List.take_of_length_le au5]
theorem aeD {s:bL} (aE:gB s) {k:Nat} (ab:k < s.t.length):eh s ((k*2 ^s.z:Nat):Int) ((2 ^s.z:Nat):Int)=0:=by
 have h:k*2 ^s.z+2 ^s.z<=hT s:=by
  have:=Nat.mul_le_mul_right (2 ^s.z) (show k+1<=s.t.length from ab);rw[Nat.succ_mul] at this;exact this
 unfold eh;generalize k*2 ^s.z=Q at*;generalize 2 ^s.z=P at*;rw[if_neg au5,if_neg au5]
structure nd (z:Nat) (U:Nat) (L:List aO):Prop extends hU L where
 b3:z<=3
 uJ:U<=512
 len:L.length<=16
 hh: ∀d,d∈L->gB d.im/\d.im.z=z/\d.im.l.length=U
 il: ∀d,d∈L->d.back≠[]-> ∃e,dk L d.back=some e
 ne: ∀d,d∈L->d.nm≠[]
 so: ∀d,d∈L-> ∃k,k<=8/\eP L d.nm k
theorem KK {z U:Nat} {L:List aO} (h:nd z U L) {nm:List UInt8} {k:Nat} (ab:eP L nm k): ∀n,n∈ey L k nm-> ∃e,dk L n=some e:=by
 induction ab with
 |gone _=>intro n hn;cases hn
 |base _ _=>intro n hn;cases hn
 | @step nm d k E G al br=>
  intro n hn;unfold ey at hn;rw[E] at hn;rcases ap3.1 hn with rfl |hn
  .exact h.il d (c1 E).1 G
  .exact br n hn
def mL (z:Nat) (L:List aO) (k:Nat):List (List UInt8)->Nat->List UInt8×Nat
 | [],_=>(List.replicate (16*2 ^z) 0,0)
 |n::ns,i=>match dk L n with
  |none=>([],0)
  |some d=>if k < d.im.t.length/\(d.im.t.getD k cD).1≠0 then(fL d.im k none,i+1) else mL z L k ns (i+1)
theorem RQ {z U:Nat} {L:List aO} (h:nd z U L) (k:Nat): ∀(ns:List (List UInt8)) (i:Nat),(mL z L k ns i).1.length<=128
 | [],i=>by
  show(List.replicate (16*2 ^z) (0:UInt8)).length<=128;rw[as7];have:=ko h.b3;omega
 |n::ns,i=>by
  unfold mL
  cases e:dk L n with
  |none=>exact ap7 _
  |some d=>
   simp only
   split
   .rename_i bl;obtain⟨fg,g0,_⟩:=h.hh d (c1 e).1;rw[xI fg bl.1 none];exact(uF fg.z).2
   .exact RQ h k ns (i+1)
abbrev FW (z:Nat) (k:Nat) (l:List (List UInt8)) (j:Nat):a1:=[(0,ao 1001),(2,ae (k:Int)),(8,ae ((2 ^z:Nat):Int)),(24,bS .str l),(25,ae (l.length:Nat)),(26,ae (j:Nat))]
abbrev aeE (z:Nat) (nm:List UInt8) (k:Nat):a1:=[(1000000+(1000000+20),.undef),(0,ao 1001),(1,bV nm),(2,ae (k:Int)),(8,ae ((2 ^z:Nat):Int))]
theorem aeF:(Tryz.prog.info? 9).map (fun i=>(i.zero,i.size,i.bytes))=some (some (.string ⟨#[]⟩),1,16):=by kernel_rfl
set_option maxHeartbeats 1000000 in
theorem aeG (z U:Nat) (L:List aO) (eD:nd z U L) (nm:List UInt8) (bO:aO) (aw:dk L nm=some bO) (dg:Nat) (h4:eP L nm dg) (mM:dg<=100) (k:Nat) (ab:k<=100000):
  Fn Tryz.prog 133 [ao 1001,bV nm,ae (k:Int)] (bP z U L) [] (.ce [.one (.d (.ck .u8 (mL z L k (nm::ey L dg nm) 0).1)),.one (.d (.int .i64 (((mL z L k (nm::ey L dg nm) 0).2:Nat):Int)))]) (bP z U L):=by
 obtain⟨oU,gb,gc⟩:=j5 xQ;obtain⟨ao2,aeH,aeI,aeJ,ao3⟩:=info_parts aeF;have ag:=ko eD.b3;have b6:=rs h4
 have iN: ∀n,n∈nm::ey L dg nm-> ∃e,dk L n=some e:=fun n hn=>by
  rcases ap3.1 hn with rfl |hn
  .exact⟨bO,aw⟩
  .exact KK eD h4 n hn
 have aj:(1:Int)*((2 ^z:Nat):Int)=((2 ^z:Nat):Int):=Int.one_mul _;obtain⟨l,aq⟩: ∃l,l=nm::ey L dg nm:=⟨_,rfl⟩;have mI:l.length=dg+1:=by rw[aq,as4,b6]
 refine aW [2,5,6,7,8,10] Tryz.func133 rfl rfl rfl rfl ?_;have m1:(0:Int)<=1/\(0:Int)<=(z:Int)/\(z:Int)<=64:=by have:=eD.b3;omega
 have m2:(-9223372036854775808:Int)<=1*((2 ^z:Nat):Int)/\(1:Int)*((2 ^z:Nat):Int)<=9223372036854775807:=by rw[aj];omega
 refine⟨m1,m2,bt.ab0 20 au6 ?_⟩;refine bz [5,6,7,8,10] (af.sub (K':=aeE z nm k) (B':=bP z U L) ⟨trivial,rfl,rfl,rfl,aj,trivial⟩ ac) ?_;refine⟨_,_,fun N=>ab1 (d:=20) rfl Tryz.underlying96 aeH aeI aeJ rfl N,rfl,?_⟩;refine au (zQ z U L eD.tohU nm dg h4 au5) ?_;have gY: [nm].length+(ey L dg nm).length<=4294967296:=by rw[b6];simp;omega
 refine⟨gY,rfl,dX [5,6,7,8,10] (X:=Nat) (FW z k l) (fun _=>bP z U L) (fun j=>j<=l.length/\mL z L k (l.drop j) j=mL z L k l 0) (fun j=>l.length - j) 0 ⟨ap7 _,by rw[List.drop_zero]⟩ ?_ ?_⟩
 .subst aq;exact(af.dV (e:=9) (u:=.str) (xs:=nm::ey L dg nm) 24 rfl).trans (af.sub ac ac)
 rintro j ⟨aa,i9⟩;rw[<-aq];refine⟨fun h=>?_,fun h=>?_⟩
 .have h:decide ((j:Int) < (l.length:Nat))=true:=h;have fh:j < l.length:=by simpa using h
  obtain⟨d,J⟩:=iN l[j] (by rw[<-aq];exact ar3 fh);have FX:=(c1 J).1;obtain⟨fg,g0,pB⟩:=eD.hh d FX;have lG:=eD.tohU.D FX;have fv:=eD.tohU.M FX;have hx:(b0 (aJ:=.str) (aL:=.aM) (c3 L) l[j]).getD (cK .aM)=some d.ad:=by rw[jP,J];rfl
  have Cg:l.drop j=l[j]::l.drop (j+1):=List.drop_eq_getElem_cons fh
  have xR:mL z L k (l.drop j) j=if k < d.im.t.length/\(d.im.t.getD k cD).1≠0 then(fL d.im k none,j+1) else mL z L k (l.drop (j+1)) (j+1):=by
   rw[Cg];show(match dk L l[j] with |none=>([],0) |some d=>_)=_;rw[J]
  have m3:(0:Int)<=(j:Int):=by omega
  have rq:cY ((j:Int)+1):=by omega
  refine⟨m3,l[j],jv (n:=j) fh,?_⟩;generalize l[j]=n at*;refine bz [6,7,8,10] (cG ((9,ae (j:Nat))::(10,bV n)::FW z k l j) (bP z U L)) ?_;refine⟨_,_,fun N=>iY (b:=d.ad) rfl (by exact nY hx) N,rfl,?_⟩;refine⟨_,_,fun N=>jb rfl Tryz.underlying86 rfl rfl gb (by rw[gc];decide) rfl N,rfl,?_⟩;refine⟨_,_,fun N=>k8 (q:=1003) rfl Tryz.underlying43 rfl rfl rfl lG rfl N,rfl,?_⟩;refine bz [7,8,10] (cG ((9,ae (j:Nat))::(11,dn d.am)::FW z k l j) (bP z U L)) ?_;refine au (hV (na d.im) fv rfl rfl rfl rfl) ?_;refine⟨fun E=>?_,fun E=>?_⟩
  .have E:(k:Int) < (d.im.t.length:Nat):=gd E;have cn:k < d.im.t.length:=by omega
   refine au (hV (zM d.im fg.eW k cn) fv rfl rfl rfl rfl) ?_;refine⟨fun G=>?_,fun G=>?_⟩
   .have G:(d.im.t.getD k cD).1≠0:=by
     have G:(!decide ((d.im.t.getD k cD).1=0))=true:=G;simpa using G
    rw[xR,if_pos ⟨cn,G⟩] at i9;have fq:=aeD fg cn;have tw:=Rw d.im fg (k*2 ^d.im.z) (2 ^d.im.z) fq;rw[aeB fg cn] at tw;rw[g0] at tw fq;have c2:((k*2 ^z:Nat):Int)=(k:Int)*((2 ^z:Nat):Int):=Int.natCast_mul _ _;rw[c2] at tw
    have jc:cY ((k:Int)*((2 ^z:Nat):Int)):=by
     rw[<-c2];have:=Nat.mul_le_mul ab ag.2;omega
    refine bz [8,10] (cG ((9,ae (j:Nat))::(11,dn d.am)::FW z k l j) (bP z U L)) ?_;refine⟨jc,au (hV tw fv rfl rfl rfl rfl) ?_⟩;refine bz [] (aH) ?_;have tt:cY ((j:Int)+1):=by omega
    refine⟨tt,_,_,_,aH,rfl,⟨?_,?_,trivial⟩,ac,rfl⟩
    .exact congrArg Prod.fst i9
    .show(j:Int)+1=_;rw[<-i9];rfl
   .have G:(d.im.t.getD k cD).1=0:=by
     have G:(!decide ((d.im.t.getD k cD).1=0))=false:=G;simpa using G
    rw[xR,if_neg (fun h=>h.2 G)] at i9;exact⟨rq,j+1,⟨fh,i9⟩,au5,af.sub ac ac⟩
  .have E: ¬(k:Int) < (d.im.t.length:Nat):=mu E;rw[xR,if_neg (fun h=>E (by have:=h.1;omega))] at i9;exact⟨rq,j+1,⟨fh,i9⟩,au5,af.sub ac ac⟩
 .have h:decide ((j:Int) < (l.length:Nat))=false:=h;have fh:j=l.length:=by simp at h;omega
  subst fh;rw[List.drop_length] at i9;have zR:((2 ^z:Nat):Int)*16=((16*2 ^z:Nat):Int):=by omega
  have KL:cY (((2 ^z:Nat):Int)*16):=by rw[zR];omega
  have KM:((2 ^z:Nat):Int)*16=((2 ^z:Nat):Int)*16/\(0:Int)<=((2 ^z:Nat):Int)*16/\((2 ^z:Nat):Int)*16<=4294967296:=by rw[zR];omega
  refine bz [] (aH) ?_;refine⟨KL,KM,rfl,_,_,_,af.dV 65 rfl,rfl,⟨?_,?_,trivial⟩,ac,rfl⟩
  .have aeK:List.replicate (((2 ^z:Nat):Int)*16).toNat (0:UInt8)=(mL z L k l 0).1:=by
    rw[<-i9,zR];rfl
   exact aeK
  .show(0:Int)=_;rw[<-i9];rfl
theorem aeL {a b:Int} (E:0<=a) (G:a<=9223372036854775807) (al:0<=b) (aZ:b<=9223372036854775807):
  IntKind.i64.wrap (((BitVec.ofInt 64 a &&& BitVec.ofInt 64 b).toNat:Nat):Int)=((a.toNat &&& b.toNat:Nat):Int):=by
 have aj:(BitVec.ofInt 64 a).toNat=a.toNat:=by rw[BitVec.toNat_ofInt];omega
 have ap:(BitVec.ofInt 64 b).toNat=b.toNat:=by rw[BitVec.toNat_ofInt];omega
 rw[BitVec.toNat_and,aj,ap];have h:a.toNat &&& b.toNat < 2 ^63:=Nat.and_lt_two_pow _ au5;exact w4 (by simp only[tX];omega)
theorem FY {P:Program} {ids:List Nat} {K:a1} {B:ay} {o:Oper} {T fE:TypeId} {x y:Operand} {a b:Int} (ai:o.op= .binOp .and T x y fE) (hx:a7 K x= .c (.one (.d (.int .i64 a)))) (aC:a7 K y= .c (.one (.d (.int .i64 b)))) (E:0<=a) (G:a<=9223372036854775807) (al:0<=b) (aZ:b<=9223372036854775807) (N:Nat):
  bB P N ids o K B (.c (.one (.d (.int .i64 ((a.toNat &&& b.toNat:Nat):Int))))) ⟨[],[],[]⟩:=by
 have m1:x∈o.op.operands:=by rw[ai];simp[Op.operands]
 have m2:y∈o.op.operands:=by rw[ai];simp[Op.operands]
 refine bB.val fun K' B' g1 g2 C ρ F e' w ar av=>?_
 have aj:=av.int ((g1 x m1).trans hx);have ap:=av.int ((g1 y m2).trans aC);refine⟨_,?_,rfl⟩;have e:=aeL E G al aZ
 have ax:Op.intBits .and .i64 a b=pure (.int .i64 ((a.toNat &&& b.toNat:Nat):Int)):=by
  exact congrArg (fun aB:Int=>(pure (Value.int .i64 aB):Sem Value)) e
 simp only[execOp,ai,aj,ap,eqGuard,binOp,ax];simp[go_sem]
def pC (z:Nat) (L:List aO) (nm:List UInt8) (dg k:Nat):List UInt8:=(mL z L k (nm::ey L dg nm) 0).1
theorem KN (z U:Nat) (L:List aO) (eD:nd z U L) (nm:List UInt8) (bO:aO) (aw:dk L nm=some bO) (dg:Nat) (h4:eP L nm dg) (mM:dg<=100) (k:Nat) (ab:k < bO.im.t.length):
  Fn Tryz.prog 81 [ao 1001,bV nm,ae (k:Int)] (bP z U L) [] (bS .u8 (pC z L nm dg k)) (bP z U L):=by
 obtain⟨oU,gb,gc⟩:=j5 xQ;have J:=(c1 aw).1;obtain⟨fg,g0,pB⟩:=eD.hh bO J;have lG:=eD.tohU.D J;have fv:=eD.tohU.M J;have hx:(b0 (aJ:=.str) (aL:=.aM) (c3 L) nm).getD (cK .aM)=some bO.ad:=by rw[jP,aw];rfl
 have nc:=fg.eW;refine aW [2,4] Tryz.func81 rfl rfl rfl rfl ?_;refine bz [4] (aH) ?_;refine⟨fun dZ O=>?_,fun O=>absurd (show(b0 (aJ:=.str) (aL:=.aM) (c3 L) nm).getD (cK .aM)=none from O) (by rw[hx];intro h;cases h)⟩;refine⟨fun h=>absurd (gd h) au5,fun _=>?_⟩;refine⟨_,_,fun N=>iY (b:=bO.ad) rfl (by exact nY hx) N,rfl,?_⟩;refine⟨_,_,fun N=>jb rfl Tryz.underlying86 rfl rfl gb (by rw[gc];decide) rfl N,rfl,?_⟩;refine⟨_,_,fun N=>k8 (q:=1003) rfl Tryz.underlying43 rfl rfl rfl lG rfl N,rfl,?_⟩;refine au (hV (na bO.im) fv rfl rfl rfl rfl) ?_;refine⟨fun h=>?_,fun _=>?_⟩
 .exfalso;have h:((bO.im.t.length:Nat):Int)<=(k:Int):=gd h;omega
 refine bz [] (cG [(0,ao 1001),(1,bV nm),(2,ae (k:Int))] (bP z U L)) ?_;refine au (aeG z U L eD nm bO aw dg h4 mM k au5) ?_;exact aT aH rfl rfl ac rfl
theorem RR (z U:Nat) (E:z<=3) (al:U<=512):Fn Tryz.prog 17 [ae (z:Int),ae (U:Int)] [] [1001,1002,1003,1004] (.ce [.one (.ptr 1001 0),dw 0]) (bP z U []):=by
 refine aW [2] Tryz.func17 rfl rfl rfl rfl ?_;refine au (Fn.aX [(1001,2001),(1002,2002),(1003,2003),(1004,2004)] (aet z 0 U E au6 al)) ?_;refine bz [] (cG [(0,ae (z:Int)),(1,ae (U:Int)),(7,ae 0)] []) ?_;refine da ?_;refine⟨rfl,rfl,?_⟩;exact⟨_,_,_,(af.aX 21 1001 rfl).trans ((af.aX 19 1002 rfl).trans ((af.q8 1003 rfl).trans (af.q8 1004 rfl))),rfl,ac,ac,rfl⟩
def Cv (z:Nat) (L:List aO) (nm:List UInt8) (dg s:Nat):List UInt8:=((pC z L nm dg (s/2 ^z)).take (s % 2 ^z*16+16)).drop (s % 2 ^z*16)
def rt (z:Nat) (L:List aO) (nm:List UInt8) (dg a:Nat):Nat->List UInt8
 |0=>[]
 |j+1=>rt z L nm dg a j++Cv z L nm dg (a+j)
theorem RS {z U:Nat} {L:List aO} (h:nd z U L) (k:Nat): ∀(ns:List (List UInt8)) (i:Nat),(∀n,n∈ns-> ∃e,dk L n=some e)->(mL z L k ns i).1.length=16*2 ^z
 | [],i,_=>as7
 |n::ns,i,hn=>by
  obtain⟨d,e⟩:=hn n (aq1 ..);unfold mL;rw[e];simp only
  split
  .rename_i bl;obtain⟨fg,g0,_⟩:=h.hh d (c1 e).1;rw[xI fg bl.1 none];show 16*2 ^d.im.z=_;rw[g0]
  .exact RS h k ns (i+1) fun n aA=>hn n (ap2 _ aA)
theorem Cw {z U:Nat} {L:List aO} (h:nd z U L) {nm:List UInt8} {bO:aO} (aw:dk L nm=some bO) {dg:Nat} (h4:eP L nm dg) (k:Nat):(pC z L nm dg k).length=16*2 ^z:=
 RS h k _ 0 fun n hn=>by
  rcases ap3.1 hn with rfl |hn
  .exact⟨bO,aw⟩
  .exact KK h h4 n hn
theorem KO {z U:Nat} {L:List aO} (h:nd z U L) {nm:List UInt8} {bO:aO} (aw:dk L nm=some bO) {dg:Nat} (h4:eP L nm dg) (a:Nat): ∀j,(rt z L nm dg a j).length=16*j
 |0=>rfl
 |j+1=>by
  have br:=KO h aw h4 a j;have H:=Cw h aw h4 ((a+j)/2 ^z);have ag:=(ko h.b3).1;have aA:(a+j) % 2 ^z < 2 ^z:=Nat.mod_lt _ au5;show(rt z L nm dg a j++Cv z L nm dg (a+j)).length=_;rw[ap1,br];unfold Cv;rw[at1,ap8,H];generalize(a+j) % 2 ^z=m at*;generalize 2 ^z=P at*;omega
abbrev RT (nm:List UInt8) (a l j:Nat):a1:=[(0,ao 1001),(1,bV nm),(2,ae (a:Int)),(3,ae (l:Int)),(13,eM 5002),(14,ae ((a+j:Nat):Int))]
abbrev aeM (nm:List UInt8) (a l j:Nat):a1:=[(0,ao 1001),(1,bV nm),(2,ae (a:Int)),(3,ae (l:Int)),(13,eM 70),(14,ae ((a+j:Nat):Int))]
abbrev RU (z U:Int) (L:List aO) (acc:List UInt8):ay:=bP z U L++[(5002,.row 5 .u8 acc)]
abbrev aeN (z U:Int) (L:List aO) (acc:List UInt8):ay:=bP z U L++[(70,.row 5 .u8 acc)]
set_option maxHeartbeats 1000000 in
theorem aeO (z U:Nat) (L:List aO) (eD:nd z U L) (nm:List UInt8) (bO:aO) (aw:dk L nm=some bO) (dg:Nat) (h4:eP L nm dg) (mM:dg<=100) (a l:Nat) (fq:eh bO.im a l=0):
  Fn Tryz.prog 45 [ao 1001,bV nm,ae (a:Int),ae (l:Int)] (bP z U L) [2001] (.ce [.one (.own 2001),dw 0]) (bP z U L++[(2001,.row 5 .u8 (rt z L nm dg a l))]):=by
 obtain⟨oU,gb,gc⟩:=j5 xQ;have J:=(c1 aw).1;obtain⟨fg,g0,pB⟩:=eD.hh bO J;have lG:=eD.tohU.D J;have fv:=eD.tohU.M J;have hx:(b0 (aJ:=.str) (aL:=.aM) (c3 L) nm).getD (cK .aM)=some bO.ad:=by rw[jP,aw];rfl
 have ag:=ko eD.b3;have eB:=sn fq;have xM:hT bO.im<=2048:=Nat.mul_le_mul fg.eW (ko fg.z).2;have aeP:hT bO.im=bO.im.t.length*2 ^z:=by unfold hT;rw[g0]
 refine aW [2,5,7,9,11,12] Tryz.func45 rfl rfl rfl rfl ?_;refine bz [5,7,9,11,12] (aH) ?_;refine⟨fun dZ O=>?_,fun O=>absurd (show(b0 (aJ:=.str) (aL:=.aM) (c3 L) nm).getD (cK .aM)=none from O) (by rw[hx];intro h;cases h)⟩;refine⟨_,_,fun N=>iY (b:=bO.ad) rfl (by exact nY hx) N,rfl,?_⟩;refine⟨_,_,fun N=>jb rfl Tryz.underlying86 rfl rfl gb (by rw[gc];decide) rfl N,rfl,?_⟩;refine⟨_,_,fun N=>k8 (q:=1003) rfl Tryz.underlying43 rfl rfl rfl lG rfl N,rfl,?_⟩;refine au (hV (Rw bO.im fg a l fq) fv rfl rfl rfl rfl) ?_;refine bz [7,9,11,12] (cG [(0,ao 1001),(1,bV nm),(2,ae (a:Int)),(3,ae (l:Int)),(12,ae 0)] (bP z U L)) ?_;refine da ?_;refine bz [9,11,12] (aH) ?_;refine dX [11,12] (X:=Nat) (RT nm a l) (fun j=>RU z U L (rt z L nm dg a j)) (fun j=>j<=l) (fun j=>l - j) 0 (ap7 _) ?_ ?_
 .exact(af.nil 13 5002 5 .u8 rfl rfl).trans (af.sub ac ac)
 intro j aa;have m1:cY ((a:Int)+(l:Int)):=by omega
 refine⟨m1,fun h=>?_,fun h=>?_⟩
 .have h:((a+j:Nat):Int) < (a:Int)+(l:Int):=gd h;have rR:j < l:=by omega
  have KP:=KO eD aw h4 a j
  have cn:(a+j)/2 ^z < bO.im.t.length:=by
   rw[Nat.div_lt_iff_lt_mul au5,<-aeP];omega
  have dJ:=Cw eD aw h4 ((a+j)/2 ^z);have Oj:(a+j) % 2 ^z < 2 ^z:=Nat.mod_lt _ au5;have aeQ:=KN z U L eD nm bO aw dg h4 mM ((a+j)/2 ^z) cn;have m2:(0:Int)<=((a+j:Nat):Int)/\(0:Int)<=(z:Int)/\(z:Int)<=64:=by have:=eD.b3;omega
  have m3:(0:Int)<=1/\(0:Int)<=(z:Int)/\(z:Int)<=64:=by have:=eD.b3;omega
  have aj:(1:Int)*((2 ^z:Nat):Int)=((2 ^z:Nat):Int):=Int.one_mul _;have jc:(-9223372036854775808:Int)<=1*((2 ^z:Nat):Int)/\(1:Int)*((2 ^z:Nat):Int)<=9223372036854775807:=by rw[aj];generalize 2 ^z=P at*;omega
  have tt:(-9223372036854775808:Int)<=1*((2 ^z:Nat):Int) - 1/\(1:Int)*((2 ^z:Nat):Int) - 1<=9223372036854775807:=by rw[aj];generalize 2 ^z=P at*;omega
  refine bz [12] (aH) ?_;refine⟨m2,m3,jc,tt,?_⟩;have et:(1*((2 ^z:Nat):Int) - 1).toNat=2 ^z - 1:=by rw[aj];generalize 2 ^z=P at*;omega
  have ev:(((((a+j:Nat):Int)).toNat &&& (1*((2 ^z:Nat):Int) - 1).toNat:Nat):Int)=(((a+j) % 2 ^z:Nat):Int):=by
   rw[et,show(((a+j:Nat):Int)).toNat=a+j from rfl,Nat.and_two_pow_sub_one_eq_mod]
  have zR:(((((a+j:Nat):Int)).toNat &&& (1*((2 ^z:Nat):Int) - 1).toNat:Nat):Int)*16=(((a+j) % 2 ^z*16:Nat):Int):=by rw[ev];omega
  have aeR:((a+j:Nat):Int)/((2 ^z:Nat):Int)=(((a+j)/2 ^z:Nat):Int):=rfl
  have rq:cY ((((((a+j:Nat):Int)).toNat &&& (1*((2 ^z:Nat):Int) - 1).toNat:Nat):Int)*16):=by
   rw[zR];generalize(a+j) % 2 ^z=m at*;generalize 2 ^z=P at*;omega
  refine⟨_,_,fun N=>FY rfl rfl rfl m2.1 au5 (by rw[aj];generalize 2 ^z=P at*;omega) tt.2 N,rfl,?_⟩;refine⟨rq,rfl,?_⟩
  have KL:cY ((((a+j) % 2 ^z*16:Nat):Int)+16):=by
   generalize(a+j) % 2 ^z=m at*;generalize 2 ^z=P at*;omega
  have KM:(0:Int)<=(((a+j) % 2 ^z*16:Nat):Int)/\(((a+j) % 2 ^z*16:Nat):Int)<=(((a+j) % 2 ^z*16:Nat):Int)+16/\(((a+j) % 2 ^z*16:Nat):Int)+16<=(((pC z L nm dg ((a+j)/2 ^z)).length:Nat):Int):=by
   rw[dJ];generalize(a+j) % 2 ^z=m at*;generalize 2 ^z=P at*;omega
  have KQ:(rt z L nm dg a j).length+(Cv z L nm dg (a+j)).length<=4294967296:=by
   have:=KO eD aw h4 a (j+1);rw[show rt z L nm dg a (j+1)=rt z L nm dg a j++Cv z L nm dg (a+j) from rfl,ap1] at this;omega
  refine bz [] (af.sub (K':=(15,ae (((a+j)/2 ^z:Nat):Int))::(16,ae (((a+j) % 2 ^z*16:Nat):Int))::RT nm a l j) (B':=RU z U L (rt z L nm dg a j)) ⟨aeR,zR,rfl,rfl,rfl,rfl,rfl,rfl,trivial⟩ ac) ?_;refine au aeQ ?_;refine⟨KL,KM,KQ,rfl,?_⟩;have aeS:cY (((a+j:Nat):Int)+1):=by omega
  refine⟨aeS,j+1,au5,au5,?_⟩;exact af.trans (cG (aeM nm a l (j+1)) (aeN z U L (rt z L nm dg a (j+1)))) (af.aX 70 5002 rfl)
 .have h: ¬((a+j:Nat):Int) < (a:Int)+(l:Int):=mu h;have rR:j=l:=by omega
  subst rR;exact⟨_,_,_,af.aX 5002 2001 rfl,rfl,ac,ac,rfl⟩
theorem aeT (z U:Nat) (L:List aO) (eD:nd z U L) (nm:List UInt8) (bO:aO) (aw:dk L nm=some bO) (dg:Nat) (h4:eP L nm dg) (mM:dg<=100) (a l:Nat) (fq:eh bO.im a l=0):
  Fn Tryz.prog 45 [ao 1001,bV nm,ae (a:Int),ae (l:Int)] (bP z U L) [] (.ce [.one (.d (.ck .u8 (rt z L nm dg a l))),dw 0]) (bP z U L):=
 Fn.adM (d:=2001) (aeO z U L eD nm bO aw dg h4 mM a l fq) rfl rfl rfl
theorem aeU (z U:Int) (L:List aO) (nm:List UInt8) (aw:dk L nm=none) (a l:Int):
  Fn Tryz.prog 45 [ao 1001,bV nm,ae a,ae l] (bP z U L) [] (.ce [.one .dD,dw 140]) (bP z U L):=by
 have hx:(b0 (aJ:=.str) (aL:=.aM) (c3 L) nm).getD (cK .aM)=none:=by rw[jP,aw];rfl
 refine aW [] Tryz.func45 rfl rfl rfl rfl ?_;refine⟨fun dZ O=>absurd (show(b0 (aJ:=.str) (aL:=.aM) (c3 L) nm).getD (cK .aM)=some dZ from O) (by rw[hx];intro h;cases h),fun _=>?_⟩;exact aT aH rfl ac ac rfl
theorem aeV (z U:Nat) (L:List aO) (eD:nd z U L) (nm:List UInt8) (bO:aO) (aw:dk L nm=some bO) (a l:Int) (fq:eh bO.im a l≠0):
  Fn Tryz.prog 45 [ao 1001,bV nm,ae a,ae l] (bP z U L) [] (.ce [.one .dD,dw (eh bO.im a l)]) (bP z U L):=by
 obtain⟨oU,gb,gc⟩:=j5 xQ;have J:=(c1 aw).1;obtain⟨fg,g0,pB⟩:=eD.hh bO J;have lG:=eD.tohU.D J;have fv:=eD.tohU.M J;have hx:(b0 (aJ:=.str) (aL:=.aM) (c3 L) nm).getD (cK .aM)=some bO.ad:=by rw[jP,aw];rfl
 refine aW [] Tryz.func45 rfl rfl rfl rfl ?_;refine⟨fun dZ O=>?_,fun O=>absurd (show(b0 (aJ:=.str) (aL:=.aM) (c3 L) nm).getD (cK .aM)=none from O) (by rw[hx];intro h;cases h)⟩;refine⟨_,_,fun N=>iY (b:=bO.ad) rfl (by exact nY hx) N,rfl,?_⟩;refine⟨_,_,fun N=>jb rfl Tryz.underlying86 rfl rfl gb (by rw[gc];decide) rfl N,rfl,?_⟩;refine⟨_,_,fun N=>k8 (q:=1003) rfl Tryz.underlying43 rfl rfl rfl lG rfl N,rfl,?_⟩;refine au (hV (ad4 bO.im fg a l fq) fv rfl rfl rfl rfl) ?_;refine⟨fun _=>?_,fun h=>absurd (show eh bO.im a l=0 by have h:(!decide (eh bO.im a l=0))=false:=h;simpa using h) fq⟩;exact aT aH rfl ac ac rfl
end
section
open Go.RowKit Go.Proofs Go.Maps Go.Shelf Go.MapKept
open Go.WideElems (Fit rd rg pl rd_val rd_key rg_of)
def aeW {aL:bx} (p:Z .str×Z aL):List UInt8:=p.1
def l7 {aL:bx} (es:List (Z .str×Z aL)):List (List UInt8):=es.map aeW
def nf {aL:bx} (es:List (Z .str×Z aL)):List (List UInt8):=(l7 es).mergeSort leB
abbrev pD:Value->Option (DataW Unit×List MemPlace):=fun _=>some (.nil,[])
theorem RV {I:Nat->Prop} {w:World} {aL:bx}: ∀{l:List (Z .str×Z aL)} {es:List MapEntry},ie I w .str aL l es->es.map (·.key)=(l7 l).map encStr
 | [],_,h=>by rw[show _=[] from h];rfl
 |p::l,_,⟨e,r,h,E,_,al⟩=>by
  rw[h,aq4,RV al,E];rfl
theorem aeX {P:Program} {k:TypeId} (ab:P.underlying k=some .string) (s:List UInt8) (h:s.length<=maxLen):keyOf P k (encStr s)=some (.string s):=by
 simp only[keyOf,ab,encStr,mapKey,ByteArray.size,List.size_toArray];rw[if_pos h]
theorem RW: ∀{l m:List (List UInt8)},l.map encStr=m.map encStr->l=m
 | [],[],_=>rfl
 | [],_::_,h=>by simp at h
 |_::_,[],h=>by simp at h
 |x::l,y::m,h=>by
  simp only[aq4,List.cons.injEq] at h;rw[encStr_inj h.1,RW h.2]
theorem RX {P:Program} {k:TypeId} (ab:P.underlying k=some .string) {I:Nat->Prop} {w:World} {aL:bx} {es:List (Z .str×Z aL)} {bT:List MapEntry} {bU b:Nat} (O:w.heap[b]? =some (.map (List.toArray bT) bU))
  (aA:ie I w .str aL es bT) (c':lX bT bU) (hn:(l7 es).Nodup) (aq: ∀s∈l7 es,s.length<=maxLen) (ax:es.length<=maxLen):
  ∃je,w.ownsMap P k pD b es.length je/\Maps.size je=es.length/\(strKeys je).Perm (l7 es):=by
 have b6:=AZ aA;have xS:=RV aA
 have Cx: ∀x∈bT,∃s:List UInt8,x.key=encStr s/\s.length<=maxLen/\rg P k pD x=(.string s,.nil)/\ ∃y,rd P k pD x=some y:=by
  intro x hx;have:x.key∈(l7 es).map encStr:=by rw[<-xS];exact aq6 hx
  obtain⟨s,ag,V⟩:=ar2.1 this;have KR:keyOf P k x.key=some (.string s):=V▸aeX ab _ (aq s ag);have tw:rd P k pD x=some (.string s,.nil):=by simp[rd,KR]
  exact⟨s,V.symm,aq s ag,rg_of tw,_,tw⟩
 have oV:=Go.WideShapes.sorted_perm (bT.map (rg P k pD))
 have h4:(bT.map (rg P k pD)).map (fun p=>strOf p.1)=l7 es:=by
  refine RW ?_;rw[<-xS,as2,as2];refine ar1 fun x hx=>?_
  obtain⟨s,aj,_,ap,_⟩:=Cx x hx;simp[ap,aj,strOf]
 refine⟨.map ((bT.map (rg P k pD)).foldr DataW.insert []),⟨List.toArray bT,bU,O,⟨by simp[b6];exact ax,(stamped_iff _ _).2 ⟨c'.2,c'.1.imp fun h=>by omega,?_⟩,fun x hx=>(Cx x hx).choose_spec.2.2.2⟩,by simp[b6],rfl⟩,?_,?_⟩
 .have E:(bT.map (·.key)).Pairwise (· ≠ ·):=by
   rw[xS];exact List.pairwise_map.2 (hn.imp fun ba e=>ba (encStr_inj e))
  exact List.pairwise_map.1 E
 .show List.length _=_;rw[oV.length_eq,aq3,b6]
 .show(List.map (fun p=>strOf (Prod.fst p)) _).Perm _;rw[<-h4];exact oV.map _
theorem aeY (es:List (Z .str×Z .aM)):Fn Tryz.prog 185 [.c (.one (.mp 1001))] [(1001,.map .str .aM es)] [2001] (.c (.one (.cT 207 [.p 2001 0]))) [(2001,.cells [.mp 1001]),(1001,.map .str .aM es)]:=by
 refine aW [] Tryz.func185 rfl rfl rfl rfl ?_;refine⟨rfl,?_⟩;exact⟨_,_,_,af.aX 1 2001 rfl,rfl,rfl,ac,rfl⟩
theorem eL.RY {I D:Nat->Prop} {w:World} {v:Value} {l:List (List UInt8)} (h:eL D w 1 v l.length (l.map encStr)) (b9: ∀b,b < w.heap.size->D b->I b):cp I w (.b7 .str) l (fun _=>some v):=by
 obtain⟨_,A,c,aw,E,G,al⟩:=h;refine⟨A,c,congrArg some aw,E,G,fun ag=>?_⟩;obtain⟨b,o,eG,O,bw,hx⟩:=al ag;refine⟨b,o,eG,b9 b bw O,fun i x aI=>?_⟩;have:=hx i (encStr x) (by rw[ar0,show l[i]? =some x from aI];rfl);simpa[cp,aS,encStr] using this
theorem RZ (m:Nat):AnyZ.SortsIn Tryz.prog Tryz.QG Fence.wide m:=
 ⟨fun bk off cap g3 W cV jI cQ=>callsIn_wide.2 (AnyM.slices_Sort_string Tryz.QI bk off cap g3 W cV jI cQ),
  fun p cap W=>callsIn_wide.2 (AnyM.slices_Sort_string_none Tryz.QI p cap W)⟩
theorem aeZ (es:List (Z .str×Z .aM)) (hn:(l7 es).Nodup) (aq: ∀s∈l7 es,s.length<=maxLen) (ax:es.length<=4294967296):
  Fn Tryz.prog 167 [.c (.one (.cT 207 [.p 2001 0]))] [(2001,.cells [.mp 1001]),(1001,.map .str .aM es)] [] (bS .str (nf es)) [(2001,.cells [.mp 1001]),(1001,.map .str .aM es)]:=by
 refine⟨au8,fun ρ F I w bW bb cV bj eo b6 dt=>?_⟩
 match bW,b6 with
 | [v],_=>
  obtain⟨aD,az,f2,r,hq,l8,aF⟩:=dt 0 _ v rfl rfl;have aF:r=[]:=aF;have l8:f2= .pointer (some ⟨(ρ 2001).bk,0,none⟩):=l8;subst aF l8 hq az;obtain⟨_,aD,T,gQ,hq⟩:=cV 2001 _ rfl;obtain⟨x,r,hq,hx,aF⟩:=hq;have aF:r=[]:=aF;have hx:x= .map (some (ρ 1001).bk):=hx;subst aF hx hq;obtain⟨_,bT,bU,hc,aA,c'⟩:=cV 1001 _ rfl;have FZ:(4294967296:Nat)<=maxLen:=by decide
  obtain⟨je,du,cQ,oV⟩:=RX (P:=Tryz.prog) (k:=9) au8 hc aA c' hn aq au5;have bw:(ρ 2001).bk < w.heap.size:=k0 gQ
  have uK:SeqGives Fence.wide 2 Tryz.prog 207 #[.pointer (some ⟨(ρ 2001).bk,0,none⟩)] encStr (fun g3=>g3.Perm (strKeys je)) (Maps.size je) w:=
   AnyZ.keys_gives (ρ:=Tryz.QF) {Tryz.acy with} Fence.wide _ trivial rfl au5 (ρ 2001).bk (ρ 1001).bk es.length je w bw (oD gQ rfl) du
  have H:=AnyZ.sorted_in Tryz.QH Fence.wide 5 trivial trivial trivial trivial rfl au5 (RZ _) (enters_of Tryz.func194 au8 rfl) 207 #[.pointer (some ⟨(ρ 2001).bk,0,none⟩)] trivial (enters_of Tryz.func207 au8 rfl) _ _ (by rw[cQ];omega) (by rw[cQ];omega) _ uK;refine(callsIn_wide.1 H).mono ?_;rintro e w' ⟨v,g3,rfl,av,fW,xT,gC⟩;have aY:cd I w (fun b=>b < w'.heap.size/\(I b\/w.heap.size<=b)) w':=fun b fM=>⟨⟨Nat.lt_of_lt_of_le (bb b fM) gC.size,.inl fM⟩,gC.block b (bb b fM)⟩
  refine⟨v,ρ,F,rfl,cJ.mn gC,fun _ _=>rfl,_,aY,fun b h=>⟨h.1,h.2.imp id .inr⟩,fun c ch H=>Holds.cg aY (fun b O=>gC.block b (bj c ch H b O).1) gC.size ch (fun _ _=>rfl) (cV c ch H),fun c ch H b O=>?_,fun c bX ch ch' b E G=>eo c bX ch ch' b E G,?_⟩
  .have:=bj c ch H b O;exact⟨Nat.lt_of_lt_of_le this.1 gC.size,fun h=>(by rcases h.2 with h |h;exact this.2 h;omega),.inl ⟨c,ch,H,O⟩⟩
  .have ab:g3.mergeSort (fun x y=>decide (x<=y))=nf es:=Go.mergeSort_of_perm (av.trans oV);rw[ab] at fW;have ho:=eL.qO fW;have wd:g3.length=(nf es).length:=by rw[<-ab,List.length_mergeSort]
   rw[wd] at ho;exact(ho.wR fun i _ aI=>(fW.lt i aI).1).RY fun b E G=>⟨E,.inr G⟩
theorem zS (L:List aO):l7 (c3 L)=L.map (·.nm):=by
 unfold l7 c3;rw[as2];rfl
def lg (L:List aO):List (List UInt8):=nf (c3 L)
theorem ae0 {L:List aO} {n:List UInt8} (h:n∈lg L): ∃d,dk L n=some d:=by
 unfold lg nf at h;rw[List.mem_mergeSort,zS] at h;obtain⟨d,J,e⟩:=ar2.1 h
 cases ap:dk L n with
 |some d=>exact⟨d,rfl⟩
 |none=>
  unfold dk at ap;have:=List.find?_eq_none.1 ap d J;simp[e] at this
theorem R0 (L:List aO):(lg L).length=L.length:=by
 unfold lg nf;rw[List.length_mergeSort,zS,aq3]
theorem R1 (z U:Int) (L:List aO) (eH:hU L) (aq: ∀d,d∈L->d.nm.length<=100000) (nZ:L.length<=100):Fn Tryz.prog 147 [ao 1001] (bP z U L) [] (bS .str (lg L)) (bP z U L):=by
 have ab:(l7 (c3 L)).Nodup:=by rw[zS];exact eH.ik
 have aA: ∀s∈l7 (c3 L),s.length<=maxLen:=fun s ax=>by
  rw[zS] at ax;obtain⟨d,J,rfl⟩:=ar2.1 ax;exact as9 (aq d J) au6
 have ax:(c3 L).length<=4294967296:=by unfold c3;rw[aq3];omega
 refine aW [] Tryz.func147 rfl rfl rfl rfl ?_;refine au (Fn.aX [(1001,1002),(2001,5001)] (aeY (c3 L))) ?_;refine au (Fn.aX [(1001,1002),(2001,5001)] (aeZ (c3 L) ab aA ax)) ?_;exact aT aH rfl rfl ac rfl
def lH (L:List aO) (nm n:List UInt8):Bool:= !decide (nm=[])&&decide (((dk L n).map (·.back)).getD []=nm)
def oW (L:List aO) (nm:List UInt8):List (List UInt8):=(lg L).filter (lH L nm)
abbrev KS (nm:List UInt8) (l:List (List UInt8)) (j:Nat):a1:=[(0,ao 1001),(1,bV nm),(5,eM 5002),(9,bS .str l),(10,ae (l.length:Nat)),(11,ae (j:Nat))]
abbrev ae1 (nm:List UInt8) (l:List (List UInt8)) (j:Nat):a1:=[(0,ao 1001),(1,bV nm),(5,eM 33),(9,bS .str l),(10,ae (l.length:Nat)),(11,ae (j:Nat))]
abbrev KT (z U:Int) (L:List aO) (x:List (List UInt8)):ay:=bP z U L++[(5002,.row 9 .str x)]
abbrev ae2 (z U:Int) (L:List aO) (x:List (List UInt8)):ay:=bP z U L++[(33,.row 9 .str x)]
set_option maxHeartbeats 1000000 in
theorem ae3 (z U:Int) (L:List aO) (eH:hU L) (aq: ∀d,d∈L->d.nm.length<=100000) (nZ:L.length<=100) (nm:List UInt8):Fn Tryz.prog 95 [ao 1001,bV nm] (bP z U L) [] (bS .str (oW L nm)) (bP z U L):=by
 obtain⟨oU,gb,gc⟩:=j5 FT;have k4:=@ae0 L;have b6:=R0 L;have zz:=R1 z U L eH aq nZ;unfold oW;generalize lg L=l at*;refine aW [5,6,8] Tryz.func95 rfl rfl rfl rfl ?_;refine au zz ?_;refine dX [5,6,8] (X:=Nat) (KS nm l) (fun j=>KT z U L ((l.take j).filter (lH L nm))) (fun j=>j<=l.length) (fun j=>l.length - j) 0 (ap7 _) ?_ ?_
 .exact(af.nil 5 5002 9 .str rfl rfl).trans (af.sub ac ac)
 intro j aa;refine⟨fun h=>?_,fun h=>?_⟩
 .have h:decide ((j:Int) < (l.length:Nat))=true:=h;have fh:j < l.length:=by simpa using h
  obtain⟨d,J⟩:=k4 (ar3 fh);have lG:=eH.D (c1 J).1;have hx:(b0 (aJ:=.str) (aL:=.aM) (c3 L) l[j]).getD (cK .aM)=some d.ad:=by rw[jP,J];rfl
  have a8:lH L nm l[j]=(!decide (nm=[])&&decide (d.back=nm)):=by unfold lH;rw[J];rfl
  have xR:(l.take (j+1)).filter (lH L nm)=(l.take j).filter (lH L nm)++(if lH L nm l[j]=true then[l[j]] else[]):=by
   rw[as1 fh,List.filter_append]
   congr 1
   by_cases e:lH L nm l[j]=true
   .rw[if_pos e,List.filter_cons_of_pos e];rfl
   .rw[if_neg e,List.filter_cons_of_neg e];rfl
  have KU:((l.take j).filter (lH L nm)).length<=j:=as9 (List.length_filter_le _ _) (by rw[ap8];omega);have m3:(0:Int)<=(j:Int):=by omega
  have rq:cY ((j:Int)+1):=by omega
  have ed:lH L nm l[j]=false->(l.take (j+1)).filter (lH L nm)=(l.take j).filter (lH L nm):=fun e=>by rw[xR,if_neg (by rw[e];decide),as5]
  refine⟨m3,l[j],jv (n:=j) fh,?_⟩;generalize l[j]=n at*;refine bz [6,8] (cG ((7,bV n)::KS nm l j) (KT z U L ((l.take j).filter (lH L nm)))) ?_;refine⟨fun E=>?_,fun E=>?_⟩
  .have E: ¬nm=[]:=by
    have E:(!decide (nm=[]))=true:=E;simpa using E
   refine⟨_,_,fun N=>iY (b:=d.ad) rfl (by exact nY hx) N,rfl,?_⟩;refine⟨_,_,fun N=>jb rfl Tryz.underlying86 rfl rfl gb (by rw[gc];decide) rfl N,rfl,?_⟩;refine⟨_,_,fun N=>k8 (q:=1003) rfl Tryz.underlying9 rfl rfl rfl lG rfl N,rfl,?_⟩;refine⟨fun G=>?_,fun G=>?_⟩
   .have G:d.back=nm:=gd G;have Ew:lH L nm n=true:=by rw[a8,ar8 E,aq2 G];rfl
    rw[if_pos Ew] at xR;have KQ:((l.take j).filter (lH L nm)).length+1<=4294967296:=by omega
    refine bz [] (cG ((7,bV n)::KS nm l j) (KT z U L ((l.take j).filter (lH L nm)))) ?_;refine⟨KQ,rfl,rq,j+1,fh,au5,?_⟩;exact af.trans (af.sub (K':=ae1 nm l (j+1)) (B':=ae2 z U L ((l.take (j+1)).filter (lH L nm))) ac ⟨rfl,rfl,rfl,rfl,congrArg (fun l:List (List UInt8)=>some (bd.row 9 .str l)) xR.symm,trivial⟩) (af.aX 33 5002 rfl)
   .have G: ¬d.back=nm:=mu G;have ab:=ed (by rw[a8,ar8 G,Bool.and_false]);exact⟨rq,j+1,fh,au5,af.sub ac ⟨rfl,rfl,rfl,rfl,congrArg (fun l:List (List UInt8)=>some (bd.row 9 .str l)) ab.symm,trivial⟩⟩
  .have E:nm=[]:=by
    have E:(!decide (nm=[]))=false:=E;simpa using E
   have ab:=ed (by rw[a8,aq2 E];rfl);exact⟨rq,j+1,fh,au5,af.sub ac ⟨rfl,rfl,rfl,rfl,congrArg (fun l:List (List UInt8)=>some (bd.row 9 .str l)) ab.symm,trivial⟩⟩
 .have h:decide ((j:Int) < (l.length:Nat))=false:=h;have fh:j=l.length:=by simp at h;omega
  subst fh;have cr:(l.take l.length).filter (lH L nm)=l.filter (lH L nm):=by rw[aq9]
  refine bz [] (aH) ?_;exact⟨_,_,_,af.dV 5002 rfl,rfl,cr,ac,rfl⟩
def pE:List aO->List UInt8->List aO
 | [],_=>[]
 |d::L,nm=>if d.nm=nm then L else d::pE L nm
theorem pF (d:aO) (L:List aO) (nm:List UInt8):dk (d::L) nm=if d.nm=nm then some d else dk L nm:=by
 unfold dk;rw[List.find?_cons]
 by_cases e:d.nm=nm
 .rw[aq2 e,if_pos e]
 .rw[ar8 e,if_neg e]
theorem we {L:List aO} {nm:List UInt8} {d:aO} (h:d∈pE L nm):d∈L:=by
 induction L with
 |nil=>exact h
 |cons e L br=>
  unfold pE at h
  split at h
  .exact ap2 _ h
  .rcases ap3.1 h with rfl |h
   .exact aq1 ..
   .exact ap2 _ (br h)
theorem F0 (L:List aO) (nm:List UInt8):(pE L nm).Sublist L:=by
 induction L with
 |nil=>exact .slnil
 |cons e L br=>
  unfold pE
  split
  .exact List.sublist_cons_self ..
  .exact br.cons_cons _
theorem hU.k6 {L:List aO} (h:hU L) (nm:List UInt8):hU (pE L nm):=
 ⟨h.ik.sublist ((F0 L nm).map _),h.lf.sublist ((F0 L nm).map _),h.wc.sublist ((F0 L nm).map _)⟩
end
section
theorem ae4:(Tryz.prog.info? 5).map (fun i=>(i.zero,i.size,i.bytes))=some (some (.int .u8 0),1,1):=by kernel_rfl
set_option maxHeartbeats 400000 in
theorem ae5 (v:Value) (l:List UInt8) (D:Nat->Prop) (w:World) (az:kE D w v l) (ax:l.length<=4294967296):
  Calls Tryz.prog 152 #[v] w fun e w'=> ∃cU,e= .returned cU/\kE (fun i=>w.heap.size<=i) w' cU l/\Below w.heap.size w w':=by
 obtain⟨A,c,rfl,dP,d7⟩:=az.form;have R2:=Lib.hid az;clear az;generalize hn:l.length=n at*;have R3:=Lib.hid hn;clear hn;rcases A with _ |ad
 .have xT:=Lib.run_eql_slice_nil (P:=Tryz.prog)
  have aw:l=[]:=by
   obtain⟨aq,A',bX,V,_,_,al⟩:=R2.out;rcases Nat.eq_zero_or_pos l.length with h |h
   .exact List.eq_nil_of_length_eq_zero h
   .obtain⟨b,o,ha,_⟩:=al h;subst ha;cases V
  have ae6:=Lib.hid aw;clear aw
  go_enter Tryz.func152,Tryz.ntmps152
  go_wp2_with fail
  go_ret
  refine⟨_,rfl,?_,Below.refl _ _⟩;rw[ae6.out];exact eL.nil _ _ _
 .have xT:=Lib.run_eql_slice_nil (P:=Tryz.prog)
  go_enter Tryz.func152,Tryz.ntmps152
  clear d7 dP
  go_wp2_with (at_builtin;refine N2 _ rfl (.tmp 5) (.tmp 6) _ rfl w.heap.size 5 _ 1 1 Tryz.underlying25 ae4 rfl au5 (.slice (some ⟨w.heap.size,0,none⟩) 0 0) 0 [] rfl ?cB D (.slice (some ad) n c) n (l.map hY) rfl ?cL (N3 l) ?gP ?tx ?Cy ?_)
  case cB=>exact⟨au7,.inr ⟨w.heap.size,0,#[],rfl,ap0 _,heap_alloc_new w _,ap0 _,au6,rfl,rfl⟩⟩
  case cL=>
   have h:=R2.out;unfold kE at h;rw[R3.out] at h;exact h.mono (kD.mn ((Below.refl _ _).alloc (ap0 _) _)) au7 (fun _ _ h=>h)
  case gP=>simp only[maxLen];omega
  case tx=>omega
  case Cy=>simp
  intro cU dz du nB iR
  go_wp2
  go_ret
  refine⟨cU,rfl,?_,?_⟩
  .unfold kE;rw[R3.out];have h:=eL.qO du;exact h.wR fun i _ aI=>(du.lt i aI).1
  .exact((Below.refl _ _).alloc (ap0 _) _).grown nB au7 (fun k ab=>by simp[Value.ownBlock] at ab;omega)
end
section
def qm (c:UInt8):Bool:=(97<=c.toNat&&c.toNat<=122)||(48<=c.toNat&&c.toNat<=57)||c.toNat == 46||c.toNat == 45
def xU (s:ByteArray):Bool:=decide (1<=s.size)&&decide (s.size<=15)&&s.data.toList.all qm
theorem ae7 (s:ByteArray) (pos:Nat) (h:pos < s.size) (ha: ¬(s[pos]'h).toNat < 128):128<=(Utf8.decode s pos).1/\(Utf8.decode s pos).1<=1114111:=by
 have e:s.get! (pos+0)=s[pos]'h:=by
  show s.get! pos=_;simp[ByteArray.get!,getElem!_pos,h];rfl
 have O:(s[pos]'h).toNat < 256:=(s[pos]'h).toNat_lt;unfold Utf8.decode;simp only[e];rw[if_neg au5]
 split
 .split <;>simp[Utf8.runeError] <;>omega
 .split
  .split
   .rename_i G;simp[Utf8.valid] at G;simp only;omega
   .simp[Utf8.runeError]
  .split
   .split
    .rename_i G;simp[Utf8.valid] at G;simp only;omega
    .simp[Utf8.runeError]
   .simp[Utf8.runeError]
theorem ae8 {P:Program} (w:World) (s:ByteArray) (pos:Nat) (ty:TypeId) (h:pos < s.size):
  (Instr.next (.pointer (some ⟨w.heap.size,0,none⟩)) true ty).run P (w.iter s pos)=
   .ok (.tuple #[.bool true,.int .i64 pos,.int .i32 (Utf8.decode s pos).1]) (w.iter s (pos+(Utf8.decode s pos).2)):=by
 simp only[Instr.next,getObj,setObj,Sem.run_bind,Sem.run,World.iter_heap,Result.andThen,h,if_true];simp[goInt,World.iter_set]
theorem R4 {s:ByteArray} {j:Nat} (aa:j < s.size) (h:qm (s[j]'aa)=false):xU s=false:=by
 unfold xU
 have:s.data.toList.all qm=false:=by
  rw[List.all_eq_false];exact⟨s[j]'aa,ar3 (by simpa using aa),by simp[h]⟩
 rw[this,Bool.and_false]
def KV (B:Nat) (w:World):Nat:=match w.heap[B]? with |some (.stringIter _ p)=>p |_=>0
theorem R5 (w:World) (s:ByteArray) (k:Nat):KV w.heap.size (w.iter s k)=k:=by simp[KV,World.iter_heap]
theorem KW (w:World) (s:ByteArray) (k:Nat):Below w.heap.size w (w.iter s k):=(Below.refl _ _).alloc (ap0 _) _
theorem ae9 {s:ByteArray} {k:Nat} (h: ∀j (aa:j < s.size),j < k->qm (s[j]'aa)=true) (ab:k < s.size) (E:qm (s[k]'ab)=true): ∀j (aa:j < s.size),j < k+1->qm (s[j]'aa)=true:=by
 intro j aa bw
 by_cases e:j=k
 .subst e;exact E
 .exact h j aa au5
theorem ae' {s:ByteArray} (h: ∀j (aa:j < s.size),qm (s[j]'aa)=true):xU s=(decide (1<=s.size)&&decide (s.size<=15)):=by
 unfold xU
 have:s.data.toList.all qm=true:=by
  rw[ar4];intro x hx;obtain⟨j,aa,rfl⟩:=List.getElem_of_mem hx;exact h j (by simpa using aa)
 rw[this,Bool.and_true]
set_option maxHeartbeats 1000000 in
theorem afa (s:ByteArray) (w:World) (ax:s.size<=maxLen):
  Calls Tryz.prog 40 #[.string s] w fun e w'=>e= .returned (.bool (xU s))/\Below w.heap.size w w':=by
 unfold maxLen at ax
 go_enter Tryz.func40,Tryz.ntmps40
 go_wp2
 go_loopw [4,7,8,9,10,11,12,13,14,15,16,17,18,19,20,21,22,23,24,25,26,27,28,29,30,31] (fun _ _ _ _ _ _ _ _ _ _ _ _ _ _ _ _ _ _ _ _ _ _ _ _ _ _ wr=> ∃k:Nat,k<=s.size/\wr=w.iter s k/\ ∀j (aa:j < s.size),j < k->qm (s[j]'aa)=true) (fun _ _ _ _ _ _ _ _ _ _ _ _ _ _ _ _ _ _ _ _ _ _ _ _ _ _ wr=>s.size - KV w.heap.size wr)
 case atStart=>exact⟨0,ap7 _,rfl,fun _ _ h=>absurd h au5⟩
 case round=>
  obtain⟨k,ab,rfl,eB⟩:=hrel;have KX:=Lib.hid eB;clear eB
  by_cases bw:k < s.size
  .by_cases ha:(s[k]'bw).toNat < 128
   .have hn:=fun ty=>run_next_ascii (P:=Tryz.prog) w s k ty bw ha
    go_wp2
    all_goals first
     |(
      refine⟨⟨k+1,bw,rfl,ae9 KX.out bw ?_⟩,?_⟩
      .clear hn;simp_all [qm];omega
      .rw[R5,R5];omega)
     |(
      go_ret
      refine⟨?_,KW _ _ _⟩;rw[R4 bw (by clear hn;simp_all [qm];omega)];rfl)
   .obtain⟨hz,i5⟩:=ae7 s k bw ha;have hn:=fun ty=>ae8 (P:=Tryz.prog) w s k ty bw
    generalize Utf8.decode s k=d at*;have b1:(((d.1:Nat):Int) != 46)=true:=by rw[bne_iff_ne];omega
    have b2:(((d.1:Nat):Int) != 45)=true:=by rw[bne_iff_ne];omega
    go_wp2
    go_ret
    exact⟨by rw[R4 bw (by clear hn;simp[qm];omega)];rfl,KW _ _ _⟩
  .have hn:=fun ty=>run_next_end (P:=Tryz.prog) w s k ty bw
   have fd:k=s.size:=by omega
   have aF:xU s=(decide (1<=s.size)&&decide (s.size<=15)):=ae' fun j aa=>KX.out j aa au5
   clear fd KX;have afb:=Lib.hid aF;clear aF
   go_wp2
   all_goals
    go_ret
    refine⟨?_,KW _ _ _⟩;rw[afb.out];refine congrArg (fun b=>Ending.returned (.bool b)) ?_;rw[Bool.eq_iff_iff];simp;omega
end
section
theorem Fn.pure {P:Program} {f:FuncId} {args:List aQ} {res:aQ} (fR:jl P f=true)
  (h: ∀(ρ:Nat->bo) (I:Nat->Prop) (w:World) (bW:List Value),(∀b,I b->b < w.heap.size)->bW.length=args.length->(∀(i:Nat) (v:aQ) (x:Value),args[i]? =some v->bW[i]? =some x->ct ρ I w v x)->
   Calls P f bW.toArray w fun e w'=> ∃x,e= .returned x/\Below w.heap.size w w'/\ ∀I':Nat->Prop,cd I w I' w'->(∀b,w.heap.size<=b->b < w'.heap.size->I' b)->ct ρ I' w' res x):Fn P f args [] [] res []:=by
 refine⟨fR,?_⟩;intro ρ F I w bW bb _ _ _ b6 dt;refine(h ρ I w bW bb b6 dt).mono ?_;rintro e w' ⟨x,rfl,O,hx⟩;have aY:cd I w (fun b=>b < w'.heap.size/\(I b\/w.heap.size<=b)) w':=fun b fM=>⟨⟨Nat.lt_of_lt_of_le (bb b fM) O.size,.inl fM⟩,O.block b (bb b fM)⟩
 exact⟨x,ρ,F,rfl,cJ.mn O,fun _ _=>rfl,_,aY,fun b h=>⟨h.1,h.2.imp id .inr⟩,fun c ch H=>(by simp[ah] at H),fun c ch H=>(by simp[ah] at H),fun c bX ch ch' b H=>(by simp[ah] at H),hx _ aY fun b E G=>⟨G,.inr E⟩⟩
theorem R6 {P:Program} {f:FuncId} {s:aQ} {res:aQ} (fR:jl P f=true)
  (h: ∀(ρ:Nat->bo) (I:Nat->Prop) (w:World) (v:Value),(∀b,I b->b < w.heap.size)->ct ρ I w s v->
   Calls P f #[v] w fun e w'=> ∃x,e= .returned x/\Below w.heap.size w w'/\ ∀I':Nat->Prop,cd I w I' w'->(∀b,w.heap.size<=b->b < w'.heap.size->I' b)->ct ρ I' w' res x):Fn P f [s] [] [] res []:=
 Fn.pure fR fun ρ I w bW bb aq J=>by
  match bW,aq with
  | [v],_=>exact h ρ I w v bb (J 0 s v rfl rfl)
theorem cp.bytes {I:Nat->Prop} {w:World} {v:Value} {l:List UInt8} (bb: ∀b,I b->b < w.heap.size) (h:cp I w (.b7 .u8) l (fun _=>some v)):kE I w v l:=by
 obtain⟨A,cap,aw,E,G,al⟩:=h;injection aw with aw
 refine⟨au7,A,cap,aw,E,G,fun ag=>?_⟩;obtain⟨b,o,eG,O,hx⟩:=al ag;refine⟨b,o,eG,O,bb b O,fun j u a8=>?_⟩;rw[ar0] at a8;obtain⟨x,Bi,rfl⟩:=as0.1 a8;have:=hx j x Bi;simpa[cp,aS,hY] using this
theorem kE.afc {I D:Nat->Prop} {w:World} {v:Value} {l:List UInt8} (h:kE D w v l) (b9: ∀b,b < w.heap.size->D b->I b):cp I w (.b7 .u8) l (fun _=>some v):=by
 obtain⟨_,A,cap,aw,E,G,al⟩:=h;refine⟨A,cap,congrArg some aw,E,G,fun ag=>?_⟩;obtain⟨b,o,eG,O,bw,hx⟩:=al ag;refine⟨b,o,eG,b9 b bw O,fun i x aI=>?_⟩;have:=hx i (hY x) (by rw[ar0,show l[i]? =some x from aI];rfl);simpa[cp,aS,hY] using this
def gp (s:List UInt8):Bool:=decide (1<=s.length)&&decide (s.length<=15)&&s.all qm
theorem qn (s:List UInt8) (ax:s.length<=4294967296):Fn Tryz.prog 40 [bV s] [] [] (fI (gp s)) []:=
 R6 au8 fun ρ I w v bb az=>by
  rw[show v= .string ⟨s.toArray⟩ from az];refine(afa ⟨s.toArray⟩ w (by simp only[ByteArray.size,maxLen,List.size_toArray];omega)).mono ?_;rintro e w' ⟨rfl,O⟩;exact⟨_,rfl,O,fun I' _ _=>show Value.bool _=Value.bool _ by simp[xU,gp,ByteArray.size]⟩
theorem KY (l:List UInt8) (ax:l.length<=4294967296):Fn Tryz.prog 152 [bS .u8 l] [] [] (bS .u8 l) []:=
 R6 au8 fun ρ I w v bb az=>by
  refine(ae5 v l I w (cp.bytes bb az) ax).mono ?_;rintro e w' ⟨x,rfl,hx,O⟩;exact⟨x,rfl,O,fun I' _ hn=>hx.afc fun b E G=>hn b G E⟩
end
section
theorem fb.zT {I:Nat->Prop} {w:World} {L L':List (Nat×bh)} (h:L.Perm L'): ∀{F:Nat->Prop},fb I w L F->fb I w L' F:=by
 induction h with
 |nil=>exact fun h=>h
 |cons x h br=>
  rintro F ⟨cu,cI,p,E,G,al,aZ,bK⟩;exact⟨cu,cI,p,E,G,al,aZ,br bK⟩
 |swap x y l=>
  rintro F ⟨cu,cI,p,E,G,al,aZ,oM,qa,r,g1,g2,cX,jo,BL⟩;refine⟨oM,fun aB=>cu aB\/qa aB,r,fun aB=>by rw[E,g1];exact JY,fun aB aR aC=>?_,cX,jo,cu,qa,p,fun aB=>Iff.rfl,fun aB aR aC=>G aB aR ((g1 aB).2 (.inr aC)),al,aZ,BL⟩;rcases aC with aC |aC
  .exact G aB aC ((g1 aB).2 (.inl aR))
  .exact g2 aB aR aC
 |trans _ _ ox oy=>exact fun h=>oy (ox h)
theorem af.zT {ids:List Nat} {K:a1} {B:ay} (q:Nat) {L L':List (Nat×bh)} (ag:L.Perm L') (aV:ah B q=some (.aG (.bA L))):af ids K B K ((q,.aG (.bA L'))::B):=by
 rintro N C a w ⟨hn,J,ρ,F,ar,av⟩;obtain⟨bN,aY⟩:=ar.hN (w':=w) (ch:=.aG (.bA L')) aV (cJ.refl _ _) fun I bb=>((ar.holds q _ aV:fb _ w L (F q)).zT ag).cg bb (ap0 _) fun _ _=>rfl
 exact⟨hn,J,ρ,F,bN,av.mono aY fun _ _ _=>rfl⟩
theorem afd {s:bL}:(iZ s).oP:=by
 rintro I F w p ⟨ρ,b8,E,G,al,aZ⟩;obtain⟨bj,_⟩:=G 1001 _ rfl;exact(aZ _).2 ⟨1001,_,rfl,(bj _).2 (by rw[E])⟩
def KZ (L:List aO):Prop:= ∀d,d∈L->d.cP=none
theorem afe {d:aO} (h:d.cP=none):kr d=iZ d.im:=by unfold kr;rw[h]
theorem aff (L:List aO) (cW:KZ L): ∀p∈h6 L,p.2.oP:=fun p ag=>by
 obtain⟨d,J,rfl⟩:=ar2.1 ag;show(kr d).oP;rw[afe (cW d J)];exact afd
theorem afg (L:List aO): ∀p∈l6 L,p.2.oP:=fun p ag=>by
 obtain⟨d,_,rfl⟩:=ar2.1 ag;exact fun I F w p h=>(h.1 _).2 rfl
theorem Cz (z size U:Nat) (E:z<=3) (G:size<=256) (al:U<=512):Fn Tryz.prog 39 [ae (z:Int),ae (size:Int),ae (U:Int)] [] [1001] (.ce [.one (.ptr 1001 0),dw 0]) [(1001,.aG (iZ (hF z size U)))]:=by
 refine aW [3] Tryz.func39 rfl rfl rfl rfl ?_;refine au (Fn.aX [(1001,1002),(1002,2002)] (Km size G)) ?_;refine au (Fn.aX [(1001,1003),(1002,2003)] (Fz (U:Int) au5 au5)) ?_;refine bz [] (cG [(0,ae (z:Int)),(8,ao 1002),(9,ae 0),(10,ao 1003),(11,ae 0)] [(1002,.aG (rj (List.replicate size cD))),(1003,.aG (rk (List.replicate U (0:Int))))]) ?_;refine da ?_;refine da ?_;refine⟨fun h=>?_,fun h=>?_⟩
 .exfalso;have h:(z:Int) < 0:=gd h;omega
 refine⟨fun h=>?_,fun h=>?_⟩
 .exfalso;have h:(3:Int) < (z:Int):=gd h;omega
 refine⟨rfl,rfl,?_⟩;exact⟨_,_,_,af.trans (af.trans (af.aX 41 1001 rfl) (af.trans (af.aX 39 1004 rfl) (af.Qw 1004 rfl))) (af.close 1001 (dx (hF z size U)) ac rfl fun _ _ _ _ h=>h),rfl,ac,ac,rfl⟩
abbrev zU (nm:List UInt8) (x:Z .aM):Z .str×Z .aM:=((nm:Z .str),x)
theorem R7 (nm:List UInt8) (x:Z .aM): ∀L:List aO,dk L nm=none->dr (aJ:=.str) (aL:=.aM) (c3 L) (nm:Z .str) x=(c3 L++[zU nm x]:List (Z .str×Z .aM))
 | [],_=>rfl
 |d::L,h=>by
  rw[pF] at h
  by_cases e:d.nm=nm
  .rw[if_pos e] at h;cases h
  .rw[if_neg e] at h;have br:=R7 nm x L h;show dr (aJ:=.str) (aL:=.aM) (lF d::c3 L) (nm:Z .str) x=_;rw[show dr (aJ:=.str) (aL:=.aM) (lF d::c3 L) (nm:Z .str) x=(match fV .str (nm:Z .str) (lF d).1 with |true=>zU nm x::c3 L |false=>lF d::dr (aJ:=.str) (aL:=.aM) (c3 L) (nm:Z .str) x:List (Z .str×Z .aM)) from rfl];rw[show fV .str (nm:Z .str) (lF d).1=false from ra (aJ:=.str) qd (fun h=>e h.symm)];simp only;rw[br];rfl
abbrev ng (L:List aO) (nm back:List UInt8) (ad am:Nat) (im:bL):List aO:=L++[⟨nm,back,ad,am,im,none⟩]
theorem hU.add {L:List aO} (h:hU L) {nm back:List UInt8} {ad am:Nat} {im:bL} (aw:dk L nm=none) (ha:ad∉L.map (·.ad)) (aA:am∉L.map (·.am)):hU (ng L nm back ad am im):=by
 have key: ∀{α:Type} (f:aO->α) (d:aO),(L.map f).Nodup->f d∉L.map f->((L++[d]).map f).Nodup:=fun f d E G=>by
  rw[as3];refine List.nodup_append.2 ⟨E,au7,fun a ha b O e=>?_⟩;rw[aq4,au0,aq0] at O;exact G (by rw[<-O,<-e];exact ha)
 refine⟨key _ _ h.ik fun hx=>?_,key _ _ h.lf ha,key _ _ h.wc aA⟩;obtain⟨d,J,e⟩:=ar2.1 hx;have:=List.find?_eq_none.1 aw d J;exact this (by simpa using e)
abbrev CA (nm back:List UInt8):a1:=[(0,ao 1001),(1,bV nm),(3,bV back),(9,ao 2001),(10,ae 0)]
abbrev CB (z U:Int) (L:List aO) (im:bL):ay:=bP z U L++[(2001,.aG (iZ im))]
theorem afh (L:List aO) (nm back:List UInt8) (ad am:Nat) (im:bL):c3 (ng L nm back ad am im)=(c3 L++[zU nm (some ad:Option Nat)]:List (Z .str×Z .aM)):=by
 induction L with
 |nil=>rfl
 |cons d L br=>
  show lF d::c3 (ng L nm back ad am im)=lF d::(c3 L++[zU nm (some ad:Option Nat)]);rw[br]
abbrev afi (L:List aO) (nm back:List UInt8) (am:Nat) (im:bL):List aO:=⟨nm,back,0,am,im,none⟩::L
theorem R8 {f:aO->Nat×bh} (L:List aO) (d:aO):(f d::L.map f).Perm ((L++[d]).map f):=by
 rw[as3];exact List.perm_append_comm (l₁:=[f d]) (l₂:=L.map f)
abbrev afj (nm back:List UInt8) (am:Nat):a1:=[(0,ao 1001),(1,bV nm),(3,bV back),(9,dn am)]
abbrev afk (z U:Int) (L:List aO) (am:Nat) (im:bL):ay:=[(1001,.cells (KI z U)),(1002,.map .str .aM (c3 L)),(1003,.aG (.bA (l6 L))),(1004,.aG (.bA ((am,iZ im)::h6 L)))]
theorem afl (z size U:Nat) (E:z<=3) (G:size<=256) (al:U<=512) (L:List aO) (eH:hU L) (bn:KZ L) (nm back:List UInt8) (aq:nm.length<=4294967296) (aF:gp nm=true) (aw:dk L nm=none) (nZ:L.length < 16) (k:Nat) (O:back=[]\/(dk L back).isSome=true/\eP L back k/\k+1<=8):
  cv Tryz.prog 18 [ao 1001,bV nm,ae (size:Int),bV back] (bP z U L) [] (X:={p:Nat×Nat//hU (ng L nm back p.1 p.2 (hF z size U))}) (fun _=>ae 0) (fun p=>bP z U (ng L nm back p.1.1 p.1.2 (hF z size U))):=by
 have hx:(b0 (aJ:=.str) (aL:=.aM) (c3 L) nm).getD (cK .aM)=none:=by rw[jP,aw];rfl
 have b6:(c3 L).length=L.length:=aq3 ..;have iN:=zN z U L back
 have R9:(decide (back=[])||(dk L back).isSome)=true:=by
  rcases O with O |⟨O,_⟩
  .rw[aq2 O];rfl
  .rw[O,Bool.or_true]
 rw[R9] at iN;have lZ:=Cz z size U E G al;refine hD [2,10] Tryz.func18 rfl rfl rfl rfl ?_;refine au (Fn.aX [(1001,2001)] lZ) ?_;refine⟨rfl,bz [10] (cG (CA nm back) (CB z U L (hF z size U))) ?_⟩;refine au (qn _ aq) ?_;refine⟨fun aj=>?_,fun aj=>?_⟩
 .rw[aF] at aj;cases aj
 refine⟨fun ap=>?_,fun ap=>?_⟩
 .exact absurd ap au6
 refine⟨fun dZ bm=>?_,fun bm=>?_⟩
 .exfalso;have:(b0 (aJ:=.str) (aL:=.aM) (c3 L) nm).getD (cK .aM)=some dZ:=bm;rw[hx] at this
  cases this
 refine⟨fun c0=>?_,fun c0=>?_⟩
 .exfalso;have c0:(16:Int)<=((c3 L).length:Int):=gd c0;omega
 refine au iN ?_;refine⟨fun fQ=>absurd fQ au6,fun _=>?_⟩;refine⟨fun hO=>?_,fun hO=>?_⟩
 focus
  have hO: ¬back=[]:=by simpa using hO
  obtain⟨_,ab,mM⟩:=O.resolve_left hO;have hb:=zQ z U L eH back k ab au5;have xV:=rs ab;generalize ey L k back=bs at hb xV;refine au hb ?_;have m1: -9223372036854775808<=(bs.length:Int)+1/\(bs.length:Int)+1<=9223372036854775807:=by omega
  refine⟨m1,fun oX=>?_,fun _=>?_⟩
  .exfalso;have oX:(8:Int) < (bs.length:Int)+1:=gd oX;omega
 all_goals
  refine bt.eY (df.name 9 2001 rfl rfl) fun am=>?_
  refine bt.le (K':=afj nm back am) (B':=afk z U L am (hF z size U)) (af.trans (af.put 1004 2001 au6 rfl rfl) (af.sub ac ac)) ?_;refine bt.eY (df.BS 1004 (L:=(am,iZ (hF z size U))::h6 L) (aff (afi L nm back am (hF z size U)) (fun d J=>(ap3.1 J).elim (fun e=>by rw[e]) (bn d))) rfl) fun d0=>?_
  refine bt.h3 eN au8 ?_;refine⟨rfl,_,acb (c:=1002) (d:=72) (q:=1003) (aJ:=.str) (l:=fSz am back) (h:=fun _=>rfl) rfl Tryz.underlying82 (dk:=.string) au8 rfl rfl rfl rfl rfl rfl rfl au6 au6 au6 (afg L),fun v e az=>?_⟩;obtain⟨ad,Fk,rfl,rfl⟩:=az;have K0:ad∉L.map (·.ad):=fun h=>Fk (by unfold l6;rw[as2];exact h)
  have afm:am∉L.map (·.am):=fun h=>(aq7.1 d0.down).1 (by show am∈(h6 L).map (·.1);unfold h6;rw[as2];exact h)
  have oY:dr (aJ:=.str) (aL:=.aM) (c3 L) (nm:Z .str) (some ad:Option Nat)=c3 (ng L nm back ad am (hF z size U)):=(R7 nm _ L aw).trans (afh L nm back ad am (hF z size U)).symm;exact⟨⟨(ad,am),eH.add aw K0 afm⟩,_,_,_,af.trans (af.zT 1003 (R8 (f:=fun d=>(d.ad,tv d.am d.back)) L ⟨nm,back,ad,am,hF z size U,none⟩) rfl) (af.zT 1004 (R8 (f:=fun d=>(d.am,kr d)) L ⟨nm,back,ad,am,hF z size U,none⟩) rfl),rfl,rfl,⟨rfl,congrArg (fun e=>some (bd.map .str .aM e)) oY,rfl,rfl,trivial⟩,rfl⟩
theorem afn (z U:Int) (size:Int) (L:List aO) (nm back:List UInt8) (aq:nm.length<=4294967296) (h:(gp nm&&kq z size U)=false):Fn Tryz.prog 18 [ao 1001,bV nm,ae size,bV back] (bP z U L) [] (ae 1) (bP z U L):=by
 rcases Bool.eq_false_or_eq_true (kq z size U) with G |G
 .have aF:gp nm=false:=by rw[G,Bool.and_true] at h;exact h
  unfold kq at G;simp only[vj,ar5] at G;obtain⟨⟨⟨b4,ci⟩,a3,a4⟩,a5,gw⟩:=G;obtain⟨b,rfl⟩:=Int.eq_ofNat_of_zero_le a5;obtain⟨aB,rfl⟩:=Int.eq_ofNat_of_zero_le b4;obtain⟨r,rfl⟩:=Int.eq_ofNat_of_zero_le a3;have lZ:=Cz b aB r au5 au5 au5;refine aW [2] Tryz.func18 rfl rfl rfl rfl ?_;refine au (Fn.aX [(1001,2001)] lZ) ?_;refine⟨rfl,bz [] (cG (CA nm back) (CB b r L (hF b aB r))) ?_⟩;refine au (qn _ aq) ?_;refine⟨fun aj=>?_,fun aj=>?_⟩
  .exact aT aH rfl rfl ac rfl
  .rw[aF] at aj;cases aj
 .have lZ:=RM z size U G;refine aW [2] Tryz.func18 rfl rfl rfl rfl ?_;refine au lZ ?_;refine⟨rfl,bz [] (cG [(0,ao 1001),(1,bV nm),(3,bV back),(10,ae 1)] (bP z U L)) ?_⟩;refine au (qn _ aq) ?_;refine⟨fun aj=>?_,fun aj=>?_⟩
  .exact aT aH rfl rfl ac rfl
  refine⟨fun ap=>?_,fun ap=>?_⟩
  .exact aT aH rfl rfl ac rfl
  .exact absurd ap au6
theorem afo (z size U:Nat) (E:z<=3) (G:size<=256) (al:U<=512) (L:List aO) (nm back:List UInt8) (aq:nm.length<=4294967296) (aF:gp nm=true) (aw:(dk L nm).isSome=true\/16<=L.length):
  Fn Tryz.prog 18 [ao 1001,bV nm,ae (size:Int),bV back] (bP z U L) [] (ae 143) (bP z U L):=by
 have hx:(b0 (aJ:=.str) (aL:=.aM) (c3 L) nm).getD (cK .aM)=((dk L nm).map (·.ad):Option Nat):=jP nm L;have b6:(c3 L).length=L.length:=aq3 ..;have lZ:=Cz z size U E G al;refine aW [2] Tryz.func18 rfl rfl rfl rfl ?_;refine au (Fn.aX [(1001,2001)] lZ) ?_;refine⟨rfl,bz [] (cG (CA nm back) (CB z U L (hF z size U))) ?_⟩;refine au (qn _ aq) ?_;refine⟨fun aj=>?_,fun aj=>?_⟩
 .rw[aF] at aj;cases aj
 refine⟨fun ap=>?_,fun ap=>?_⟩
 .exact absurd ap au6
 refine⟨fun dZ bm=>?_,fun bm=>?_⟩
 .exact aT aH rfl rfl ac rfl
 refine⟨fun c0=>?_,fun c0=>?_⟩
 .exact aT aH rfl rfl ac rfl
 .exfalso;have c0: ¬(16:Int)<=((c3 L).length:Int):=mu c0;have bm:(b0 (aJ:=.str) (aL:=.aM) (c3 L) nm).getD (cK .aM)=none:=bm;rw[hx] at bm;rcases aw with aw |aw
  .obtain⟨d,J⟩:=as8.1 aw;rw[J] at bm
   cases bm
  .omega
theorem afp (z size U:Nat) (E:z<=3) (G:size<=256) (al:U<=512) (L:List aO) (nm back:List UInt8) (aq:nm.length<=4294967296) (aF:gp nm=true) (aw:dk L nm=none) (nZ:L.length < 16) (O:(decide (back=[])||(dk L back).isSome)=false):
  Fn Tryz.prog 18 [ao 1001,bV nm,ae (size:Int),bV back] (bP z U L) [] (ae 140) (bP z U L):=by
 have hx:(b0 (aJ:=.str) (aL:=.aM) (c3 L) nm).getD (cK .aM)=none:=by rw[jP,aw];rfl
 have b6:(c3 L).length=L.length:=aq3 ..;have iN:=zN z U L back;rw[O] at iN;have lZ:=Cz z size U E G al;refine aW [2] Tryz.func18 rfl rfl rfl rfl ?_;refine au (Fn.aX [(1001,2001)] lZ) ?_;refine⟨rfl,bz [] (cG (CA nm back) (CB z U L (hF z size U))) ?_⟩;refine au (qn _ aq) ?_;refine⟨fun aj=>?_,fun aj=>?_⟩
 .rw[aF] at aj;cases aj
 refine⟨fun ap=>?_,fun ap=>?_⟩
 .exact absurd ap au6
 refine⟨fun dZ bm=>?_,fun bm=>?_⟩
 .exfalso;have:(b0 (aJ:=.str) (aL:=.aM) (c3 L) nm).getD (cK .aM)=some dZ:=bm;rw[hx] at this
  cases this
 refine⟨fun c0=>?_,fun c0=>?_⟩
 .exfalso;have c0:(16:Int)<=((c3 L).length:Int):=gd c0;omega
 refine au iN ?_;refine⟨fun _=>?_,fun fQ=>absurd fQ au6⟩;exact aT aH rfl rfl ac rfl
theorem afq (z size U:Nat) (E:z<=3) (G:size<=256) (al:U<=512) (L:List aO) (eH:hU L) (nm back:List UInt8) (aq:nm.length<=4294967296) (aF:gp nm=true) (aw:dk L nm=none) (nZ:L.length < 16) (tz:back≠[]) (O:(dk L back).isSome=true) (k:Nat) (ab:eP L back k) (hg:k<=1000000) (mM:8 < k+1):
  Fn Tryz.prog 18 [ao 1001,bV nm,ae (size:Int),bV back] (bP z U L) [] (ae 142) (bP z U L):=by
 have hx:(b0 (aJ:=.str) (aL:=.aM) (c3 L) nm).getD (cK .aM)=none:=by rw[jP,aw];rfl
 have b6:(c3 L).length=L.length:=aq3 ..;have iN:=zN z U L back;rw[O,Bool.or_true] at iN;have lZ:=Cz z size U E G al;refine aW [2] Tryz.func18 rfl rfl rfl rfl ?_;refine au (Fn.aX [(1001,2001)] lZ) ?_;refine⟨rfl,bz [] (cG (CA nm back) (CB z U L (hF z size U))) ?_⟩;refine au (qn _ aq) ?_;refine⟨fun aj=>?_,fun aj=>?_⟩
 .rw[aF] at aj;cases aj
 refine⟨fun ap=>?_,fun ap=>?_⟩
 .exact absurd ap au6
 refine⟨fun dZ bm=>?_,fun bm=>?_⟩
 .exfalso;have:(b0 (aJ:=.str) (aL:=.aM) (c3 L) nm).getD (cK .aM)=some dZ:=bm;rw[hx] at this
  cases this
 refine⟨fun c0=>?_,fun c0=>?_⟩
 .exfalso;have c0:(16:Int)<=((c3 L).length:Int):=gd c0;omega
 refine au iN ?_;refine⟨fun fQ=>absurd fQ au6,fun _=>?_⟩;refine⟨fun hO=>?_,fun hO=>absurd (by simpa using hO) tz⟩;have hb:=zQ z U L eH back k ab hg;have xV:=rs ab;generalize ey L k back=bs at hb xV;refine au hb ?_;have m1: -9223372036854775808<=(bs.length:Int)+1/\(bs.length:Int)+1<=9223372036854775807:=by omega
 refine⟨m1,fun _=>?_,fun oX=>?_⟩
 .exact aT aH rfl rfl ac rfl
 .exfalso;have oX: ¬(8:Int) < (bs.length:Int)+1:=mu oX;omega
def xW (l:List (List UInt8)) (v:List UInt8):Int:=match l.idxOf? v with
 |some i=>(i:Nat)
 |none=> -1
theorem afr (l:List (List UInt8)) (v:List UInt8) (aq:l.length<=4294967296):Fn Tryz.prog 98 [bS .str l,bV v] [] [] (ae (xW l v)) []:=by
 refine aW [] Tryz.func98 rfl rfl rfl rfl ?_;refine dX [] (X:=Nat) (fun k=>[(0,bS .str l),(1,bV v),(7,ae (l.length:Nat)),(8,ae (k:Nat))]) (fun _=>[]) (fun k=>k<=l.length/\ ∀(i:Nat),i < k->l[i]? ≠some v) (fun k=>l.length - k) 0 ⟨ap7 _,fun i h=>absurd h (au3 _)⟩ ?_ ?_
 .exact af.sub ac trivial
 intro k ⟨ab,ag⟩;refine⟨fun h=>?_,fun h=>?_⟩
 .have cn:k < l.length:=by
   have h:decide ((k:Int) < (l.length:Int))=true:=h;simpa using h
  refine⟨au5,l[k],jv (n:=k) cn,fun G=>?_,fun G=>?_⟩
  .have G:v=l[k]:=gd G;refine⟨_,_,_,aH,rfl,(show((k:Nat):Int)=xW l v from ?_),trivial,rfl⟩
   have:l.idxOf? v=some k:=by
    rw[List.idxOf?_eq_some_iff];refine⟨cn,by simp[G],fun j aa=>?_⟩;have:=ag j aa;rw[oj au5] at this;simpa using this
   rw[xW,this]
  .have G: ¬v=l[k]:=mu G;have m1: -9223372036854775808<=(k:Int)+1/\(k:Int)+1<=9223372036854775807:=by omega
   have m2:k+1<=l.length:=by omega
   have m3:l.length - (k+1) < l.length - k:=by omega
   refine⟨m1,k+1,⟨m2,fun i aI=>?_⟩,m3,af.sub ac trivial⟩;rcases Nat.lt_or_ge i k with aZ |aZ
   .exact ag i aZ
   .have:i=k:=by omega
    subst this;rw[oj cn];intro e;injection e with e
    exact G e.symm
 .have h:decide ((k:Int) < (l.length:Int))=false:=h;have fd:k=l.length:=by simp at h;omega
  refine⟨_,_,_,aH,rfl,(show(-1:Int)=xW l v from ?_),trivial,rfl⟩
  have:l.idxOf? v=none:=by
   rw[List.idxOf?_eq_none_iff];intro aA;obtain⟨i,aI,e⟩:=List.getElem_of_mem aA;have:=ag i au5;rw[oj aI] at this;exact this (by rw[e])
  rw[xW,this]
theorem K1 (l:List (List UInt8)) (v:List UInt8) (aq:l.length<=4294967296):Fn Tryz.prog 59 [bS .str l,bV v] [] [] (fI (l.contains v)) []:=by
 refine aW [] Tryz.func59 rfl rfl rfl rfl ?_;refine au (afr l v aq) ?_;refine⟨_,_,_,aH,rfl,(show decide (0<=xW l v)=l.contains v from ?_),trivial,rfl⟩;unfold xW
 cases h:l.idxOf? v with
 |none=>
  rw[List.idxOf?_eq_none_iff] at h;simp[h]
 |some i=>
  obtain⟨aI,e,_⟩:=List.idxOf?_eq_some_iff.1 h
  have:v∈l:=by
   have:=ar3 aI
   rwa[show l[i]=v by simpa using e] at this
  simp[this]
theorem afs (z U:Int) (L:List aO) (nm back:List UInt8) (h:(dk L nm).isSome=false\/(decide (back=[])||(dk L back).isSome)=false):Fn Tryz.prog 299 [ao 1001,bV nm,bV back] (bP z U L) [] (ae 140) (bP z U L):=by
 have iN:=zN z U L back;refine aW [] Tryz.func299 rfl rfl rfl rfl ?_;refine⟨fun dZ bm=>?_,fun bm=>?_⟩
 .obtain⟨d,J,_⟩:=aev bm;have O:(decide (back=[])||(dk L back).isSome)=false:=h.resolve_left (by rw[J];intro h;cases h);rw[O] at iN;refine au iN ?_;refine⟨fun _=>?_,fun fQ=>absurd fQ au6⟩;exact aT aH rfl rfl ac rfl
 .exact aT aH rfl rfl ac rfl
theorem aft (z U:Int) (L:List aO) (eH:hU L) (nm back:List UInt8) (d:aO) (J:dk L nm=some d) (ab:(decide (back=[])||(dk L back).isSome)=true) (k:Nat) (b9:eP L back k) (hg:k<=1000000) (h:nm=back\/nm∈ey L k back):Fn Tryz.prog 299 [ao 1001,bV nm,bV back] (bP z U L) [] (ae 141) (bP z U L):=by
 have iN:=zN z U L back;rw[ab] at iN;have hx:(b0 (aJ:=.str) (aL:=.aM) (c3 L) nm).getD (cK .aM)=some d.ad:=by rw[jP,J];rfl
 have hb:=zQ z U L eH back k b9 hg;have xV:=rs b9;generalize ey L k back=bs at hb xV h;have ls:=K1 bs nm au5;refine aW [] Tryz.func299 rfl rfl rfl rfl ?_;refine⟨fun dZ bm=>?_,fun O=>absurd (show(b0 (aJ:=.str) (aL:=.aM) (c3 L) nm).getD (cK .aM)=none from O) (by rw[hx];intro h;cases h)⟩;refine au iN ?_;refine⟨fun fQ=>absurd fQ au6,fun _=>?_⟩;refine⟨fun hO=>?_,fun hO=>?_⟩
 .exact aT aH rfl rfl ac rfl
 .have hO: ¬nm=back:=mu hO;have aA:bs.contains nm=true:=by simpa using h.resolve_left hO
  rw[aA] at ls;refine au hb ?_;refine au ls ?_;refine⟨fun _=>?_,fun fQ=>absurd fQ au6⟩;exact aT aH rfl rfl ac rfl
def gq (nm back:List UInt8) (d:aO):aO:=if d.nm=nm then {d with back:=back} else d
def fe (L:List aO) (nm back:List UInt8):List aO:=L.map (gq nm back)
theorem xX (nm back:List UInt8) (d:aO):(gq nm back d).nm=d.nm:=by unfold gq;split <;>rfl
theorem F1 (nm back:List UInt8) (d:aO):(gq nm back d).ad=d.ad:=by unfold gq;split <;>rfl
theorem F2 (nm back:List UInt8) (d:aO):(gq nm back d).am=d.am:=by unfold gq;split <;>rfl
theorem Sa (nm back:List UInt8) (d:aO):(gq nm back d).im=d.im:=by unfold gq;split <;>rfl
theorem Sb (nm back:List UInt8) (d:aO):(gq nm back d).cP=d.cP:=by unfold gq;split <;>rfl
theorem afu (L:List aO) (nm back:List UInt8):c3 (fe L nm back)=c3 L:=by
 unfold c3 fe;rw[as2];refine ar1 fun d _=>?_
 show lF (gq nm back d)=lF d;unfold lF;rw[xX,F1]
theorem afv (L:List aO) (nm back:List UInt8):h6 (fe L nm back)=h6 L:=by
 unfold h6 fe;rw[as2];refine ar1 fun d _=>?_
 show((gq nm back d).am,kr (gq nm back d))=_;unfold kr;rw[F2,Sa,Sb]
theorem hU.fe {L:List aO} (h:hU L) (nm back:List UInt8):hU (fe L nm back):=by
 have key: ∀{α:Type} (f:aO->α),(∀d,f (gq nm back d)=f d)->(Go.Proofs.YthnboghbhgapcaaGreat.fe L nm back).map f=L.map f:=fun f hf=>by
  unfold Go.Proofs.YthnboghbhgapcaaGreat.fe;rw[as2];exact ar1 fun d _=>hf d
 exact⟨by rw[key _ (xX nm back)];exact h.ik,by rw[key _ (F1 nm back)];exact h.lf,by rw[key _ (F2 nm back)];exact h.wc⟩
theorem K2 {L:List aO} {nm:List UInt8} (back:List UInt8) (h:nm∉L.map (·.nm)):fe L nm back=L:=by
 unfold fe;refine(ar1 fun d J=>?_).trans (List.map_id' L);unfold gq;rw[if_neg fun e=>h (by rw[<-e];exact aq6 J)]
theorem K3 {back:List UInt8} {nm:List UInt8}: ∀{L:List aO},(L.map (·.nm)).Nodup->(L.map (·.ad)).Nodup-> ∀{d:aO},dk L nm=some d->e5 (l6 L) d.ad (tv d.am back)=l6 (fe L nm back)
 | [],_,_,d,h=>by cases h
 |e::L,hn,ha,d,h=>by
  rw[aq4] at hn ha;obtain⟨cH,dF⟩:=aq7.1 hn;obtain⟨b4,ci⟩:=aq7.1 ha;rw[pF] at h;show e5 ((e.ad,tv e.am e.back)::l6 L) d.ad (tv d.am back)=l6 (gq nm back e::fe L nm back);unfold e5
  by_cases c:e.nm=nm
  .rw[if_pos c] at h;injection h with h
   subst h;rw[if_pos rfl,K2 back (by rw[<-c];exact cH)];unfold gq;rw[if_pos c];rfl
  .rw[if_neg c] at h;have ba: ¬e.ad=d.ad:=fun x=>b4 (by rw[x];exact aq6 (f:=fun d:aO=>d.ad) (c1 h).1)
   rw[if_neg ba,K3 dF ci h];unfold gq;rw[if_neg c];rfl
theorem sq (nm back n:List UInt8): ∀L:List aO,dk (fe L nm back) n=(dk L n).map (gq nm back)
 | []=>rfl
 |d::L=>by
  show dk (gq nm back d::fe L nm back) n=_;rw[pF,pF,xX,sq nm back n L]
  split <;>rfl
theorem afw {L:List aO} (hn:(L.map (·.nm)).Nodup) {nm back:List UInt8} {d:aO} (h:dk L nm=some d):fe (fe L nm back) nm d.back=L:=by
 induction L with
 |nil=>cases h
 |cons e L br=>
  rw[aq4] at hn;obtain⟨cH,dF⟩:=aq7.1 hn;rw[pF] at h;show gq nm d.back (gq nm back e)::fe (fe L nm back) nm d.back=e::L
  by_cases c:e.nm=nm
  .rw[if_pos c] at h;injection h with h
   subst h;have cW:nm∉L.map (·.nm):=by rw[<-c];exact cH
   rw[K2 back cW,K2 _ cW]
   congr 1
   unfold gq;rw[if_pos c,if_pos c]
  .rw[if_neg c] at h;rw[br dF h]
   congr 1
   unfold gq;rw[if_neg c,if_neg c]
abbrev afx (nm back qR:List UInt8) (ad:Nat):a1:=[(0,ao 1001),(1,bV nm),(2,bV back),(7,dn ad),(8,bV qR)]
abbrev afy (qR:List UInt8) (ad:Nat) (l:List (List UInt8)) (j:Nat):a1:=[(0,ao 1001),(7,dn ad),(8,bV qR),(46,bS .str l),(47,ae (l.length:Nat)),(48,ae (j:Nat))]
theorem Sc {I:Nat->Prop} {w:World} {s:List UInt8} {aB:Value} (h:gE I w (.str s) aB):aB.cells=List.toArray [aB]/\aB.oneCell'=true:=by
 have h:aB= .string ⟨s.toArray⟩:=h;subst h;exact⟨rfl,rfl⟩
theorem afz (z U:Int) (L:List aO) (eH:hU L) (aq: ∀d,d∈L->d.nm.length<=100000) (nZ:L.length<=100) (nm back:List UInt8) (d:aO) (J:dk L nm=some d) (ab:(decide (back=[])||(dk L back).isSome)=true) (k:Nat) (b9:eP L back k) (hg:k<=1000000) (h: ¬(nm=back\/nm∈ey L k back))
  (zV:List UInt8->Nat) (afA: ∀n∈lg L,eP (fe L nm back) n (zV n)/\zV n<=1000000) (r:Int) (F3:List aO) (bu:(∀n∈lg L,zV n<=8)->r=0/\F3=fe L nm back) (e4:(∃n∈lg L,8 < zV n)->r=142/\F3=L):
  Fn Tryz.prog 299 [ao 1001,bV nm,bV back] (bP z U L) [] (ae r) (bP z U F3):=by
 obtain⟨oU,gb,gc⟩:=j5 FT;have iN:=zN z U L back;rw[ab] at iN;have hx:(b0 (aJ:=.str) (aL:=.aM) (c3 L) nm).getD (cK .aM)=some d.ad:=by rw[jP,J];rfl
 have hb:=zQ z U L eH back k b9 hg;have xV:=rs b9;generalize ey L k back=bs at hb xV h;have ls:=K1 bs nm au5
 have BG:bs.contains nm=false:=by
  have:=fun e=>h (.inr e)
  simpa using this
 rw[BG] at ls;have lG:=eH.D (c1 J).1;have CC:=eH.fe nm back;have kM:dk (fe L nm back) nm=some (gq nm back d):=by rw[sq,J];rfl
 have Sd:=CC.D (c1 kM).1;rw[F1,F2,show(gq nm back d).back=back by unfold gq;rw[if_pos (c1 J).2]] at Sd;have oY:=afu L nm back;have wg:=afv L nm back;have sr:e5 (l6 L) d.ad (tv d.am back)=l6 (fe L nm back):=K3 eH.ik eH.lf J
 have afB:e5 (l6 (fe L nm back)) d.ad (tv d.am d.back)=l6 L:=by
  have:=K3 (back:=d.back) CC.ik CC.lf kM;rw[F1,F2,afw eH.ik J] at this;exact this
 have zz:=R1 z U (fe L nm back) CC (fun x hx=>by
  obtain⟨y,aC,rfl⟩:=ar2.1 hx;rw[xX];exact aq y aC) (by unfold fe;rw[aq3];exact nZ)
 have l9:lg (fe L nm back)=lg L:=by unfold lg;rw[oY]
 rw[l9] at zz;have b6:=R0 L;generalize lg L=l at*;refine aW [6,8,12] Tryz.func299 rfl rfl rfl rfl ?_;refine⟨fun dZ bm=>?_,fun O=>absurd (show(b0 (aJ:=.str) (aL:=.aM) (c3 L) nm).getD (cK .aM)=none from O) (by rw[hx];intro h;cases h)⟩;refine au iN ?_;refine⟨fun fQ=>absurd fQ au6,fun _=>?_⟩;refine⟨fun hO=>?_,fun hO=>?_⟩
 .exact absurd (.inl (gd hO)) h
 refine au hb ?_;refine au ls ?_;refine⟨fun fQ=>absurd fQ au6,fun _=>?_⟩;refine bz [8,12] (aH) ?_;refine⟨_,_,fun N=>iY (b:=d.ad) rfl (by exact nY hx) N,rfl,?_⟩;refine⟨_,_,fun N=>jb rfl Tryz.underlying86 rfl rfl gb (by rw[gc];decide) rfl N,rfl,?_⟩;refine⟨_,_,fun N=>k8 (q:=1003) rfl Tryz.underlying9 rfl rfl rfl lG rfl N,rfl,?_⟩;refine⟨_,_,fun N=>iY (b:=d.ad) rfl (by exact nY hx) N,rfl,?_⟩;refine⟨_,_,fun N=>jb rfl Tryz.underlying86 rfl rfl gb (by rw[gc];decide) rfl N,rfl,?_⟩;refine⟨_,_,fun N=>zu (q:=1003) (b:=d.ad) (j:=1) (y:=.str back) (l:=fSz d.am d.back) (h':=fun _=>rfl) rfl gb gc rfl rfl rfl lG (Nat.lt_succ_self 1) Sc N,rfl,?_⟩;refine bz [12] (af.sub (K':=afx nm back d.back d.ad) (B':=bP z U (fe L nm back)) ⟨rfl,rfl,rfl,hx,rfl,trivial⟩ ⟨rfl,congrArg (fun e=>some (bd.map .str .aM e)) oY.symm,congrArg (fun e=>some (bd.aG (.bA e))) sr,congrArg (fun e=>some (bd.aG (.bA e))) wg.symm,trivial⟩) ?_;refine au zz ?_;refine dX [12] (X:=Nat) (afy d.back d.ad l) (fun _=>bP z U (fe L nm back)) (fun j=>j<=l.length/\ ∀n∈l.take j,zV n<=8) (fun j=>l.length - j) 0 ⟨ap7 _,fun n hn=>by rw[List.take_zero] at hn;cases hn⟩ ?_ ?_
 .exact af.sub ac ac
 intro j ⟨aa,K4⟩;refine⟨fun h=>?_,fun h=>?_⟩
 .have h:decide ((j:Int) < (l.length:Nat))=true:=h;have fh:j < l.length:=by simpa using h
  have m3:(0:Int)<=(j:Int):=by omega
  have rq:cY ((j:Int)+1):=by omega
  obtain⟨Se,Kd⟩:=afA _ (ar3 fh);have k4:=ar3 fh;have mZ:=as1 fh;have hc:=zQ z U (fe L nm back) CC _ _ Se Kd;have afC:=rs Se;refine⟨m3,l[j],jv (n:=j) fh,?_⟩;generalize l[j]=n at*;generalize ey (fe L nm back) (zV n) n=ns at hc afC;refine au hc ?_;refine⟨fun oX=>?_,fun oX=>?_⟩
  .have oX:(8:Int) < (ns.length:Int):=gd oX;obtain⟨rfl,rfl⟩:=e4 ⟨n,k4,au5⟩;refine bz [] (cG [(7,dn d.ad),(8,bV d.back)] (bP z U (fe F3 nm back))) ?_;refine⟨_,_,fun N=>iY (b:=d.ad) rfl rfl N,rfl,?_⟩;refine⟨_,_,fun N=>jb rfl Tryz.underlying86 rfl rfl gb (by rw[gc];decide) rfl N,rfl,?_⟩;refine⟨_,_,fun N=>zu (q:=1003) (b:=d.ad) (j:=1) (y:=.str d.back) (l:=fSz d.am back) (h':=fun _=>rfl) rfl gb gc rfl rfl rfl Sd (Nat.lt_succ_self 1) Sc N,rfl,?_⟩;exact aT aH rfl rfl ⟨rfl,congrArg (fun e=>some (bd.map .str .aM e)) oY,congrArg (fun e=>some (bd.aG (.bA e))) afB,congrArg (fun e=>some (bd.aG (.bA e))) wg,trivial⟩ rfl
  .have oX: ¬(8:Int) < (ns.length:Int):=mu oX;refine⟨rq,j+1,⟨fh,fun n' uA=>?_⟩,au5,af.sub ac ac⟩;rw[mZ] at uA;rcases aq8.1 uA with uA |uA
   .exact K4 n' uA
   .rw[aq0] at uA;subst uA;omega
 .have h:decide ((j:Int) < (l.length:Nat))=false:=h;have fh:j=l.length:=by simp at h;omega
  subst fh;rw[aq9] at K4;obtain⟨rfl,rfl⟩:=bu K4;exact aT aH rfl rfl ac rfl
end
end Go.Proofs.YthnboghbhgapcaaGreat
