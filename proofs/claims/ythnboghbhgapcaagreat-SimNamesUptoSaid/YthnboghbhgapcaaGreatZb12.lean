/-
A part of the proof of this claim: lemmas, with no condition beyond what each says.
-/
import Derived.Test.YthnboghbhgapcaaGreatProg
import Derived.Test.YthnboghbhgapcaaGreatZb11
set_option linter.unusedVariables false
set_option linter.unusedSimpArgs false
set_option maxRecDepth 10000
set_option maxHeartbeats 4000000
namespace Go.Proofs.YthnboghbhgapcaaGreat
open Go.RowKit Go.Proofs Tryz
section
structure aN where
 nm:ay4
 back:ay4
 ad:Nat
 am:Nat
 im:bM
 cR:Option (Nat->Nat)
def kr (d:aN):bf:=match d.cR with
 |none=>iZ d.im
 |some bs=>.m8 (dx d.im) (fun c=>cond (Nat.beq c 1001) d.am (bs c))
abbrev lI (d:aN):aa .str×aa .aL:=((d.nm:aa .str),(some d.ad:aa .aL))
def c4 (L:List aN):List (aa .str×aa .aL):=L.map lI
abbrev F1 (am:Nat) (back:ay4):List bC:=[.d (.aL (some am)),.d (.str back)]
def tC (am:Nat) (back:ay4):bf:=bf.ch (.cells (F1 am back)) (fun _=>rfl)
def l8 (L:List aN):List (Nat×bf):=L.map fun d=>(d.ad,tC d.am d.back)
def h6 (L:List aN):List (Nat×bf):=L.map fun d=>(d.am,kr d)
abbrev KQ (z U:Int):List bC:=[.d (.int .i64 z),.d (.int .i64 U),.mp 1002]
abbrev bP (z U:Int) (L:List aN):aw:=[(1001,.cells (KQ z U)),(1002,.map .str .aL (c4 L)),(1003,.aG (.bA (l8 L))),(1004,.aG (.bA (h6 L)))]
def dk (L:List aN) (nm:ay4):Option aN:=L.find? fun d=>decide (d.nm=nm)
theorem cV {L:List aN} {nm:ay4} {d:aN} (h:dk L nm=some d):d∈L/\d.nm=nm:=⟨at8 h,by have:=List.find?_some h;simpa using this⟩
theorem jO (nm:ay4): ∀L:List aN,(b0 (aI:=.str) (aK:=.aL) (c4 L) nm).getD (cL .aL)=((dk L nm).map (·.ad):Option Nat)
 | []=>rfl
 |d::L=>by
  have br:=jO nm L;show(b0 (aI:=.str) (aK:=.aL) (lI d::c4 L) nm).getD (cL .aL)=_;rw[show dk (d::L) nm=if decide (d.nm=nm)=true then some d else dk L nm by unfold dk;rw[List.find?_cons];split <;>rename_i h <;>rw[h] <;>rfl];rw[show b0 (aI:=.str) (aK:=.aL) (lI d::c4 L) nm=match fW .str (nm:aa .str) (lI d).1 with |true=>some (lI d).2 |false=>b0 (aI:=.str) (aK:=.aL) (c4 L) nm from rfl]
  by_cases e:d.nm=nm
  .rw[show fW .str (nm:aa .str) (lI d).1=true from(qf _ _).2 e.symm,show decide (d.nm=nm)=true from aq1 e];rfl
  .rw[show fW .str (nm:aa .str) (lI d).1=false from rc (aI:=.str) qf (fun h=>e h.symm),show decide (d.nm=nm)=false from ar8 e];exact br
theorem KR {f:aN->Nat×bf}: ∀{L:List aN},(L.map fun d=>(f d).1).Nodup-> ∀{d:aN},d∈L->eg (L.map f) (f d).1=some (f d).2
 | [],_,d,h=>by cases h
 |e::L,hn,d,h=>by
  rw[aq4] at hn;obtain⟨cI,dF⟩:=aq7.1 hn;rw[aq4];unfold eg;rcases ap3.1 h with rfl |h
  .rw[if_pos rfl]
  .rw[if_neg (fun e=>cI (by rw[e];exact aq6 (f:=fun d=>(f d).1) h))];exact KR dF h
structure hW (L:List aN):Prop where
 ik:(L.map (·.nm)).Nodup
 lh:(L.map (·.ad)).Nodup
 wl:(L.map (·.am)).Nodup
theorem hW.D {L:List aN} (h:hW L) {d:aN} (J:d∈L):eg (l8 L) d.ad=some (tC d.am d.back):=KR (f:=fun d=>(d.ad,tC d.am d.back)) h.lh J
theorem hW.M {L:List aN} (h:hW L) {d:aN} (J:d∈L):eg (h6 L) d.am=some (kr d):=KR (f:=fun d=>(d.am,kr d)) h.wl J
theorem xX:(Tryz.prog.info? 43).map (·.size)=some 1:=by kernel_rfl
theorem F2:(Tryz.prog.info? 9).map (·.size)=some 1:=by kernel_rfl
theorem zV (z U:Int) (L:List aN) (b:ay4):Fn Tryz.prog 41 [ap 1001,bU b] (bP z U L) [] (fK (decide (b=[])||(dk L b).isSome)) (bP z U L):=by
 have a1:=jO b L;refine aU [] Tryz.func41 ?_;refine⟨fun h=>?_,fun h=>?_⟩
 .have h:b=[]:=gd h;exact eq bp rfl (show true=_ by rw[aq1 h];rfl)
 .have h: ¬b=[]:=mu h;refine⟨fun dZ h'=>?_,fun h'=>?_⟩
  .have h':(b0 (aI:=.str) (aK:=.aL) (c4 L) b).getD (cL .aL)=some dZ:=h';rw[a1] at h'
   exact⟨_,_,_,bp,rfl,(show true=_ by rw[ar8 h];cases e:dk L b with
    |none=>rw[e] at h';cases h'
    |some d=>rfl),aA,rfl⟩
  .have h':(b0 (aI:=.str) (aK:=.aL) (c4 L) b).getD (cL .aL)=none:=h';rw[a1] at h'
   exact⟨_,_,_,bp,rfl,(show false=_ by rw[ar8 h];cases e:dk L b with
    |none=>rfl
    |some d=>rw[e] at h';cases h'),aA,rfl⟩
theorem aeD {L:List aN} {nm:ay4} {dZ:Nat} (h:(b0 (aI:=.str) (aK:=.aL) (c4 L) nm).getD (cL .aL)=some dZ): ∃d,dk L nm=some d/\d.ad=dZ:=by
 rw[jO] at h
 cases e:dk L nm with
 |none=>rw[e] at h;cases h
 |some d=>
  rw[e] at h;injection h with h
  exact⟨d,rfl,h⟩
theorem nY {x:Option Nat} {b:Nat} (h:x=some b):aP.c (dI.one (bC.d (D.aL x)))= .c (.one (.d (.aL (some b)))):=by rw[h]
theorem jd (z U:Int) (L:List aN) (eJ:hW L) (nm:ay4) (d:aN) (J:dk L nm=some d):Fn Tryz.prog 13 [ap 1001,bU nm] (bP z U L) [] (dn d.am) (bP z U L):=by
 obtain⟨oX,gb,gc⟩:=j5 xX;have cY:=eJ.D (cV J).1;have h':(b0 (aI:=.str) (aK:=.aL) (c4 L) nm).getD (cL .aL)=some d.ad:=by rw[jO,J];rfl
 refine aU [] Tryz.func13 ?_;refine⟨fun dZ O=>⟨_,_,fun N=>iY (b:=d.ad) rfl (by exact nY h') N,rfl,?_⟩,fun O=>absurd (show(b0 (aI:=.str) (aK:=.aL) (c4 L) nm).getD (cL .aL)=none from O) aw0⟩;refine⟨_,_,fun N=>ja rfl Tryz.underlying86 rfl rfl gb av7 rfl N,rfl,?_⟩;refine⟨_,_,fun N=>k9 (q:=1003) rfl Tryz.underlying43 rfl rfl rfl cY rfl N,rfl,?_⟩;exact bg
theorem aeE (z U:Int) (L:List aN) (nm:ay4) (J:dk L nm=none):Fn Tryz.prog 13 [ap 1001,bU nm] (bP z U L) [] (.c mG) (bP z U L):=by
 have h':(b0 (aI:=.str) (aK:=.aL) (c4 L) nm).getD (cL .aL)=none:=by rw[jO,J];rfl
 refine aU [] Tryz.func13 ?_;exact⟨fun dZ O=>absurd (show(b0 (aI:=.str) (aK:=.aL) (c4 L) nm).getD (cL .aL)=some dZ from O) aw0,fun _=>bg⟩
theorem RV (z U:Int) (L:List aN) (eJ:hW L) (nm:ay4) (d:aN) (J:dk L nm=some d):Fn Tryz.prog 16 [ap 1001,bU nm] (bP z U L) [] (.cf [.one (.d (.str d.back)),dw 0]) (bP z U L):=by
 obtain⟨oX,gb,gc⟩:=j5 F2;have cY:=eJ.D (cV J).1;have h':(b0 (aI:=.str) (aK:=.aL) (c4 L) nm).getD (cL .aL)=some d.ad:=by rw[jO,J];rfl
 refine aU [] Tryz.func16 ?_;refine⟨fun dZ O=>⟨_,_,fun N=>iY (b:=d.ad) rfl (by exact nY h') N,rfl,?_⟩,fun O=>absurd (show(b0 (aI:=.str) (aK:=.aL) (c4 L) nm).getD (cL .aL)=none from O) aw0⟩;refine⟨_,_,fun N=>ja rfl Tryz.underlying86 rfl rfl gb av7 rfl N,rfl,?_⟩;refine⟨_,_,fun N=>k9 (q:=1003) rfl Tryz.underlying9 rfl rfl rfl cY rfl N,rfl,?_⟩;exact bg
theorem aeF (z U:Int) (L:List aN) (nm:ay4) (J:dk L nm=none):Fn Tryz.prog 16 [ap 1001,bU nm] (bP z U L) [] (.cf [.one (.d (.str [])),dw 140]) (bP z U L):=by
 have h':(b0 (aI:=.str) (aK:=.aL) (c4 L) nm).getD (cL .aL)=none:=by rw[jO,J];rfl
 refine aU [] Tryz.func16 ?_;exact⟨fun dZ O=>absurd (show(b0 (aI:=.str) (aK:=.aL) (c4 L) nm).getD (cL .aL)=some dZ from O) aw0,fun _=>bg⟩
inductive eC (L:List aN):ay4->Nat->Prop where
 |gone {nm}:dk L nm=none->eC L nm 0
 |base {nm d}:dk L nm=some d->d.back=[]->eC L nm 0
 |step {nm d k}:dk L nm=some d->d.back≠[]->eC L d.back k->eC L nm (k+1)
def eD (L:List aN):Nat->ay4->List ay4
 |0,_=>[]
 |k+1,nm=>match dk L nm with
  |none=>[]
  |some d=>d.back::eD L k d.back
def eK (L:List aN):Nat->ay4->ay4
 |0,nm=>nm
 |j+1,nm=>match dk L nm with
  |none=>nm
  |some d=>eK L j d.back
theorem zW (L:List aN): ∀(j:Nat) (nm:ay4),eK L (j+1) nm=match dk L (eK L j nm) with
  |none=>eK L j nm
  |some d=>d.back
 |0,nm=>by
  show(match dk L nm with |none=>nm |some d=>d.back)=_;rfl
 |j+1,nm=>by
  show(match dk L nm with |none=>nm |some d=>eK L (j+1) d.back)=_
  cases e:dk L nm with
  |none=>
   simp only;rw[show eK L (j+1) nm=nm by show(match dk L nm with |none=>nm |some d=>eK L j d.back)=nm;rw[e]];rw[e]
  |some d=>
   simp only;rw[zW L j d.back];rw[show eK L (j+1) nm=eK L j d.back by show(match dk L nm with |none=>nm |some d=>eK L j d.back)=_;rw[e]]
theorem F3 {L:List aN}: ∀{k:Nat} {nm:ay4},eC L nm k-> ∀j,j<=k->eC L (eK L j nm) (k - j)
 |_,_,h,0,_=>h
 |k+1,nm,.step (d:=d) E G aj,j+1,Z=>by
  rw[show eK L (j+1) nm=eK L j d.back by show(match dk L nm with |none=>nm |some d=>eK L j d.back)=_;rw[E]];rw[Nat.add_sub_add_right];exact F3 aj j au5
 |0,_,_,j+1,Z=>absurd Z au5
theorem ru {L:List aN} {nm:ay4} {k:Nat} (h:eC L nm k):(eD L k nm).length=k:=by
 induction h with
 |gone _=>rfl
 |base _ _=>rfl
 |step E G _ br=>
  unfold eD;rw[E];simp only[as5,br]
theorem F4 {L:List aN}: ∀{k:Nat} {nm:ay4},eC L nm k-> ∀j,j < k->(eD L k nm).take (j+1)=(eD L k nm).take j++[eK L (j+1) nm]
 |k+1,nm,.step (d:=d) E G aj,0,_=>by
  unfold eD;rw[E];simp only[List.take_succ_cons,List.take_zero,List.nil_append];rw[show eK L 1 nm=d.back by show(match dk L nm with |none=>nm |some d=>eK L 0 d.back)=_;rw[E];rfl]
 |k+1,nm,.step (d:=d) E G aj,j+1,Z=>by
  have br:=F4 aj j au5;unfold eD;rw[E];simp only[List.take_succ_cons,List.cons_append];rw[br];rw[show eK L (j+1+1) nm=eK L (j+1) d.back by show(match dk L nm with |none=>nm |some d=>eK L (j+1) d.back)=_;rw[E]]
 |0,_,_,j,Z=>absurd Z au5
abbrev zX (x:Option Nat):aP:=.c (.one (.d (.aL x)))
abbrev RW (L:List aN) (nm:ay4) (j:Nat):aY:=[(0,ap 1001),(5,eO 5002),(6,zX ((dk L (eK L j nm)).map (·.ad)))]
abbrev RX (z U:Int) (L:List aN) (k:Nat) (nm:ay4) (j:Nat):aw:=bP z U L++[(5002,.row 9 .str ((eD L k nm).take j))]
abbrev aeG (L:List aN) (nm:ay4) (j:Nat):aY:=[(0,ap 1001),(5,eO 35),(6,zX ((dk L (eK L j nm)).map (·.ad)))]
abbrev aeH (z U:Int) (L:List aN) (k:Nat) (nm:ay4) (j:Nat):aw:=bP z U L++[(35,.row 9 .str ((eD L k nm).take j))]
theorem zY (z U:Int) (L:List aN) (eJ:hW L) (nm:ay4) (k:Nat) (ab:eC L nm k) (hi:k<=1000000):Fn Tryz.prog 42 [ap 1001,bU nm] (bP z U L) [] (bS .str (eD L k nm)) (bP z U L):=by
 obtain⟨oX,gb,gc⟩:=j5 F2;have hd:=ru ab;refine aU [2,7] Tryz.func42 ?_;refine bz [7] (bp) <| dQ [6,4,7] (X:=Nat) (RW L nm) (fun j=>RX z U L k nm j) (fun j=>j<=k) (fun j=>k - j) 0 (ap7 _) ?_ ?_
 .refine(ae.nil 5 5002 9 .str rfl rfl).trans (ae.sub ⟨rfl,rfl,?_,trivial⟩ aA);exact jO nm L
 intro j Z;have iT:=F3 ab j Z;have nM:k - j=0->(eD L k nm).take j=eD L k nm:=fun h=>List.take_of_length_le au5
 refine⟨fun dZ h'=>?_,fun h'=>?_⟩
 .obtain⟨d,J,rfl⟩: ∃d,dk L (eK L j nm)=some d/\d.ad=dZ:=by
   have h':(dk L (eK L j nm)).map (·.ad)=some dZ:=h'
   cases e:dk L (eK L j nm) with
   |none=>rw[e] at h';cases h'
   |some d=>rw[e] at h';injection h' with h';exact⟨d,rfl,h'⟩
  have cY:=eJ.D (cV J).1;have hx:(dk L (eK L j nm)).map (·.ad)=some d.ad:=by rw[J];rfl
  refine⟨_,_,fun N=>iY (b:=d.ad) rfl ax1 N,rfl,?_⟩;refine⟨_,_,fun N=>ja rfl Tryz.underlying86 rfl rfl gb av7 rfl N,rfl,?_⟩;refine⟨_,_,fun N=>k9 (q:=1003) rfl Tryz.underlying9 rfl rfl rfl cY rfl N,rfl,?_⟩;refine⟨fun O=>?_,fun O=>?_⟩
  .have O:d.back=[]:=gd O
   have av:k - j=0:=by
    generalize k - j=m at iT
    cases iT with
    |gone h=>rfl
    |base _ _=>rfl
    |step E G _=>rw[J] at E;injection E with E;rw[<-E] at G;exact absurd O G
   have cq:=nM av;exact bz [] (bp) ⟨_,_,_,ae.dW 5002 rfl,rfl,cq,aA,rfl⟩
  .have O: ¬d.back=[]:=mu O
   have lG:j < k:=by
    rcases Nat.lt_or_ge j k with h |h
    .exact h
    .exfalso;have av:k - j=0:=av3
     rw[av] at iT
     cases iT with
     |gone h=>rw[J] at h;cases h
     |base E G=>rw[J] at E;injection E with E;rw[<-E] at G;exact O G
   have RY:eK L (j+1) nm=d.back:=by rw[zW,J]
   have m5:=F4 ab j lG;rw[RY] at m5;have mK:((eD L k nm).take j).length+1<=4294967296:=aw5
   refine bz [4] (cH (RW L nm j) (RX z U L k nm j)) ⟨_,_,fun N=>iY (b:=d.ad) rfl ax1 N,rfl,?_⟩;refine⟨_,_,fun N=>ja rfl Tryz.underlying86 rfl rfl gb av7 rfl N,rfl,?_⟩;refine⟨_,_,fun N=>k9 (q:=1003) rfl Tryz.underlying9 rfl rfl rfl cY rfl N,rfl,?_⟩;refine⟨mK,rfl,bz [] (ae.sub (K':=aeG L nm j) (B':=aeH z U L k nm (j+1)) aA ⟨rfl,rfl,rfl,rfl,congrArg (fun l:List ay4=>some (bb.row 9 .str l)) m5.symm,trivial⟩) ⟨_,_,fun N=>iY (b:=d.ad) rfl ax1 N,rfl,?_⟩⟩;refine⟨_,_,fun N=>ja rfl Tryz.underlying86 rfl rfl gb av7 rfl N,rfl,?_⟩;refine⟨_,_,fun N=>k9 (q:=1003) rfl Tryz.underlying9 rfl rfl rfl cY rfl N,rfl,?_⟩;refine⟨rfl,j+1,au5,au5,(ae.aV 35 5002 rfl).trans (ae.sub ⟨rfl,rfl,?_,trivial⟩ aA)⟩;rw[RY];exact jO d.back L
 .have J:dk L (eK L j nm)=none:=by
   have h':(dk L (eK L j nm)).map (·.ad)=none:=h'
   cases e:dk L (eK L j nm) with
   |none=>rfl
   |some d=>rw[e] at h';cases h'
  have av:k - j=0:=by
   generalize k - j=m at iT
   cases iT with
   |gone h=>rfl
   |base _ _=>rfl
   |step E G _=>rw[J] at E;cases E
  have cq:=nM av;exact bz [] (bp) ⟨_,_,_,ae.dW 5002 rfl,rfl,cq,aA,rfl⟩
theorem hy {f:FuncId} {args:List aP} {res:aP} {d:aN} {M:List (Nat×bf)} (h:Fn Tryz.prog f (ap 1001::args) (dx d.im) [] res (dx d.im)) (aq:eg M d.am=some (kr d)) (E:nO 1001 [1002,1003,1004] (ap 1001::args) (dx d.im) [] [] []=true) (G:nP 1001 (mF [1002,1003,1004] [] []) res (dx d.im) []=true)
  (aj:(args.all fun v=>v.iW [])=true) (aX:res.iW []=true):Fn Tryz.prog f (dn d.am::args) [(1004,.aG (.bA M))] [] res [(1004,.aG (.bA M))]:=by
 have fv: ∀{v:aP},v.iW []=true->v.has 1001=false:=fun {v} ay=>by
  cases e:v.has 1001 with
  |false=>rfl
  |true=>exact absurd (aP.kn ay e) List.not_mem_nil
 cases af:d.cR with
 |none=>
  rw[show kr d=iZ d.im by unfold kr;rw[af]] at aq;have H:Fn Tryz.prog f (ap 1001::args) [(1001,.aG (iZ d.im))] [] res [(1001,.aG (iZ d.im))]:=Fn.close (bo:=dx d.im) (dv:=dx d.im) (aJ:=[]) (aO:=[]) [1002,1003,1004] av4 (fun _ _ _ _ h=>h) (fun _ _ _ _ h=>h) E G;have:=(cu.bA (c:=1001) (q:=1004) (b:=d.am) (args:=args) (aJ:=[]) (bc:=[]) (X:=Unit) (res:=fun _=>res) (aO:=fun _=>[]) (o:=iZ d.im) (o':=fun _=>iZ d.im) (L:=M) H.x aq (ar4.2 fun v ay=>by rw[fv (ar4.1 aj v ay)];rfl) ⟨rfl,rfl⟩ rfl (fun _=>by rw[fv aX];rfl)).fn;rw[xG aq] at this;exact this
 |some bs=>
  rw[show kr d= .m8 (dx d.im) (fun c=>cond (Nat.beq c 1001) d.am (bs c)) by unfold kr;rw[af]] at aq;exact Fn.acB (c:=1001) h aq rfl rfl aj aX
theorem aeI {s:bM} (aD:gC s) {k:Nat} (ab:k < s.t.length):KB s (k*2 ^s.z) (2 ^s.z)=fO s k none:=by
 have dJ:=xP aD ab none;have af:=kp aD.z;have d2:aM s=16*2 ^s.z:=rfl
 have bG:16*(k*2 ^s.z)/aM s=k:=by
  rw[d2,show 16*(k*2 ^s.z)=k*(16*2 ^s.z) by rw[Nat.mul_left_comm],Nat.mul_div_cancel _ au5]
 have em:16*(k*2 ^s.z)=k*aM s:=by rw[d2,Nat.mul_left_comm]
 have ai:cQ (aM s) (k*2 ^s.z) (2 ^s.z)=1:=by
  have av:=xQ (a:=k*2 ^s.z) (l:=2 ^s.z) (k:=0) (sq aD.z);have E:=xQ (a:=k*2 ^s.z) (l:=2 ^s.z) (k:=1) (sq aD.z);rw[bG,Nat.mul_add,em] at av E;rw[Nat.add_zero] at av;rw[Nat.succ_mul] at E;have a0:=av.1 ⟨au5,au5⟩
  have b4: ¬1 < cQ (aM s) (k*2 ^s.z) (2 ^s.z):=fun h=>by
   have:=(E.2 h).2;omega
  omega
 unfold KB;rw[ai];show[]++zR s (k*2 ^s.z) (2 ^s.z) 0=_;rw[List.nil_append];unfold zR;have Kj:(bq (aM s) (k*2 ^s.z) (2 ^s.z) 0).c=k:=by unfold bq;simp only[bG,Nat.add_zero]
 have aeJ:(bq (aM s) (k*2 ^s.z) (2 ^s.z) 0).a=0:=by
  show 16*(k*2 ^s.z) - (16*(k*2 ^s.z)/aM s+0)*aM s=0;rw[bG,Nat.add_zero,em,Nat.sub_self]
 have CC:(bq (aM s) (k*2 ^s.z) (2 ^s.z) 0).b=aM s:=by
  show min (16*(k*2 ^s.z+2 ^s.z) - (16*(k*2 ^s.z)/aM s+0)*aM s) (aM s)=aM s;rw[bG,Nat.add_zero,Nat.mul_add,em,show 16*2 ^s.z=aM s from rfl,Nat.add_sub_cancel_left,Nat.min_self]
 rw[Kj,aeJ,CC,List.drop_zero,List.take_of_length_le au5]
theorem aeK {s:bM} (aD:gC s) {k:Nat} (ab:k < s.t.length):eh s ((k*2 ^s.z:Nat):Int) ((2 ^s.z:Nat):Int)=0:=by
 have h:k*2 ^s.z+2 ^s.z<=hV s:=by
  have:=Nat.mul_le_mul_right (2 ^s.z) (show k+1<=s.t.length from ab);rw[Nat.succ_mul] at this;exact this
 unfold eh;generalize k*2 ^s.z=Q at*;generalize 2 ^s.z=P at*;rw[if_neg au5,if_neg au5]
structure nf (z:Nat) (U:Nat) (L:List aN):Prop extends hW L where
 b3:z<=3
 uP:U<=512
 len:L.length<=16
 g4: ∀d,d∈L->gC d.im/\d.im.z=z/\d.im.l.length=U
 h7: ∀d,d∈L->d.back≠[]-> ∃e,dk L d.back=some e
 ne: ∀d,d∈L->d.nm≠[]
 rv: ∀d,d∈L-> ∃k,k<=8/\eC L d.nm k
theorem KS {z U:Nat} {L:List aN} (h:nf z U L) {nm:ay4} {k:Nat} (ab:eC L nm k): ∀n,n∈eD L k nm-> ∃e,dk L n=some e:=by
 induction ab with
 |gone _=>intro n hn;cases hn
 |base _ _=>intro n hn;cases hn
 | @step nm d k E G aj br=>
  intro n hn;unfold eD at hn;rw[E] at hn;rcases ap3.1 hn with rfl |hn
  .exact h.h7 d (cV E).1 G
  .exact br n hn
def mO (z:Nat) (L:List aN) (k:Nat):List ay4->Nat->ay4×Nat
 | [],_=>(List.replicate (16*2 ^z) 0,0)
 |n::ns,i=>match dk L n with
  |none=>([],0)
  |some d=>if k < d.im.t.length/\(d.im.t.getD k cD).1≠0 then(fO d.im k none,i+1) else mO z L k ns (i+1)
theorem RZ {z U:Nat} {L:List aN} (h:nf z U L) (k:Nat): ∀(ns:List ay4) (i:Nat),(mO z L k ns i).1.length<=128
 | [],i=>by
  show(List.replicate (16*2 ^z) (0:UInt8)).length<=128;rw[as4];have:=kp h.b3;omega
 |n::ns,i=>by
  unfold mO
  cases e:dk L n with
  |none=>exact ap7 _
  |some d=>
   simp only
   split
   .rename_i bk;obtain⟨fi,g3,_⟩:=h.g4 d (cV e).1;rw[xP fi bk.1 none];exact(uL fi.z).2
   .exact RZ h k ns (i+1)
abbrev F5 (z:Nat) (k:Nat) (l:List ay4) (j:Nat):aY:=[(0,ap 1001),(2,ac (k:Int)),(8,ac ((2 ^z:Nat):Int)),(24,bS .str l),(25,ac (l.length:Nat)),(26,ac (j:Nat))]
abbrev aeL (z:Nat) (nm:ay4) (k:Nat):aY:=[(1000000+(1000000+20),.undef),(0,ap 1001),(1,bU nm),(2,ac (k:Int)),(8,ac ((2 ^z:Nat):Int))]
theorem aeM:(Tryz.prog.info? 9).map (fun i=>(i.zero,i.size,i.bytes))=some (some (.string ⟨#[]⟩),1,16):=by kernel_rfl
theorem aeN (z U:Nat) (L:List aN) (eE:nf z U L) (nm:ay4) (bO:aN) (av:dk L nm=some bO) (dg:Nat) (h4:eC L nm dg) (mP:dg<=100) (k:Nat) (ab:k<=100000):
  Fn Tryz.prog 133 [ap 1001,bU nm,ac (k:Int)] (bP z U L) [] (.cf [.one (.d (.ck .u8 (mO z L k (nm::eD L dg nm) 0).1)),.one (.d (.int .i64 (((mO z L k (nm::eD L dg nm) 0).2:Nat):Int)))]) (bP z U L):=by
 obtain⟨oX,gb,gc⟩:=j5 xX;obtain⟨ao9,aeO,aeP,aeQ,ao'⟩:=info_parts aeM;have af:=kp eE.b3;have b6:=ru h4
 have iQ: ∀n,n∈nm::eD L dg nm-> ∃e,dk L n=some e:=fun n hn=>by
  rcases ap3.1 hn with rfl |hn
  .exact⟨bO,av⟩
  .exact KS eE h4 n hn
 have ai:(1:Int)*((2 ^z:Nat):Int)=((2 ^z:Nat):Int):=Int.one_mul _;obtain⟨l,al⟩: ∃l,l=nm::eD L dg nm:=⟨_,rfl⟩;have mK:l.length=dg+1:=by rw[al,as5,b6]
 refine aU [2,5,6,7,8,10] Tryz.func133 ?_;have m1:(0:Int)<=1/\(0:Int)<=(z:Int)/\(z:Int)<=64:=by have:=eE.b3;omega
 have m2:(-9223372036854775808:Int)<=1*((2 ^z:Nat):Int)/\(1:Int)*((2 ^z:Nat):Int)<=9223372036854775807:=by rw[ai];omega
 refine⟨m1,m2,bt.ab8 20 au6 <| bz [5,6,7,8,10] (ae.sub (K':=aeL z nm k) (B':=bP z U L) ⟨trivial,rfl,rfl,rfl,ai,trivial⟩ aA) ⟨_,_,fun N=>ab9 (d:=20) rfl Tryz.underlying96 aeO aeP aeQ rfl N,rfl,?_⟩⟩;refine ar (zY z U L eE.tohW nm dg h4 au5) ?_;have gZ: [nm].length+(eD L dg nm).length<=4294967296:=by rw[b6];simp;omega
 refine⟨gZ,rfl,dQ [5,6,7,8,10] (X:=Nat) (F5 z k l) (fun _=>bP z U L) (fun j=>j<=l.length/\mO z L k (l.drop j) j=mO z L k l 0) (fun j=>l.length - j) 0 ⟨ap7 _,by rw[List.drop_zero]⟩ ?_ ?_⟩
 .subst al;exact(ae.dW (e:=9) (u:=.str) (xs:=nm::eD L dg nm) 24 rfl).trans (ae.sub aA aA)
 rintro j ⟨Z,i7⟩;rw[<-al];refine⟨fun h=>?_,fun h=>?_⟩
 .have h:decide ((j:Int) < (l.length:Nat))=true:=h;have fj:j < l.length:=av4
  obtain⟨d,J⟩:=iQ l[j] (by rw[<-al];exact ar3 fj);have F6:=(cV J).1;obtain⟨fi,g3,pF⟩:=eE.g4 d F6;have lJ:=eE.tohW.D F6;have fx:=eE.tohW.M F6;have hx:(b0 (aI:=.str) (aK:=.aL) (c4 L) l[j]).getD (cL .aL)=some d.ad:=by rw[jO,J];rfl
  have Co:l.drop j=l[j]::l.drop (j+1):=List.drop_eq_getElem_cons fj
  have xY:mO z L k (l.drop j) j=if k < d.im.t.length/\(d.im.t.getD k cD).1≠0 then(fO d.im k none,j+1) else mO z L k (l.drop (j+1)) (j+1):=by
   rw[Co];show(match dk L l[j] with |none=>([],0) |some d=>_)=_;rw[J]
  have m3:(0:Int)<=(j:Int):=av3
  have rs:c0 ((j:Int)+1):=av3
  refine⟨m3,l[j],jv (n:=j) fj,?_⟩;generalize l[j]=n at*;refine bz [6,7,8,10] (cH ((9,ac (j:Nat))::(10,bU n)::F5 z k l j) (bP z U L)) ⟨_,_,fun N=>iY (b:=d.ad) rfl ax1 N,rfl,?_⟩;refine⟨_,_,fun N=>ja rfl Tryz.underlying86 rfl rfl gb av7 rfl N,rfl,?_⟩;refine⟨_,_,fun N=>k9 (q:=1003) rfl Tryz.underlying43 rfl rfl rfl lJ rfl N,rfl,?_⟩;refine bz [7,8,10] (cH ((9,ac (j:Nat))::(11,dn d.am)::F5 z k l j) (bP z U L)) <| ar (hy (mL d.im) fx rfl rfl rfl rfl) ⟨fun E=>?_,fun E=>?_⟩
  .have E:(k:Int) < (d.im.t.length:Nat):=gd E;have cm:k < d.im.t.length:=av3
   refine ar (hy (zU d.im fi.eV k cm) fx rfl rfl rfl rfl) ⟨fun G=>?_,fun G=>?_⟩
   .have G:(d.im.t.getD k cD).1≠0:=by
     have G:(!decide ((d.im.t.getD k cD).1=0))=true:=G;simpa using G
    rw[xY,if_pos ⟨cm,G⟩] at i7;have ft:=aeK fi cm;have tD:=RE d.im fi (k*2 ^d.im.z) (2 ^d.im.z) ft;rw[aeI fi cm] at tD;rw[g3] at tD ft;have c3:((k*2 ^z:Nat):Int)=(k:Int)*((2 ^z:Nat):Int):=Int.natCast_mul _ _;rw[c3] at tD
    have jb:c0 ((k:Int)*((2 ^z:Nat):Int)):=by
     rw[<-c3];have:=Nat.mul_le_mul ab af.2;omega
    refine bz [8,10] (cH ((9,ac (j:Nat))::(11,dn d.am)::F5 z k l j) (bP z U L)) ⟨jb,ar (hy tD fx rfl rfl rfl rfl) <| bz [] (bp) ?_⟩;have tA:c0 ((j:Int)+1):=av3
    refine⟨tA,_,_,_,bp,rfl,⟨?_,?_,trivial⟩,aA,rfl⟩
    .exact congrArg Prod.fst i7
    .show(j:Int)+1=_;rw[<-i7];rfl
   .have G:(d.im.t.getD k cD).1=0:=by
     have G:(!decide ((d.im.t.getD k cD).1=0))=false:=G;simpa using G
    rw[xY,if_neg (fun h=>h.2 G)] at i7;exact⟨rs,j+1,⟨fj,i7⟩,au5,ae.sub aA aA⟩
  .have E: ¬(k:Int) < (d.im.t.length:Nat):=mu E;rw[xY,if_neg (fun h=>E (by have:=h.1;omega))] at i7;exact⟨rs,j+1,⟨fj,i7⟩,au5,ae.sub aA aA⟩
 .have h:decide ((j:Int) < (l.length:Nat))=false:=h;have fj:j=l.length:=ax5
  subst fj;rw[List.drop_length] at i7;have zZ:((2 ^z:Nat):Int)*16=((16*2 ^z:Nat):Int):=av3
  have KT:c0 (((2 ^z:Nat):Int)*16):=by rw[zZ];omega
  have KU:((2 ^z:Nat):Int)*16=((2 ^z:Nat):Int)*16/\(0:Int)<=((2 ^z:Nat):Int)*16/\((2 ^z:Nat):Int)*16<=4294967296:=by rw[zZ];omega
  refine bz [] (bp) ⟨KT,KU,rfl,_,_,_,ae.dW 65 rfl,rfl,⟨?_,?_,trivial⟩,aA,rfl⟩
  .have aeR:List.replicate (((2 ^z:Nat):Int)*16).toNat (0:UInt8)=(mO z L k l 0).1:=by
    rw[<-i7,zZ];rfl
   exact aeR
  .show(0:Int)=_;rw[<-i7];rfl
theorem aeS {a b:Int} (E:0<=a) (G:a<=9223372036854775807) (aj:0<=b) (aX:b<=9223372036854775807):
  IntKind.i64.wrap (((BitVec.ofInt 64 a &&& BitVec.ofInt 64 b).toNat:Nat):Int)=((a.toNat &&& b.toNat:Nat):Int):=by
 have ai:(BitVec.ofInt 64 a).toNat=a.toNat:=ax4
 have ao:(BitVec.ofInt 64 b).toNat=b.toNat:=ax4
 rw[BitVec.toNat_and,ai,ao];have h:a.toNat &&& b.toNat < 2 ^63:=Nat.and_lt_two_pow _ au5;exact xb (by simp only[t7];omega)
theorem F7 {P:Program} {ids:ay5} {K:aY} {B:aw} {o:Oper} {T fG:TypeId} {x y:Operand} {a b:Int} (ah:o.op= .binOp .and T x y fG) (hx:a6 K x= .c (.one (.d (.int .i64 a)))) (aB:a6 K y= .c (.one (.d (.int .i64 b)))) (E:0<=a) (G:a<=9223372036854775807) (aj:0<=b) (aX:b<=9223372036854775807) (N:Nat):
  bB P N ids o K B (.c (.one (.d (.int .i64 ((a.toNat &&& b.toNat:Nat):Int))))) ⟨[],[],[]⟩:=by
 have m1:x∈o.op.operands:=av2
 have m2:y∈o.op.operands:=av2
 refine bB.val fun K' B' g1 g2 C ρ F fa w aq au=>?_
 have ai:=au.int ((g1 x m1).trans hx);have ao:=au.int ((g1 y m2).trans aB);refine⟨_,?_,rfl⟩;have e:=aeS E G aj aX
 have ax:Op.intBits .and .i64 a b=pure (.int .i64 ((a.toNat &&& b.toNat:Nat):Int)):=by
  exact congrArg (fun aC:Int=>(pure (Value.int .i64 aC):Sem Value)) e
 simp only[execOp,ah,ai,ao,eqGuard,binOp,ax];simp[go_sem]
def pG (z:Nat) (L:List aN) (nm:ay4) (dg k:Nat):ay4:=(mO z L k (nm::eD L dg nm) 0).1
theorem KV (z U:Nat) (L:List aN) (eE:nf z U L) (nm:ay4) (bO:aN) (av:dk L nm=some bO) (dg:Nat) (h4:eC L nm dg) (mP:dg<=100) (k:Nat) (ab:k < bO.im.t.length):
  Fn Tryz.prog 81 [ap 1001,bU nm,ac (k:Int)] (bP z U L) [] (bS .u8 (pG z L nm dg k)) (bP z U L):=by
 obtain⟨oX,gb,gc⟩:=j5 xX;have J:=(cV av).1;obtain⟨fi,g3,pF⟩:=eE.g4 bO J;have lJ:=eE.tohW.D J;have fx:=eE.tohW.M J;have hx:(b0 (aI:=.str) (aK:=.aL) (c4 L) nm).getD (cL .aL)=some bO.ad:=ax6
 have nd:=fi.eV;refine aU [2,4] Tryz.func81 ?_;refine bz [4] (bp) ?_;refine⟨fun dZ O=>⟨fun h=>absurd (gd h) au5,fun _=>⟨_,_,fun N=>iY (b:=bO.ad) rfl ax1 N,rfl,?_⟩⟩,fun O=>absurd (show(b0 (aI:=.str) (aK:=.aL) (c4 L) nm).getD (cL .aL)=none from O) aw2⟩;refine⟨_,_,fun N=>ja rfl Tryz.underlying86 rfl rfl gb av7 rfl N,rfl,?_⟩;refine⟨_,_,fun N=>k9 (q:=1003) rfl Tryz.underlying43 rfl rfl rfl lJ rfl N,rfl,?_⟩;refine ar (hy (mL bO.im) fx rfl rfl rfl rfl) ⟨fun h=>?_,fun _=>?_⟩
 .exfalso;have h:((bO.im.t.length:Nat):Int)<=(k:Int):=gd h;omega
 exact bz [] (cH [(0,ap 1001),(1,bU nm),(2,ac (k:Int))] (bP z U L)) <| ar (aeN z U L eE nm bO av dg h4 mP k au5) bg
theorem R0 (z U:Nat) (E:z<=3) (aj:U<=512):Fn Tryz.prog 17 [ac (z:Int),ac (U:Int)] [] [1001,1002,1003,1004] (.cf [.one (.ptr 1001 0),dw 0]) (bP z U []):=by
 refine aU [2] Tryz.func17 ?_;exact ar (Fn.aV [(1001,2001),(1002,2002),(1003,2003),(1004,2004)] (aeB z 0 U E au6 aj)) <| bz [] (cH [(0,ac (z:Int)),(1,ac (U:Int)),(7,ac 0)] []) <| df ⟨rfl,rfl,_,_,_,(ae.aV 21 1001 rfl).trans ((ae.aV 19 1002 rfl).trans ((ae.q' 1003 rfl).trans (ae.q' 1004 rfl))),rfl,aA,aA,rfl⟩
def CD (z:Nat) (L:List aN) (nm:ay4) (dg s:Nat):ay4:=((pG z L nm dg (s/2 ^z)).take (s % 2 ^z*16+16)).drop (s % 2 ^z*16)
def rx (z:Nat) (L:List aN) (nm:ay4) (dg a:Nat):Nat->ay4
 |0=>[]
 |j+1=>rx z L nm dg a j++CD z L nm dg (a+j)
theorem R1 {z U:Nat} {L:List aN} (h:nf z U L) (k:Nat): ∀(ns:List ay4) (i:Nat),(∀n,n∈ns-> ∃e,dk L n=some e)->(mO z L k ns i).1.length=16*2 ^z
 | [],i,_=>as4
 |n::ns,i,hn=>by
  obtain⟨d,e⟩:=hn n (aq0 ..);unfold mO;rw[e];simp only
  split
  .rename_i bk;obtain⟨fi,g3,_⟩:=h.g4 d (cV e).1;rw[xP fi bk.1 none];show 16*2 ^d.im.z=_;rw[g3]
  .exact R1 h k ns (i+1) fun n az=>hn n (ap2 _ az)
theorem CE {z U:Nat} {L:List aN} (h:nf z U L) {nm:ay4} {bO:aN} (av:dk L nm=some bO) {dg:Nat} (h4:eC L nm dg) (k:Nat):(pG z L nm dg k).length=16*2 ^z:=
 R1 h k _ 0 fun n hn=>by
  rcases ap3.1 hn with rfl |hn
  .exact⟨bO,av⟩
  .exact KS h h4 n hn
theorem KW {z U:Nat} {L:List aN} (h:nf z U L) {nm:ay4} {bO:aN} (av:dk L nm=some bO) {dg:Nat} (h4:eC L nm dg) (a:Nat): ∀j,(rx z L nm dg a j).length=16*j
 |0=>rfl
 |j+1=>by
  have br:=KW h av h4 a j;have H:=CE h av h4 ((a+j)/2 ^z);have af:=(kp h.b3).1;have az:(a+j) % 2 ^z < 2 ^z:=Nat.mod_lt _ au5;show(rx z L nm dg a j++CD z L nm dg (a+j)).length=_;rw[ap1,br];unfold CD;rw[at1,ap8,H];generalize(a+j) % 2 ^z=m at*;generalize 2 ^z=P at*;omega
abbrev R2 (nm:ay4) (a l j:Nat):aY:=[(0,ap 1001),(1,bU nm),(2,ac (a:Int)),(3,ac (l:Int)),(13,eO 5002),(14,ac ((a+j:Nat):Int))]
abbrev aeT (nm:ay4) (a l j:Nat):aY:=[(0,ap 1001),(1,bU nm),(2,ac (a:Int)),(3,ac (l:Int)),(13,eO 70),(14,ac ((a+j:Nat):Int))]
abbrev R3 (z U:Int) (L:List aN) (acc:ay4):aw:=bP z U L++[(5002,.row 5 .u8 acc)]
abbrev aeU (z U:Int) (L:List aN) (acc:ay4):aw:=bP z U L++[(70,.row 5 .u8 acc)]
theorem aeV (z U:Nat) (L:List aN) (eE:nf z U L) (nm:ay4) (bO:aN) (av:dk L nm=some bO) (dg:Nat) (h4:eC L nm dg) (mP:dg<=100) (a l:Nat) (ft:eh bO.im a l=0):
  Fn Tryz.prog 45 [ap 1001,bU nm,ac (a:Int),ac (l:Int)] (bP z U L) [2001] (.cf [.one (.own 2001),dw 0]) (bP z U L++[(2001,.row 5 .u8 (rx z L nm dg a l))]):=by
 obtain⟨oX,gb,gc⟩:=j5 xX;have J:=(cV av).1;obtain⟨fi,g3,pF⟩:=eE.g4 bO J;have lJ:=eE.tohW.D J;have fx:=eE.tohW.M J;have hx:(b0 (aI:=.str) (aK:=.aL) (c4 L) nm).getD (cL .aL)=some bO.ad:=ax6
 have af:=kp eE.b3;have eH:=su ft;have xT:hV bO.im<=2048:=Nat.mul_le_mul fi.eV (kp fi.z).2;have aeW:hV bO.im=bO.im.t.length*2 ^z:=by unfold hV;rw[g3]
 refine aU [2,5,7,9,11,12] Tryz.func45 ?_;refine bz [5,7,9,11,12] (bp) ?_;refine⟨fun dZ O=>⟨_,_,fun N=>iY (b:=bO.ad) rfl ax1 N,rfl,?_⟩,fun O=>absurd (show(b0 (aI:=.str) (aK:=.aL) (c4 L) nm).getD (cL .aL)=none from O) aw2⟩;refine⟨_,_,fun N=>ja rfl Tryz.underlying86 rfl rfl gb av7 rfl N,rfl,?_⟩;refine⟨_,_,fun N=>k9 (q:=1003) rfl Tryz.underlying43 rfl rfl rfl lJ rfl N,rfl,?_⟩;refine ar (hy (RE bO.im fi a l ft) fx rfl rfl rfl rfl) <| bz [7,9,11,12] (cH [(0,ap 1001),(1,bU nm),(2,ac (a:Int)),(3,ac (l:Int)),(12,ac 0)] (bP z U L)) <| df <| bz [9,11,12] (bp) <| dQ [11,12] (X:=Nat) (R2 nm a l) (fun j=>R3 z U L (rx z L nm dg a j)) (fun j=>j<=l) (fun j=>l - j) 0 (ap7 _) ?_ ?_
 .exact(ae.nil 13 5002 5 .u8 rfl rfl).trans (ae.sub aA aA)
 intro j Z;have m1:c0 ((a:Int)+(l:Int)):=av3
 refine⟨m1,fun h=>?_,fun h=>?_⟩
 .have h:((a+j:Nat):Int) < (a:Int)+(l:Int):=gd h;have rU:j < l:=av3
  have KX:=KW eE av h4 a j
  have cm:(a+j)/2 ^z < bO.im.t.length:=by
   rw[Nat.div_lt_iff_lt_mul au5,<-aeW];omega
  have dJ:=CE eE av h4 ((a+j)/2 ^z);have Oq:(a+j) % 2 ^z < 2 ^z:=Nat.mod_lt _ au5;have aeX:=KV z U L eE nm bO av dg h4 mP ((a+j)/2 ^z) cm;have m2:(0:Int)<=((a+j:Nat):Int)/\(0:Int)<=(z:Int)/\(z:Int)<=64:=by have:=eE.b3;omega
  have m3:(0:Int)<=1/\(0:Int)<=(z:Int)/\(z:Int)<=64:=by have:=eE.b3;omega
  have ai:(1:Int)*((2 ^z:Nat):Int)=((2 ^z:Nat):Int):=Int.one_mul _;have jb:(-9223372036854775808:Int)<=1*((2 ^z:Nat):Int)/\(1:Int)*((2 ^z:Nat):Int)<=9223372036854775807:=ay3
  have tA:(-9223372036854775808:Int)<=1*((2 ^z:Nat):Int) - 1/\(1:Int)*((2 ^z:Nat):Int) - 1<=9223372036854775807:=ay3
  refine bz [12] (bp) ⟨m2,m3,jb,tA,?_⟩;have et:(1*((2 ^z:Nat):Int) - 1).toNat=2 ^z - 1:=ay3
  have ev:(((((a+j:Nat):Int)).toNat &&& (1*((2 ^z:Nat):Int) - 1).toNat:Nat):Int)=(((a+j) % 2 ^z:Nat):Int):=by
   rw[et,show(((a+j:Nat):Int)).toNat=a+j from rfl,Nat.and_two_pow_sub_one_eq_mod]
  have zZ:(((((a+j:Nat):Int)).toNat &&& (1*((2 ^z:Nat):Int) - 1).toNat:Nat):Int)*16=(((a+j) % 2 ^z*16:Nat):Int):=by rw[ev];omega
  have aeY:((a+j:Nat):Int)/((2 ^z:Nat):Int)=(((a+j)/2 ^z:Nat):Int):=rfl
  have rs:c0 ((((((a+j:Nat):Int)).toNat &&& (1*((2 ^z:Nat):Int) - 1).toNat:Nat):Int)*16):=by
   rw[zZ];generalize(a+j) % 2 ^z=m at*;generalize 2 ^z=P at*;omega
  refine⟨_,_,fun N=>F7 rfl rfl rfl m2.1 au5 ay3 tA.2 N,rfl,?_⟩;refine⟨rs,rfl,?_⟩
  have KT:c0 ((((a+j) % 2 ^z*16:Nat):Int)+16):=by
   generalize(a+j) % 2 ^z=m at*;generalize 2 ^z=P at*;omega
  have KU:(0:Int)<=(((a+j) % 2 ^z*16:Nat):Int)/\(((a+j) % 2 ^z*16:Nat):Int)<=(((a+j) % 2 ^z*16:Nat):Int)+16/\(((a+j) % 2 ^z*16:Nat):Int)+16<=(((pG z L nm dg ((a+j)/2 ^z)).length:Nat):Int):=by
   rw[dJ];generalize(a+j) % 2 ^z=m at*;generalize 2 ^z=P at*;omega
  have KY:(rx z L nm dg a j).length+(CD z L nm dg (a+j)).length<=4294967296:=by
   have:=KW eE av h4 a (j+1);rw[show rx z L nm dg a (j+1)=rx z L nm dg a j++CD z L nm dg (a+j) from rfl,ap1] at this;omega
  refine bz [] (ae.sub (K':=(15,ac (((a+j)/2 ^z:Nat):Int))::(16,ac (((a+j) % 2 ^z*16:Nat):Int))::R2 nm a l j) (B':=R3 z U L (rx z L nm dg a j)) ⟨aeY,zZ,rfl,rfl,rfl,rfl,rfl,rfl,trivial⟩ aA) <| ar aeX ⟨KT,KU,KY,rfl,?_⟩;have aeZ:c0 (((a+j:Nat):Int)+1):=av3
  exact⟨aeZ,j+1,au5,au5,ae.trans (cH (aeT nm a l (j+1)) (aeU z U L (rx z L nm dg a (j+1)))) (ae.aV 70 5002 rfl)⟩
 .have h: ¬((a+j:Nat):Int) < (a:Int)+(l:Int):=mu h;have rU:j=l:=av3
  subst rU;exact⟨_,_,_,ae.aV 5002 2001 rfl,rfl,aA,aA,rfl⟩
theorem ae0 (z U:Nat) (L:List aN) (eE:nf z U L) (nm:ay4) (bO:aN) (av:dk L nm=some bO) (dg:Nat) (h4:eC L nm dg) (mP:dg<=100) (a l:Nat) (ft:eh bO.im a l=0):
  Fn Tryz.prog 45 [ap 1001,bU nm,ac (a:Int),ac (l:Int)] (bP z U L) [] (.cf [.one (.d (.ck .u8 (rx z L nm dg a l))),dw 0]) (bP z U L):=
 Fn.adU (d:=2001) (aeV z U L eE nm bO av dg h4 mP a l ft) rfl rfl rfl
theorem ae1 (z U:Int) (L:List aN) (nm:ay4) (av:dk L nm=none) (a l:Int):
  Fn Tryz.prog 45 [ap 1001,bU nm,ac a,ac l] (bP z U L) [] (.cf [.one .dD,dw 140]) (bP z U L):=by
 have hx:(b0 (aI:=.str) (aK:=.aL) (c4 L) nm).getD (cL .aL)=none:=ax6
 refine aU [] Tryz.func45 ?_;exact⟨fun dZ O=>absurd (show(b0 (aI:=.str) (aK:=.aL) (c4 L) nm).getD (cL .aL)=some dZ from O) aw2,fun _=>bg⟩
theorem ae2 (z U:Nat) (L:List aN) (eE:nf z U L) (nm:ay4) (bO:aN) (av:dk L nm=some bO) (a l:Int) (ft:eh bO.im a l≠0):
  Fn Tryz.prog 45 [ap 1001,bU nm,ac a,ac l] (bP z U L) [] (.cf [.one .dD,dw (eh bO.im a l)]) (bP z U L):=by
 obtain⟨oX,gb,gc⟩:=j5 xX;have J:=(cV av).1;obtain⟨fi,g3,pF⟩:=eE.g4 bO J;have lJ:=eE.tohW.D J;have fx:=eE.tohW.M J;have hx:(b0 (aI:=.str) (aK:=.aL) (c4 L) nm).getD (cL .aL)=some bO.ad:=ax6
 refine aU [] Tryz.func45 ?_;refine⟨fun dZ O=>⟨_,_,fun N=>iY (b:=bO.ad) rfl ax1 N,rfl,?_⟩,fun O=>absurd (show(b0 (aI:=.str) (aK:=.aL) (c4 L) nm).getD (cL .aL)=none from O) aw2⟩;refine⟨_,_,fun N=>ja rfl Tryz.underlying86 rfl rfl gb av7 rfl N,rfl,?_⟩;refine⟨_,_,fun N=>k9 (q:=1003) rfl Tryz.underlying43 rfl rfl rfl lJ rfl N,rfl,?_⟩;refine ar (hy (aeb bO.im fi a l ft) fx rfl rfl rfl rfl) ?_;exact⟨fun _=>bg,fun h=>absurd (show eh bO.im a l=0 by have h:(!decide (eh bO.im a l=0))=false:=h;simpa using h) ft⟩
end
section
open Go.RowKit Go.Proofs Go.Maps Go.Shelf Go.MapKept Tryz
open Go.WideElems (Fit rd rg pl rd_val rd_key rg_of)
def ae3 {aK:bx} (p:aa .str×aa aK):ay4:=p.1
def l9 {aK:bx} (es:List (aa .str×aa aK)):List ay4:=es.map ae3
def ng {aK:bx} (es:List (aa .str×aa aK)):List ay4:=(l9 es).mergeSort leB
abbrev pH:Value->Option (DataW Unit×List MemPlace):=fun _=>some (.nil,[])
theorem R4 {I:Nat->Prop} {w:World} {aK:bx}: ∀{l:List (aa .str×aa aK)} {es:List MapEntry},ie I w .str aK l es->es.map (·.key)=(l9 l).map encStr
 | [],_,h=>by rw[show _=[] from h];rfl
 |p::l,_,⟨e,r,h,E,_,aj⟩=>by
  rw[h,aq4,R4 aj,E];rfl
theorem ae4 {P:Program} {k:TypeId} (ab:P.underlying k=some .string) (s:ay4) (h:s.length<=maxLen):keyOf P k (encStr s)=some (.string s):=by
 simp only[keyOf,ab,encStr,mapKey,ByteArray.size,List.size_toArray];rw[if_pos h]
theorem R5: ∀{l m:List ay4},l.map encStr=m.map encStr->l=m
 | [],[],_=>rfl
 | [],_::_,h=>by simp at h
 |_::_,[],h=>by simp at h
 |x::l,y::m,h=>by
  simp only[aq4,List.cons.injEq] at h;rw[encStr_inj h.1,R5 h.2]
theorem R6 {P:Program} {k:TypeId} (ab:P.underlying k=some .string) {I:Nat->Prop} {w:World} {aK:bx} {es:List (aa .str×aa aK)} {bT:List MapEntry} {bV b:Nat} (O:w.heap[b]? =some (.map (List.toArray bT) bV))
  (az:ie I w .str aK es bT) (da:lZ bT bV) (hn:(l9 es).Nodup) (al: ∀s∈l9 es,s.length<=maxLen) (ax:es.length<=maxLen):
  ∃je,w.ownsMap P k pH b es.length je/\Maps.size je=es.length/\(strKeys je).Perm (l9 es):=by
 have b6:=A7 az;have xZ:=R4 az
 have CF: ∀x∈bT,∃s:ay4,x.key=encStr s/\s.length<=maxLen/\rg P k pH x=(.string s,.nil)/\ ∃y,rd P k pH x=some y:=by
  intro x hx;have:x.key∈(l9 es).map encStr:=by rw[<-xZ];exact aq6 hx
  obtain⟨s,af,V⟩:=ar2.1 this;have KZ:keyOf P k x.key=some (.string s):=V▸ae4 ab _ (al s af);have tD:rd P k pH x=some (.string s,.nil):=by simp[rd,KZ]
  exact⟨s,V.symm,al s af,rg_of tD,_,tD⟩
 have oY:=Go.WideShapes.sorted_perm (bT.map (rg P k pH))
 have h4:(bT.map (rg P k pH)).map (fun p=>strOf p.1)=l9 es:=by
  refine R5 ?_;rw[<-xZ,as2,as2];refine ar1 fun x hx=>?_
  obtain⟨s,ai,_,ao,_⟩:=CF x hx;simp[ao,ai,strOf]
 refine⟨.map ((bT.map (rg P k pH)).foldr DataW.insert []),⟨List.toArray bT,bV,O,⟨by simp[b6];exact ax,(stamped_iff _ _).2 ⟨da.2,da.1.imp fun h=>by omega,?_⟩,fun x hx=>(CF x hx).choose_spec.2.2.2⟩,by simp[b6],rfl⟩,?_,?_⟩
 .have E:(bT.map (·.key)).Pairwise (· ≠ ·):=by
   rw[xZ];exact List.pairwise_map.2 (hn.imp fun a2 e=>a2 (encStr_inj e))
  exact List.pairwise_map.1 E
 .show List.length _=_;rw[oY.length_eq,aq3,b6]
 .show(List.map (fun p=>strOf (Prod.fst p)) _).Perm _;rw[<-h4];exact oY.map _
theorem ae5 (es:List (aa .str×aa .aL)):Fn Tryz.prog 185 [.c (.one (.mp 1001))] [(1001,.map .str .aL es)] [2001] (.c (.one (.cU 207 [.p 2001 0]))) [(2001,.cells [.mp 1001]),(1001,.map .str .aL es)]:=by
 refine aU [] Tryz.func185 ?_;exact⟨rfl,_,_,_,ae.aV 1 2001 rfl,rfl,rfl,aA,rfl⟩
theorem eN.R7 {I D:Nat->Prop} {w:World} {v:Value} {l:List ay4} (h:eN D w 1 v l.length (l.map encStr)) (b9: ∀b,b < w.heap.size->D b->I b):co I w (.b7 .str) l (fun _=>some v):=by
 obtain⟨_,A,c,av,E,G,aj⟩:=h;refine⟨A,c,congrArg some av,E,G,fun af=>?_⟩;obtain⟨b,o,ek,O,bw,hx⟩:=aj af;refine⟨b,o,ek,b9 b bw O,fun i x aH=>?_⟩;have:=hx i (encStr x) (by rw[ar0,show l[i]? =some x from aH];rfl);simpa[co,aQ,encStr] using this
theorem R8 (m:Nat):AnyZ.SortsIn Tryz.prog QO Fence.wide m:=
 ⟨fun bj off cap g5 W cX jH cM=>callsIn_wide.2 (AnyM.slices_Sort_string QQ bj off cap g5 W cX jH cM),
  fun p cap W=>callsIn_wide.2 (AnyM.slices_Sort_string_none QQ p cap W)⟩
theorem ae6 (es:List (aa .str×aa .aL)) (hn:(l9 es).Nodup) (al: ∀s∈l9 es,s.length<=maxLen) (ax:es.length<=4294967296):
  Fn Tryz.prog 167 [.c (.one (.cU 207 [.p 2001 0]))] [(2001,.cells [.mp 1001]),(1001,.map .str .aL es)] [] (bS .str (ng es)) [(2001,.cells [.mp 1001]),(1001,.map .str .aL es)]:=by
 refine⟨au8,fun ρ F I w bW ba cX bh ep b6 dt=>?_⟩
 match bW,b6 with
 | [v],_=>
  obtain⟨aE,ay,gh,r,hr,ma,aF⟩:=dt 0 _ v rfl rfl;have aF:r=[]:=aF;have ma:gh= .pointer (some ⟨(ρ 2001).bj,0,none⟩):=ma;subst aF ma hr ay;obtain⟨_,aE,T,gQ,hr⟩:=cX 2001 _ rfl;obtain⟨x,r,hr,hx,aF⟩:=hr;have aF:r=[]:=aF;have hx:x= .map (some (ρ 1001).bj):=hx;subst aF hx hr;obtain⟨_,bT,bV,he,az,da⟩:=cX 1001 _ rfl;have F8:(4294967296:Nat)<=maxLen:=by decide
  obtain⟨je,du,cM,oY⟩:=R6 (P:=Tryz.prog) (k:=9) au8 he az da hn al au5;have bw:(ρ 2001).bj < w.heap.size:=k1 gQ
  have uQ:SeqGives Fence.wide 2 Tryz.prog 207 #[.pointer (some ⟨(ρ 2001).bj,0,none⟩)] encStr (fun g5=>g5.Perm (strKeys je)) (Maps.size je) w:=
   AnyZ.keys_gives (ρ:=QN) {acG with} Fence.wide _ trivial rfl au5 (ρ 2001).bj (ρ 1001).bj es.length je w bw (oF gQ rfl) du
  have H:=AnyZ.sorted_in QP Fence.wide 5 trivial trivial trivial trivial rfl au5 (R8 _) (enters_of Tryz.func194 au8 rfl) 207 #[.pointer (some ⟨(ρ 2001).bj,0,none⟩)] trivial (enters_of Tryz.func207 au8 rfl) _ _ ax0 ax0 _ uQ;refine(callsIn_wide.1 H).mono ?_;rintro e w' ⟨v,g5,rfl,au,fX,x0,gD⟩;have aW:ce I w (fun b=>b < w'.heap.size/\(I b\/w.heap.size<=b)) w':=fun b fP=>⟨⟨Nat.lt_of_lt_of_le (ba b fP) gD.size,.inl fP⟩,gD.block b (ba b fP)⟩
  refine⟨v,ρ,F,rfl,cK.mo gD,fun _ _=>rfl,_,aW,fun b h=>⟨h.1,h.2.imp id .inr⟩,fun c ch H=>Holds.cj aW (fun b O=>gD.block b (bh c ch H b O).1) gD.size ch (fun _ _=>rfl) (cX c ch H),fun c ch H b O=>?_,fun c bX ch ch' b E G=>ep c bX ch ch' b E G,?_⟩
  .have:=bh c ch H b O;exact⟨Nat.lt_of_lt_of_le this.1 gD.size,fun h=>(by rcases h.2 with h |h;exact this.2 h;omega),.inl ⟨c,ch,H,O⟩⟩
  .have ab:g5.mergeSort (fun x y=>decide (x<=y))=ng es:=Go.mergeSort_of_perm (au.trans oY);rw[ab] at fX;have hp:=eN.qQ fX;have wm:g5.length=(ng es).length:=by rw[<-ab,List.length_mergeSort]
   rw[wm] at hp;exact(hp.wY fun i _ aH=>(fX.lt i aH).1).R7 fun b E G=>⟨E,.inr G⟩
theorem z1 (L:List aN):l9 (c4 L)=L.map (·.nm):=by
 unfold l9 c4;rw[as2];rfl
def li (L:List aN):List ay4:=ng (c4 L)
theorem ae7 {L:List aN} {n:ay4} (h:n∈li L): ∃d,dk L n=some d:=by
 unfold li ng at h;rw[List.mem_mergeSort,z1] at h;obtain⟨d,J,e⟩:=ar2.1 h
 cases ao:dk L n with
 |some d=>exact⟨d,rfl⟩
 |none=>
  unfold dk at ao;have:=List.find?_eq_none.1 ao d J;simp[e] at this
theorem R9 (L:List aN):(li L).length=L.length:=by
 unfold li ng;rw[List.length_mergeSort,z1,aq3]
theorem Sa (z U:Int) (L:List aN) (eJ:hW L) (al: ∀d,d∈L->d.nm.length<=100000) (nZ:L.length<=100):Fn Tryz.prog 147 [ap 1001] (bP z U L) [] (bS .str (li L)) (bP z U L):=by
 have ab:(l9 (c4 L)).Nodup:=by rw[z1];exact eJ.ik
 have az: ∀s∈l9 (c4 L),s.length<=maxLen:=fun s ax=>by
  rw[z1] at ax;obtain⟨d,J,rfl⟩:=ar2.1 ax;exact as9 (al d J) au6
 have ax:(c4 L).length<=4294967296:=by unfold c4;rw[aq3];omega
 refine aU [] Tryz.func147 ?_;exact ar (Fn.aV [(1001,1002),(2001,5001)] (ae5 (c4 L))) <| ar (Fn.aV [(1001,1002),(2001,5001)] (ae6 (c4 L) ab az ax)) bg
def lK (L:List aN) (nm n:ay4):Bool:= !decide (nm=[])&&decide (((dk L n).map (·.back)).getD []=nm)
def oZ (L:List aN) (nm:ay4):List ay4:=(li L).filter (lK L nm)
abbrev K0 (nm:ay4) (l:List ay4) (j:Nat):aY:=[(0,ap 1001),(1,bU nm),(5,eO 5002),(9,bS .str l),(10,ac (l.length:Nat)),(11,ac (j:Nat))]
abbrev ae8 (nm:ay4) (l:List ay4) (j:Nat):aY:=[(0,ap 1001),(1,bU nm),(5,eO 33),(9,bS .str l),(10,ac (l.length:Nat)),(11,ac (j:Nat))]
abbrev K1 (z U:Int) (L:List aN) (x:List ay4):aw:=bP z U L++[(5002,.row 9 .str x)]
abbrev ae9 (z U:Int) (L:List aN) (x:List ay4):aw:=bP z U L++[(33,.row 9 .str x)]
theorem ae' (z U:Int) (L:List aN) (eJ:hW L) (al: ∀d,d∈L->d.nm.length<=100000) (nZ:L.length<=100) (nm:ay4):Fn Tryz.prog 95 [ap 1001,bU nm] (bP z U L) [] (bS .str (oZ L nm)) (bP z U L):=by
 obtain⟨oX,gb,gc⟩:=j5 F2;have k5:=@ae7 L;have b6:=R9 L;have zH:=Sa z U L eJ al nZ;unfold oZ;generalize li L=l at*;refine aU [5,6,8] Tryz.func95 ?_;refine ar zH <| dQ [5,6,8] (X:=Nat) (K0 nm l) (fun j=>K1 z U L ((l.take j).filter (lK L nm))) (fun j=>j<=l.length) (fun j=>l.length - j) 0 (ap7 _) ?_ ?_
 .exact(ae.nil 5 5002 9 .str rfl rfl).trans (ae.sub aA aA)
 intro j Z;refine⟨fun h=>?_,fun h=>?_⟩
 .have h:decide ((j:Int) < (l.length:Nat))=true:=h;have fj:j < l.length:=av4
  obtain⟨d,J⟩:=k5 (ar3 fj);have lJ:=eJ.D (cV J).1;have hx:(b0 (aI:=.str) (aK:=.aL) (c4 L) l[j]).getD (cL .aL)=some d.ad:=by rw[jO,J];rfl
  have a7:lK L nm l[j]=(!decide (nm=[])&&decide (d.back=nm)):=by unfold lK;rw[J];rfl
  have xY:(l.take (j+1)).filter (lK L nm)=(l.take j).filter (lK L nm)++(if lK L nm l[j]=true then[l[j]] else[]):=by
   rw[as1 fj,List.filter_append]
   congr 1
   by_cases e:lK L nm l[j]=true
   .rw[if_pos e,List.filter_cons_of_pos e];rfl
   .rw[if_neg e,List.filter_cons_of_neg e];rfl
  have K2:((l.take j).filter (lK L nm)).length<=j:=as9 (List.length_filter_le _ _) aw5;have m3:(0:Int)<=(j:Int):=av3
  have rs:c0 ((j:Int)+1):=av3
  have d':lK L nm l[j]=false->(l.take (j+1)).filter (lK L nm)=(l.take j).filter (lK L nm):=fun e=>by rw[xY,if_neg (by rw[e];decide),as6]
  refine⟨m3,l[j],jv (n:=j) fj,?_⟩;generalize l[j]=n at*;refine bz [6,8] (cH ((7,bU n)::K0 nm l j) (K1 z U L ((l.take j).filter (lK L nm)))) ⟨fun E=>?_,fun E=>?_⟩
  .have E: ¬nm=[]:=by
    have E:(!decide (nm=[]))=true:=E;simpa using E
   refine⟨_,_,fun N=>iY (b:=d.ad) rfl ax1 N,rfl,?_⟩;refine⟨_,_,fun N=>ja rfl Tryz.underlying86 rfl rfl gb av7 rfl N,rfl,?_⟩;refine⟨_,_,fun N=>k9 (q:=1003) rfl Tryz.underlying9 rfl rfl rfl lJ rfl N,rfl,?_⟩;refine⟨fun G=>?_,fun G=>?_⟩
   .have G:d.back=nm:=gd G;have EF:lK L nm n=true:=by rw[a7,ar8 E,aq1 G];rfl
    rw[if_pos EF] at xY;have KY:((l.take j).filter (lK L nm)).length+1<=4294967296:=av3
    exact bz [] (cH ((7,bU n)::K0 nm l j) (K1 z U L ((l.take j).filter (lK L nm)))) ⟨KY,rfl,rs,j+1,fj,au5,ae.trans (ae.sub (K':=ae8 nm l (j+1)) (B':=ae9 z U L ((l.take (j+1)).filter (lK L nm))) aA ⟨rfl,rfl,rfl,rfl,congrArg (fun l:List ay4=>some (bb.row 9 .str l)) xY.symm,trivial⟩) (ae.aV 33 5002 rfl)⟩
   .have G: ¬d.back=nm:=mu G;have ab:=d' (by rw[a7,ar8 G,Bool.and_false]);exact⟨rs,j+1,fj,au5,ae.sub aA ⟨rfl,rfl,rfl,rfl,congrArg (fun l:List ay4=>some (bb.row 9 .str l)) ab.symm,trivial⟩⟩
  .have E:nm=[]:=by
    have E:(!decide (nm=[]))=false:=E;simpa using E
   have ab:=d' (by rw[a7,aq1 E];rfl);exact⟨rs,j+1,fj,au5,ae.sub aA ⟨rfl,rfl,rfl,rfl,congrArg (fun l:List ay4=>some (bb.row 9 .str l)) ab.symm,trivial⟩⟩
 .have h:decide ((j:Int) < (l.length:Nat))=false:=h;have fj:j=l.length:=ax5
  subst fj;have cq:(l.take l.length).filter (lK L nm)=l.filter (lK L nm):=by rw[aq9]
  exact bz [] (bp) ⟨_,_,_,ae.dW 5002 rfl,rfl,cq,aA,rfl⟩
def pI:List aN->ay4->List aN
 | [],_=>[]
 |d::L,nm=>if d.nm=nm then L else d::pI L nm
theorem pJ (d:aN) (L:List aN) (nm:ay4):dk (d::L) nm=if d.nm=nm then some d else dk L nm:=by
 unfold dk;rw[List.find?_cons]
 by_cases e:d.nm=nm
 .rw[aq1 e,if_pos e]
 .rw[ar8 e,if_neg e]
theorem wn {L:List aN} {nm:ay4} {d:aN} (h:d∈pI L nm):d∈L:=by
 induction L with
 |nil=>exact h
 |cons e L br=>
  unfold pI at h
  split at h
  .exact ap2 _ h
  .rcases ap3.1 h with rfl |h
   .exact aq0 ..
   .exact ap2 _ (br h)
theorem F9 (L:List aN) (nm:ay4):(pI L nm).Sublist L:=by
 induction L with
 |nil=>exact .slnil
 |cons e L br=>
  unfold pI
  split
  .exact List.sublist_cons_self ..
  .exact br.cons_cons _
theorem hW.k7 {L:List aN} (h:hW L) (nm:ay4):hW (pI L nm):=
 ⟨h.ik.sublist ((F9 L nm).map _),h.lh.sublist ((F9 L nm).map _),h.wl.sublist ((F9 L nm).map _)⟩
end
section
theorem afa:(Tryz.prog.info? 5).map (fun i=>(i.zero,i.size,i.bytes))=some (some (.int .u8 0),1,1):=by kernel_rfl
theorem afb (v:Value) (l:ay4) (D:Nat->Prop) (w:World) (ay:kG D w v l) (ax:l.length<=4294967296):
  Calls Tryz.prog 152 #[v] w fun e w'=> ∃cW,e= .returned cW/\kG (fun i=>w.heap.size<=i) w' cW l/\Below w.heap.size w w':=by
 obtain⟨A,c,rfl,dP,d7⟩:=ay.form;have Sb:=Lib.hid ay;clear ay;generalize hn:l.length=n at*;have Sc:=Lib.hid hn;clear hn;rcases A with _ |ad
 .have x0:=Lib.run_eql_slice_nil (P:=Tryz.prog)
  have av:l=[]:=by
   obtain⟨al,A',bX,V,_,_,aj⟩:=Sb.out;rcases Nat.eq_zero_or_pos l.length with h |h
   .exact List.eq_nil_of_length_eq_zero h
   .obtain⟨b,o,ha,_⟩:=aj h;subst ha;cases V
  have afc:=Lib.hid av;clear av
  go_enter Tryz.func152,Tryz.ntmps152
  go_wp2_with fail
  go_ret
  refine⟨_,rfl,?_,Below.refl _ _⟩;rw[afc.out];exact eN.nil _ _ _
 .have x0:=Lib.run_eql_slice_nil (P:=Tryz.prog)
  go_enter Tryz.func152,Tryz.ntmps152
  clear d7 dP
  go_wp2_with (at_builtin;refine N8 _ rfl (.tmp 5) (.tmp 6) _ rfl w.heap.size 5 _ 1 1 Tryz.underlying25 afa rfl au5 (.slice (some ⟨w.heap.size,0,none⟩) 0 0) 0 [] rfl ?cC D (.slice (some ad) n c) n (l.map hZ) rfl ?cG (N9 l) ?hF ?tE ?CG ?_)
  case cC=>exact⟨au7,.inr ⟨w.heap.size,0,#[],rfl,ap0 _,heap_alloc_new w _,ap0 _,au6,rfl,rfl⟩⟩
  case cG=>
   have h:=Sb.out;unfold kG at h;rw[Sc.out] at h;exact h.mono (kF.mo ((Below.refl _ _).alloc (ap0 _) _)) au7 (fun _ _ h=>h)
  case hF=>simp only[maxLen];omega
  case tE=>omega
  case CG=>simp
  intro cW dz du nB iT
  go_wp2
  go_ret
  refine⟨cW,rfl,?_,?_⟩
  .unfold kG;rw[Sc.out];have h:=eN.qQ du;exact h.wY fun i _ aH=>(du.lt i aH).1
  .exact((Below.refl _ _).alloc (ap0 _) _).grown nB au7 (fun k ab=>by simp[Value.ownBlock] at ab;omega)
end
section
def qo (c:UInt8):Bool:=(97<=c.toNat&&c.toNat<=122)||(48<=c.toNat&&c.toNat<=57)||c.toNat == 46||c.toNat == 45
def x1 (s:ByteArray):Bool:=decide (1<=s.size)&&decide (s.size<=15)&&s.data.toList.all qo
theorem afd (s:ByteArray) (pos:Nat) (h:pos < s.size) (ha: ¬(s[pos]'h).toNat < 128):128<=(Utf8.decode s pos).1/\(Utf8.decode s pos).1<=1114111:=by
 have e:s.get! (pos+0)=s[pos]'h:=by
  show s.get! pos=_;simp[ByteArray.get!,getElem!_pos,h];rfl
 have O:(s[pos]'h).toNat < 256:=(s[pos]'h).toNat_lt;unfold Utf8.decode;simp only[e];rw[if_neg au5]
 split
 .split <;>simp[Utf8.runeError] <;>omega
 .split
  .split
   .rename_i G;simp[Utf8.valid] at G;simp only;omega
   .simp[Utf8.runeError]
  .split
   .split
    .rename_i G;simp[Utf8.valid] at G;simp only;omega
    .simp[Utf8.runeError]
   .simp[Utf8.runeError]
theorem afe {P:Program} (w:World) (s:ByteArray) (pos:Nat) (ty:TypeId) (h:pos < s.size):
  (Instr.next (.pointer (some ⟨w.heap.size,0,none⟩)) true ty).run P (w.iter s pos)=
   .ok (.tuple #[.bool true,.int .i64 pos,.int .i32 (Utf8.decode s pos).1]) (w.iter s (pos+(Utf8.decode s pos).2)):=by
 simp only[Instr.next,getObj,setObj,Sem.run_bind,Sem.run,World.iter_heap,Result.andThen,h,if_true];simp[goInt,World.iter_set]
theorem Sd {s:ByteArray} {j:Nat} (Z:j < s.size) (h:qo (s[j]'Z)=false):x1 s=false:=by
 unfold x1
 have:s.data.toList.all qo=false:=by
  rw[List.all_eq_false];exact⟨s[j]'Z,ar3 aw4,by simp[h]⟩
 rw[this,Bool.and_false]
def K3 (B:Nat) (w:World):Nat:=match w.heap[B]? with |some (.stringIter _ p)=>p |_=>0
theorem Se (w:World) (s:ByteArray) (k:Nat):K3 w.heap.size (w.iter s k)=k:=by simp[K3,World.iter_heap]
theorem K4 (w:World) (s:ByteArray) (k:Nat):Below w.heap.size w (w.iter s k):=(Below.refl _ _).alloc (ap0 _) _
theorem aff {s:ByteArray} {k:Nat} (h: ∀j (Z:j < s.size),j < k->qo (s[j]'Z)=true) (ab:k < s.size) (E:qo (s[k]'ab)=true): ∀j (Z:j < s.size),j < k+1->qo (s[j]'Z)=true:=by
 intro j Z bw
 by_cases e:j=k
 .subst e;exact E
 .exact h j Z au5
theorem afg {s:ByteArray} (h: ∀j (Z:j < s.size),qo (s[j]'Z)=true):x1 s=(decide (1<=s.size)&&decide (s.size<=15)):=by
 unfold x1
 have:s.data.toList.all qo=true:=by
  rw[ar4];intro x hx;obtain⟨j,Z,rfl⟩:=List.getElem_of_mem hx;exact h j aw4
 rw[this,Bool.and_true]
theorem afh (s:ByteArray) (w:World) (ax:s.size<=maxLen):
  Calls Tryz.prog 40 #[.string s] w fun e w'=>e= .returned (.bool (x1 s))/\Below w.heap.size w w':=by
 unfold maxLen at ax
 go_enter Tryz.func40,Tryz.ntmps40
 go_wp2
 go_loopw [4,7,8,9,10,11,12,13,14,15,16,17,18,19,20,21,22,23,24,25,26,27,28,29,30,31] (fun _ _ _ _ _ _ _ _ _ _ _ _ _ _ _ _ _ _ _ _ _ _ _ _ _ _ wr=> ∃k:Nat,k<=s.size/\wr=w.iter s k/\ ∀j (Z:j < s.size),j < k->qo (s[j]'Z)=true) (fun _ _ _ _ _ _ _ _ _ _ _ _ _ _ _ _ _ _ _ _ _ _ _ _ _ _ wr=>s.size - K3 w.heap.size wr)
 case atStart=>exact⟨0,ap7 _,rfl,fun _ _ h=>absurd h au5⟩
 case round=>
  obtain⟨k,ab,rfl,eH⟩:=hrel;have K5:=Lib.hid eH;clear eH
  by_cases bw:k < s.size
  .by_cases ha:(s[k]'bw).toNat < 128
   .have hn:=fun ty=>run_next_ascii (P:=Tryz.prog) w s k ty bw ha
    go_wp2
    all_goals first
     |(
      refine⟨⟨k+1,bw,rfl,aff K5.out bw ?_⟩,?_⟩
      .clear hn;simp_all [qo];omega
      .rw[Se,Se];omega)
     |(
      go_ret
      refine⟨?_,K4 _ _ _⟩;rw[Sd bw (by clear hn;simp_all [qo];omega)];rfl)
   .obtain⟨hB,iB⟩:=afd s k bw ha;have hn:=fun ty=>afe (P:=Tryz.prog) w s k ty bw
    generalize Utf8.decode s k=d at*;have b1:(((d.1:Nat):Int) != 46)=true:=by rw[bne_iff_ne];omega
    have b2:(((d.1:Nat):Int) != 45)=true:=by rw[bne_iff_ne];omega
    go_wp2
    go_ret
    exact⟨by rw[Sd bw (by clear hn;simp[qo];omega)];rfl,K4 _ _ _⟩
  .have hn:=fun ty=>run_next_end (P:=Tryz.prog) w s k ty bw
   have fe:k=s.size:=av3
   have aF:x1 s=(decide (1<=s.size)&&decide (s.size<=15)):=afg fun j Z=>K5.out j Z au5
   clear fe K5;have afi:=Lib.hid aF;clear aF
   go_wp2
   all_goals
    go_ret
    refine⟨?_,K4 _ _ _⟩;rw[afi.out];refine congrArg (fun b=>Ending.returned (.bool b)) ?_;rw[Bool.eq_iff_iff];simp;omega
end
section
theorem Fn.pure {P:Program} {f:FuncId} {args:List aP} {res:aP} (fT:jl P f=true)
  (h: ∀(ρ:Nat->bn) (I:Nat->Prop) (w:World) (bW:List Value),(∀b,I b->b < w.heap.size)->bW.length=args.length->(∀(i:Nat) (v:aP) (x:Value),args[i]? =some v->bW[i]? =some x->cr ρ I w v x)->
   Calls P f bW.toArray w fun e w'=> ∃x,e= .returned x/\Below w.heap.size w w'/\ ∀I':Nat->Prop,ce I w I' w'->(∀b,w.heap.size<=b->b < w'.heap.size->I' b)->cr ρ I' w' res x):Fn P f args [] [] res []:=by
 refine⟨fT,?_⟩;intro ρ F I w bW ba _ _ _ b6 dt;refine(h ρ I w bW ba b6 dt).mono ?_;rintro e w' ⟨x,rfl,O,hx⟩;have aW:ce I w (fun b=>b < w'.heap.size/\(I b\/w.heap.size<=b)) w':=fun b fP=>⟨⟨Nat.lt_of_lt_of_le (ba b fP) O.size,.inl fP⟩,O.block b (ba b fP)⟩
 exact⟨x,ρ,F,rfl,cK.mo O,fun _ _=>rfl,_,aW,fun b h=>⟨h.1,h.2.imp id .inr⟩,fun c ch H=>(by simp[ag] at H),fun c ch H=>(by simp[ag] at H),fun c bX ch ch' b H=>(by simp[ag] at H),hx _ aW fun b E G=>⟨G,.inr E⟩⟩
theorem Sf {P:Program} {f:FuncId} {s:aP} {res:aP} (fT:jl P f=true)
  (h: ∀(ρ:Nat->bn) (I:Nat->Prop) (w:World) (v:Value),(∀b,I b->b < w.heap.size)->cr ρ I w s v->
   Calls P f #[v] w fun e w'=> ∃x,e= .returned x/\Below w.heap.size w w'/\ ∀I':Nat->Prop,ce I w I' w'->(∀b,w.heap.size<=b->b < w'.heap.size->I' b)->cr ρ I' w' res x):Fn P f [s] [] [] res []:=
 Fn.pure fT fun ρ I w bW ba al J=>by
  match bW,al with
  | [v],_=>exact h ρ I w v ba (J 0 s v rfl rfl)
theorem co.bytes {I:Nat->Prop} {w:World} {v:Value} {l:ay4} (ba: ∀b,I b->b < w.heap.size) (h:co I w (.b7 .u8) l (fun _=>some v)):kG I w v l:=by
 obtain⟨A,cap,av,E,G,aj⟩:=h;injection av with av
 refine⟨au7,A,cap,av,E,G,fun af=>?_⟩;obtain⟨b,o,ek,O,hx⟩:=aj af;refine⟨b,o,ek,O,ba b O,fun j u a7=>?_⟩;rw[ar0] at a7;obtain⟨x,Bq,rfl⟩:=as0.1 a7;have:=hx j x Bq;simpa[co,aQ,hZ] using this
theorem kG.afj {I D:Nat->Prop} {w:World} {v:Value} {l:ay4} (h:kG D w v l) (b9: ∀b,b < w.heap.size->D b->I b):co I w (.b7 .u8) l (fun _=>some v):=by
 obtain⟨_,A,cap,av,E,G,aj⟩:=h;refine⟨A,cap,congrArg some av,E,G,fun af=>?_⟩;obtain⟨b,o,ek,O,bw,hx⟩:=aj af;refine⟨b,o,ek,b9 b bw O,fun i x aH=>?_⟩;have:=hx i (hZ x) (by rw[ar0,show l[i]? =some x from aH];rfl);simpa[co,aQ,hZ] using this
def gr (s:ay4):Bool:=decide (1<=s.length)&&decide (s.length<=15)&&s.all qo
theorem qp (s:ay4) (ax:s.length<=4294967296):Fn Tryz.prog 40 [bU s] [] [] (fK (gr s)) []:=
 Sf au8 fun ρ I w v ba ay=>by
  rw[show v= .string ⟨s.toArray⟩ from ay];refine(afh ⟨s.toArray⟩ w (by simp only[ByteArray.size,maxLen,List.size_toArray];omega)).mono ?_;rintro e w' ⟨rfl,O⟩;exact⟨_,rfl,O,fun I' _ _=>show Value.bool _=Value.bool _ by simp[x1,gr,ByteArray.size]⟩
theorem K6 (l:ay4) (ax:l.length<=4294967296):Fn Tryz.prog 152 [bS .u8 l] [] [] (bS .u8 l) []:=
 Sf au8 fun ρ I w v ba ay=>by
  refine(afb v l I w (co.bytes ba ay) ax).mono ?_;rintro e w' ⟨x,rfl,hx,O⟩;exact⟨x,rfl,O,fun I' _ hn=>hx.afj fun b E G=>hn b G E⟩
end
section
theorem fc.z2 {I:Nat->Prop} {w:World} {L L':List (Nat×bf)} (h:L.Perm L'): ∀{F:Nat->Prop},fc I w L F->fc I w L' F:=by
 induction h with
 |nil=>exact fun h=>h
 |cons x h br=>
  rintro F ⟨ct,cJ,p,E,G,aj,aX,bH⟩;exact⟨ct,cJ,p,E,G,aj,aX,br bH⟩
 |swap x y l=>
  rintro F ⟨ct,cJ,p,E,G,aj,aX,oP,qc,r,g1,g2,cZ,jo,BT⟩;refine⟨oP,fun aC=>ct aC\/qc aC,r,fun aC=>by rw[E,g1];exact J6,fun aC aR aB=>?_,cZ,jo,ct,qc,p,fun aC=>Iff.rfl,fun aC aR aB=>G aC aR ((g1 aC).2 (.inr aB)),aj,aX,BT⟩;rcases aB with aB |aB
  .exact G aC aB ((g1 aC).2 (.inl aR))
  .exact g2 aC aR aB
 |trans _ _ oz oA=>exact fun h=>oA (oz h)
theorem ae.z2 {ids:ay5} {K:aY} {B:aw} (q:Nat) {L L':List (Nat×bf)} (af:L.Perm L') (aT:ag B q=some (.aG (.bA L))):ae ids K B K ((q,.aG (.bA L'))::B):=by
 rintro N C a w ⟨hn,J,ρ,F,aq,au⟩;obtain⟨bN,aW⟩:=aq.hP (w':=w) (ch:=.aG (.bA L')) aT (cK.refl _ _) fun I ba=>((aq.holds q _ aT:fc _ w L (F q)).z2 af).cj ba (ap0 _) fun _ _=>rfl
 exact⟨hn,J,ρ,F,bN,au.mono aW fun _ _ _=>rfl⟩
theorem afk {s:bM}:(iZ s).oS:=by
 rintro I F w p ⟨ρ,b8,E,G,aj,aX⟩;obtain⟨bh,_⟩:=G 1001 _ rfl;exact(aX _).2 ⟨1001,_,rfl,(bh _).2 (by rw[E])⟩
def K7 (L:List aN):Prop:= ∀d,d∈L->d.cR=none
theorem afl {d:aN} (h:d.cR=none):kr d=iZ d.im:=by unfold kr;rw[h]
theorem afm (L:List aN) (cY:K7 L): ∀p∈h6 L,p.2.oS:=fun p af=>by
 obtain⟨d,J,rfl⟩:=ar2.1 af;show(kr d).oS;rw[afl (cY d J)];exact afk
theorem afn (L:List aN): ∀p∈l8 L,p.2.oS:=fun p af=>by
 obtain⟨d,_,rfl⟩:=ar2.1 af;exact fun I F w p h=>(h.1 _).2 rfl
theorem CH (z size U:Nat) (E:z<=3) (G:size<=256) (aj:U<=512):Fn Tryz.prog 39 [ac (z:Int),ac (size:Int),ac (U:Int)] [] [1001] (.cf [.one (.ptr 1001 0),dw 0]) [(1001,.aG (iZ (hv z size U)))]:=by
 refine aU [3] Tryz.func39 ?_;refine ar (Fn.aV [(1001,1002),(1002,2002)] (Ku size G)) <| ar (Fn.aV [(1001,1003),(1002,2003)] (FI (U:Int) au5 au5)) <| bz [] (cH [(0,ac (z:Int)),(8,ap 1002),(9,ac 0),(10,ap 1003),(11,ac 0)] [(1002,.aG (rl (List.replicate size cD))),(1003,.aG (rn (List.replicate U (0:Int))))]) <| df <| df ⟨fun h=>?_,fun h=>?_⟩
 .exfalso;have h:(z:Int) < 0:=gd h;omega
 refine⟨fun h=>?_,fun h=>?_⟩
 .exfalso;have h:(3:Int) < (z:Int):=gd h;omega
 exact⟨rfl,rfl,_,_,_,ae.trans (ae.trans (ae.aV 41 1001 rfl) (ae.trans (ae.aV 39 1004 rfl) (ae.QE 1004 rfl))) (ae.close 1001 (dx (hv z size U)) aA rfl fun _ _ _ _ h=>h),rfl,aA,aA,rfl⟩
abbrev z6 (nm:ay4) (x:aa .aL):aa .str×aa .aL:=((nm:aa .str),x)
theorem Sg (nm:ay4) (x:aa .aL): ∀L:List aN,dk L nm=none->dr (aI:=.str) (aK:=.aL) (c4 L) (nm:aa .str) x=(c4 L++[z6 nm x]:List (aa .str×aa .aL))
 | [],_=>rfl
 |d::L,h=>by
  rw[pJ] at h
  by_cases e:d.nm=nm
  .rw[if_pos e] at h;cases h
  .rw[if_neg e] at h;have br:=Sg nm x L h;show dr (aI:=.str) (aK:=.aL) (lI d::c4 L) (nm:aa .str) x=_;rw[show dr (aI:=.str) (aK:=.aL) (lI d::c4 L) (nm:aa .str) x=(match fW .str (nm:aa .str) (lI d).1 with |true=>z6 nm x::c4 L |false=>lI d::dr (aI:=.str) (aK:=.aL) (c4 L) (nm:aa .str) x:List (aa .str×aa .aL)) from rfl];rw[show fW .str (nm:aa .str) (lI d).1=false from rc (aI:=.str) qf (fun h=>e h.symm)];simp only;rw[br];rfl
abbrev nh (L:List aN) (nm back:ay4) (ad am:Nat) (im:bM):List aN:=L++[⟨nm,back,ad,am,im,none⟩]
theorem hW.add {L:List aN} (h:hW L) {nm back:ay4} {ad am:Nat} {im:bM} (av:dk L nm=none) (ha:ad∉L.map (·.ad)) (az:am∉L.map (·.am)):hW (nh L nm back ad am im):=by
 have key: ∀{α:Type} (f:aN->α) (d:aN),(L.map f).Nodup->f d∉L.map f->((L++[d]).map f).Nodup:=fun f d E G=>by
  rw[as3];refine List.nodup_append.2 ⟨E,au7,fun a ha b O e=>?_⟩;rw[aq4,au0,aq2] at O;exact G (by rw[<-O,<-e];exact ha)
 refine⟨key _ _ h.ik fun hx=>?_,key _ _ h.lh ha,key _ _ h.wl az⟩;obtain⟨d,J,e⟩:=ar2.1 hx;have:=List.find?_eq_none.1 av d J;exact this (by simpa using e)
abbrev CI (nm back:ay4):aY:=[(0,ap 1001),(1,bU nm),(3,bU back),(9,ap 2001),(10,ac 0)]
abbrev CJ (z U:Int) (L:List aN) (im:bM):aw:=bP z U L++[(2001,.aG (iZ im))]
theorem afo (L:List aN) (nm back:ay4) (ad am:Nat) (im:bM):c4 (nh L nm back ad am im)=(c4 L++[z6 nm (some ad:Option Nat)]:List (aa .str×aa .aL)):=by
 induction L with
 |nil=>rfl
 |cons d L br=>
  show lI d::c4 (nh L nm back ad am im)=lI d::(c4 L++[z6 nm (some ad:Option Nat)]);rw[br]
abbrev afp (L:List aN) (nm back:ay4) (am:Nat) (im:bM):List aN:=⟨nm,back,0,am,im,none⟩::L
theorem Sh {f:aN->Nat×bf} (L:List aN) (d:aN):(f d::L.map f).Perm ((L++[d]).map f):=by
 rw[as3];exact List.perm_append_comm (l₁:=[f d]) (l₂:=L.map f)
abbrev afq (nm back:ay4) (am:Nat):aY:=[(0,ap 1001),(1,bU nm),(3,bU back),(9,dn am)]
abbrev afr (z U:Int) (L:List aN) (am:Nat) (im:bM):aw:=[(1001,.cells (KQ z U)),(1002,.map .str .aL (c4 L)),(1003,.aG (.bA (l8 L))),(1004,.aG (.bA ((am,iZ im)::h6 L)))]
theorem afs (z size U:Nat) (E:z<=3) (G:size<=256) (aj:U<=512) (L:List aN) (eJ:hW L) (bm:K7 L) (nm back:ay4) (al:nm.length<=4294967296) (aF:gr nm=true) (av:dk L nm=none) (nZ:L.length < 16) (k:Nat) (O:back=[]\/(dk L back).isSome=true/\eC L back k/\k+1<=8):
  cu Tryz.prog 18 [ap 1001,bU nm,ac (size:Int),bU back] (bP z U L) [] (X:={p:Nat×Nat//hW (nh L nm back p.1 p.2 (hv z size U))}) (fun _=>ac 0) (fun p=>bP z U (nh L nm back p.1.1 p.1.2 (hv z size U))):=by
 have hx:(b0 (aI:=.str) (aK:=.aL) (c4 L) nm).getD (cL .aL)=none:=ax6
 have b6:(c4 L).length=L.length:=aq3 ..;have iQ:=zV z U L back
 have Si:(decide (back=[])||(dk L back).isSome)=true:=by
  rcases O with O |⟨O,_⟩
  .rw[aq1 O];rfl
  .rw[O,Bool.or_true]
 rw[Si] at iQ;have l1:=CH z size U E G aj;refine hG [2,10] Tryz.func18 ?_;refine ar (Fn.aV [(1001,2001)] l1) ⟨rfl,bz [10] (cH (CI nm back) (CJ z U L (hv z size U))) <| ar (qp _ al) ⟨fun ai=>?_,fun ai=>?_⟩⟩
 .rw[aF] at ai;cases ai
 refine⟨fun ao=>?_,fun ao=>?_⟩
 .exact absurd ao au6
 refine⟨fun dZ bl=>?_,fun bl=>?_⟩
 .exfalso;have:(b0 (aI:=.str) (aK:=.aL) (c4 L) nm).getD (cL .aL)=some dZ:=bl;rw[hx] at this
  cases this
 refine⟨fun c2=>?_,fun c2=>?_⟩
 .exfalso;have c2:(16:Int)<=((c4 L).length:Int):=gd c2;omega
 refine ar iQ ⟨fun fS=>absurd fS au6,fun _=>⟨fun hQ=>?_,fun hQ=>?_⟩⟩
 focus
  have hQ: ¬back=[]:=by simpa using hQ
  obtain⟨_,ab,mP⟩:=O.resolve_left hQ;have hd:=zY z U L eJ back k ab au5;have x2:=ru ab;generalize eD L k back=bs at hd x2;refine ar hd ?_;have m1: -9223372036854775808<=(bs.length:Int)+1/\(bs.length:Int)+1<=9223372036854775807:=av3
  refine⟨m1,fun o0=>?_,fun _=>?_⟩
  .exfalso;have o0:(8:Int) < (bs.length:Int)+1:=gd o0;omega
 all_goals
  refine bt.eY (de.name 9 2001 rfl rfl) fun am=>?_
  refine bt.le (K':=afq nm back am) (B':=afr z U L am (hv z size U)) (ae.trans (ae.put 1004 2001 au6 rfl rfl) (ae.sub aA aA)) <| bt.eY (de.B0 1004 (L:=(am,iZ (hv z size U))::h6 L) (afm (afp L nm back am (hv z size U)) (fun d J=>(ap3.1 J).elim (fun e=>by rw[e]) (bm d))) rfl) fun d0=>bt.iC eX au8 ⟨rfl,_,ack (c:=1002) (d:=72) (q:=1003) (aI:=.str) (l:=F1 am back) (h:=fun _=>rfl) rfl Tryz.underlying82 (dk:=.string) au8 rfl rfl rfl rfl rfl rfl rfl au6 au6 au6 (afn L),fun v e ay=>?_⟩
  obtain⟨ad,Fu,rfl,rfl⟩:=ay;have K8:ad∉L.map (·.ad):=fun h=>Fu (by unfold l8;rw[as2];exact h)
  have aft:am∉L.map (·.am):=fun h=>(aq7.1 d0.down).1 (by show am∈(h6 L).map (·.1);unfold h6;rw[as2];exact h)
  have o1:dr (aI:=.str) (aK:=.aL) (c4 L) (nm:aa .str) (some ad:Option Nat)=c4 (nh L nm back ad am (hv z size U)):=(Sg nm _ L av).trans (afo L nm back ad am (hv z size U)).symm;exact⟨⟨(ad,am),eJ.add av K8 aft⟩,_,_,_,ae.trans (ae.z2 1003 (Sh (f:=fun d=>(d.ad,tC d.am d.back)) L ⟨nm,back,ad,am,hv z size U,none⟩) rfl) (ae.z2 1004 (Sh (f:=fun d=>(d.am,kr d)) L ⟨nm,back,ad,am,hv z size U,none⟩) rfl),rfl,rfl,⟨rfl,congrArg (fun e=>some (bb.map .str .aL e)) o1,rfl,rfl,trivial⟩,rfl⟩
theorem afu (z U:Int) (size:Int) (L:List aN) (nm back:ay4) (al:nm.length<=4294967296) (h:(gr nm&&j6 z size U)=false):Fn Tryz.prog 18 [ap 1001,bU nm,ac size,bU back] (bP z U L) [] (ac 1) (bP z U L):=by
 rcases Bool.eq_false_or_eq_true (j6 z size U) with G |G
 .have aF:gr nm=false:=by rw[G,Bool.and_true] at h;exact h
  unfold j6 at G;simp only[vj,ar5] at G;obtain⟨⟨⟨b4,cg⟩,a3,a4⟩,a5,gy⟩:=G;obtain⟨b,rfl⟩:=Int.eq_ofNat_of_zero_le a5;obtain⟨aC,rfl⟩:=Int.eq_ofNat_of_zero_le b4;obtain⟨r,rfl⟩:=Int.eq_ofNat_of_zero_le a3;have l1:=CH b aC r au5 au5 au5;refine aU [2] Tryz.func18 ?_;refine ar (Fn.aV [(1001,2001)] l1) ⟨rfl,bz [] (cH (CI nm back) (CJ b r L (hv b aC r))) <| ar (qp _ al) ⟨fun ai=>?_,fun ai=>?_⟩⟩
  .exact bg
  .rw[aF] at ai;cases ai
 .have l1:=RU z size U G;refine aU [2] Tryz.func18 ?_;refine ar l1 ⟨rfl,bz [] (cH [(0,ap 1001),(1,bU nm),(3,bU back),(10,ac 1)] (bP z U L)) <| ar (qp _ al) ⟨fun ai=>?_,fun ai=>?_⟩⟩
  .exact bg
  refine⟨fun ao=>?_,fun ao=>?_⟩
  .exact bg
  .exact absurd ao au6
theorem afv (z size U:Nat) (E:z<=3) (G:size<=256) (aj:U<=512) (L:List aN) (nm back:ay4) (al:nm.length<=4294967296) (aF:gr nm=true) (av:(dk L nm).isSome=true\/16<=L.length):
  Fn Tryz.prog 18 [ap 1001,bU nm,ac (size:Int),bU back] (bP z U L) [] (ac 143) (bP z U L):=by
 have hx:(b0 (aI:=.str) (aK:=.aL) (c4 L) nm).getD (cL .aL)=((dk L nm).map (·.ad):Option Nat):=jO nm L;have b6:(c4 L).length=L.length:=aq3 ..;have l1:=CH z size U E G aj;refine aU [2] Tryz.func18 ?_;refine ar (Fn.aV [(1001,2001)] l1) ⟨rfl,bz [] (cH (CI nm back) (CJ z U L (hv z size U))) <| ar (qp _ al) ⟨fun ai=>?_,fun ai=>?_⟩⟩
 .rw[aF] at ai;cases ai
 refine⟨fun ao=>?_,fun ao=>?_⟩
 .exact absurd ao au6
 refine⟨fun dZ bl=>?_,fun bl=>?_⟩
 .exact bg
 refine⟨fun c2=>?_,fun c2=>?_⟩
 .exact bg
 .exfalso;have c2: ¬(16:Int)<=((c4 L).length:Int):=mu c2;have bl:(b0 (aI:=.str) (aK:=.aL) (c4 L) nm).getD (cL .aL)=none:=bl;rw[hx] at bl;rcases av with av |av
  .obtain⟨d,J⟩:=as7.1 av;rw[J] at bl
   cases bl
  .omega
theorem afw (z size U:Nat) (E:z<=3) (G:size<=256) (aj:U<=512) (L:List aN) (nm back:ay4) (al:nm.length<=4294967296) (aF:gr nm=true) (av:dk L nm=none) (nZ:L.length < 16) (O:(decide (back=[])||(dk L back).isSome)=false):
  Fn Tryz.prog 18 [ap 1001,bU nm,ac (size:Int),bU back] (bP z U L) [] (ac 140) (bP z U L):=by
 have hx:(b0 (aI:=.str) (aK:=.aL) (c4 L) nm).getD (cL .aL)=none:=ax6
 have b6:(c4 L).length=L.length:=aq3 ..;have iQ:=zV z U L back;rw[O] at iQ;have l1:=CH z size U E G aj;refine aU [2] Tryz.func18 ?_;refine ar (Fn.aV [(1001,2001)] l1) ⟨rfl,bz [] (cH (CI nm back) (CJ z U L (hv z size U))) <| ar (qp _ al) ⟨fun ai=>?_,fun ai=>?_⟩⟩
 .rw[aF] at ai;cases ai
 refine⟨fun ao=>?_,fun ao=>?_⟩
 .exact absurd ao au6
 refine⟨fun dZ bl=>?_,fun bl=>?_⟩
 .exfalso;have:(b0 (aI:=.str) (aK:=.aL) (c4 L) nm).getD (cL .aL)=some dZ:=bl;rw[hx] at this
  cases this
 refine⟨fun c2=>?_,fun c2=>?_⟩
 .exfalso;have c2:(16:Int)<=((c4 L).length:Int):=gd c2;omega
 exact ar iQ ⟨fun _=>bg,fun fS=>absurd fS au6⟩
theorem afx (z size U:Nat) (E:z<=3) (G:size<=256) (aj:U<=512) (L:List aN) (eJ:hW L) (nm back:ay4) (al:nm.length<=4294967296) (aF:gr nm=true) (av:dk L nm=none) (nZ:L.length < 16) (tF:back≠[]) (O:(dk L back).isSome=true) (k:Nat) (ab:eC L back k) (hi:k<=1000000) (mP:8 < k+1):
  Fn Tryz.prog 18 [ap 1001,bU nm,ac (size:Int),bU back] (bP z U L) [] (ac 142) (bP z U L):=by
 have hx:(b0 (aI:=.str) (aK:=.aL) (c4 L) nm).getD (cL .aL)=none:=ax6
 have b6:(c4 L).length=L.length:=aq3 ..;have iQ:=zV z U L back;rw[O,Bool.or_true] at iQ;have l1:=CH z size U E G aj;refine aU [2] Tryz.func18 ?_;refine ar (Fn.aV [(1001,2001)] l1) ⟨rfl,bz [] (cH (CI nm back) (CJ z U L (hv z size U))) <| ar (qp _ al) ⟨fun ai=>?_,fun ai=>?_⟩⟩
 .rw[aF] at ai;cases ai
 refine⟨fun ao=>?_,fun ao=>?_⟩
 .exact absurd ao au6
 refine⟨fun dZ bl=>?_,fun bl=>?_⟩
 .exfalso;have:(b0 (aI:=.str) (aK:=.aL) (c4 L) nm).getD (cL .aL)=some dZ:=bl;rw[hx] at this
  cases this
 refine⟨fun c2=>?_,fun c2=>?_⟩
 .exfalso;have c2:(16:Int)<=((c4 L).length:Int):=gd c2;omega
 refine ar iQ ⟨fun fS=>absurd fS au6,fun _=>⟨fun hQ=>?_,fun hQ=>absurd (by simpa using hQ) tF⟩⟩;have hd:=zY z U L eJ back k ab hi;have x2:=ru ab;generalize eD L k back=bs at hd x2;refine ar hd ?_;have m1: -9223372036854775808<=(bs.length:Int)+1/\(bs.length:Int)+1<=9223372036854775807:=av3
 refine⟨m1,fun _=>?_,fun o0=>?_⟩
 .exact bg
 .exfalso;have o0: ¬(8:Int) < (bs.length:Int)+1:=mu o0;omega
def x3 (l:List ay4) (v:ay4):Int:=match l.idxOf? v with
 |some i=>(i:Nat)
 |none=> -1
theorem afy (l:List ay4) (v:ay4) (al:l.length<=4294967296):Fn Tryz.prog 98 [bS .str l,bU v] [] [] (ac (x3 l v)) []:=by
 refine aU [] Tryz.func98 ?_;refine dQ [] (X:=Nat) (fun k=>[(0,bS .str l),(1,bU v),(7,ac (l.length:Nat)),(8,ac (k:Nat))]) (fun _=>[]) (fun k=>k<=l.length/\ ∀(i:Nat),i < k->l[i]? ≠some v) (fun k=>l.length - k) 0 ⟨ap7 _,fun i h=>absurd h (au3 _)⟩ ?_ ?_
 .exact ae.sub aA trivial
 intro k ⟨ab,af⟩;refine⟨fun h=>?_,fun h=>?_⟩
 .have cm:k < l.length:=by
   have h:decide ((k:Int) < (l.length:Int))=true:=h;simpa using h
  refine⟨au5,l[k],jv (n:=k) cm,fun G=>?_,fun G=>?_⟩
  .have G:v=l[k]:=gd G;refine⟨_,_,_,bp,rfl,(show((k:Nat):Int)=x3 l v from ?_),trivial,rfl⟩
   have:l.idxOf? v=some k:=by
    rw[List.idxOf?_eq_some_iff];refine⟨cm,by simp[G],fun j Z=>?_⟩;have:=af j Z;rw[oj au5] at this;simpa using this
   rw[x3,this]
  .have G: ¬v=l[k]:=mu G;have m1: -9223372036854775808<=(k:Int)+1/\(k:Int)+1<=9223372036854775807:=av3
   have m2:k+1<=l.length:=av3
   have m3:l.length - (k+1) < l.length - k:=av3
   refine⟨m1,k+1,⟨m2,fun i aH=>?_⟩,m3,ae.sub aA trivial⟩;rcases Nat.lt_or_ge i k with aX |aX
   .exact af i aX
   .have:i=k:=av3
    subst this;rw[oj cm];intro e;injection e with e
    exact G e.symm
 .have h:decide ((k:Int) < (l.length:Int))=false:=h;have fe:k=l.length:=ax5
  refine⟨_,_,_,bp,rfl,(show(-1:Int)=x3 l v from ?_),trivial,rfl⟩
  have:l.idxOf? v=none:=by
   rw[List.idxOf?_eq_none_iff];intro az;obtain⟨i,aH,e⟩:=List.getElem_of_mem az;have:=af i au5;rw[oj aH] at this;exact this (by rw[e])
  rw[x3,this]
theorem K9 (l:List ay4) (v:ay4) (al:l.length<=4294967296):Fn Tryz.prog 59 [bS .str l,bU v] [] [] (fK (l.contains v)) []:=by
 refine aU [] Tryz.func59 ?_;refine ar (afy l v al) ⟨_,_,_,bp,rfl,(show decide (0<=x3 l v)=l.contains v from ?_),trivial,rfl⟩;unfold x3
 cases h:l.idxOf? v with
 |none=>
  rw[List.idxOf?_eq_none_iff] at h;simp[h]
 |some i=>
  obtain⟨aH,e,_⟩:=List.idxOf?_eq_some_iff.1 h
  have:v∈l:=by
   have:=ar3 aH
   rwa[show l[i]=v by simpa using e] at this
  simp[this]
theorem afz (z U:Int) (L:List aN) (nm back:ay4) (h:(dk L nm).isSome=false\/(decide (back=[])||(dk L back).isSome)=false):Fn Tryz.prog 299 [ap 1001,bU nm,bU back] (bP z U L) [] (ac 140) (bP z U L):=by
 have iQ:=zV z U L back;refine aU [] Tryz.func299 ?_;refine⟨fun dZ bl=>?_,fun bl=>?_⟩
 .obtain⟨d,J,_⟩:=aeD bl;have O:(decide (back=[])||(dk L back).isSome)=false:=h.resolve_left (by rw[J];intro h;cases h);rw[O] at iQ;exact ar iQ ⟨fun _=>bg,fun fS=>absurd fS au6⟩
 .exact bg
theorem afA (z U:Int) (L:List aN) (eJ:hW L) (nm back:ay4) (d:aN) (J:dk L nm=some d) (ab:(decide (back=[])||(dk L back).isSome)=true) (k:Nat) (b9:eC L back k) (hi:k<=1000000) (h:nm=back\/nm∈eD L k back):Fn Tryz.prog 299 [ap 1001,bU nm,bU back] (bP z U L) [] (ac 141) (bP z U L):=by
 have iQ:=zV z U L back;rw[ab] at iQ;have hx:(b0 (aI:=.str) (aK:=.aL) (c4 L) nm).getD (cL .aL)=some d.ad:=by rw[jO,J];rfl
 have hd:=zY z U L eJ back k b9 hi;have x2:=ru b9;generalize eD L k back=bs at hd x2 h;have lv:=K9 bs nm au5;refine aU [] Tryz.func299 ?_;refine⟨fun dZ bl=>ar iQ ⟨fun fS=>absurd fS au6,fun _=>⟨fun hQ=>?_,fun hQ=>?_⟩⟩,fun O=>absurd (show(b0 (aI:=.str) (aK:=.aL) (c4 L) nm).getD (cL .aL)=none from O) aw2⟩
 .exact bg
 .have hQ: ¬nm=back:=mu hQ;have az:bs.contains nm=true:=by simpa using h.resolve_left hQ
  rw[az] at lv;exact ar hd <| ar lv ⟨fun _=>bg,fun fS=>absurd fS au6⟩
def gu (nm back:ay4) (d:aN):aN:=if d.nm=nm then {d with back:=back} else d
def ff (L:List aN) (nm back:ay4):List aN:=L.map (gu nm back)
theorem x4 (nm back:ay4) (d:aN):(gu nm back d).nm=d.nm:=by unfold gu;split <;>rfl
theorem Ga (nm back:ay4) (d:aN):(gu nm back d).ad=d.ad:=by unfold gu;split <;>rfl
theorem Gb (nm back:ay4) (d:aN):(gu nm back d).am=d.am:=by unfold gu;split <;>rfl
theorem Sj (nm back:ay4) (d:aN):(gu nm back d).im=d.im:=by unfold gu;split <;>rfl
theorem Sk (nm back:ay4) (d:aN):(gu nm back d).cR=d.cR:=by unfold gu;split <;>rfl
theorem afB (L:List aN) (nm back:ay4):c4 (ff L nm back)=c4 L:=by
 unfold c4 ff;rw[as2];refine ar1 fun d _=>?_
 show lI (gu nm back d)=lI d;unfold lI;rw[x4,Ga]
theorem afC (L:List aN) (nm back:ay4):h6 (ff L nm back)=h6 L:=by
 unfold h6 ff;rw[as2];refine ar1 fun d _=>?_
 show((gu nm back d).am,kr (gu nm back d))=_;unfold kr;rw[Gb,Sj,Sk]
theorem hW.ff {L:List aN} (h:hW L) (nm back:ay4):hW (ff L nm back):=by
 have key: ∀{α:Type} (f:aN->α),(∀d,f (gu nm back d)=f d)->(Go.Proofs.YthnboghbhgapcaaGreat.ff L nm back).map f=L.map f:=fun f hf=>by
  unfold Go.Proofs.YthnboghbhgapcaaGreat.ff;rw[as2];exact ar1 fun d _=>hf d
 exact⟨by rw[key _ (x4 nm back)];exact h.ik,by rw[key _ (Ga nm back)];exact h.lh,by rw[key _ (Gb nm back)];exact h.wl⟩
theorem La {L:List aN} {nm:ay4} (back:ay4) (h:nm∉L.map (·.nm)):ff L nm back=L:=by
 unfold ff;refine(ar1 fun d J=>?_).trans (List.map_id' L);unfold gu;rw[if_neg fun e=>h (by rw[<-e];exact aq6 J)]
theorem Lb {back:ay4} {nm:ay4}: ∀{L:List aN},(L.map (·.nm)).Nodup->(L.map (·.ad)).Nodup-> ∀{d:aN},dk L nm=some d->e4 (l8 L) d.ad (tC d.am back)=l8 (ff L nm back)
 | [],_,_,d,h=>by cases h
 |e::L,hn,ha,d,h=>by
  rw[aq4] at hn ha;obtain⟨cI,dF⟩:=aq7.1 hn;obtain⟨b4,cg⟩:=aq7.1 ha;rw[pJ] at h;show e4 ((e.ad,tC e.am e.back)::l8 L) d.ad (tC d.am back)=l8 (gu nm back e::ff L nm back);unfold e4
  by_cases c:e.nm=nm
  .rw[if_pos c] at h;injection h with h
   subst h;rw[if_pos rfl,La back (by rw[<-c];exact cI)];unfold gu;rw[if_pos c];rfl
  .rw[if_neg c] at h;have a2: ¬e.ad=d.ad:=fun x=>b4 (by rw[x];exact aq6 (f:=fun d:aN=>d.ad) (cV h).1)
   rw[if_neg a2,Lb dF cg h];unfold gu;rw[if_neg c];rfl
theorem sv (nm back n:ay4): ∀L:List aN,dk (ff L nm back) n=(dk L n).map (gu nm back)
 | []=>rfl
 |d::L=>by
  show dk (gu nm back d::ff L nm back) n=_;rw[pJ,pJ,x4,sv nm back n L]
  split <;>rfl
theorem afD {L:List aN} (hn:(L.map (·.nm)).Nodup) {nm back:ay4} {d:aN} (h:dk L nm=some d):ff (ff L nm back) nm d.back=L:=by
 induction L with
 |nil=>cases h
 |cons e L br=>
  rw[aq4] at hn;obtain⟨cI,dF⟩:=aq7.1 hn;rw[pJ] at h;show gu nm d.back (gu nm back e)::ff (ff L nm back) nm d.back=e::L
  by_cases c:e.nm=nm
  .rw[if_pos c] at h;injection h with h
   subst h;have cY:nm∉L.map (·.nm):=by rw[<-c];exact cI
   rw[La back cY,La _ cY]
   congr 1
   unfold gu;rw[if_pos c,if_pos c]
  .rw[if_neg c] at h;rw[br dF h]
   congr 1
   unfold gu;rw[if_neg c,if_neg c]
abbrev afE (nm back qT:ay4) (ad:Nat):aY:=[(0,ap 1001),(1,bU nm),(2,bU back),(7,dn ad),(8,bU qT)]
abbrev afF (qT:ay4) (ad:Nat) (l:List ay4) (j:Nat):aY:=[(0,ap 1001),(7,dn ad),(8,bU qT),(46,bS .str l),(47,ac (l.length:Nat)),(48,ac (j:Nat))]
theorem Sl {I:Nat->Prop} {w:World} {s:ay4} {aC:Value} (h:gF I w (.str s) aC):aC.cells=List.toArray [aC]/\aC.oneCell'=true:=by
 have h:aC= .string ⟨s.toArray⟩:=h;subst h;exact⟨rfl,rfl⟩
theorem afG (z U:Int) (L:List aN) (eJ:hW L) (al: ∀d,d∈L->d.nm.length<=100000) (nZ:L.length<=100) (nm back:ay4) (d:aN) (J:dk L nm=some d) (ab:(decide (back=[])||(dk L back).isSome)=true) (k:Nat) (b9:eC L back k) (hi:k<=1000000) (h: ¬(nm=back\/nm∈eD L k back))
  (z7:ay4->Nat) (afH: ∀n∈li L,eC (ff L nm back) n (z7 n)/\z7 n<=1000000) (r:Int) (Gc:List aN) (bu:(∀n∈li L,z7 n<=8)->r=0/\Gc=ff L nm back) (fv:(∃n∈li L,8 < z7 n)->r=142/\Gc=L):
  Fn Tryz.prog 299 [ap 1001,bU nm,bU back] (bP z U L) [] (ac r) (bP z U Gc):=by
 obtain⟨oX,gb,gc⟩:=j5 F2;have iQ:=zV z U L back;rw[ab] at iQ;have hx:(b0 (aI:=.str) (aK:=.aL) (c4 L) nm).getD (cL .aL)=some d.ad:=by rw[jO,J];rfl
 have hd:=zY z U L eJ back k b9 hi;have x2:=ru b9;generalize eD L k back=bs at hd x2 h;have lv:=K9 bs nm au5
 have BO:bs.contains nm=false:=by
  have:=fun e=>h (.inr e)
  simpa using this
 rw[BO] at lv;have lJ:=eJ.D (cV J).1;have CK:=eJ.ff nm back;have jW:dk (ff L nm back) nm=some (gu nm back d):=by rw[sv,J];rfl
 have Sm:=CK.D (cV jW).1;rw[Ga,Gb,show(gu nm back d).back=back by unfold gu;rw[if_pos (cV J).2]] at Sm;have o1:=afB L nm back;have wo:=afC L nm back;have sw:e4 (l8 L) d.ad (tC d.am back)=l8 (ff L nm back):=Lb eJ.ik eJ.lh J
 have afI:e4 (l8 (ff L nm back)) d.ad (tC d.am d.back)=l8 L:=by
  have:=Lb (back:=d.back) CK.ik CK.lh jW;rw[Ga,Gb,afD eJ.ik J] at this;exact this
 have zH:=Sa z U (ff L nm back) CK (fun x hx=>by
  obtain⟨y,aB,rfl⟩:=ar2.1 hx;rw[x4];exact al y aB) (by unfold ff;rw[aq3];exact nZ)
 have mb:li (ff L nm back)=li L:=by unfold li;rw[o1]
 rw[mb] at zH;have b6:=R9 L;generalize li L=l at*;refine aU [6,8,12] Tryz.func299 ?_;refine⟨fun dZ bl=>ar iQ ⟨fun fS=>absurd fS au6,fun _=>⟨fun hQ=>?_,fun hQ=>?_⟩⟩,fun O=>absurd (show(b0 (aI:=.str) (aK:=.aL) (c4 L) nm).getD (cL .aL)=none from O) aw2⟩
 .exact absurd (.inl (gd hQ)) h
 refine ar hd <| ar lv ⟨fun fS=>absurd fS au6,fun _=>bz [8,12] (bp) ⟨_,_,fun N=>iY (b:=d.ad) rfl ax1 N,rfl,?_⟩⟩;refine⟨_,_,fun N=>ja rfl Tryz.underlying86 rfl rfl gb av7 rfl N,rfl,?_⟩;refine⟨_,_,fun N=>k9 (q:=1003) rfl Tryz.underlying9 rfl rfl rfl lJ rfl N,rfl,?_⟩;refine⟨_,_,fun N=>iY (b:=d.ad) rfl ax1 N,rfl,?_⟩;refine⟨_,_,fun N=>ja rfl Tryz.underlying86 rfl rfl gb av7 rfl N,rfl,?_⟩;refine⟨_,_,fun N=>zC (q:=1003) (b:=d.ad) (j:=1) (y:=.str back) (l:=F1 d.am d.back) (h':=fun _=>rfl) rfl gb gc rfl rfl rfl lJ (Nat.lt_succ_self 1) Sl N,rfl,?_⟩;refine bz [12] (ae.sub (K':=afE nm back d.back d.ad) (B':=bP z U (ff L nm back)) ⟨rfl,rfl,rfl,hx,rfl,trivial⟩ ⟨rfl,congrArg (fun e=>some (bb.map .str .aL e)) o1.symm,congrArg (fun e=>some (bb.aG (.bA e))) sw,congrArg (fun e=>some (bb.aG (.bA e))) wo.symm,trivial⟩) <| ar zH ?_;refine dQ [12] (X:=Nat) (afF d.back d.ad l) (fun _=>bP z U (ff L nm back)) (fun j=>j<=l.length/\ ∀n∈l.take j,z7 n<=8) (fun j=>l.length - j) 0 ⟨ap7 _,fun n hn=>by rw[List.take_zero] at hn;cases hn⟩ ?_ ?_
 .exact ae.sub aA aA
 intro j ⟨Z,Lc⟩;refine⟨fun h=>?_,fun h=>?_⟩
 .have h:decide ((j:Int) < (l.length:Nat))=true:=h;have fj:j < l.length:=av4
  have m3:(0:Int)<=(j:Int):=av3
  have rs:c0 ((j:Int)+1):=av3
  obtain⟨Sn,Kl⟩:=afH _ (ar3 fj);have k5:=ar3 fj;have m5:=as1 fj;have he:=zY z U (ff L nm back) CK _ _ Sn Kl;have afJ:=ru Sn;refine⟨m3,l[j],jv (n:=j) fj,?_⟩;generalize l[j]=n at*;generalize eD (ff L nm back) (z7 n) n=ns at he afJ;refine ar he ⟨fun o0=>?_,fun o0=>?_⟩
  .have o0:(8:Int) < (ns.length:Int):=gd o0;obtain⟨rfl,rfl⟩:=fv ⟨n,k5,au5⟩;refine bz [] (cH [(7,dn d.ad),(8,bU d.back)] (bP z U (ff Gc nm back))) ⟨_,_,fun N=>iY (b:=d.ad) rfl rfl N,rfl,?_⟩;refine⟨_,_,fun N=>ja rfl Tryz.underlying86 rfl rfl gb av7 rfl N,rfl,?_⟩;refine⟨_,_,fun N=>zC (q:=1003) (b:=d.ad) (j:=1) (y:=.str d.back) (l:=F1 d.am back) (h':=fun _=>rfl) rfl gb gc rfl rfl rfl Sm (Nat.lt_succ_self 1) Sl N,rfl,?_⟩;exact si bp rfl rfl ⟨rfl,congrArg (fun e=>some (bb.map .str .aL e)) o1,congrArg (fun e=>some (bb.aG (.bA e))) afI,congrArg (fun e=>some (bb.aG (.bA e))) wo,trivial⟩ rfl
  .have o0: ¬(8:Int) < (ns.length:Int):=mu o0;refine⟨rs,j+1,⟨fj,fun n' uG=>?_⟩,au5,ae.sub aA aA⟩;rw[m5] at uG;rcases aq8.1 uG with uG |uG
   .exact Lc n' uG
   .rw[aq2] at uG;subst uG;omega
 .have h:decide ((j:Int) < (l.length:Nat))=false:=h;have fj:j=l.length:=ax5
  subst fj;rw[aq9] at Lc;obtain⟨rfl,rfl⟩:=bu Lc;exact bg
end
end Go.Proofs.YthnboghbhgapcaaGreat
