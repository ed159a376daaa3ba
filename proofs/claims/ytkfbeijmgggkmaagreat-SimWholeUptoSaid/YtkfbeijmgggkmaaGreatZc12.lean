/-
A part of the proof of this claim: lemmas, with no condition beyond what each says.
-/
import Derived.Test.YtkfbeijmgggkmaaGreatProg
import Derived.Test.YtkfbeijmgggkmaaGreatZc11
set_option linter.unusedVariables false
set_option linter.unusedSimpArgs false
set_option maxRecDepth 10000
set_option maxHeartbeats 4000000
namespace Go.Proofs.YtkfbeijmgggkmaaGreat
open Go.RowKit Go.Proofs Tryz
section
structure aM where
 nm:aA0
 back:aA0
 ad:Nat
 am:Nat
 im:bL
 cS:Option (Nat->Nat)
def kF (d:aM):bg:=match d.cS with
 |none=>ja d.im
 |some bs=>.nu (dB d.im) (fun c=>cond (Nat.beq c 1001) d.am (bs c))
abbrev lY (d:aM):aa .str×aa .aL:=((d.nm:aa .str),(some d.ad:aa .aL))
def c9 (L:List aM):List (aa .str×aa .aL):=L.map lY
abbrev GM (am:Nat) (back:aA0):List bC:=[.d (.aL (some am)),.d (.str back)]
def t1 (am:Nat) (back:aA0):bg:=bg.ch (.cells (GM am back)) (fun _=>rfl)
def ms (L:List aM):List (Nat×bg):=L.map fun d=>(d.ad,t1 d.am d.back)
def iq (L:List aM):List (Nat×bg):=L.map fun d=>(d.am,kF d)
abbrev LJ (z R:Int):List bC:=[.d (.int .i64 z),.d (.int .i64 R),.mp 1002]
abbrev bS (z R:Int) (L:List aM):ay:=[(1001,.cells (LJ z R)),(1002,.map .str .aL (c9 L)),(1003,.aF (.bw (ms L))),(1004,.aF (.bw (iq L)))]
def dk (L:List aM) (nm:aA0):Option aM:=L.find? fun d=>decide (d.nm=nm)
theorem cU {L:List aM} {nm:aA0} {d:aM} (h:dk L nm=some d):d∈L/\d.nm=nm:=⟨av2 h,by have:=List.find?_some h;simpa using this⟩
theorem j6 (nm:aA0): ∀L:List aM,(bY (aH:=.str) (aJ:=.aL) (c9 L) nm).getD (cL .aL)=((dk L nm).map (·.ad):Option Nat)
 | []=>rfl
 |d::L=>by
  have bu:=j6 nm L;show(bY (aH:=.str) (aJ:=.aL) (lY d::c9 L) nm).getD (cL .aL)=_;rw[show dk (d::L) nm=if decide (d.nm=nm)=true then some d else dk L nm by unfold dk;rw[List.find?_cons];split <;>rename_i h <;>rw[h] <;>rfl];rw[show bY (aH:=.str) (aJ:=.aL) (lY d::c9 L) nm=match fN .str (nm:aa .str) (lY d).1 with |true=>some (lY d).2 |false=>bY (aH:=.str) (aJ:=.aL) (c9 L) nm from rfl]
  by_cases e:d.nm=nm
  .rw[show fN .str (nm:aa .str) (lY d).1=true from(qB _ _).2 e.symm,show decide (d.nm=nm)=true from ar6 e];rfl
  .rw[show fN .str (nm:aa .str) (lY d).1=false from rG (aH:=.str) qB (fun h=>e h.symm),show decide (d.nm=nm)=false from at3 e];exact bu
theorem LK {f:aM->Nat×bg}: ∀{L:List aM},(L.map fun d=>(f d).1).Nodup-> ∀{d:aM},d∈L->eB (L.map f) (f d).1=some (f d).2
 | [],_,d,h=>by cases h
 |e::L,hn,d,h=>by
  rw[ar8] at hn;obtain⟨cM,dK⟩:=at0.1 hn;rw[ar8];unfold eB;rcases aq7.1 h with rfl |h
  .rw[if_pos rfl]
  .rw[if_neg (fun e=>cM (by rw[e];exact as0 (f:=fun d=>(f d).1) h))];exact LK dK h
structure h8 (L:List aM):Prop where
 iA:(L.map (·.nm)).Nodup
 lv:(L.map (·.ad)).Nodup
 wH:(L.map (·.am)).Nodup
theorem h8.D {L:List aM} (h:h8 L) {d:aM} (H:d∈L):eB (ms L) d.ad=some (t1 d.am d.back):=LK (f:=fun d=>(d.ad,t1 d.am d.back)) h.lv H
theorem h8.M {L:List aM} (h:h8 L) {d:aM} (H:d∈L):eB (iq L) d.am=some (kF d):=LK (f:=fun d=>(d.am,kF d)) h.wH H
theorem yk:(Tryz.prog.info? 112).map (·.size)=some 1:=by kernel_rfl
theorem GN:(Tryz.prog.info? 9).map (·.size)=some 1:=by kernel_rfl
theorem AE (z R:Int) (L:List aM) (b:aA0):Fn Tryz.prog 59 [ah 1001,bQ b] (bS z R L) [] (fk (decide (b=[])||(dk L b).isSome)) (bS z R L):=by
 have aY:=j6 b L;refine aT [] Tryz.func59 ?_;refine⟨fun h=>?_,fun h=>?_⟩
 .have h:b=[]:=gd h;exact ej bq rfl (show true=_ by rw[ar6 h];rfl)
 .have h: ¬b=[]:=mu h;refine⟨fun ea h'=>?_,fun h'=>?_⟩
  .have h':(bY (aH:=.str) (aJ:=.aL) (c9 L) b).getD (cL .aL)=some ea:=h';rw[aY] at h'
   exact⟨_,_,_,bq,rfl,(show true=_ by rw[at3 h];cases e:dk L b with
    |none=>rw[e] at h';cases h'
    |some d=>rfl),az,rfl⟩
  .have h':(bY (aH:=.str) (aJ:=.aL) (c9 L) b).getD (cL .aL)=none:=h';rw[aY] at h'
   exact⟨_,_,_,bq,rfl,(show false=_ by rw[at3 h];cases e:dk L b with
    |none=>rfl
    |some d=>rw[e] at h';cases h'),az,rfl⟩
theorem afr {L:List aM} {nm:aA0} {ea:Nat} (h:(bY (aH:=.str) (aJ:=.aL) (c9 L) nm).getD (cL .aL)=some ea): ∃d,dk L nm=some d/\d.ad=ea:=by
 rw[j6] at h
 cases e:dk L nm with
 |none=>rw[e] at h;cases h
 |some d=>
  rw[e] at h;injection h with h
  exact⟨d,rfl,h⟩
theorem oq {x:Option Nat} {b:Nat} (h:x=some b):aO.c (dQ.one (bC.d (D.aL x)))= .c (.one (.d (.aL (some b)))):=by rw[h]
theorem jK (z R:Int) (L:List aM) (e5:h8 L) (nm:aA0) (d:aM) (H:dk L nm=some d):Fn Tryz.prog 111 [ah 1001,bQ nm] (bS z R L) [] (c8 d.am) (bS z R L):=by
 obtain⟨ph,gk,gl⟩:=ki yk;have cH:=e5.D (cU H).1;have h':(bY (aH:=.str) (aJ:=.aL) (c9 L) nm).getD (cL .aL)=some d.ad:=by rw[j6,H];rfl
 refine aT [] Tryz.func111 ?_;refine⟨fun ea O=>⟨_,_,fun N=>i' (b:=d.ad) rfl (by exact oq h') N,rfl,?_⟩,fun O=>absurd (show(bY (aH:=.str) (aJ:=.aL) (c9 L) nm).getD (cL .aL)=none from O) ax5⟩;refine⟨_,_,fun N=>jr rfl Tryz.underlying122 rfl rfl gk ax2 rfl N,rfl,?_⟩;refine⟨_,_,fun N=>ln (q:=1003) rfl Tryz.underlying112 rfl rfl rfl cH rfl N,rfl,?_⟩;exact bc
theorem afs (z R:Int) (L:List aM) (nm:aA0) (H:dk L nm=none):Fn Tryz.prog 111 [ah 1001,bQ nm] (bS z R L) [] (.c mZ) (bS z R L):=by
 have h':(bY (aH:=.str) (aJ:=.aL) (c9 L) nm).getD (cL .aL)=none:=by rw[j6,H];rfl
 refine aT [] Tryz.func111 ?_;exact⟨fun ea O=>absurd (show(bY (aH:=.str) (aJ:=.aL) (c9 L) nm).getD (cL .aL)=some ea from O) ax5,fun _=>bc⟩
theorem aft (z R:Int) (L:List aM) (e5:h8 L) (nm:aA0) (d:aM) (H:dk L nm=some d):Fn Tryz.prog 114 [ah 1001,bQ nm] (bS z R L) [] (.cb [.one (.d (.str d.back)),dp 0]) (bS z R L):=by
 obtain⟨ph,gk,gl⟩:=ki GN;have cH:=e5.D (cU H).1;have h':(bY (aH:=.str) (aJ:=.aL) (c9 L) nm).getD (cL .aL)=some d.ad:=by rw[j6,H];rfl
 refine aT [] Tryz.func114 ?_;refine⟨fun ea O=>⟨_,_,fun N=>i' (b:=d.ad) rfl (by exact oq h') N,rfl,?_⟩,fun O=>absurd (show(bY (aH:=.str) (aJ:=.aL) (c9 L) nm).getD (cL .aL)=none from O) ax5⟩;refine⟨_,_,fun N=>jr rfl Tryz.underlying122 rfl rfl gk ax2 rfl N,rfl,?_⟩;refine⟨_,_,fun N=>ln (q:=1003) rfl Tryz.underlying9 rfl rfl rfl cH rfl N,rfl,?_⟩;exact bc
theorem afu (z R:Int) (L:List aM) (nm:aA0) (H:dk L nm=none):Fn Tryz.prog 114 [ah 1001,bQ nm] (bS z R L) [] (.cb [.one (.d (.str [])),dp 140]) (bS z R L):=by
 have h':(bY (aH:=.str) (aJ:=.aL) (c9 L) nm).getD (cL .aL)=none:=by rw[j6,H];rfl
 refine aT [] Tryz.func114 ?_;exact⟨fun ea O=>absurd (show(bY (aH:=.str) (aJ:=.aL) (c9 L) nm).getD (cL .aL)=some ea from O) ax5,fun _=>bc⟩
inductive eZ (L:List aM):aA0->Nat->Prop where
 |gone {nm}:dk L nm=none->eZ L nm 0
 |base {nm d}:dk L nm=some d->d.back=[]->eZ L nm 0
 |step {nm d k}:dk L nm=some d->d.back≠[]->eZ L d.back k->eZ L nm (k+1)
def eO (L:List aM):Nat->aA0->List aA0
 |0,_=>[]
 |k+1,nm=>match dk L nm with
  |none=>[]
  |some d=>d.back::eO L k d.back
def eT (L:List aM):Nat->aA0->aA0
 |0,nm=>nm
 |j+1,nm=>match dk L nm with
  |none=>nm
  |some d=>eT L j d.back
theorem AF (L:List aM): ∀(j:Nat) (nm:aA0),eT L (j+1) nm=match dk L (eT L j nm) with
  |none=>eT L j nm
  |some d=>d.back
 |0,nm=>by
  show(match dk L nm with |none=>nm |some d=>d.back)=_;rfl
 |j+1,nm=>by
  show(match dk L nm with |none=>nm |some d=>eT L (j+1) d.back)=_
  cases e:dk L nm with
  |none=>
   simp only;rw[show eT L (j+1) nm=nm by show(match dk L nm with |none=>nm |some d=>eT L j d.back)=nm;rw[e]];rw[e]
  |some d=>
   simp only;rw[AF L j d.back];rw[show eT L (j+1) nm=eT L j d.back by show(match dk L nm with |none=>nm |some d=>eT L j d.back)=_;rw[e]]
theorem GO {L:List aM}: ∀{k:Nat} {nm:aA0},eZ L nm k-> ∀j,j<=k->eZ L (eT L j nm) (k - j)
 |_,_,h,0,_=>h
 |k+1,nm,.step (d:=d) E G al,j+1,V=>by
  rw[show eT L (j+1) nm=eT L j d.back by show(match dk L nm with |none=>nm |some d=>eT L j d.back)=_;rw[E]];rw[Nat.add_sub_add_right];exact GO al j aw0
 |0,_,_,j+1,V=>absurd V aw0
theorem rX {L:List aM} {nm:aA0} {k:Nat} (h:eZ L nm k):(eO L k nm).length=k:=by
 induction h with
 |gone _=>rfl
 |base _ _=>rfl
 |step E G _ bu=>
  unfold eO;rw[E];simp only[au1,bu]
theorem GP {L:List aM}: ∀{k:Nat} {nm:aA0},eZ L nm k-> ∀j,j < k->(eO L k nm).take (j+1)=(eO L k nm).take j++[eT L (j+1) nm]
 |k+1,nm,.step (d:=d) E G al,0,_=>by
  unfold eO;rw[E];simp only[List.take_succ_cons,List.take_zero,av8];rw[show eT L 1 nm=d.back by show(match dk L nm with |none=>nm |some d=>eT L 0 d.back)=_;rw[E];rfl]
 |k+1,nm,.step (d:=d) E G al,j+1,V=>by
  have bu:=GP al j aw0;unfold eO;rw[E];simp only[List.take_succ_cons,List.cons_append];rw[bu];rw[show eT L (j+1+1) nm=eT L (j+1) d.back by show(match dk L nm with |none=>nm |some d=>eT L (j+1) d.back)=_;rw[E]]
 |0,_,_,j,V=>absurd V aw0
abbrev AG (x:Option Nat):aO:=.c (.one (.d (.aL x)))
abbrev SQ (L:List aM) (nm:aA0) (j:Nat):aX:=[(0,ah 1001),(5,eX 5002),(6,AG ((dk L (eT L j nm)).map (·.ad)))]
abbrev SR (z R:Int) (L:List aM) (k:Nat) (nm:aA0) (j:Nat):ay:=bS z R L++[(5002,.row 9 .str ((eO L k nm).take j))]
abbrev afv (L:List aM) (nm:aA0) (j:Nat):aX:=[(0,ah 1001),(5,eX 35),(6,AG ((dk L (eT L j nm)).map (·.ad)))]
abbrev afw (z R:Int) (L:List aM) (k:Nat) (nm:aA0) (j:Nat):ay:=bS z R L++[(35,.row 9 .str ((eO L k nm).take j))]
theorem AH (z R:Int) (L:List aM) (e5:h8 L) (nm:aA0) (k:Nat) (Z:eZ L nm k) (hs:k<=1000000):Fn Tryz.prog 60 [ah 1001,bQ nm] (bS z R L) [] (bv .str (eO L k nm)) (bS z R L):=by
 obtain⟨ph,gk,gl⟩:=ki GN;have gE:=rX Z;refine aT [2,7] Tryz.func60 ?_;refine br [7] (bq) <| dG [6,4,7] (X:=Nat) (SQ L nm) (fun j=>SR z R L k nm j) (fun j=>j<=k) (fun j=>k - j) 0 (aq9 _) ?_ ?_
 .refine(ab.nil 5 5002 9 .str rfl rfl).trans (ab.sub ⟨rfl,rfl,?_,trivial⟩ az);exact j6 nm L
 intro j V;have jL:=GO Z j V;have n4:k - j=0->(eO L k nm).take j=eO L k nm:=fun h=>List.take_of_length_le aw0
 refine⟨fun ea h'=>?_,fun h'=>?_⟩
 .obtain⟨d,H,rfl⟩: ∃d,dk L (eT L j nm)=some d/\d.ad=ea:=by
   have h':(dk L (eT L j nm)).map (·.ad)=some ea:=h'
   cases e:dk L (eT L j nm) with
   |none=>rw[e] at h';cases h'
   |some d=>rw[e] at h';injection h' with h';exact⟨d,rfl,h'⟩
  have cH:=e5.D (cU H).1;have hx:(dk L (eT L j nm)).map (·.ad)=some d.ad:=by rw[H];rfl
  refine⟨_,_,fun N=>i' (b:=d.ad) rfl ay7 N,rfl,?_⟩;refine⟨_,_,fun N=>jr rfl Tryz.underlying122 rfl rfl gk ax2 rfl N,rfl,?_⟩;refine⟨_,_,fun N=>ln (q:=1003) rfl Tryz.underlying9 rfl rfl rfl cH rfl N,rfl,?_⟩;refine⟨fun O=>?_,fun O=>?_⟩
  .have O:d.back=[]:=gd O
   have av:k - j=0:=by
    generalize k - j=m at jL
    cases jL with
    |gone h=>rfl
    |base _ _=>rfl
    |step E G _=>rw[H] at E;injection E with E;rw[<-E] at G;exact absurd O G
   have cn:=n4 av;exact br [] (bq) ⟨_,_,_,ab.d3 5002 rfl,rfl,cn,az,rfl⟩
  .have O: ¬d.back=[]:=mu O
   have lV:j < k:=by
    rcases Nat.lt_or_ge j k with h |h
    .exact h
    .exfalso;have av:k - j=0:=aw8
     rw[av] at jL
     cases jL with
     |gone h=>rw[H] at h;cases h
     |base E G=>rw[H] at E;injection E with E;rw[<-E] at G;exact O G
   have SS:eT L (j+1) nm=d.back:=by rw[AF,H]
   have np:=GP Z j lV;rw[SS] at np;have lq:((eO L k nm).take j).length+1<=4294967296:=ax7
   refine br [4] (cw (SQ L nm j) (SR z R L k nm j)) ⟨_,_,fun N=>i' (b:=d.ad) rfl ay7 N,rfl,?_⟩;refine⟨_,_,fun N=>jr rfl Tryz.underlying122 rfl rfl gk ax2 rfl N,rfl,?_⟩;refine⟨_,_,fun N=>ln (q:=1003) rfl Tryz.underlying9 rfl rfl rfl cH rfl N,rfl,?_⟩;refine⟨lq,rfl,br [] (ab.sub (K':=afv L nm j) (B':=afw z R L k nm (j+1)) az ⟨rfl,rfl,rfl,rfl,congrArg (fun l:List aA0=>some (ba.row 9 .str l)) np.symm,trivial⟩) ⟨_,_,fun N=>i' (b:=d.ad) rfl ay7 N,rfl,?_⟩⟩;refine⟨_,_,fun N=>jr rfl Tryz.underlying122 rfl rfl gk ax2 rfl N,rfl,?_⟩;refine⟨_,_,fun N=>ln (q:=1003) rfl Tryz.underlying9 rfl rfl rfl cH rfl N,rfl,?_⟩;refine⟨rfl,j+1,aw0,aw0,(ab.aV 35 5002 rfl).trans (ab.sub ⟨rfl,rfl,?_,trivial⟩ az)⟩;rw[SS];exact j6 d.back L
 .have H:dk L (eT L j nm)=none:=by
   have h':(dk L (eT L j nm)).map (·.ad)=none:=h'
   cases e:dk L (eT L j nm) with
   |none=>rfl
   |some d=>rw[e] at h';cases h'
  have av:k - j=0:=by
   generalize k - j=m at jL
   cases jL with
   |gone h=>rfl
   |base _ _=>rfl
   |step E G _=>rw[H] at E;cases E
  have cn:=n4 av;exact br [] (bq) ⟨_,_,_,ab.d3 5002 rfl,rfl,cn,az,rfl⟩
theorem h9 {f:FuncId} {args:List aO} {res:aO} {d:aM} {M:List (Nat×bg)} (h:Fn Tryz.prog f (ah 1001::args) (dB d.im) [] res (dB d.im)) (ar:eB M d.am=some (kF d)) (E:ob 1001 [1002,1003,1004] (ah 1001::args) (dB d.im) [] [] []=true) (G:oc 1001 (mY [1002,1003,1004] [] []) res (dB d.im) []=true)
  (al:(args.all fun v=>v.i7 [])=true) (aW:res.i7 []=true):Fn Tryz.prog f (c8 d.am::args) [(1004,.aF (.bw M))] [] res [(1004,.aF (.bw M))]:=by
 have fH: ∀{v:aO},v.i7 []=true->v.has 1001=false:=fun {v} aA=>by
  cases e:v.has 1001 with
  |false=>rfl
  |true=>exact absurd (aO.kB aA e) List.not_mem_nil
 cases ae:d.cS with
 |none=>
  rw[show kF d=ja d.im by unfold kF;rw[ae]] at ar;have J:Fn Tryz.prog f (ah 1001::args) [(1001,.aF (ja d.im))] [] res [(1001,.aF (ja d.im))]:=Fn.close (bp:=dB d.im) (dz:=dB d.im) (aI:=[]) (aN:=[]) [1002,1003,1004] aw9 (fun _ _ _ _ h=>h) (fun _ _ _ _ h=>h) E G;have:=(cA.bw (c:=1001) (q:=1004) (b:=d.am) (args:=args) (aI:=[]) (bb:=[]) (X:=Unit) (res:=fun _=>res) (aN:=fun _=>[]) (o:=ja d.im) (o':=fun _=>ja d.im) (L:=M) J.x ar (as9.2 fun v aA=>by rw[fH (as9.1 al v aA)];rfl) ⟨rfl,rfl⟩ rfl (fun _=>by rw[fH aW];rfl)).fn;rw[x4 ar] at this;exact this
 |some bs=>
  rw[show kF d= .nu (dB d.im) (fun c=>cond (Nat.beq c 1001) d.am (bs c)) by unfold kF;rw[ae]] at ar;exact Fn.ads (c:=1001) h ar rfl rfl al aW
theorem afx {s:bL} (aq:gG s) {k:Nat} (Z:k < s.t.length):Lu s (k*2 ^s.z) (2 ^s.z)=eR s k none:=by
 have dF:=wD aq Z none;have ae:=js aq.z;have cW:aK s=16*2 ^s.z:=rfl
 have bJ:16*(k*2 ^s.z)/aK s=k:=by
  rw[cW,show 16*(k*2 ^s.z)=k*(16*2 ^s.z) by rw[Nat.mul_left_comm],Nat.mul_div_cancel _ aw0]
 have em:16*(k*2 ^s.z)=k*aK s:=by rw[cW,Nat.mul_left_comm]
 have af:cK (aK s) (k*2 ^s.z) (2 ^s.z)=1:=by
  have av:=vb (a:=k*2 ^s.z) (l:=2 ^s.z) (k:=0) (qI aq.z);have E:=vb (a:=k*2 ^s.z) (l:=2 ^s.z) (k:=1) (qI aq.z);rw[bJ,Nat.mul_add,em] at av E;rw[Nat.add_zero] at av;rw[Nat.succ_mul] at E;have a0:=av.1 ⟨aw0,aw0⟩
  have b0: ¬1 < cK (aK s) (k*2 ^s.z) (2 ^s.z):=fun h=>by
   have:=(E.2 h).2;omega
  omega
 unfold Lu;rw[af];show[]++Ay s (k*2 ^s.z) (2 ^s.z) 0=_;rw[av8];unfold Ay;have Lc:(bt (aK s) (k*2 ^s.z) (2 ^s.z) 0).c=k:=by unfold bt;simp only[bJ,Nat.add_zero]
 have afy:(bt (aK s) (k*2 ^s.z) (2 ^s.z) 0).a=0:=by
  show 16*(k*2 ^s.z) - (16*(k*2 ^s.z)/aK s+0)*aK s=0;rw[bJ,Nat.add_zero,em,Nat.sub_self]
 have De:(bt (aK s) (k*2 ^s.z) (2 ^s.z) 0).b=aK s:=by
  show min (16*(k*2 ^s.z+2 ^s.z) - (16*(k*2 ^s.z)/aK s+0)*aK s) (aK s)=aK s;rw[bJ,Nat.add_zero,Nat.mul_add,em,show 16*2 ^s.z=aK s from rfl,Nat.add_sub_cancel_left,Nat.min_self]
 rw[Lc,afy,De,List.drop_zero,List.take_of_length_le aw0]
theorem afz {s:bL} (aq:gG s) {k:Nat} (Z:k < s.t.length):ec s ((k*2 ^s.z:Nat):Int) ((2 ^s.z:Nat):Int)=0:=by
 have h:k*2 ^s.z+2 ^s.z<=g3 s:=by
  have:=Nat.mul_le_mul_right (2 ^s.z) (show k+1<=s.t.length from Z);rw[Nat.succ_mul] at this;exact this
 unfold ec;generalize k*2 ^s.z=Q at*;generalize 2 ^s.z=P at*;rw[if_neg aw0,if_neg aw0]
structure nC (z:Nat) (R:Nat) (L:List aM):Prop extends h8 L where
 b3:z<=3
 vc:R<=512
 len:L.length<=16
 gf: ∀d,d∈L->gG d.im/\d.im.z=z/\d.im.l.length=R
 iB: ∀d,d∈L->d.back≠[]-> ∃e,dk L d.back=some e
 ne: ∀d,d∈L->d.nm≠[]
 sS: ∀d,d∈L-> ∃k,k<=8/\eZ L d.nm k
theorem LL {z R:Nat} {L:List aM} (h:nC z R L) {nm:aA0} {k:Nat} (Z:eZ L nm k): ∀n,n∈eO L k nm-> ∃e,dk L n=some e:=by
 induction Z with
 |gone _=>intro n hn;cases hn
 |base _ _=>intro n hn;cases hn
 | @step nm d k E G al bu=>
  intro n hn;unfold eO at hn;rw[E] at hn;rcases aq7.1 hn with rfl |hn
  .exact h.iB d (cU E).1 G
  .exact bu n hn
def kG (z:Nat) (L:List aM) (k:Nat):List aA0->Nat->aA0×Nat
 | [],_=>(List.replicate (16*2 ^z) 0,0)
 |n::ns,i=>match dk L n with
  |none=>([],0)
  |some d=>if k < d.im.t.length/\(d.im.t.getD k cy).1≠0 then(eR d.im k none,i+1) else kG z L k ns (i+1)
theorem ST {z R:Nat} {L:List aM} (h:nC z R L) (k:Nat): ∀(ns:List aA0) (i:Nat),(kG z L k ns i).1.length<=128
 | [],i=>by
  show(List.replicate (16*2 ^z) (0:UInt8)).length<=128;rw[at1];have:=js h.b3;omega
 |n::ns,i=>by
  unfold kG
  cases e:dk L n with
  |none=>exact aq9 _
  |some d=>
   simp only
   split
   .rename_i bj;obtain⟨fA,hc,_⟩:=h.gf d (cU e).1;rw[wD fA bj.1 none];exact(u9 fA.z).2
   .exact ST h k ns (i+1)
abbrev GQ (z:Nat) (k:Nat) (l:List aA0) (j:Nat):aX:=[(0,ah 1001),(2,ac (k:Int)),(8,ac ((2 ^z:Nat):Int)),(24,bv .str l),(25,ac (l.length:Nat)),(26,ac (j:Nat))]
abbrev afA (z:Nat) (nm:aA0) (k:Nat):aX:=[(1000000+(1000000+20),.undef),(0,ah 1001),(1,bQ nm),(2,ac (k:Int)),(8,ac ((2 ^z:Nat):Int))]
theorem afB:(Tryz.prog.info? 9).map (fun i=>(i.zero,i.size,i.bytes))=some (some (.string ⟨#[]⟩),1,16):=by kernel_rfl
theorem afC (z R:Nat) (L:List aM) (ef:nC z R L) (nm:aA0) (bO:aM) (av:dk L nm=some bO) (cZ:Nat) (hR:eZ L nm cZ) (m8:cZ<=100) (k:Nat) (Z:k<=100000):
  Fn Tryz.prog 147 [ah 1001,bQ nm,ac (k:Int)] (bS z R L) [] (.cb [.one (.d (.cf .u8 (kG z L k (nm::eO L cZ nm) 0).1)),.one (.d (.int .i64 (((kG z L k (nm::eO L cZ nm) 0).2:Nat):Int)))]) (bS z R L):=by
 obtain⟨ph,gk,gl⟩:=ki yk;obtain⟨aqr,afD,afE,afF,aqs⟩:=info_parts afB;have ae:=js ef.b3;have bZ:=rX hR
 have iS: ∀n,n∈nm::eO L cZ nm-> ∃e,dk L n=some e:=fun n hn=>by
  rcases aq7.1 hn with rfl |hn
  .exact⟨bO,av⟩
  .exact LL ef hR n hn
 have af:(1:Int)*((2 ^z:Nat):Int)=((2 ^z:Nat):Int):=Int.one_mul _;obtain⟨l,ap⟩: ∃l,l=nm::eO L cZ nm:=⟨_,rfl⟩;have lq:l.length=cZ+1:=by rw[ap,au1,bZ]
 refine aT [2,5,6,7,8,10] Tryz.func147 ?_;have m1:(0:Int)<=1/\(0:Int)<=(z:Int)/\(z:Int)<=64:=by have:=ef.b3;omega
 have m2:(-9223372036854775808:Int)<=1*((2 ^z:Nat):Int)/\(1:Int)*((2 ^z:Nat):Int)<=9223372036854775807:=by rw[af];omega
 refine⟨m1,m2,bk.ac0 20 aw1 <| br [5,6,7,8,10] (ab.sub (K':=afA z nm k) (B':=bS z R L) ⟨trivial,rfl,rfl,rfl,af,trivial⟩ az) ⟨_,_,fun N=>ac1 (d:=20) rfl Tryz.underlying45 afD afE afF rfl N,rfl,?_⟩⟩;refine ak (AH z R L ef.toh8 nm cZ hR aw0) ?_;have fZ: [nm].length+(eO L cZ nm).length<=4294967296:=by rw[bZ];simp;omega
 refine⟨fZ,rfl,dG [5,6,7,8,10] (X:=Nat) (GQ z k l) (fun _=>bS z R L) (fun j=>j<=l.length/\kG z L k (l.drop j) j=kG z L k l 0) (fun j=>l.length - j) 0 ⟨aq9 _,by rw[List.drop_zero]⟩ ?_ ?_⟩
 .subst ap;exact(ab.d3 (e:=9) (u:=.str) (xs:=nm::eO L cZ nm) 24 rfl).trans (ab.sub az az)
 rintro j ⟨V,jn⟩;rw[<-ap];refine⟨fun h=>?_,fun h=>?_⟩
 .have h:decide ((j:Int) < (l.length:Nat))=true:=h;have fB:j < l.length:=aw9
  obtain⟨d,H⟩:=iS l[j] (by rw[<-ap];exact as3 fB);have GR:=(cU H).1;obtain⟨fA,hc,p2⟩:=ef.gf d GR;have lZ:=ef.toh8.D GR;have fJ:=ef.toh8.M GR;have hx:(bY (aH:=.str) (aJ:=.aL) (c9 L) l[j]).getD (cL .aL)=some d.ad:=by rw[j6,H];rfl
  have C0:l.drop j=l[j]::l.drop (j+1):=List.drop_eq_getElem_cons fB
  have yl:kG z L k (l.drop j) j=if k < d.im.t.length/\(d.im.t.getD k cy).1≠0 then(eR d.im k none,j+1) else kG z L k (l.drop (j+1)) (j+1):=by
   rw[C0];show(match dk L l[j] with |none=>([],0) |some d=>_)=_;rw[H]
  have m3:(0:Int)<=(j:Int):=aw8
  have rU:c3 ((j:Int)+1):=aw8
  refine⟨m3,l[j],iR (n:=j) fB,?_⟩;generalize l[j]=n at*;refine br [6,7,8,10] (cw ((9,ac (j:Nat))::(10,bQ n)::GQ z k l j) (bS z R L)) ⟨_,_,fun N=>i' (b:=d.ad) rfl ay7 N,rfl,?_⟩;refine⟨_,_,fun N=>jr rfl Tryz.underlying122 rfl rfl gk ax2 rfl N,rfl,?_⟩;refine⟨_,_,fun N=>ln (q:=1003) rfl Tryz.underlying112 rfl rfl rfl lZ rfl N,rfl,?_⟩;refine br [7,8,10] (cw ((9,ac (j:Nat))::(11,c8 d.am)::GQ z k l j) (bS z R L)) <| ak (h9 (nz d.im) fJ rfl rfl rfl rfl) ⟨fun E=>?_,fun E=>?_⟩
  .have E:(k:Int) < (d.im.t.length:Nat):=gd E;have b':k < d.im.t.length:=aw8
   refine ak (h9 (AB d.im fA.eN k b') fJ rfl rfl rfl rfl) ⟨fun G=>?_,fun G=>?_⟩
   .have G:(d.im.t.getD k cy).1≠0:=by
     have G:(!decide ((d.im.t.getD k cy).1=0))=true:=G;simpa using G
    rw[yl,if_pos ⟨b',G⟩] at jn;have eD:=afz fA b';have kH:=Sz d.im fA (k*2 ^d.im.z) (2 ^d.im.z) eD;rw[afx fA b'] at kH;rw[hc] at kH eD;have c1:((k*2 ^z:Nat):Int)=(k:Int)*((2 ^z:Nat):Int):=Int.natCast_mul _ _;rw[c1] at kH
    have jt:c3 ((k:Int)*((2 ^z:Nat):Int)):=by
     rw[<-c1];have:=Nat.mul_le_mul Z ae.2;omega
    refine br [8,10] (cw ((9,ac (j:Nat))::(11,c8 d.am)::GQ z k l j) (bS z R L)) ⟨jt,ak (h9 kH fJ rfl rfl rfl rfl) <| br [] (bq) ?_⟩;have tZ:c3 ((j:Int)+1):=aw8
    refine⟨tZ,_,_,_,bq,rfl,⟨?_,?_,trivial⟩,az,rfl⟩
    .exact congrArg Prod.fst jn
    .show(j:Int)+1=_;rw[<-jn];rfl
   .have G:(d.im.t.getD k cy).1=0:=by
     have G:(!decide ((d.im.t.getD k cy).1=0))=false:=G;simpa using G
    rw[yl,if_neg (fun h=>h.2 G)] at jn;exact⟨rU,j+1,⟨fB,jn⟩,aw0,ab.sub az az⟩
  .have E: ¬(k:Int) < (d.im.t.length:Nat):=mu E;rw[yl,if_neg (fun h=>E (by have:=h.1;omega))] at jn;exact⟨rU,j+1,⟨fB,jn⟩,aw0,ab.sub az az⟩
 .have h:decide ((j:Int) < (l.length:Nat))=false:=h;have fB:j=l.length:=az3
  subst fB;rw[List.drop_length] at jn;have AI:((2 ^z:Nat):Int)*16=((16*2 ^z:Nat):Int):=aw8
  have LM:c3 (((2 ^z:Nat):Int)*16):=by rw[AI];omega
  have LN:((2 ^z:Nat):Int)*16=((2 ^z:Nat):Int)*16/\(0:Int)<=((2 ^z:Nat):Int)*16/\((2 ^z:Nat):Int)*16<=4294967296:=by rw[AI];omega
  refine br [] (bq) ⟨LM,LN,rfl,_,_,_,ab.d3 65 rfl,rfl,⟨?_,?_,trivial⟩,az,rfl⟩
  .have afG:List.replicate (((2 ^z:Nat):Int)*16).toNat (0:UInt8)=(kG z L k l 0).1:=by
    rw[<-jn,AI];rfl
   exact afG
  .show(0:Int)=_;rw[<-jn];rfl
theorem afH {a b:Int} (E:0<=a) (G:a<=9223372036854775807) (al:0<=b) (aW:b<=9223372036854775807):
  IntKind.i64.wrap (((BitVec.ofInt 64 a &&& BitVec.ofInt 64 b).toNat:Nat):Int)=((a.toNat &&& b.toNat:Nat):Int):=by
 have af:(BitVec.ofInt 64 a).toNat=a.toNat:=az2
 have ao:(BitVec.ofInt 64 b).toNat=b.toNat:=az2
 rw[BitVec.toNat_and,af,ao];have h:a.toNat &&& b.toNat < 2 ^63:=Nat.and_lt_two_pow _ aw0;exact xA (by simp only[uu];omega)
theorem GS {P:Program} {ids:aA1} {K:aX} {B:ay} {o:Oper} {T fQ:TypeId} {x y:Operand} {a b:Int} (ag:o.op= .binOp .and T x y fQ) (hx:a7 K x= .c (.one (.d (.int .i64 a)))) (aD:a7 K y= .c (.one (.d (.int .i64 b)))) (E:0<=a) (G:a<=9223372036854775807) (al:0<=b) (aW:b<=9223372036854775807) (N:Nat):
  bB P N ids o K B (.c (.one (.d (.int .i64 ((a.toNat &&& b.toNat:Nat):Int))))) ⟨[],[],[]⟩:=by
 have m1:x∈o.op.operands:=aw7
 have m2:y∈o.op.operands:=aw7
 refine bB.val fun K' B' g1 g2 C ρ F fl w ar au=>?_
 have af:=au.int ((g1 x m1).trans hx);have ao:=au.int ((g1 y m2).trans aD);refine⟨_,?_,rfl⟩;have e:=afH E G al aW
 have ax:Op.intBits .and .i64 a b=pure (.int .i64 ((a.toNat &&& b.toNat:Nat):Int)):=by
  exact congrArg (fun aB:Int=>(pure (Value.int .i64 aB):Sem Value)) e
 simp only[execOp,ag,af,ao,eqGuard,binOp,ax];simp[go_sem]
def jb (z:Nat) (L:List aM) (nm:aA0) (cZ k:Nat):aA0:=(kG z L k (nm::eO L cZ nm) 0).1
theorem LO (z R:Nat) (L:List aM) (ef:nC z R L) (nm:aA0) (bO:aM) (av:dk L nm=some bO) (cZ:Nat) (hR:eZ L nm cZ) (m8:cZ<=100) (k:Nat) (Z:k < bO.im.t.length):
  Fn Tryz.prog 88 [ah 1001,bQ nm,ac (k:Int)] (bS z R L) [] (bv .u8 (jb z L nm cZ k)) (bS z R L):=by
 obtain⟨ph,gk,gl⟩:=ki yk;have H:=(cU av).1;obtain⟨fA,hc,p2⟩:=ef.gf bO H;have lZ:=ef.toh8.D H;have fJ:=ef.toh8.M H;have hx:(bY (aH:=.str) (aJ:=.aL) (c9 L) nm).getD (cL .aL)=some bO.ad:=az4
 have nB:=fA.eN;refine aT [2,4] Tryz.func88 ?_;refine br [4] (bq) ?_;refine⟨fun ea O=>⟨fun h=>absurd (gd h) aw0,fun _=>⟨_,_,fun N=>i' (b:=bO.ad) rfl ay7 N,rfl,?_⟩⟩,fun O=>absurd (show(bY (aH:=.str) (aJ:=.aL) (c9 L) nm).getD (cL .aL)=none from O) ax8⟩;refine⟨_,_,fun N=>jr rfl Tryz.underlying122 rfl rfl gk ax2 rfl N,rfl,?_⟩;refine⟨_,_,fun N=>ln (q:=1003) rfl Tryz.underlying112 rfl rfl rfl lZ rfl N,rfl,?_⟩;refine ak (h9 (nz bO.im) fJ rfl rfl rfl rfl) ⟨fun h=>?_,fun _=>?_⟩
 .exfalso;have h:((bO.im.t.length:Nat):Int)<=(k:Int):=gd h;omega
 exact br [] (cw [(0,ah 1001),(1,bQ nm),(2,ac (k:Int))] (bS z R L)) <| ak (afC z R L ef nm bO av cZ hR m8 k aw0) bc
theorem SU (z R:Nat) (E:z<=3) (al:R<=512):Fn Tryz.prog 26 [ac (z:Int),ac (R:Int)] [] [1001,1002,1003,1004] (.cb [.one (.ptr 1001 0),dp 0]) (bS z R []):=by
 refine aT [2] Tryz.func26 ?_;exact ak (Fn.aV [(1001,2001),(1002,2002),(1003,2003),(1004,2004)] (afp z 0 R E aw1 al)) <| br [] (cw [(0,ac (z:Int)),(1,ac (R:Int)),(7,ac 0)] []) <| cX ⟨rfl,rfl,_,_,_,(ab.aV 21 1001 rfl).trans ((ab.aV 19 1002 rfl).trans ((ab.ll 1003 rfl).trans (ab.ll 1004 rfl))),rfl,az,az,rfl⟩
def nD (z:Nat) (L:List aM) (nm:aA0) (cZ s:Nat):aA0:=((jb z L nm cZ (s/2 ^z)).take (s % 2 ^z*16+16)).drop (s % 2 ^z*16)
def k1 (z:Nat) (L:List aM) (nm:aA0) (cZ a:Nat):Nat->aA0
 |0=>[]
 |j+1=>k1 z L nm cZ a j++nD z L nm cZ (a+j)
theorem LP {z R:Nat} {L:List aM} (h:nC z R L) (k:Nat): ∀(ns:List aA0) (i:Nat),(∀n,n∈ns-> ∃e,dk L n=some e)->(kG z L k ns i).1.length=16*2 ^z
 | [],i,_=>at1
 |n::ns,i,hn=>by
  obtain⟨d,e⟩:=hn n (ar4 ..);unfold kG;rw[e];simp only
  split
  .rename_i bj;obtain⟨fA,hc,_⟩:=h.gf d (cU e).1;rw[wD fA bj.1 none];show 16*2 ^d.im.z=_;rw[hc]
  .exact LP h k ns (i+1) fun n aw=>hn n (aq6 _ aw)
theorem wI {z R:Nat} {L:List aM} (h:nC z R L) {nm:aA0} {bO:aM} (av:dk L nm=some bO) {cZ:Nat} (hR:eZ L nm cZ) (k:Nat):(jb z L nm cZ k).length=16*2 ^z:=
 LP h k _ 0 fun n hn=>by
  rcases aq7.1 hn with rfl |hn
  .exact⟨bO,av⟩
  .exact LL h hR n hn
theorem Df {z R:Nat} {L:List aM} (h:nC z R L) {nm:aA0} {bO:aM} (av:dk L nm=some bO) {cZ:Nat} (hR:eZ L nm cZ) (a:Nat): ∀j,(k1 z L nm cZ a j).length=16*j
 |0=>rfl
 |j+1=>by
  have bu:=Df h av hR a j;have J:=wI h av hR ((a+j)/2 ^z);have ae:=(js h.b3).1;have aw:(a+j) % 2 ^z < 2 ^z:=Nat.mod_lt _ aw0;show(k1 z L nm cZ a j++nD z L nm cZ (a+j)).length=_;rw[aq5,bu];unfold nD;rw[au3,ar3,J];generalize(a+j) % 2 ^z=m at*;generalize 2 ^z=P at*;omega
abbrev SV (nm:aA0) (a l j:Nat):aX:=[(0,ah 1001),(1,bQ nm),(2,ac (a:Int)),(3,ac (l:Int)),(13,eX 5002),(14,ac ((a+j:Nat):Int))]
abbrev afI (nm:aA0) (a l j:Nat):aX:=[(0,ah 1001),(1,bQ nm),(2,ac (a:Int)),(3,ac (l:Int)),(13,eX 70),(14,ac ((a+j:Nat):Int))]
abbrev SW (z R:Int) (L:List aM) (acc:aA0):ay:=bS z R L++[(5002,.row 5 .u8 acc)]
abbrev afJ (z R:Int) (L:List aM) (acc:aA0):ay:=bS z R L++[(70,.row 5 .u8 acc)]
theorem afK (z R:Nat) (L:List aM) (ef:nC z R L) (nm:aA0) (bO:aM) (av:dk L nm=some bO) (cZ:Nat) (hR:eZ L nm cZ) (m8:cZ<=100) (a l:Nat) (eD:ec bO.im a l=0):
  Fn Tryz.prog 45 [ah 1001,bQ nm,ac (a:Int),ac (l:Int)] (bS z R L) [2001] (.cb [.one (.own 2001),dp 0]) (bS z R L++[(2001,.row 5 .u8 (k1 z L nm cZ a l))]):=by
 obtain⟨ph,gk,gl⟩:=ki yk;have H:=(cU av).1;obtain⟨fA,hc,p2⟩:=ef.gf bO H;have lZ:=ef.toh8.D H;have fJ:=ef.toh8.M H;have hx:(bY (aH:=.str) (aJ:=.aL) (c9 L) nm).getD (cL .aL)=some bO.ad:=az4
 have ae:=js ef.b3;have ez:=qK eD;have yg:g3 bO.im<=2048:=Nat.mul_le_mul fA.eN (js fA.z).2;have LQ:g3 bO.im=bO.im.t.length*2 ^z:=by unfold g3;rw[hc]
 refine aT [2,5,7,9,11,12] Tryz.func45 ?_;refine br [5,7,9,11,12] (bq) ?_;refine⟨fun ea O=>⟨_,_,fun N=>i' (b:=bO.ad) rfl ay7 N,rfl,?_⟩,fun O=>absurd (show(bY (aH:=.str) (aJ:=.aL) (c9 L) nm).getD (cL .aL)=none from O) ax8⟩;refine⟨_,_,fun N=>jr rfl Tryz.underlying122 rfl rfl gk ax2 rfl N,rfl,?_⟩;refine⟨_,_,fun N=>ln (q:=1003) rfl Tryz.underlying112 rfl rfl rfl lZ rfl N,rfl,?_⟩;refine ak (h9 (Sz bO.im fA a l eD) fJ rfl rfl rfl rfl) <| br [7,9,11,12] (cw [(0,ah 1001),(1,bQ nm),(2,ac (a:Int)),(3,ac (l:Int)),(12,ac 0)] (bS z R L)) <| cX <| br [9,11,12] (bq) <| dG [11,12] (X:=Nat) (SV nm a l) (fun j=>SW z R L (k1 z L nm cZ a j)) (fun j=>j<=l) (fun j=>l - j) 0 (aq9 _) ?_ ?_
 .exact(ab.nil 13 5002 5 .u8 rfl rfl).trans (ab.sub az az)
 intro j V;have m1:c3 ((a:Int)+(l:Int)):=aw8
 refine⟨m1,fun h=>?_,fun h=>?_⟩
 .have h:((a+j:Nat):Int) < (a:Int)+(l:Int):=gd h;have sn:j < l:=aw8
  have LR:=Df ef av hR a j
  have b':(a+j)/2 ^z < bO.im.t.length:=by
   rw[Nat.div_lt_iff_lt_mul aw0,<-LQ];omega
  have dF:=wI ef av hR ((a+j)/2 ^z);have Pq:(a+j) % 2 ^z < 2 ^z:=Nat.mod_lt _ aw0;have afL:=LO z R L ef nm bO av cZ hR m8 ((a+j)/2 ^z) b';have m2:(0:Int)<=((a+j:Nat):Int)/\(0:Int)<=(z:Int)/\(z:Int)<=64:=by have:=ef.b3;omega
  have m3:(0:Int)<=1/\(0:Int)<=(z:Int)/\(z:Int)<=64:=by have:=ef.b3;omega
  have af:(1:Int)*((2 ^z:Nat):Int)=((2 ^z:Nat):Int):=Int.one_mul _;have jt:(-9223372036854775808:Int)<=1*((2 ^z:Nat):Int)/\(1:Int)*((2 ^z:Nat):Int)<=9223372036854775807:=az9
  have tZ:(-9223372036854775808:Int)<=1*((2 ^z:Nat):Int) - 1/\(1:Int)*((2 ^z:Nat):Int) - 1<=9223372036854775807:=az9
  refine br [12] (bq) ⟨m2,m3,jt,tZ,?_⟩;have et:(1*((2 ^z:Nat):Int) - 1).toNat=2 ^z - 1:=az9
  have ev:(((((a+j:Nat):Int)).toNat &&& (1*((2 ^z:Nat):Int) - 1).toNat:Nat):Int)=(((a+j) % 2 ^z:Nat):Int):=by
   rw[et,show(((a+j:Nat):Int)).toNat=a+j from rfl,Nat.and_two_pow_sub_one_eq_mod]
  have AI:(((((a+j:Nat):Int)).toNat &&& (1*((2 ^z:Nat):Int) - 1).toNat:Nat):Int)*16=(((a+j) % 2 ^z*16:Nat):Int):=by rw[ev];omega
  have afM:((a+j:Nat):Int)/((2 ^z:Nat):Int)=(((a+j)/2 ^z:Nat):Int):=rfl
  have rU:c3 ((((((a+j:Nat):Int)).toNat &&& (1*((2 ^z:Nat):Int) - 1).toNat:Nat):Int)*16):=by
   rw[AI];generalize(a+j) % 2 ^z=m at*;generalize 2 ^z=P at*;omega
  refine⟨_,_,fun N=>GS rfl rfl rfl m2.1 aw0 az9 tZ.2 N,rfl,?_⟩;refine⟨rU,rfl,?_⟩
  have LM:c3 ((((a+j) % 2 ^z*16:Nat):Int)+16):=by
   generalize(a+j) % 2 ^z=m at*;generalize 2 ^z=P at*;omega
  have LN:(0:Int)<=(((a+j) % 2 ^z*16:Nat):Int)/\(((a+j) % 2 ^z*16:Nat):Int)<=(((a+j) % 2 ^z*16:Nat):Int)+16/\(((a+j) % 2 ^z*16:Nat):Int)+16<=(((jb z L nm cZ ((a+j)/2 ^z)).length:Nat):Int):=by
   rw[dF];generalize(a+j) % 2 ^z=m at*;generalize 2 ^z=P at*;omega
  have LS:(k1 z L nm cZ a j).length+(nD z L nm cZ (a+j)).length<=4294967296:=by
   have:=Df ef av hR a (j+1);rw[show k1 z L nm cZ a (j+1)=k1 z L nm cZ a j++nD z L nm cZ (a+j) from rfl,aq5] at this;omega
  refine br [] (ab.sub (K':=(15,ac (((a+j)/2 ^z:Nat):Int))::(16,ac (((a+j) % 2 ^z*16:Nat):Int))::SV nm a l j) (B':=SW z R L (k1 z L nm cZ a j)) ⟨afM,AI,rfl,rfl,rfl,rfl,rfl,rfl,trivial⟩ az) <| ak afL ⟨LM,LN,LS,rfl,?_⟩;have afN:c3 (((a+j:Nat):Int)+1):=aw8
  exact⟨afN,j+1,aw0,aw0,ab.trans (cw (afI nm a l (j+1)) (afJ z R L (k1 z L nm cZ a (j+1)))) (ab.aV 70 5002 rfl)⟩
 .have h: ¬((a+j:Nat):Int) < (a:Int)+(l:Int):=mu h;have sn:j=l:=aw8
  subst sn;exact⟨_,_,_,ab.aV 5002 2001 rfl,rfl,az,az,rfl⟩
theorem afO (z R:Nat) (L:List aM) (ef:nC z R L) (nm:aA0) (bO:aM) (av:dk L nm=some bO) (cZ:Nat) (hR:eZ L nm cZ) (m8:cZ<=100) (a l:Nat) (eD:ec bO.im a l=0):
  Fn Tryz.prog 45 [ah 1001,bQ nm,ac (a:Int),ac (l:Int)] (bS z R L) [] (.cb [.one (.d (.cf .u8 (k1 z L nm cZ a l))),dp 0]) (bS z R L):=
 Fn.aeJ (d:=2001) (afK z R L ef nm bO av cZ hR m8 a l eD) rfl rfl rfl
theorem afP (z R:Int) (L:List aM) (nm:aA0) (av:dk L nm=none) (a l:Int):
  Fn Tryz.prog 45 [ah 1001,bQ nm,ac a,ac l] (bS z R L) [] (.cb [.one .dH,dp 140]) (bS z R L):=by
 have hx:(bY (aH:=.str) (aJ:=.aL) (c9 L) nm).getD (cL .aL)=none:=az4
 refine aT [] Tryz.func45 ?_;exact⟨fun ea O=>absurd (show(bY (aH:=.str) (aJ:=.aL) (c9 L) nm).getD (cL .aL)=some ea from O) ax8,fun _=>bc⟩
theorem afQ (z R:Nat) (L:List aM) (ef:nC z R L) (nm:aA0) (bO:aM) (av:dk L nm=some bO) (a l:Int) (eD:ec bO.im a l≠0):
  Fn Tryz.prog 45 [ah 1001,bQ nm,ac a,ac l] (bS z R L) [] (.cb [.one .dH,dp (ec bO.im a l)]) (bS z R L):=by
 obtain⟨ph,gk,gl⟩:=ki yk;have H:=(cU av).1;obtain⟨fA,hc,p2⟩:=ef.gf bO H;have lZ:=ef.toh8.D H;have fJ:=ef.toh8.M H;have hx:(bY (aH:=.str) (aJ:=.aL) (c9 L) nm).getD (cL .aL)=some bO.ad:=az4
 refine aT [] Tryz.func45 ?_;refine⟨fun ea O=>⟨_,_,fun N=>i' (b:=bO.ad) rfl ay7 N,rfl,?_⟩,fun O=>absurd (show(bY (aH:=.str) (aJ:=.aL) (c9 L) nm).getD (cL .aL)=none from O) ax8⟩;refine⟨_,_,fun N=>jr rfl Tryz.underlying122 rfl rfl gk ax2 rfl N,rfl,?_⟩;refine⟨_,_,fun N=>ln (q:=1003) rfl Tryz.underlying112 rfl rfl rfl lZ rfl N,rfl,?_⟩;refine ak (h9 (ae1 bO.im fA a l eD) fJ rfl rfl rfl rfl) ?_;exact⟨fun _=>bc,fun h=>absurd (show ec bO.im a l=0 by have h:(!decide (ec bO.im a l=0))=false:=h;simpa using h) eD⟩
end
section
open Go.RowKit Go.Proofs Go.Maps Go.Shelf Go.MapKept Tryz
open Go.WideElems (Fit rd rg pl rd_val rd_key rg_of)
def afR {aJ:bA} (p:aa .str×aa aJ):aA0:=p.1
def mt {aJ:bA} (es:List (aa .str×aa aJ)):List aA0:=es.map afR
def nE {aJ:bA} (es:List (aa .str×aa aJ)):List aA0:=(mt es).mergeSort leB
abbrev p3:Value->Option (DataW Unit×List MemPlace):=fun _=>some (.nil,[])
theorem SX {I:Nat->Prop} {w:World} {aJ:bA}: ∀{l:List (aa .str×aa aJ)} {es:List MapEntry},iw I w .str aJ l es->es.map (·.key)=(mt l).map encStr
 | [],_,h=>by rw[show _=[] from h];rfl
 |p::l,_,⟨e,r,h,E,_,al⟩=>by
  rw[h,ar8,SX al,E];rfl
theorem afS {P:Program} {k:TypeId} (Z:P.underlying k=some .string) (s:aA0) (h:s.length<=maxLen):keyOf P k (encStr s)=some (.string s):=by
 simp only[keyOf,Z,encStr,mapKey,ByteArray.size,List.size_toArray];rw[if_pos h]
theorem SY: ∀{l m:List aA0},l.map encStr=m.map encStr->l=m
 | [],[],_=>rfl
 | [],_::_,h=>by simp at h
 |_::_,[],h=>by simp at h
 |x::l,y::m,h=>by
  simp only[ar8,List.cons.injEq] at h;rw[encStr_inj h.1,SY h.2]
theorem SZ {P:Program} {k:TypeId} (Z:P.underlying k=some .string) {I:Nat->Prop} {w:World} {aJ:bA} {es:List (aa .str×aa aJ)} {bU:List MapEntry} {bV b:Nat} (O:w.heap[b]? =some (.map (List.toArray bU) bV))
  (aw:iw I w .str aJ es bU) (dy:mg bU bV) (hn:(mt es).Nodup) (ap: ∀s∈mt es,s.length<=maxLen) (ax:es.length<=maxLen):
  ∃ju,w.ownsMap P k p3 b es.length ju/\Maps.size ju=es.length/\(strKeys ju).Perm (mt es):=by
 have bZ:=BJ aw;have ym:=SX aw
 have Dg: ∀x∈bU,∃s:aA0,x.key=encStr s/\s.length<=maxLen/\rg P k p3 x=(.string s,.nil)/\ ∃y,rd P k p3 x=some y:=by
  intro x hx;have:x.key∈(mt es).map encStr:=by rw[<-ym];exact as0 hx
  obtain⟨s,ae,U⟩:=as5.1 this;have LT:keyOf P k x.key=some (.string s):=U▸afS Z _ (ap s ae);have kH:rd P k p3 x=some (.string s,.nil):=by simp[rd,LT]
  exact⟨s,U.symm,ap s ae,rg_of kH,_,kH⟩
 have pi:=Go.WideShapes.sorted_perm (bU.map (rg P k p3))
 have hR:(bU.map (rg P k p3)).map (fun p=>strOf p.1)=mt es:=by
  refine SY ?_;rw[<-ym,at8,at8];refine as7 fun x hx=>?_
  obtain⟨s,af,_,ao,_⟩:=Dg x hx;simp[ao,af,strOf]
 refine⟨.map ((bU.map (rg P k p3)).foldr DataW.insert []),⟨List.toArray bU,bV,O,⟨by simp[bZ];exact ax,(stamped_iff _ _).2 ⟨dy.2,dy.1.imp fun h=>by omega,?_⟩,fun x hx=>(Dg x hx).choose_spec.2.2.2⟩,by simp[bZ],rfl⟩,?_,?_⟩
 .have E:(bU.map (·.key)).Pairwise (· ≠ ·):=by
   rw[ym];exact List.pairwise_map.2 (hn.imp fun a6 e=>a6 (encStr_inj e))
  exact List.pairwise_map.1 E
 .show List.length _=_;rw[pi.length_eq,ar7,bZ]
 .show(List.map (fun p=>strOf (Prod.fst p)) _).Perm _;rw[<-hR];exact pi.map _
theorem afT (es:List (aa .str×aa .aL)):Fn Tryz.prog 207 [.c (.one (.mp 1001))] [(1001,.map .str .aL es)] [2001] (.c (.one (.cY 231 [.p 2001 0]))) [(2001,.cells [.mp 1001]),(1001,.map .str .aL es)]:=by
 refine aT [] Tryz.func207 ?_;exact⟨rfl,_,_,_,ab.aV 1 2001 rfl,rfl,rfl,az,rfl⟩
theorem fF.S0 {I D:Nat->Prop} {w:World} {v:Value} {l:List aA0} (h:fF D w 1 v l.length (l.map encStr)) (cp: ∀b,b < w.heap.size->D b->I b):cq I w (.b4 .str) l (fun _=>some v):=by
 obtain⟨_,A,c,av,E,G,al⟩:=h;refine⟨A,c,congrArg some av,E,G,fun ae=>?_⟩;obtain⟨b,o,d5,O,bx,hx⟩:=al ae;refine⟨b,o,d5,cp b bx O,fun i x aG=>?_⟩;have:=hx i (encStr x) (by rw[as6,show l[i]? =some x from aG];rfl);simpa[cq,aS,encStr] using this
theorem S1 (m:Nat):AnyZ.SortsIn Tryz.prog RL Fence.wide m:=
 ⟨fun bh off cap hd W c0 jY cu=>callsIn_wide.2 (AnyM.slices_Sort_string RN bh off cap hd W c0 jY cu),
  fun p cap W=>callsIn_wide.2 (AnyM.slices_Sort_string_none RN p cap W)⟩
theorem afU (es:List (aa .str×aa .aL)) (hn:(mt es).Nodup) (ap: ∀s∈mt es,s.length<=maxLen) (ax:es.length<=4294967296):
  Fn Tryz.prog 50 [.c (.one (.cY 231 [.p 2001 0]))] [(2001,.cells [.mp 1001]),(1001,.map .str .aL es)] [] (bv .str (nE es)) [(2001,.cells [.mp 1001]),(1001,.map .str .aL es)]:=by
 refine⟨aw3,fun ρ F I w bW a2 c0 bd eG bZ dx=>?_⟩
 match bW,bZ with
 | [v],_=>
  obtain⟨aE,aA,e',r,hD,mv,aC⟩:=dx 0 _ v rfl rfl;have aC:r=[]:=aC;have mv:e'= .pointer (some ⟨(ρ 2001).bh,0,none⟩):=mv;subst aC mv hD aA;obtain⟨_,aE,T,gb,hD⟩:=c0 2001 _ rfl;obtain⟨x,r,hD,hx,aC⟩:=hD;have aC:r=[]:=aC;have hx:x= .map (some (ρ 1001).bh):=hx;subst aC hx hD;obtain⟨_,bU,bV,gU,aw,dy⟩:=c0 1001 _ rfl;have GT:(4294967296:Nat)<=maxLen:=by decide
  obtain⟨ju,dC,cu,pi⟩:=SZ (P:=Tryz.prog) (k:=9) aw3 gU aw dy hn ap aw0;have bx:(ρ 2001).bh < w.heap.size:=me gb
  have vd:SeqGives Fence.wide 2 Tryz.prog 231 #[.pointer (some ⟨(ρ 2001).bh,0,none⟩)] encStr (fun hd=>hd.Perm (strKeys ju)) (Maps.size ju) w:=
   AnyZ.keys_gives (ρ:=RK) {adx with} Fence.wide _ trivial rfl aw0 (ρ 2001).bh (ρ 1001).bh es.length ju w bx (oZ gb rfl) dC
  have J:=AnyZ.sorted_in RM Fence.wide 5 trivial trivial trivial trivial rfl aw0 (S1 _) (enters_of Tryz.func94 aw3 rfl) 231 #[.pointer (some ⟨(ρ 2001).bh,0,none⟩)] trivial (enters_of Tryz.func231 aw3 rfl) _ _ ay6 ay6 _ vd;refine(callsIn_wide.1 J).mono ?_;rintro e w' ⟨v,hd,rfl,au,ga,yn,gN⟩;have aZ:cj I w (fun b=>b < w'.heap.size/\(I b\/w.heap.size<=b)) w':=fun b fW=>⟨⟨Nat.lt_of_lt_of_le (a2 b fW) gN.size,.inl fW⟩,gN.block b (a2 b fW)⟩
  refine⟨v,ρ,F,rfl,cP.oR gN,fun _ _=>rfl,_,aZ,fun b h=>⟨h.1,h.2.imp id .inr⟩,fun c ch J=>Holds.ck aZ (fun b O=>gN.block b (bd c ch J b O).1) gN.size ch (fun _ _=>rfl) (c0 c ch J),fun c ch J b O=>?_,fun c b7 ch ch' b E G=>eG c b7 ch ch' b E G,?_⟩
  .have:=bd c ch J b O;exact⟨Nat.lt_of_lt_of_le this.1 gN.size,fun h=>(by rcases h.2 with h |h;exact this.2 h;omega),.inl ⟨c,ch,J,O⟩⟩
  .have Z:hd.mergeSort (fun x y=>decide (x<=y))=nE es:=Go.mergeSort_of_perm (au.trans pi);rw[Z] at ga;have hB:=fF.sm ga;have ve:hd.length=(nE es).length:=by rw[<-Z,List.length_mergeSort]
   rw[ve] at hB;exact(hB.zs fun i _ aG=>(ga.lt i aG).1).S0 fun b E G=>⟨E,.inr G⟩
theorem AJ (L:List aM):mt (c9 L)=L.map (·.nm):=by
 unfold mt c9;rw[at8];rfl
def lw (L:List aM):List aA0:=nE (c9 L)
theorem afV {L:List aM} {n:aA0} (h:n∈lw L): ∃d,dk L n=some d:=by
 unfold lw nE at h;rw[List.mem_mergeSort,AJ] at h;obtain⟨d,H,e⟩:=as5.1 h
 cases ao:dk L n with
 |some d=>exact⟨d,rfl⟩
 |none=>
  unfold dk at ao;have:=List.find?_eq_none.1 ao d H;simp[e] at this
theorem S2 (L:List aM):(lw L).length=L.length:=by
 unfold lw nE;rw[List.length_mergeSort,AJ,ar7]
theorem S3 (z R:Int) (L:List aM) (e5:h8 L) (ap: ∀d,d∈L->d.nm.length<=100000) (ot:L.length<=100):Fn Tryz.prog 166 [ah 1001] (bS z R L) [] (bv .str (lw L)) (bS z R L):=by
 have Z:(mt (c9 L)).Nodup:=by rw[AJ];exact e5.iA
 have aw: ∀s∈mt (c9 L),s.length<=maxLen:=fun s ax=>by
  rw[AJ] at ax;obtain⟨d,H,rfl⟩:=as5.1 ax;exact au4 (ap d H) aw1
 have ax:(c9 L).length<=4294967296:=by unfold c9;rw[ar7];omega
 refine aT [] Tryz.func166 ?_;exact ak (Fn.aV [(1001,1002),(2001,5001)] (afT (c9 L))) <| ak (Fn.aV [(1001,1002),(2001,5001)] (afU (c9 L) Z aw ax)) bc
def l0 (L:List aM) (nm n:aA0):Bool:= !decide (nm=[])&&decide (((dk L n).map (·.back)).getD []=nm)
def pj (L:List aM) (nm:aA0):List aA0:=(lw L).filter (l0 L nm)
abbrev LU (nm:aA0) (l:List aA0) (j:Nat):aX:=[(0,ah 1001),(1,bQ nm),(5,eX 5002),(9,bv .str l),(10,ac (l.length:Nat)),(11,ac (j:Nat))]
abbrev afW (nm:aA0) (l:List aA0) (j:Nat):aX:=[(0,ah 1001),(1,bQ nm),(5,eX 33),(9,bv .str l),(10,ac (l.length:Nat)),(11,ac (j:Nat))]
abbrev LV (z R:Int) (L:List aM) (x:List aA0):ay:=bS z R L++[(5002,.row 9 .str x)]
abbrev afX (z R:Int) (L:List aM) (x:List aA0):ay:=bS z R L++[(33,.row 9 .str x)]
theorem afY (z R:Int) (L:List aM) (e5:h8 L) (ap: ∀d,d∈L->d.nm.length<=100000) (ot:L.length<=100) (nm:aA0):Fn Tryz.prog 115 [ah 1001,bQ nm] (bS z R L) [] (bv .str (pj L nm)) (bS z R L):=by
 obtain⟨ph,gk,gl⟩:=ki GN;have h4:=@afV L;have bZ:=S2 L;have Ap:=S3 z R L e5 ap ot;unfold pj;generalize lw L=l at*;refine aT [5,6,8] Tryz.func115 ?_;refine ak Ap <| dG [5,6,8] (X:=Nat) (LU nm l) (fun j=>LV z R L ((l.take j).filter (l0 L nm))) (fun j=>j<=l.length) (fun j=>l.length - j) 0 (aq9 _) ?_ ?_
 .exact(ab.nil 5 5002 9 .str rfl rfl).trans (ab.sub az az)
 intro j V;refine⟨fun h=>?_,fun h=>?_⟩
 .have h:decide ((j:Int) < (l.length:Nat))=true:=h;have fB:j < l.length:=aw9
  obtain⟨d,H⟩:=h4 (as3 fB);have lZ:=e5.D (cU H).1;have hx:(bY (aH:=.str) (aJ:=.aL) (c9 L) l[j]).getD (cL .aL)=some d.ad:=by rw[j6,H];rfl
  have a8:l0 L nm l[j]=(!decide (nm=[])&&decide (d.back=nm)):=by unfold l0;rw[H];rfl
  have yl:(l.take (j+1)).filter (l0 L nm)=(l.take j).filter (l0 L nm)++(if l0 L nm l[j]=true then[l[j]] else[]):=by
   rw[at7 fB,List.filter_append]
   congr 1
   by_cases e:l0 L nm l[j]=true
   .rw[if_pos e,List.filter_cons_of_pos e];rfl
   .rw[if_neg e,List.filter_cons_of_neg e];rfl
  have LW:((l.take j).filter (l0 L nm)).length<=j:=au4 (List.length_filter_le _ _) ax7;have m3:(0:Int)<=(j:Int):=aw8
  have rU:c3 ((j:Int)+1):=aw8
  have dZ:l0 L nm l[j]=false->(l.take (j+1)).filter (l0 L nm)=(l.take j).filter (l0 L nm):=fun e=>by rw[yl,if_neg (by rw[e];decide),au0]
  refine⟨m3,l[j],iR (n:=j) fB,?_⟩;generalize l[j]=n at*;refine br [6,8] (cw ((7,bQ n)::LU nm l j) (LV z R L ((l.take j).filter (l0 L nm)))) ⟨fun E=>?_,fun E=>?_⟩
  .have E: ¬nm=[]:=by
    have E:(!decide (nm=[]))=true:=E;simpa using E
   refine⟨_,_,fun N=>i' (b:=d.ad) rfl ay7 N,rfl,?_⟩;refine⟨_,_,fun N=>jr rfl Tryz.underlying122 rfl rfl gk ax2 rfl N,rfl,?_⟩;refine⟨_,_,fun N=>ln (q:=1003) rfl Tryz.underlying9 rfl rfl rfl lZ rfl N,rfl,?_⟩;refine⟨fun G=>?_,fun G=>?_⟩
   .have G:d.back=nm:=gd G;have Fj:l0 L nm n=true:=by rw[a8,at3 E,ar6 G];rfl
    rw[if_pos Fj] at yl;have LS:((l.take j).filter (l0 L nm)).length+1<=4294967296:=aw8
    exact br [] (cw ((7,bQ n)::LU nm l j) (LV z R L ((l.take j).filter (l0 L nm)))) ⟨LS,rfl,rU,j+1,fB,aw0,ab.trans (ab.sub (K':=afW nm l (j+1)) (B':=afX z R L ((l.take (j+1)).filter (l0 L nm))) az ⟨rfl,rfl,rfl,rfl,congrArg (fun l:List aA0=>some (ba.row 9 .str l)) yl.symm,trivial⟩) (ab.aV 33 5002 rfl)⟩
   .have G: ¬d.back=nm:=mu G;have Z:=dZ (by rw[a8,at3 G,Bool.and_false]);exact⟨rU,j+1,fB,aw0,ab.sub az ⟨rfl,rfl,rfl,rfl,congrArg (fun l:List aA0=>some (ba.row 9 .str l)) Z.symm,trivial⟩⟩
  .have E:nm=[]:=by
    have E:(!decide (nm=[]))=false:=E;simpa using E
   have Z:=dZ (by rw[a8,ar6 E];rfl);exact⟨rU,j+1,fB,aw0,ab.sub az ⟨rfl,rfl,rfl,rfl,congrArg (fun l:List aA0=>some (ba.row 9 .str l)) Z.symm,trivial⟩⟩
 .have h:decide ((j:Int) < (l.length:Nat))=false:=h;have fB:j=l.length:=az3
  subst fB;have cn:(l.take l.length).filter (l0 L nm)=l.filter (l0 L nm):=by rw[as2]
  exact br [] (bq) ⟨_,_,_,ab.d3 5002 rfl,rfl,cn,az,rfl⟩
def p4:List aM->aA0->List aM
 | [],_=>[]
 |d::L,nm=>if d.nm=nm then L else d::p4 L nm
theorem p5 (d:aM) (L:List aM) (nm:aA0):dk (d::L) nm=if d.nm=nm then some d else dk L nm:=by
 unfold dk;rw[List.find?_cons]
 by_cases e:d.nm=nm
 .rw[ar6 e,if_pos e]
 .rw[at3 e,if_neg e]
theorem wJ {L:List aM} {nm:aA0} {d:aM} (h:d∈p4 L nm):d∈L:=by
 induction L with
 |nil=>exact h
 |cons e L bu=>
  unfold p4 at h
  split at h
  .exact aq6 _ h
  .rcases aq7.1 h with rfl |h
   .exact ar4 ..
   .exact aq6 _ (bu h)
theorem GU (L:List aM) (nm:aA0):(p4 L nm).Sublist L:=by
 induction L with
 |nil=>exact .slnil
 |cons e L bu=>
  unfold p4
  split
  .exact List.sublist_cons_self ..
  .exact bu.cons_cons _
theorem h8.lU {L:List aM} (h:h8 L) (nm:aA0):h8 (p4 L nm):=
 ⟨h.iA.sublist ((GU L nm).map _),h.lv.sublist ((GU L nm).map _),h.wH.sublist ((GU L nm).map _)⟩
end
section
theorem afZ:(Tryz.prog.info? 5).map (fun i=>(i.zero,i.size,i.bytes))=some (some (.int .u8 0),1,1):=by kernel_rfl
theorem af0 (v:Value) (l:aA0) (D:Nat->Prop) (w:World) (aA:mf D w v l) (ax:l.length<=4294967296):
  Calls Tryz.prog 169 #[v] w fun e w'=> ∃da,e= .returned da/\mf (fun i=>w.heap.size<=i) w' da l/\Below w.heap.size w w':=by
 obtain⟨A,c,rfl,dX,ei⟩:=aA.form;have S4:=Lib.hid aA;clear aA;generalize hn:l.length=n at*;have S5:=Lib.hid hn;clear hn;rcases A with _ |ad
 .have yn:=Lib.run_eql_slice_nil (P:=Tryz.prog)
  have av:l=[]:=by
   obtain⟨ap,A',b7,U,_,_,al⟩:=S4.out;rcases Nat.eq_zero_or_pos l.length with h |h
   .exact List.eq_nil_of_length_eq_zero h
   .obtain⟨b,o,ha,_⟩:=al h;subst ha;cases U
  have af1:=Lib.hid av;clear av
  go_enter Tryz.func169,Tryz.ntmps169
  go_wp2_with fail
  go_ret
  refine⟨_,rfl,?_,Below.refl _ _⟩;rw[af1.out];exact fF.nil _ _ _
 .have yn:=Lib.run_eql_slice_nil (P:=Tryz.prog)
  go_enter Tryz.func169,Tryz.ntmps169
  clear ei dX
  go_wp2_with (at_builtin;refine Pa _ rfl (.tmp 5) (.tmp 6) _ rfl w.heap.size 5 _ 1 1 Tryz.underlying31 afZ rfl aw0 (.slice (some ⟨w.heap.size,0,none⟩) 0 0) 0 [] rfl ?cJ D (.slice (some ad) n c) n (l.map ij) rfl ?cG (Pb l) ?hP ?t2 ?Dh ?_)
  case cJ=>exact⟨aw2,.inr ⟨w.heap.size,0,#[],rfl,aq4 _,heap_alloc_new w _,aq4 _,aw1,rfl,rfl⟩⟩
  case cG=>
   have h:=S4.out;unfold mf at h;rw[S5.out] at h;exact h.mono (ri.oR ((Below.refl _ _).alloc (aq4 _) _)) aw2 (fun _ _ h=>h)
  case hP=>simp only[maxLen];omega
  case t2=>omega
  case Dh=>simp
  intro da d0 dC rY jL
  go_wp2
  go_ret
  refine⟨da,rfl,?_,?_⟩
  .unfold mf;rw[S5.out];have h:=fF.sm dC;exact h.zs fun i _ aG=>(dC.lt i aG).1
  .exact((Below.refl _ _).alloc (aq4 _) _).grown rY aw2 (fun k Z=>by simp[Value.ownBlock] at Z;omega)
end
section
def qM (c:UInt8):Bool:=(97<=c.toNat&&c.toNat<=122)||(48<=c.toNat&&c.toNat<=57)||c.toNat == 46||c.toNat == 45
def yo (s:ByteArray):Bool:=decide (1<=s.size)&&decide (s.size<=15)&&s.data.toList.all qM
theorem af2 (s:ByteArray) (pos:Nat) (h:pos < s.size) (ha: ¬(s[pos]'h).toNat < 128):128<=(Utf8.decode s pos).1/\(Utf8.decode s pos).1<=1114111:=by
 have e:s.get! (pos+0)=s[pos]'h:=by
  show s.get! pos=_;simp[ByteArray.get!,getElem!_pos,h];rfl
 have O:(s[pos]'h).toNat < 256:=(s[pos]'h).toNat_lt;unfold Utf8.decode;simp only[e];rw[if_neg aw0]
 split
 .split <;>simp[Utf8.runeError] <;>omega
 .split
  .split
   .rename_i G;simp[Utf8.valid] at G;simp only;omega
   .simp[Utf8.runeError]
  .split
   .split
    .rename_i G;simp[Utf8.valid] at G;simp only;omega
    .simp[Utf8.runeError]
   .simp[Utf8.runeError]
theorem af3 {P:Program} (w:World) (s:ByteArray) (pos:Nat) (ty:TypeId) (h:pos < s.size):
  (Instr.next (.pointer (some ⟨w.heap.size,0,none⟩)) true ty).run P (w.iter s pos)=
   .ok (.tuple #[.bool true,.int .i64 pos,.int .i32 (Utf8.decode s pos).1]) (w.iter s (pos+(Utf8.decode s pos).2)):=by
 simp only[Instr.next,getObj,setObj,Sem.run_bind,Sem.run,World.iter_heap,Result.andThen,h,if_true];simp[goInt,World.iter_set]
theorem S6 {s:ByteArray} {j:Nat} (V:j < s.size) (h:qM (s[j]'V)=false):yo s=false:=by
 unfold yo
 have:s.data.toList.all qM=false:=by
  rw[List.all_eq_false];exact⟨s[j]'V,as3 ay0,by simp[h]⟩
 rw[this,Bool.and_false]
def LX (B:Nat) (w:World):Nat:=match w.heap[B]? with |some (.stringIter _ p)=>p |_=>0
theorem S7 (w:World) (s:ByteArray) (k:Nat):LX w.heap.size (w.iter s k)=k:=by simp[LX,World.iter_heap]
theorem LY (w:World) (s:ByteArray) (k:Nat):Below w.heap.size w (w.iter s k):=(Below.refl _ _).alloc (aq4 _) _
theorem af4 {s:ByteArray} {k:Nat} (h: ∀j (V:j < s.size),j < k->qM (s[j]'V)=true) (Z:k < s.size) (E:qM (s[k]'Z)=true): ∀j (V:j < s.size),j < k+1->qM (s[j]'V)=true:=by
 intro j V bx
 by_cases e:j=k
 .subst e;exact E
 .exact h j V aw0
theorem af5 {s:ByteArray} (h: ∀j (V:j < s.size),qM (s[j]'V)=true):yo s=(decide (1<=s.size)&&decide (s.size<=15)):=by
 unfold yo
 have:s.data.toList.all qM=true:=by
  rw[as9];intro x hx;obtain⟨j,V,rfl⟩:=List.getElem_of_mem hx;exact h j ay0
 rw[this,Bool.and_true]
theorem af6 (s:ByteArray) (w:World) (ax:s.size<=maxLen):
  Calls Tryz.prog 58 #[.string s] w fun e w'=>e= .returned (.bool (yo s))/\Below w.heap.size w w':=by
 unfold maxLen at ax
 go_enter Tryz.func58,Tryz.ntmps58
 go_wp2
 go_loopw [4,7,8,9,10,11,12,13,14,15,16,17,18,19,20,21,22,23,24,25,26,27,28,29,30,31] (fun _ _ _ _ _ _ _ _ _ _ _ _ _ _ _ _ _ _ _ _ _ _ _ _ _ _ wr=> ∃k:Nat,k<=s.size/\wr=w.iter s k/\ ∀j (V:j < s.size),j < k->qM (s[j]'V)=true) (fun _ _ _ _ _ _ _ _ _ _ _ _ _ _ _ _ _ _ _ _ _ _ _ _ _ _ wr=>s.size - LX w.heap.size wr)
 case atStart=>exact⟨0,aq9 _,rfl,fun _ _ h=>absurd h aw0⟩
 case round=>
  obtain⟨k,Z,rfl,ez⟩:=hrel;have LZ:=Lib.hid ez;clear ez
  by_cases bx:k < s.size
  .by_cases ha:(s[k]'bx).toNat < 128
   .have hn:=fun ty=>run_next_ascii (P:=Tryz.prog) w s k ty bx ha
    go_wp2
    all_goals first
     |(
      refine⟨⟨k+1,bx,rfl,af4 LZ.out bx ?_⟩,?_⟩
      .clear hn;simp_all [qM];omega
      .rw[S7,S7];omega)
     |(
      go_ret
      refine⟨?_,LY _ _ _⟩;rw[S6 bx (by clear hn;simp_all [qM];omega)];rfl)
   .obtain⟨hM,jj⟩:=af2 s k bx ha;have hn:=fun ty=>af3 (P:=Tryz.prog) w s k ty bx
    generalize Utf8.decode s k=d at*;have b1:(((d.1:Nat):Int) != 46)=true:=by rw[bne_iff_ne];omega
    have b2:(((d.1:Nat):Int) != 45)=true:=by rw[bne_iff_ne];omega
    go_wp2
    go_ret
    exact⟨by rw[S6 bx (by clear hn;simp[qM];omega)];rfl,LY _ _ _⟩
  .have hn:=fun ty=>run_next_end (P:=Tryz.prog) w s k ty bx
   have fc:k=s.size:=aw8
   have aC:yo s=(decide (1<=s.size)&&decide (s.size<=15)):=af5 fun j V=>LZ.out j V aw0
   clear fc LZ;have af7:=Lib.hid aC;clear aC
   go_wp2
   all_goals
    go_ret
    refine⟨?_,LY _ _ _⟩;rw[af7.out];refine congrArg (fun b=>Ending.returned (.bool b)) ?_;rw[Bool.eq_iff_iff];simp;omega
end
section
theorem Fn.pure {P:Program} {f:FuncId} {args:List aO} {res:aO} (f3:jz P f=true)
  (h: ∀(ρ:Nat->bo) (I:Nat->Prop) (w:World) (bW:List Value),(∀b,I b->b < w.heap.size)->bW.length=args.length->(∀(i:Nat) (v:aO) (x:Value),args[i]? =some v->bW[i]? =some x->cx ρ I w v x)->
   Calls P f bW.toArray w fun e w'=> ∃x,e= .returned x/\Below w.heap.size w w'/\ ∀I':Nat->Prop,cj I w I' w'->(∀b,w.heap.size<=b->b < w'.heap.size->I' b)->cx ρ I' w' res x):Fn P f args [] [] res []:=by
 refine⟨f3,?_⟩;intro ρ F I w bW a2 _ _ _ bZ dx;refine(h ρ I w bW a2 bZ dx).mono ?_;rintro e w' ⟨x,rfl,O,hx⟩;have aZ:cj I w (fun b=>b < w'.heap.size/\(I b\/w.heap.size<=b)) w':=fun b fW=>⟨⟨Nat.lt_of_lt_of_le (a2 b fW) O.size,.inl fW⟩,O.block b (a2 b fW)⟩
 exact⟨x,ρ,F,rfl,cP.oR O,fun _ _=>rfl,_,aZ,fun b h=>⟨h.1,h.2.imp id .inr⟩,fun c ch J=>(by simp[aj] at J),fun c ch J=>(by simp[aj] at J),fun c b7 ch ch' b J=>(by simp[aj] at J),hx _ aZ fun b E G=>⟨G,.inr E⟩⟩
theorem S8 {P:Program} {f:FuncId} {s:aO} {res:aO} (f3:jz P f=true)
  (h: ∀(ρ:Nat->bo) (I:Nat->Prop) (w:World) (v:Value),(∀b,I b->b < w.heap.size)->cx ρ I w s v->
   Calls P f #[v] w fun e w'=> ∃x,e= .returned x/\Below w.heap.size w w'/\ ∀I':Nat->Prop,cj I w I' w'->(∀b,w.heap.size<=b->b < w'.heap.size->I' b)->cx ρ I' w' res x):Fn P f [s] [] [] res []:=
 Fn.pure f3 fun ρ I w bW a2 ap H=>by
  match bW,ap with
  | [v],_=>exact h ρ I w v a2 (H 0 s v rfl rfl)
theorem cq.bytes {I:Nat->Prop} {w:World} {v:Value} {l:aA0} (a2: ∀b,I b->b < w.heap.size) (h:cq I w (.b4 .u8) l (fun _=>some v)):mf I w v l:=by
 obtain⟨A,cap,av,E,G,al⟩:=h;injection av with av
 refine⟨aw2,A,cap,av,E,G,fun ae=>?_⟩;obtain⟨b,o,d5,O,hx⟩:=al ae;refine⟨b,o,d5,O,a2 b O,fun j u a8=>?_⟩;rw[as6] at a8;obtain⟨x,B2,rfl⟩:=at6.1 a8;have:=hx j x B2;simpa[cq,aS,ij] using this
theorem mf.af8 {I D:Nat->Prop} {w:World} {v:Value} {l:aA0} (h:mf D w v l) (cp: ∀b,b < w.heap.size->D b->I b):cq I w (.b4 .u8) l (fun _=>some v):=by
 obtain⟨_,A,cap,av,E,G,al⟩:=h;refine⟨A,cap,congrArg some av,E,G,fun ae=>?_⟩;obtain⟨b,o,d5,O,bx,hx⟩:=al ae;refine⟨b,o,d5,cp b bx O,fun i x aG=>?_⟩;have:=hx i (ij x) (by rw[as6,show l[i]? =some x from aG];rfl);simpa[cq,aS,ij] using this
def g4 (s:aA0):Bool:=decide (1<=s.length)&&decide (s.length<=15)&&s.all qM
theorem qN (s:aA0) (ax:s.length<=4294967296):Fn Tryz.prog 58 [bQ s] [] [] (fk (g4 s)) []:=
 S8 aw3 fun ρ I w v a2 aA=>by
  rw[show v= .string ⟨s.toArray⟩ from aA];refine(af6 ⟨s.toArray⟩ w (by simp only[ByteArray.size,maxLen,List.size_toArray];omega)).mono ?_;rintro e w' ⟨rfl,O⟩;exact⟨_,rfl,O,fun I' _ _=>show Value.bool _=Value.bool _ by simp[yo,g4,ByteArray.size]⟩
theorem L0 (l:aA0) (ax:l.length<=4294967296):Fn Tryz.prog 169 [bv .u8 l] [] [] (bv .u8 l) []:=
 S8 aw3 fun ρ I w v a2 aA=>by
  refine(af0 v l I w (cq.bytes a2 aA) ax).mono ?_;rintro e w' ⟨x,rfl,hx,O⟩;exact⟨x,rfl,O,fun I' _ hn=>hx.af8 fun b E G=>hn b G E⟩
end
section
theorem fo.AK {I:Nat->Prop} {w:World} {L L':List (Nat×bg)} (h:L.Perm L'): ∀{F:Nat->Prop},fo I w L F->fo I w L' F:=by
 induction h with
 |nil=>exact fun h=>h
 |cons x h bu=>
  rintro F ⟨cz,cN,p,E,G,al,aW,bG⟩;exact⟨cz,cN,p,E,G,al,aW,bu bG⟩
 |swap x y l=>
  rintro F ⟨cz,cN,p,E,G,al,aW,o7,qz,r,g1,g2,c2,jC,Cv⟩;refine⟨o7,fun aB=>cz aB\/qz aB,r,fun aB=>by rw[E,g1];exact KY,fun aB aR aD=>?_,c2,jC,cz,qz,p,fun aB=>Iff.rfl,fun aB aR aD=>G aB aR ((g1 aB).2 (.inr aD)),al,aW,Cv⟩;rcases aD with aD |aD
  .exact G aB aD ((g1 aB).2 (.inl aR))
  .exact g2 aB aR aD
 |trans _ _ oT oU=>exact fun h=>oU (oT h)
theorem ab.AK {ids:aA1} {K:aX} {B:ay} (q:Nat) {L L':List (Nat×bg)} (ae:L.Perm L') (aP:aj B q=some (.aF (.bw L))):ab ids K B K ((q,.aF (.bw L'))::B):=by
 rintro N C a w ⟨hn,H,ρ,F,ar,au⟩;obtain⟨bP,aZ⟩:=ar.h0 (w':=w) (ch:=.aF (.bw L')) aP (cP.refl _ _) fun I a2=>((ar.holds q _ aP:fo _ w L (F q)).AK ae).ck a2 (aq4 _) fun _ _=>rfl
 exact⟨hn,H,ρ,F,bP,au.mono aZ fun _ _ _=>rfl⟩
theorem af9 {s:bL}:(ja s).pb:=by
 rintro I F w p ⟨ρ,b9,E,G,al,aW⟩;obtain⟨bd,_⟩:=G 1001 _ rfl;exact(aW _).2 ⟨1001,_,rfl,(bd _).2 (by rw[E])⟩
def L1 (L:List aM):Prop:= ∀d,d∈L->d.cS=none
theorem af' {d:aM} (h:d.cS=none):kF d=ja d.im:=by unfold kF;rw[h]
theorem aga (L:List aM) (cH:L1 L): ∀p∈iq L,p.2.pb:=fun p ae=>by
 obtain⟨d,H,rfl⟩:=as5.1 ae;show(kF d).pb;rw[af' (cH d H)];exact af9
theorem agb (L:List aM): ∀p∈ms L,p.2.pb:=fun p ae=>by
 obtain⟨d,_,rfl⟩:=as5.1 ae;exact fun I F w p h=>(h.1 _).2 rfl
theorem Di (z size R:Nat) (E:z<=3) (G:size<=256) (al:R<=512):Fn Tryz.prog 57 [ac (z:Int),ac (size:Int),ac (R:Int)] [] [1001] (.cb [.one (.ptr 1001 0),dp 0]) [(1001,.aF (ja (hI z size R)))]:=by
 refine aT [3] Tryz.func57 ?_;refine ak (Fn.aV [(1001,1002),(1002,2002)] (Ln size G)) <| ak (Fn.aV [(1001,1003),(1002,2003)] (Gv (R:Int) aw0 aw0)) <| br [] (cw [(0,ac (z:Int)),(8,ah 1002),(9,ac 0),(10,ah 1003),(11,ac 0)] [(1002,.aF (rN (List.replicate size cy))),(1003,.aF (rO (List.replicate R (0:Int))))]) <| cX <| cX ⟨fun h=>?_,fun h=>?_⟩
 .exfalso;have h:(z:Int) < 0:=gd h;omega
 refine⟨fun h=>?_,fun h=>?_⟩
 .exfalso;have h:(3:Int) < (z:Int):=gd h;omega
 exact⟨rfl,rfl,_,_,_,ab.trans (ab.trans (ab.aV 41 1001 rfl) (ab.trans (ab.aV 39 1004 rfl) (ab.RB 1004 rfl))) (ab.close 1001 (dB (hI z size R)) az rfl fun _ _ _ _ h=>h),rfl,az,az,rfl⟩
abbrev AL (nm:aA0) (x:aa .aL):aa .str×aa .aL:=((nm:aa .str),x)
theorem S9 (nm:aA0) (x:aa .aL): ∀L:List aM,dk L nm=none->dw (aH:=.str) (aJ:=.aL) (c9 L) (nm:aa .str) x=(c9 L++[AL nm x]:List (aa .str×aa .aL))
 | [],_=>rfl
 |d::L,h=>by
  rw[p5] at h
  by_cases e:d.nm=nm
  .rw[if_pos e] at h;cases h
  .rw[if_neg e] at h;have bu:=S9 nm x L h;show dw (aH:=.str) (aJ:=.aL) (lY d::c9 L) (nm:aa .str) x=_;rw[show dw (aH:=.str) (aJ:=.aL) (lY d::c9 L) (nm:aa .str) x=(match fN .str (nm:aa .str) (lY d).1 with |true=>AL nm x::c9 L |false=>lY d::dw (aH:=.str) (aJ:=.aL) (c9 L) (nm:aa .str) x:List (aa .str×aa .aL)) from rfl];rw[show fN .str (nm:aa .str) (lY d).1=false from rG (aH:=.str) qB (fun h=>e h.symm)];simp only;rw[bu];rfl
abbrev nF (L:List aM) (nm back:aA0) (ad am:Nat) (im:bL):List aM:=L++[⟨nm,back,ad,am,im,none⟩]
theorem h8.add {L:List aM} (h:h8 L) {nm back:aA0} {ad am:Nat} {im:bL} (av:dk L nm=none) (ha:ad∉L.map (·.ad)) (aw:am∉L.map (·.am)):h8 (nF L nm back ad am im):=by
 have key: ∀{α:Type} (f:aM->α) (d:aM),(L.map f).Nodup->f d∉L.map f->((L++[d]).map f).Nodup:=fun f d E G=>by
  rw[at9];refine List.nodup_append.2 ⟨E,aw2,fun a ha b O e=>?_⟩;rw[ar8,av4,ar5] at O;exact G (by rw[<-O,<-e];exact ha)
 refine⟨key _ _ h.iA fun hx=>?_,key _ _ h.lv ha,key _ _ h.wH aw⟩;obtain⟨d,H,e⟩:=as5.1 hx;have:=List.find?_eq_none.1 av d H;exact this (by simpa using e)
abbrev Dj (nm back:aA0):aX:=[(0,ah 1001),(1,bQ nm),(3,bQ back),(9,ah 2001),(10,ac 0)]
abbrev Dk (z R:Int) (L:List aM) (im:bL):ay:=bS z R L++[(2001,.aF (ja im))]
theorem agc (L:List aM) (nm back:aA0) (ad am:Nat) (im:bL):c9 (nF L nm back ad am im)=(c9 L++[AL nm (some ad:Option Nat)]:List (aa .str×aa .aL)):=by
 induction L with
 |nil=>rfl
 |cons d L bu=>
  show lY d::c9 (nF L nm back ad am im)=lY d::(c9 L++[AL nm (some ad:Option Nat)]);rw[bu]
abbrev agd (L:List aM) (nm back:aA0) (am:Nat) (im:bL):List aM:=⟨nm,back,0,am,im,none⟩::L
theorem Ta {f:aM->Nat×bg} (L:List aM) (d:aM):(f d::L.map f).Perm ((L++[d]).map f):=by
 rw[at9];exact List.perm_append_comm (l₁:=[f d]) (l₂:=L.map f)
abbrev age (nm back:aA0) (am:Nat):aX:=[(0,ah 1001),(1,bQ nm),(3,bQ back),(9,c8 am)]
abbrev agf (z R:Int) (L:List aM) (am:Nat) (im:bL):ay:=[(1001,.cells (LJ z R)),(1002,.map .str .aL (c9 L)),(1003,.aF (.bw (ms L))),(1004,.aF (.bw ((am,ja im)::iq L)))]
theorem agh (z size R:Nat) (E:z<=3) (G:size<=256) (al:R<=512) (L:List aM) (e5:h8 L) (bl:L1 L) (nm back:aA0) (ap:nm.length<=4294967296) (aC:g4 nm=true) (av:dk L nm=none) (ot:L.length < 16) (k:Nat) (O:back=[]\/(dk L back).isSome=true/\eZ L back k/\k+1<=8):
  cA Tryz.prog 27 [ah 1001,bQ nm,ac (size:Int),bQ back] (bS z R L) [] (X:={p:Nat×Nat//h8 (nF L nm back p.1 p.2 (hI z size R))}) (fun _=>ac 0) (fun p=>bS z R (nF L nm back p.1.1 p.1.2 (hI z size R))):=by
 have hx:(bY (aH:=.str) (aJ:=.aL) (c9 L) nm).getD (cL .aL)=none:=az4
 have bZ:(c9 L).length=L.length:=ar7 ..;have iS:=AE z R L back
 have Tb:(decide (back=[])||(dk L back).isSome)=true:=by
  rcases O with O |⟨O,_⟩
  .rw[ar6 O];rfl
  .rw[O,Bool.or_true]
 rw[Tb] at iS;have mi:=Di z size R E G al;refine hQ [2,10] Tryz.func27 ?_;refine ak (Fn.aV [(1001,2001)] mi) ⟨rfl,br [10] (cw (Dj nm back) (Dk z R L (hI z size R))) <| ak (qN _ ap) ⟨fun af=>?_,fun af=>?_⟩⟩
 .rw[aC] at af;cases af
 refine⟨fun ao=>?_,fun ao=>?_⟩
 .exact absurd ao aw1
 refine⟨fun ea bm=>?_,fun bm=>?_⟩
 .exfalso;have:(bY (aH:=.str) (aJ:=.aL) (c9 L) nm).getD (cL .aL)=some ea:=bm;rw[hx] at this
  cases this
 refine⟨fun c6=>?_,fun c6=>?_⟩
 .exfalso;have c6:(16:Int)<=((c9 L).length:Int):=gd c6;omega
 refine ak iS ⟨fun f2=>absurd f2 aw1,fun _=>⟨fun h1=>?_,fun h1=>?_⟩⟩
 focus
  have h1: ¬back=[]:=by simpa using h1
  obtain⟨_,Z,m8⟩:=O.resolve_left h1;have gE:=AH z R L e5 back k Z aw0;have yp:=rX Z;generalize eO L k back=bs at gE yp;refine ak gE ?_;have m1: -9223372036854775808<=(bs.length:Int)+1/\(bs.length:Int)+1<=9223372036854775807:=aw8
  refine⟨m1,fun nG=>?_,fun _=>?_⟩
  .exfalso;have nG:(8:Int) < (bs.length:Int)+1:=gd nG;omega
 all_goals
  refine bk.eH (c5.name 9 2001 rfl rfl) fun am=>?_
  refine bk.le (K':=age nm back am) (B':=agf z R L am (hI z size R)) (ab.trans (ab.put 1004 2001 aw1 rfl rfl) (ab.sub az az)) <| bk.eH (c5.CC 1004 (L:=(am,ja (hI z size R))::iq L) (aga (agd L nm back am (hI z size R)) (fun d H=>(aq7.1 H).elim (fun e=>by rw[e]) (bl d))) rfl) fun dR=>bk.gz ee aw3 ⟨rfl,_,adb (c:=1002) (d:=72) (q:=1003) (aH:=.str) (l:=GM am back) (h:=fun _=>rfl) rfl Tryz.underlying115 (dk:=.string) aw3 rfl rfl rfl rfl rfl rfl rfl aw1 aw1 aw1 (agb L),fun v e aA=>?_⟩
  obtain⟨ad,Gh,rfl,rfl⟩:=aA;have L2:ad∉L.map (·.ad):=fun h=>Gh (by unfold ms;rw[at8];exact h)
  have agi:am∉L.map (·.am):=fun h=>(at0.1 dR.down).1 (by show am∈(iq L).map (·.1);unfold iq;rw[at8];exact h)
  have pk:dw (aH:=.str) (aJ:=.aL) (c9 L) (nm:aa .str) (some ad:Option Nat)=c9 (nF L nm back ad am (hI z size R)):=(S9 nm _ L av).trans (agc L nm back ad am (hI z size R)).symm;exact⟨⟨(ad,am),e5.add av L2 agi⟩,_,_,_,ab.trans (ab.AK 1003 (Ta (f:=fun d=>(d.ad,t1 d.am d.back)) L ⟨nm,back,ad,am,hI z size R,none⟩) rfl) (ab.AK 1004 (Ta (f:=fun d=>(d.am,kF d)) L ⟨nm,back,ad,am,hI z size R,none⟩) rfl),rfl,rfl,⟨rfl,congrArg (fun e=>some (ba.map .str .aL e)) pk,rfl,rfl,trivial⟩,rfl⟩
theorem agj (z R:Int) (size:Int) (L:List aM) (nm back:aA0) (ap:nm.length<=4294967296) (h:(g4 nm&&h7 z size R)=false):Fn Tryz.prog 27 [ah 1001,bQ nm,ac size,bQ back] (bS z R L) [] (ac 1) (bS z R L):=by
 rcases Bool.eq_false_or_eq_true (h7 z size R) with G |G
 .have aC:g4 nm=false:=by rw[G,Bool.and_true] at h;exact h
  unfold h7 at G;simp only[vj,as1] at G;obtain⟨⟨⟨b0,ca⟩,a3,a4⟩,a5,gD⟩:=G;obtain⟨b,rfl⟩:=Int.eq_ofNat_of_zero_le a5;obtain⟨aB,rfl⟩:=Int.eq_ofNat_of_zero_le b0;obtain⟨r,rfl⟩:=Int.eq_ofNat_of_zero_le a3;have mi:=Di b aB r aw0 aw0 aw0;refine aT [2] Tryz.func27 ?_;refine ak (Fn.aV [(1001,2001)] mi) ⟨rfl,br [] (cw (Dj nm back) (Dk b r L (hI b aB r))) <| ak (qN _ ap) ⟨fun af=>?_,fun af=>?_⟩⟩
  .exact bc
  .rw[aC] at af;cases af
 .have mi:=SP z size R G;refine aT [2] Tryz.func27 ?_;refine ak mi ⟨rfl,br [] (cw [(0,ah 1001),(1,bQ nm),(3,bQ back),(10,ac 1)] (bS z R L)) <| ak (qN _ ap) ⟨fun af=>?_,fun af=>?_⟩⟩
  .exact bc
  refine⟨fun ao=>?_,fun ao=>?_⟩
  .exact bc
  .exact absurd ao aw1
theorem agk (z size R:Nat) (E:z<=3) (G:size<=256) (al:R<=512) (L:List aM) (nm back:aA0) (ap:nm.length<=4294967296) (aC:g4 nm=true) (av:(dk L nm).isSome=true\/16<=L.length):
  Fn Tryz.prog 27 [ah 1001,bQ nm,ac (size:Int),bQ back] (bS z R L) [] (ac 143) (bS z R L):=by
 have hx:(bY (aH:=.str) (aJ:=.aL) (c9 L) nm).getD (cL .aL)=((dk L nm).map (·.ad):Option Nat):=j6 nm L;have bZ:(c9 L).length=L.length:=ar7 ..;have mi:=Di z size R E G al;refine aT [2] Tryz.func27 ?_;refine ak (Fn.aV [(1001,2001)] mi) ⟨rfl,br [] (cw (Dj nm back) (Dk z R L (hI z size R))) <| ak (qN _ ap) ⟨fun af=>?_,fun af=>?_⟩⟩
 .rw[aC] at af;cases af
 refine⟨fun ao=>?_,fun ao=>?_⟩
 .exact absurd ao aw1
 refine⟨fun ea bm=>?_,fun bm=>?_⟩
 .exact bc
 refine⟨fun c6=>?_,fun c6=>?_⟩
 .exact bc
 .exfalso;have c6: ¬(16:Int)<=((c9 L).length:Int):=mu c6;have bm:(bY (aH:=.str) (aJ:=.aL) (c9 L) nm).getD (cL .aL)=none:=bm;rw[hx] at bm;rcases av with av |av
  .obtain⟨d,H⟩:=at5.1 av;rw[H] at bm
   cases bm
  .omega
theorem agl (z size R:Nat) (E:z<=3) (G:size<=256) (al:R<=512) (L:List aM) (nm back:aA0) (ap:nm.length<=4294967296) (aC:g4 nm=true) (av:dk L nm=none) (ot:L.length < 16) (O:(decide (back=[])||(dk L back).isSome)=false):
  Fn Tryz.prog 27 [ah 1001,bQ nm,ac (size:Int),bQ back] (bS z R L) [] (ac 140) (bS z R L):=by
 have hx:(bY (aH:=.str) (aJ:=.aL) (c9 L) nm).getD (cL .aL)=none:=az4
 have bZ:(c9 L).length=L.length:=ar7 ..;have iS:=AE z R L back;rw[O] at iS;have mi:=Di z size R E G al;refine aT [2] Tryz.func27 ?_;refine ak (Fn.aV [(1001,2001)] mi) ⟨rfl,br [] (cw (Dj nm back) (Dk z R L (hI z size R))) <| ak (qN _ ap) ⟨fun af=>?_,fun af=>?_⟩⟩
 .rw[aC] at af;cases af
 refine⟨fun ao=>?_,fun ao=>?_⟩
 .exact absurd ao aw1
 refine⟨fun ea bm=>?_,fun bm=>?_⟩
 .exfalso;have:(bY (aH:=.str) (aJ:=.aL) (c9 L) nm).getD (cL .aL)=some ea:=bm;rw[hx] at this
  cases this
 refine⟨fun c6=>?_,fun c6=>?_⟩
 .exfalso;have c6:(16:Int)<=((c9 L).length:Int):=gd c6;omega
 exact ak iS ⟨fun _=>bc,fun f2=>absurd f2 aw1⟩
theorem agm (z size R:Nat) (E:z<=3) (G:size<=256) (al:R<=512) (L:List aM) (e5:h8 L) (nm back:aA0) (ap:nm.length<=4294967296) (aC:g4 nm=true) (av:dk L nm=none) (ot:L.length < 16) (t6:back≠[]) (O:(dk L back).isSome=true) (k:Nat) (Z:eZ L back k) (hs:k<=1000000) (m8:8 < k+1):
  Fn Tryz.prog 27 [ah 1001,bQ nm,ac (size:Int),bQ back] (bS z R L) [] (ac 142) (bS z R L):=by
 have hx:(bY (aH:=.str) (aJ:=.aL) (c9 L) nm).getD (cL .aL)=none:=az4
 have bZ:(c9 L).length=L.length:=ar7 ..;have iS:=AE z R L back;rw[O,Bool.or_true] at iS;have mi:=Di z size R E G al;refine aT [2] Tryz.func27 ?_;refine ak (Fn.aV [(1001,2001)] mi) ⟨rfl,br [] (cw (Dj nm back) (Dk z R L (hI z size R))) <| ak (qN _ ap) ⟨fun af=>?_,fun af=>?_⟩⟩
 .rw[aC] at af;cases af
 refine⟨fun ao=>?_,fun ao=>?_⟩
 .exact absurd ao aw1
 refine⟨fun ea bm=>?_,fun bm=>?_⟩
 .exfalso;have:(bY (aH:=.str) (aJ:=.aL) (c9 L) nm).getD (cL .aL)=some ea:=bm;rw[hx] at this
  cases this
 refine⟨fun c6=>?_,fun c6=>?_⟩
 .exfalso;have c6:(16:Int)<=((c9 L).length:Int):=gd c6;omega
 refine ak iS ⟨fun f2=>absurd f2 aw1,fun _=>⟨fun h1=>?_,fun h1=>absurd (by simpa using h1) t6⟩⟩;have gE:=AH z R L e5 back k Z hs;have yp:=rX Z;generalize eO L k back=bs at gE yp;refine ak gE ?_;have m1: -9223372036854775808<=(bs.length:Int)+1/\(bs.length:Int)+1<=9223372036854775807:=aw8
 refine⟨m1,fun _=>?_,fun nG=>?_⟩
 .exact bc
 .exfalso;have nG: ¬(8:Int) < (bs.length:Int)+1:=mu nG;omega
def yq (l:List aA0) (v:aA0):Int:=match l.idxOf? v with
 |some i=>(i:Nat)
 |none=> -1
theorem agn (l:List aA0) (v:aA0) (ap:l.length<=4294967296):Fn Tryz.prog 118 [bv .str l,bQ v] [] [] (ac (yq l v)) []:=by
 refine aT [] Tryz.func118 ?_;refine dG [] (X:=Nat) (fun k=>[(0,bv .str l),(1,bQ v),(7,ac (l.length:Nat)),(8,ac (k:Nat))]) (fun _=>[]) (fun k=>k<=l.length/\ ∀(i:Nat),i < k->l[i]? ≠some v) (fun k=>l.length - k) 0 ⟨aq9 _,fun i h=>absurd h (av5 _)⟩ ?_ ?_
 .exact ab.sub az trivial
 intro k ⟨Z,ae⟩;refine⟨fun h=>?_,fun h=>?_⟩
 .have b':k < l.length:=by
   have h:decide ((k:Int) < (l.length:Int))=true:=h;simpa using h
  refine⟨aw0,l[k],iR (n:=k) b',fun G=>?_,fun G=>?_⟩
  .have G:v=l[k]:=gd G;refine⟨_,_,_,bq,rfl,(show((k:Nat):Int)=yq l v from ?_),trivial,rfl⟩
   have:l.idxOf? v=some k:=by
    rw[List.idxOf?_eq_some_iff];refine⟨b',by simp[G],fun j V=>?_⟩;have:=ae j V;rw[oj aw0] at this;simpa using this
   rw[yq,this]
  .have G: ¬v=l[k]:=mu G;have m1: -9223372036854775808<=(k:Int)+1/\(k:Int)+1<=9223372036854775807:=aw8
   have m2:k+1<=l.length:=aw8
   have m3:l.length - (k+1) < l.length - k:=aw8
   refine⟨m1,k+1,⟨m2,fun i aG=>?_⟩,m3,ab.sub az trivial⟩;rcases Nat.lt_or_ge i k with aW |aW
   .exact ae i aW
   .have:i=k:=aw8
    subst this;rw[oj b'];intro e;injection e with e
    exact G e.symm
 .have h:decide ((k:Int) < (l.length:Int))=false:=h;have fc:k=l.length:=az3
  refine⟨_,_,_,bq,rfl,(show(-1:Int)=yq l v from ?_),trivial,rfl⟩
  have:l.idxOf? v=none:=by
   rw[List.idxOf?_eq_none_iff];intro aw;obtain⟨i,aG,e⟩:=List.getElem_of_mem aw;have:=ae i aw0;rw[oj aG] at this;exact this (by rw[e])
  rw[yq,this]
theorem L3 (l:List aA0) (v:aA0) (ap:l.length<=4294967296):Fn Tryz.prog 74 [bv .str l,bQ v] [] [] (fk (l.contains v)) []:=by
 refine aT [] Tryz.func74 ?_;refine ak (agn l v ap) ⟨_,_,_,bq,rfl,(show decide (0<=yq l v)=l.contains v from ?_),trivial,rfl⟩;unfold yq
 cases h:l.idxOf? v with
 |none=>
  rw[List.idxOf?_eq_none_iff] at h;simp[h]
 |some i=>
  obtain⟨aG,e,_⟩:=List.idxOf?_eq_some_iff.1 h
  have:v∈l:=by
   have:=as3 aG
   rwa[show l[i]=v by simpa using e] at this
  simp[this]
theorem ago (z R:Int) (L:List aM) (nm back:aA0) (h:(dk L nm).isSome=false\/(decide (back=[])||(dk L back).isSome)=false):Fn Tryz.prog 303 [ah 1001,bQ nm,bQ back] (bS z R L) [] (ac 140) (bS z R L):=by
 have iS:=AE z R L back;refine aT [] Tryz.func303 ?_;refine⟨fun ea bm=>?_,fun bm=>?_⟩
 .obtain⟨d,H,_⟩:=afr bm;have O:(decide (back=[])||(dk L back).isSome)=false:=h.resolve_left (by rw[H];intro h;cases h);rw[O] at iS;exact ak iS ⟨fun _=>bc,fun f2=>absurd f2 aw1⟩
 .exact bc
theorem agp (z R:Int) (L:List aM) (e5:h8 L) (nm back:aA0) (d:aM) (H:dk L nm=some d) (Z:(decide (back=[])||(dk L back).isSome)=true) (k:Nat) (cp:eZ L back k) (hs:k<=1000000) (h:nm=back\/nm∈eO L k back):Fn Tryz.prog 303 [ah 1001,bQ nm,bQ back] (bS z R L) [] (ac 141) (bS z R L):=by
 have iS:=AE z R L back;rw[Z] at iS;have hx:(bY (aH:=.str) (aJ:=.aL) (c9 L) nm).getD (cL .aL)=some d.ad:=by rw[j6,H];rfl
 have gE:=AH z R L e5 back k cp hs;have yp:=rX cp;generalize eO L k back=bs at gE yp h;have j0:=L3 bs nm aw0;refine aT [] Tryz.func303 ?_;refine⟨fun ea bm=>ak iS ⟨fun f2=>absurd f2 aw1,fun _=>⟨fun h1=>?_,fun h1=>?_⟩⟩,fun O=>absurd (show(bY (aH:=.str) (aJ:=.aL) (c9 L) nm).getD (cL .aL)=none from O) ax8⟩
 .exact bc
 .have h1: ¬nm=back:=mu h1;have aw:bs.contains nm=true:=by simpa using h.resolve_left h1
  rw[aw] at j0;exact ak gE <| ak j0 ⟨fun _=>bc,fun f2=>absurd f2 aw1⟩
def gA (nm back:aA0) (d:aM):aM:=if d.nm=nm then {d with back:=back} else d
def ft (L:List aM) (nm back:aA0):List aM:=L.map (gA nm back)
theorem yr (nm back:aA0) (d:aM):(gA nm back d).nm=d.nm:=by unfold gA;split <;>rfl
theorem GV (nm back:aA0) (d:aM):(gA nm back d).ad=d.ad:=by unfold gA;split <;>rfl
theorem GW (nm back:aA0) (d:aM):(gA nm back d).am=d.am:=by unfold gA;split <;>rfl
theorem Tc (nm back:aA0) (d:aM):(gA nm back d).im=d.im:=by unfold gA;split <;>rfl
theorem Td (nm back:aA0) (d:aM):(gA nm back d).cS=d.cS:=by unfold gA;split <;>rfl
theorem agq (L:List aM) (nm back:aA0):c9 (ft L nm back)=c9 L:=by
 unfold c9 ft;rw[at8];refine as7 fun d _=>?_
 show lY (gA nm back d)=lY d;unfold lY;rw[yr,GV]
theorem agr (L:List aM) (nm back:aA0):iq (ft L nm back)=iq L:=by
 unfold iq ft;rw[at8];refine as7 fun d _=>?_
 show((gA nm back d).am,kF (gA nm back d))=_;unfold kF;rw[GW,Tc,Td]
theorem h8.ft {L:List aM} (h:h8 L) (nm back:aA0):h8 (ft L nm back):=by
 have key: ∀{α:Type} (f:aM->α),(∀d,f (gA nm back d)=f d)->(Go.Proofs.YtkfbeijmgggkmaaGreat.ft L nm back).map f=L.map f:=fun f hf=>by
  unfold Go.Proofs.YtkfbeijmgggkmaaGreat.ft;rw[at8];exact as7 fun d _=>hf d
 exact⟨by rw[key _ (yr nm back)];exact h.iA,by rw[key _ (GV nm back)];exact h.lv,by rw[key _ (GW nm back)];exact h.wH⟩
theorem L4 {L:List aM} {nm:aA0} (back:aA0) (h:nm∉L.map (·.nm)):ft L nm back=L:=by
 unfold ft;refine(as7 fun d H=>?_).trans (List.map_id' L);unfold gA;rw[if_neg fun e=>h (by rw[<-e];exact as0 H)]
theorem L5 {back:aA0} {nm:aA0}: ∀{L:List aM},(L.map (·.nm)).Nodup->(L.map (·.ad)).Nodup-> ∀{d:aM},dk L nm=some d->ff (ms L) d.ad (t1 d.am back)=ms (ft L nm back)
 | [],_,_,d,h=>by cases h
 |e::L,hn,ha,d,h=>by
  rw[ar8] at hn ha;obtain⟨cM,dK⟩:=at0.1 hn;obtain⟨b0,ca⟩:=at0.1 ha;rw[p5] at h;show ff ((e.ad,t1 e.am e.back)::ms L) d.ad (t1 d.am back)=ms (gA nm back e::ft L nm back);unfold ff
  by_cases c:e.nm=nm
  .rw[if_pos c] at h;injection h with h
   subst h;rw[if_pos rfl,L4 back (by rw[<-c];exact cM)];unfold gA;rw[if_pos c];rfl
  .rw[if_neg c] at h;have a6: ¬e.ad=d.ad:=fun x=>b0 (by rw[x];exact as0 (f:=fun d:aM=>d.ad) (cU h).1)
   rw[if_neg a6,L5 dK ca h];unfold gA;rw[if_neg c];rfl
theorem sU (nm back n:aA0): ∀L:List aM,dk (ft L nm back) n=(dk L n).map (gA nm back)
 | []=>rfl
 |d::L=>by
  show dk (gA nm back d::ft L nm back) n=_;rw[p5,p5,yr,sU nm back n L]
  split <;>rfl
theorem ags {L:List aM} (hn:(L.map (·.nm)).Nodup) {nm back:aA0} {d:aM} (h:dk L nm=some d):ft (ft L nm back) nm d.back=L:=by
 induction L with
 |nil=>cases h
 |cons e L bu=>
  rw[ar8] at hn;obtain⟨cM,dK⟩:=at0.1 hn;rw[p5] at h;show gA nm d.back (gA nm back e)::ft (ft L nm back) nm d.back=e::L
  by_cases c:e.nm=nm
  .rw[if_pos c] at h;injection h with h
   subst h;have cH:nm∉L.map (·.nm):=by rw[<-c];exact cM
   rw[L4 back cH,L4 _ cH]
   congr 1
   unfold gA;rw[if_pos c,if_pos c]
  .rw[if_neg c] at h;rw[bu dK h]
   congr 1
   unfold gA;rw[if_neg c,if_neg c]
abbrev agt (nm back rl:aA0) (ad:Nat):aX:=[(0,ah 1001),(1,bQ nm),(2,bQ back),(7,c8 ad),(8,bQ rl)]
abbrev agu (rl:aA0) (ad:Nat) (l:List aA0) (j:Nat):aX:=[(0,ah 1001),(7,c8 ad),(8,bQ rl),(46,bv .str l),(47,ac (l.length:Nat)),(48,ac (j:Nat))]
theorem Te {I:Nat->Prop} {w:World} {s:aA0} {aB:Value} (h:gP I w (.str s) aB):aB.cells=List.toArray [aB]/\aB.oneCell'=true:=by
 have h:aB= .string ⟨s.toArray⟩:=h;subst h;exact⟨rfl,rfl⟩
theorem agv (z R:Int) (L:List aM) (e5:h8 L) (ap: ∀d,d∈L->d.nm.length<=100000) (ot:L.length<=100) (nm back:aA0) (d:aM) (H:dk L nm=some d) (Z:(decide (back=[])||(dk L back).isSome)=true) (k:Nat) (cp:eZ L back k) (hs:k<=1000000) (h: ¬(nm=back\/nm∈eO L k back))
  (AM:aA0->Nat) (agw: ∀n∈lw L,eZ (ft L nm back) n (AM n)/\AM n<=1000000) (r:Int) (GX:List aM) (bz:(∀n∈lw L,AM n<=8)->r=0/\GX=ft L nm back) (fH:(∃n∈lw L,8 < AM n)->r=142/\GX=L):
  Fn Tryz.prog 303 [ah 1001,bQ nm,bQ back] (bS z R L) [] (ac r) (bS z R GX):=by
 obtain⟨ph,gk,gl⟩:=ki GN;have iS:=AE z R L back;rw[Z] at iS;have hx:(bY (aH:=.str) (aJ:=.aL) (c9 L) nm).getD (cL .aL)=some d.ad:=by rw[j6,H];rfl
 have gE:=AH z R L e5 back k cp hs;have yp:=rX cp;generalize eO L k back=bs at gE yp h;have j0:=L3 bs nm aw0
 have Cp:bs.contains nm=false:=by
  have:=fun e=>h (.inr e)
  simpa using this
 rw[Cp] at j0;have lZ:=e5.D (cU H).1;have Dl:=e5.ft nm back;have kX:dk (ft L nm back) nm=some (gA nm back d):=by rw[sU,H];rfl
 have Tf:=Dl.D (cU kX).1;rw[GV,GW,show(gA nm back d).back=back by unfold gA;rw[if_pos (cU H).2]] at Tf;have pk:=agq L nm back;have wK:=agr L nm back;have sV:ff (ms L) d.ad (t1 d.am back)=ms (ft L nm back):=L5 e5.iA e5.lv H
 have agx:ff (ms (ft L nm back)) d.ad (t1 d.am d.back)=ms L:=by
  have:=L5 (back:=d.back) Dl.iA Dl.lv kX;rw[GV,GW,ags e5.iA H] at this;exact this
 have Ap:=S3 z R (ft L nm back) Dl (fun x hx=>by
  obtain⟨y,aD,rfl⟩:=as5.1 hx;rw[yr];exact ap y aD) (by unfold ft;rw[ar7];exact ot)
 have mw:lw (ft L nm back)=lw L:=by unfold lw;rw[pk]
 rw[mw] at Ap;have bZ:=S2 L;generalize lw L=l at*;refine aT [6,8,12] Tryz.func303 ?_;refine⟨fun ea bm=>ak iS ⟨fun f2=>absurd f2 aw1,fun _=>⟨fun h1=>?_,fun h1=>?_⟩⟩,fun O=>absurd (show(bY (aH:=.str) (aJ:=.aL) (c9 L) nm).getD (cL .aL)=none from O) ax8⟩
 .exact absurd (.inl (gd h1)) h
 refine ak gE <| ak j0 ⟨fun f2=>absurd f2 aw1,fun _=>br [8,12] (bq) ⟨_,_,fun N=>i' (b:=d.ad) rfl ay7 N,rfl,?_⟩⟩;refine⟨_,_,fun N=>jr rfl Tryz.underlying122 rfl rfl gk ax2 rfl N,rfl,?_⟩;refine⟨_,_,fun N=>ln (q:=1003) rfl Tryz.underlying9 rfl rfl rfl lZ rfl N,rfl,?_⟩;refine⟨_,_,fun N=>i' (b:=d.ad) rfl ay7 N,rfl,?_⟩;refine⟨_,_,fun N=>jr rfl Tryz.underlying122 rfl rfl gk ax2 rfl N,rfl,?_⟩;refine⟨_,_,fun N=>Ak (q:=1003) (b:=d.ad) (j:=1) (y:=.str back) (l:=GM d.am d.back) (h':=fun _=>rfl) rfl gk gl rfl rfl rfl lZ (Nat.lt_succ_self 1) Te N,rfl,?_⟩;refine br [12] (ab.sub (K':=agt nm back d.back d.ad) (B':=bS z R (ft L nm back)) ⟨rfl,rfl,rfl,hx,rfl,trivial⟩ ⟨rfl,congrArg (fun e=>some (ba.map .str .aL e)) pk.symm,congrArg (fun e=>some (ba.aF (.bw e))) sV,congrArg (fun e=>some (ba.aF (.bw e))) wK.symm,trivial⟩) <| ak Ap ?_;refine dG [12] (X:=Nat) (agu d.back d.ad l) (fun _=>bS z R (ft L nm back)) (fun j=>j<=l.length/\ ∀n∈l.take j,AM n<=8) (fun j=>l.length - j) 0 ⟨aq9 _,fun n hn=>by rw[List.take_zero] at hn;cases hn⟩ ?_ ?_
 .exact ab.sub az az
 intro j ⟨V,L6⟩;refine⟨fun h=>?_,fun h=>?_⟩
 .have h:decide ((j:Int) < (l.length:Nat))=true:=h;have fB:j < l.length:=aw9
  have m3:(0:Int)<=(j:Int):=aw8
  have rU:c3 ((j:Int)+1):=aw8
  obtain⟨Tg,Le⟩:=agw _ (as3 fB);have h4:=as3 fB;have np:=at7 fB;have gU:=AH z R (ft L nm back) Dl _ _ Tg Le;have agy:=rX Tg;refine⟨m3,l[j],iR (n:=j) fB,?_⟩;generalize l[j]=n at*;generalize eO (ft L nm back) (AM n) n=ns at gU agy;refine ak gU ⟨fun nG=>?_,fun nG=>?_⟩
  .have nG:(8:Int) < (ns.length:Int):=gd nG;obtain⟨rfl,rfl⟩:=fH ⟨n,h4,aw0⟩;refine br [] (cw [(7,c8 d.ad),(8,bQ d.back)] (bS z R (ft GX nm back))) ⟨_,_,fun N=>i' (b:=d.ad) rfl rfl N,rfl,?_⟩;refine⟨_,_,fun N=>jr rfl Tryz.underlying122 rfl rfl gk ax2 rfl N,rfl,?_⟩;refine⟨_,_,fun N=>Ak (q:=1003) (b:=d.ad) (j:=1) (y:=.str d.back) (l:=GM d.am back) (h':=fun _=>rfl) rfl gk gl rfl rfl rfl Tf (Nat.lt_succ_self 1) Te N,rfl,?_⟩;exact sJ bq rfl rfl ⟨rfl,congrArg (fun e=>some (ba.map .str .aL e)) pk,congrArg (fun e=>some (ba.aF (.bw e))) agx,congrArg (fun e=>some (ba.aF (.bw e))) wK,trivial⟩ rfl
  .have nG: ¬(8:Int) < (ns.length:Int):=mu nG;refine⟨rU,j+1,⟨fB,fun n' u2=>?_⟩,aw0,ab.sub az az⟩;rw[np] at u2;rcases as4.1 u2 with u2 |u2
   .exact L6 n' u2
   .rw[ar5] at u2;subst u2;omega
 .have h:decide ((j:Int) < (l.length:Nat))=false:=h;have fB:j=l.length:=az3
  subst fB;rw[as2] at L6;obtain⟨rfl,rfl⟩:=bz L6;exact bc
end
end Go.Proofs.YtkfbeijmgggkmaaGreat
