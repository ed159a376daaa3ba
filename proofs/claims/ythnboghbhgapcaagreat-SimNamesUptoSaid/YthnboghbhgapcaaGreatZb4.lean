/-
A part of the proof of this claim: lemmas, with no condition beyond what each says.
-/
import Derived.Great.BuildSlice
import Derived.Laws.Small
import Derived.Maps.AppendAt
import Derived.Lib.Strings
import Derived.Test.YthnboghbhgapcaaGreatZb3
set_option linter.unusedVariables false
set_option linter.unusedSimpArgs false
set_option maxRecDepth 10000
set_option maxHeartbeats 4000000
namespace Go.Proofs.YthnboghbhgapcaaGreat
open Go.RowKit Go.Proofs
section
section
variable {ρ:Nat->bn} {I:Nat->Prop} {w:World}
theorem co.wf: ∀(u:bx) (x:aa u) (c:Nat->Option Value),co I w u x c->oy u x:=by
 intro u
 induction u with
 |bQ u v oz oA=>exact fun x c h=>⟨oz _ _ h.1,oA _ _ h.2⟩
 |arr n u br=>
  refine fun x c h=>⟨h.1,fun y aB=>?_⟩
  obtain⟨i,aH⟩:=List.getElem?_of_mem (α:=aa u) aB;exact br _ _ (h.2 i y aH)
 |_=>exact fun x c h=>trivial
theorem co.one (u:bx) (x:aa u) (c:Nat->Option Value) (h:co I w u x c) (j:Nat) (Z:j < aQ u): ∃v,c j=some v/\v.oneCell'=true:=by
 obtain⟨v,E,G⟩:=co.cell u x c j h Z;exact⟨v,E,ok_one (ρ:=fun _=>⟨0,none,0,0⟩) (s:=.d (fC u x j)) rfl G⟩
theorem OT {i j n s:Nat} (aH:i < n) (Z:j < s):i*s+j < n*s:=by
 have:=Nat.mul_le_mul_right s aH;rw[Nat.succ_mul] at this;omega
theorem OU {u:bx} {ys:List (aa u)} {v:Value} (h:co I w (.b7 u) ys (fun _=>some v)) (ba: ∀b,I b->b < w.heap.size):
  ∃eR,eN I w (aQ u) v ys.length eR/\gL I w u ys eR/\ ∀x∈eR,x.oneCell'=true:=by
 obtain⟨A,cap,e,E,G,aj⟩:=h;injection e with e
 subst e;rcases Nat.eq_zero_or_pos ys.length with av |av
 .have aB:ys=[]:=List.eq_nil_of_length_eq_zero av;subst aB;exact⟨[],⟨au7,A,cap,rfl,E,G,fun h=>absurd h au7⟩,fun i x hx=>by simp at hx,fun x hx=>by cases hx⟩
 .obtain⟨b,o,rfl,O,hx⟩:=aj av
  have H: ∀i (aH:i < ys.length) j,j < aQ u-> ∃v,w.cell? ⟨b,o+(i*aQ u+j),none⟩=some v/\v.oneCell'=true:=fun i aH j Z=>
   co.one u _ _ (hx i ys[i] (by simp[fD,aH])) j Z
  have hn: ∀j,j < ys.length*aQ u-> ∃v,w.cell? ⟨b,o+j,none⟩=some v/\v.oneCell'=true:=fun j Z=>by
   obtain⟨ai,ao,bl⟩:=D3 Z;have:=H _ ai _ ao
   rwa[bl] at this
  have mx: ∀j,j < ys.length*aQ u->((List.range (ys.length*aQ u)).map fun j=>(w.cell? ⟨b,o+j,none⟩).getD undef)[j]? =w.cell? ⟨b,o+j,none⟩:=fun j Z=>by
   obtain⟨v,ay,_⟩:=hn j Z;rw[ar0,List.getElem?_range Z];simp[ay]
  refine⟨(List.range (ys.length*aQ u)).map fun j=>(w.cell? ⟨b,o+j,none⟩).getD undef,⟨au7,some ⟨b,o,none⟩,cap,rfl,E,G,fun _=>⟨b,o,rfl,O,ba b O,fun j x Z=>?_⟩⟩,fun i x dE=>?_,fun x dE=>?_⟩
  .have kj:=(ap5.1 Z).1;simp only[aq3,List.length_range] at kj
   rwa[mx j kj] at Z
  .have aH:=(ap5.1 dE).1;have J:=hx i x dE;refine co.mk u x _ (co.wf u x _ J) fun j Z=>?_
   obtain⟨v,ay,aX⟩:=co.cell u x _ j J Z;exact⟨v,by rw[mx _ (OT aH Z)];exact ay,aX⟩
  .obtain⟨j,Z,rfl⟩:=ar2.1 dE;obtain⟨v,ay,aX⟩:=hn j (List.mem_range.1 Z);simpa[ay] using aX
theorem gL.ud {u:bx} {xs ys:List (aa u)} {cs ds:List Value} (h:gL I w u xs cs) (h':gL I w u ys ds) (al:cs.length=xs.length*aQ u):gL I w u (xs++ys) (cs++ds):=fun i x hx=>by
 by_cases aH:i < xs.length
 .rw[ar7 aH] at hx;have J:=h i x hx;refine co.mk u x _ (co.wf u x _ J) fun j Z=>?_
  obtain⟨v,ay,aX⟩:=co.cell u x _ j J Z;exact⟨v,by rw[ar7 (by rw[al];exact OT aH Z)];exact ay,aX⟩
 .rw[ar9 au5] at hx;have J:=h' _ x hx;refine co.mono (ce.refl _ _) u x _ _ (fun j v Z=>?_) J;have e:i*aQ u=xs.length*aQ u+(i - xs.length)*aQ u:=by rw[<-Nat.add_mul];congr 1;omega
  rw[ar9 (by rw[al,e];omega),<-Z,al,e]
  congr 1
  omega
theorem gL.nil (u:bx):gL I w u [] []:=fun i x hx=>by simp at hx
theorem Bl {ρ:Nat->bn} {F:Nat->Prop} {p:bn} {e:TypeId} {u:bx} {xs:List (aa u)} (h:Holds ρ I F w p (.row e u xs)) {I':Nat->Prop} (ba: ∀b,I b->I' b) (bh: ∀b,F b->I' b):co I' w (.b7 u) xs (fun _=>some p.ey):=by
 obtain⟨E,G,cs,aj,aX⟩:=h;have Bk:=aj;rcases aj.2 with⟨ay,av⟩ |⟨g,cap,c9,ay,_,a1,al,az,_,_⟩
 .exact⟨none,0,by rw[ay,av],au5,au6,fun h=>absurd h au5⟩
 .refine⟨some ⟨g,0,none⟩,cap,by rw[ay],al,az,fun _=>⟨g,0,rfl,bh g ((E g).2 (by rw[ay];rfl)),fun i x hx=>?_⟩⟩;refine co.mono (fun b O=>⟨ba b O,rfl⟩) u x _ _ (fun j v Z=>?_) (aX i x hx);have:=Bk.cells (g:=g) (by rw[ay];rfl) _ v Z
  rwa[p1] at this
end
section
variable {P:Program} {aS:dc} {N:Nat} {ids:ay5} {o:Oper} {K:aY} {B:aw} {k:aP->fR->Prop} {C:e9} {ρ:Nat->bn} {F:Nat->Nat->Prop} {w w':World}
theorem EE {b:Nat} {cs:Array Value} {S:Nat->Prop} (au:S b):cK S w (w.setRow b cs):=
 ⟨rfl,rfl,rfl,by simp[World.setRow],fun j _ hn=>setRow_other w b j cs (fun e=>hn (by rw[e];exact au))⟩
theorem OV {p q:Option Prop} (h:t6 (Ik p q)):t6 p/\t6 q:=by
 cases p <;>cases q <;>first |exact⟨trivial,trivial⟩ |exact⟨trivial,h⟩ |exact⟨h,trivial⟩ |exact h
def q0 {α:Type} (u:bx) (f:List bC->Option (α×List bC×Option Prop)) (g:α->aa u):Prop:= ∀(ρ:Nat->bn) (I:Nat->Prop) (w:World) (l:List bC) (x:α) (l':List bC) (p:Option Prop),f l=some (x,l',p)->t6 p-> ∀aE,b' ρ I w l aE->
 ∃nJ tb,aE=nJ++tb/\nJ.length=aQ u/\co I w u (g x) (fun j=>nJ[j]?)/\b' ρ I w l' tb/\ ∀v∈nJ,v.oneCell'=true
theorem X3 (k:IntKind):q0 (.int k) (Il k) (fun x=>x):=by
 intro ρ I w l x l' p h af aE ay;unfold Il at h
 split at h
 .rename_i dV n l
  split at h
  .rename_i ab;have:=nH ab;subst this;simp only[ap4,at3] at h;obtain⟨rfl,rfl,rfl⟩:=h;obtain⟨v,r,rfl,E,G⟩:=ay;have E:v= .int dV n:=E;subst E;exact⟨[.int dV n],r,rfl,rfl,rfl,G,by simp[Value.oneCell']⟩
  .cases h
 .cases h
theorem X4:q0 .u8 Im (fun x=>x):=by
 intro ρ I w l x l' p h af aE ay;unfold Im at h
 split at h
 .rename_i dV n l
  split at h
  .rename_i ab;have:=nH ab;subst this;simp only[ap4,at3] at h;obtain⟨rfl,rfl,rfl⟩:=h;obtain⟨v,r,rfl,E,G⟩:=ay;have E:v= .int .u8 n:=E;subst E;have af:0<=n/\n < 256:=af;refine⟨[.int .u8 n],r,rfl,rfl,?_,G,by simp[Value.oneCell']⟩;show some (Value.int .u8 n)=some (Value.int .u8 ((UInt8.ofNat n.toNat).toNat:Int))
   congr 2
   rw[UInt8.toNat_ofNat'];omega
  .cases h
 .cases h
theorem X5:q0 .bool In (fun x=>x):=by
 intro ρ I w l x l' p h af aE ay;unfold In at h
 split at h
 all_goals first |(cases h;done) |skip
 all_goals
  rename_i b l;simp only[ap4,at3] at h;obtain⟨rfl,rfl,rfl⟩:=h;obtain⟨v,r,rfl,E,G⟩:=ay;have E:v= .bool b:=E;subst E;exact⟨[.bool b],r,rfl,rfl,rfl,G,by simp[Value.oneCell']⟩
theorem X6:q0 .str Io (fun x=>x):=by
 intro ρ I w l x l' p h af aE ay;unfold Io at h
 split at h
 .rename_i s l;simp only[ap4,at3] at h;obtain⟨rfl,rfl,rfl⟩:=h;obtain⟨v,r,rfl,E,G⟩:=ay;have E:v= .string ⟨s.toArray⟩:=E;subst E;exact⟨[_],r,rfl,rfl,rfl,G,by simp[Value.oneCell']⟩
 .cases h
theorem X7:q0 .dC Iq (fun x=>x):=by
 intro ρ I w l x l' p h af aE ay;unfold Iq at h
 split at h
 .rename_i s l;simp only[ap4,at3] at h;obtain⟨rfl,rfl,rfl⟩:=h;obtain⟨v,r,rfl,E,G⟩:=ay;have E:v=qR s:=E;subst E;refine⟨[_],r,rfl,rfl,rfl,G,?_⟩;rcases s with _ |⟨b,n,c⟩ <;>simp[Value.oneCell',qR]
 .rename_i l;simp only[ap4,at3] at h;obtain⟨rfl,rfl,rfl⟩:=h;obtain⟨v,r,rfl,E,G⟩:=ay;have E:v= .slice none 0 0:=E;subst E;exact⟨[_],r,rfl,rfl,rfl,G,by simp[Value.oneCell']⟩
 .cases h
theorem OW {ρ:Nat->bn} {I:Nat->Prop} {w:World}: ∀{m:List kH} {bs:ay5} {aE:List Value},Bb m=some bs->hO ρ I w m aE->aE=qS bs
 | [],bs,aE,h,ay=>by
  unfold Bb at h;injection h with h
  rw[<-h];exact ay
 |c::m,bs,aE,h,ay=>by
  unfold Bb at h
  split at h
  .rename_i e;cases e
  .rename_i b l e;injection e with ai ao
   subst ai ao
   split at h
   .rename_i r aF;injection h with h
    subst h;obtain⟨v,t,e,E,G⟩:=ay;have E:v= .pointer (some ⟨b,0,none⟩):=E;rw[e,E,OW aF G];rfl
   .cases h
  .cases h
theorem X8:q0 .fn Ir (fun x=>x):=by
 intro ρ I w l x l' p h af aE ay;unfold Ir at h
 split at h
 .rename_i s l;simp only[ap4,at3] at h;obtain⟨rfl,rfl,rfl⟩:=h;obtain⟨v,r,rfl,E,G⟩:=ay;have E:v=mq s:=E;subst E;exact⟨[_],r,rfl,rfl,rfl,G,by simp[Value.oneCell',mq]⟩
 .rename_i f m l
  split at h
  .rename_i bs X9;simp only[ap4,at3] at h;obtain⟨rfl,rfl,rfl⟩:=h;obtain⟨v,r,rfl,⟨us,e,H⟩,G⟩:=ay;have ug:=OW X9 H;subst e ug;exact⟨[_],r,rfl,rfl,rfl,G,by simp[Value.oneCell']⟩
  .cases h
 .cases h
theorem X':q0 .aL Ip (fun x=>x):=by
 intro ρ I w l x l' p h af aE ay;unfold Ip at h
 split at h
 .rename_i s l;simp only[ap4,at3] at h;obtain⟨rfl,rfl,rfl⟩:=h;obtain⟨v,r,rfl,E,G⟩:=ay;have E:v= .pointer (nC s):=E;subst E;exact⟨[_],r,rfl,rfl,rfl,G,by simp[Value.oneCell']⟩
 .rename_i l;simp only[ap4,at3] at h;obtain⟨rfl,rfl,rfl⟩:=h;obtain⟨v,r,rfl,E,G⟩:=ay;have E:v= .pointer none:=E;subst E;exact⟨[_],r,rfl,rfl,rfl,G,by simp[Value.oneCell']⟩
 .cases h
theorem Ya (u:bx):q0 (.b7 u) (Is u) (fun x=>x):=by
 intro ρ I w l x l' p h af aE ay;unfold Is at h
 split at h
 .rename_i l;simp only[ap4,at3] at h;obtain⟨rfl,rfl,rfl⟩:=h;obtain⟨v,r,rfl,E,G⟩:=ay;have E:v= .slice none 0 0:=E;subst E;exact⟨[_],r,rfl,rfl,⟨none,0,rfl,ap0 _,au6,fun h=>absurd h au7⟩,G,by simp[Value.oneCell']⟩
 .rename_i v xs l
  split at h
  .rename_i V _;subst V;simp only[ap4,at3] at h;obtain⟨rfl,rfl,rfl⟩:=h;obtain⟨v,r,rfl,E,G⟩:=ay;have E:co I w (.b7 _) xs (fun _=>some v):=E;refine⟨[v],r,rfl,rfl,?_,G,?_⟩
   .obtain⟨A,cap,e,aj⟩:=E;exact⟨A,cap,e,aj⟩
   .obtain⟨A,cap,e,aj⟩:=E;injection e with e
    subst e;simp[Value.oneCell']
  .cases h
 .cases h
theorem Yb {u v:bx} (E:q0 u (nE u) (fun x=>x)) (G:q0 v (nE v) (fun x=>x)):q0 (.bQ u v) (nE (.bQ u v)) (fun x=>x):=by
 intro ρ I w l x l' p h af aE ay;unfold nE at h
 cases ai:nE u l with
 |none=>simp only[ai] at h;cases h
 |some t=>
  obtain⟨y,iV,dY⟩:=t;simp only[ai] at h
  cases ao:nE v iV with
  |none=>simp only[ao] at h;cases h
  |some t=>
   obtain⟨aC,gN,cS⟩:=t;simp only[ao,ap4,at3] at h;obtain⟨rfl,rfl,rfl⟩:=h;obtain⟨cx,cA⟩:=OV af;obtain⟨nJ,r1,rfl,g1,g2,cZ,jo⟩:=E ρ I w l y iV dY ai cx aE ay;obtain⟨tb,r2,rfl,ci,cN,ec,eG⟩:=G ρ I w iV aC _ cS ao cA r1 cZ;refine⟨nJ++tb,r2,au7,by simp[aQ,g1,ci],⟨?_,?_⟩,ec,fun x hx=>(aq8.1 hx).elim (jo x) (eG x)⟩
   .refine co.mk u y _ (co.wf u y _ g2) fun j Z=>?_
    obtain⟨x,hx,J⟩:=co.cell u y _ j g2 Z;exact⟨x,by rw[ar7 au5];exact hx,J⟩
   .refine co.mono (ce.refl _ _) v aC _ _ (fun j x Z=>?_) cN;show(nJ++tb)[aQ u+j]? =some x;rw[ar9 au5,show aQ u+j - nJ.length=j by omega];exact Z
theorem y8: ∀u:bx,q0 u (nE u) (fun x=>x)
 | .int k=>X3 k
 | .u8=>X4
 | .bool=>X5
 | .str=>X6
 | .aL=>X'
 | .dC=>X7
 | .fn=>X8
 | .b7 u=>Ya u
 | .bQ u v=>Yb (y8 u) (y8 v)
 | .arr n u=>fun ρ I w l x l' p h=>by unfold nE at h;cases h
theorem IU {ρ:Nat->bn} {I:Nat->Prop} {w:World} (u:bx): ∀(n:Nat) (l:List bC) (xs:List (aa u)) (p:Option Prop),w3 u n l=some (xs,p)->t6 p-> ∀aE,b' ρ I w l aE->xs.length=n/\aE.length=n*aQ u/\gL I w u xs aE/\ ∀v∈aE,v.oneCell'=true
 |0,l,xs,p,h,af,aE,ay=>by
  unfold w3 at h
  split at h
  .simp only[ap4,at3] at h;obtain⟨rfl,rfl⟩:=h;rw[show aE=[] from ay];exact⟨rfl,au7,gL.nil u,au7⟩
  .cases h
  .rename_i e;cases e
 |n+1,l,xs,p,h,af,aE,ay=>by
  unfold w3 at h
  cases ai:nE u l with
  |none=>simp only[ai] at h;cases h
  |some t=>
   obtain⟨y,iV,dY⟩:=t;simp only[ai] at h
   cases ao:w3 u n iV with
   |none=>simp only[ao] at h;cases h
   |some t=>
    obtain⟨ys,cS⟩:=t;simp only[ao,ap4,at3] at h;obtain⟨rfl,rfl⟩:=h;obtain⟨cx,cA⟩:=OV af;obtain⟨nJ,r1,rfl,g1,g2,cZ,jo⟩:=y8 u ρ I w l y iV dY ai cx aE ay;obtain⟨ci,cN,ec,eG⟩:=IU u n iV ys cS ao cA r1 cZ;refine⟨by simp[ci],by simp[g1,cN,Nat.succ_mul,Nat.add_comm],?_,fun x hx=>(aq8.1 hx).elim (jo x) (eG x)⟩
    have:gL I w u [y] nJ:=fun i x hx=>by
     match i with
     |0=>
      simp only[aq5,ap4] at hx;subst hx;exact co.mono (ce.refl _ _) u y _ _ (fun j v Z=>by simpa using Z) g2
     |i+1=>simp at hx
    exact gL.ud this ec (by simpa using g1)
theorem Yc (bm:d6 P aS) {T:TypeId} {x v:Operand} (ah:o.op= .store T x v) (h:match aS.find T with
  |some ti=>match a6 K x with
   | .c (.one (.ptr c o))=>match ag B c with
    |some (.cells l)=>match vz (a6 K v) with
     |some cs=>match Nat.beq cs.length ti.size,Nat.ble (o+cs.length) l.length with
      |true,true=>pm (Ba l o cs) fun l=>k .undef ⟨[c],[],[(c,some (.cells l))]⟩
      |_,_=>False
     |none=>False
    |_=>False
   | .c (.one (.f2 c s i o))=>match ag B c with
    |some (.row e u xs)=>match Nat.beq (aQ u) 1,Nat.beq s 1,Nat.beq o 0,Nat.beq ti.size 1,a6 K v with
     |true,true,true,true,.c (.one pn)=>match nE u [pn] with
      |some (y,[],p)=>(t6 p/\i < xs.length)/\k .undef ⟨[c],[],[(c,some (.row e u (xs.set i y)))]⟩
      |_=>False
     |_,_,_,_,_=>False
    |_=>False
   |_=>False
  |none=>False):cB P N ids o K B k:=by
 have m1:x∈o.op.operands:=av2
 have m2:v∈o.op.operands:=av2
 split at h
 .rename_i ti gB;obtain⟨c7,d,bu⟩:=bm.at_ gB
  split at h
  .rename_i c p H
   split at h
   .rename_i l al
    split at h
    .rename_i cs gk
     split at h
     .rename_i E G;have E:=ap6 E;have G:=Nat.le_of_ble_eq_true G;rw[yW] at h;refine cB.of h <| bB.hP al fun K' B' ai C ρ F a w aq au f3=>?_
      obtain⟨bh,aE,eS,O,J⟩:=aq.holds c _ f3;have ay:=au.get v;rw[ai v m2] at ay;obtain⟨us,Yd,EF,Ye⟩:=IS gk ay;have b6:=b'.length _ _ EF;have OX:=b'.length _ _ J;refine⟨_,Bi ah (au.ptr ((ai x m1).trans H)) Yd bu.jE (by rw[b6,E];exact bu.size) O au5 Ye,EE ((bh _).2 rfl),fun I V=>⟨bh,_,eS,setRow_heap w _ _ _ eS _ O,?_⟩⟩;exact b'.splice (b'.mono V _ _ (fun _ _=>rfl) J) (b'.mono V _ _ (fun _ _=>rfl) EF)
     .exact h.elim
    .exact h.elim
   .exact h.elim
  .rename_i c s i p H
   split at h
   .rename_i e u xs al
    split at h
    .rename_i pn kO bD uh Bm vE
     split at h
     .rename_i y q Yf;have kO:=ap6 kO;have bD:=ap6 bD;have uh:=ap6 uh;subst bD uh;obtain⟨⟨aT,aH⟩,h⟩:=h;refine cB.of h <| bB.hP al fun K' B' ai C ρ F a w aq au f3=>?_
      obtain⟨bh,jH,cs,du,jI⟩:=aq.holds c _ f3;have ay:=au.get v;rw[ai v m2,vE] at ay;have IV:=au.f2 ((ai x m1).trans H);obtain⟨nJ,tb,c2,g1,g2,cZ,jo⟩:=y8 u ρ _ w [pn] y [] q Yf aT [a.eval v] ⟨_,[],rfl,ay,rfl⟩;have b6:nJ.length=1:=by rw[g1,kO]
      obtain rfl:nJ=[a.eval v]:=by
       match nJ,b6 with
       | [aC],_=>simp at c2;rw[c2.1]
      have rY:=jo (a.eval v) au7
      have wX:(a.eval v).cells=List.toArray [a.eval v]:=by
       cases hx:a.eval v <;>first |rfl |(rw[hx] at rY;simp[Value.oneCell'] at rY)
      have OY:=du;obtain⟨ox,du⟩:=du;rcases du with⟨_,av⟩ |⟨g,cap,c9,oG,_,a1,xd,az,cM,cq⟩
      .omega
      .have y9:g=(ρ c).bj:=jH g (by rw[oG];rfl);subst y9;rw[kO,Nat.mul_one] at cM cq ox;have ui:w.heap[(ρ c).bj]? =some (.cells (List.toArray c9.toList) e (0,0)):=by simpa using a1
       have k2:i*1+0+ [a.eval v].length<=c9.toList.length:=av9
       have uj:=Bi (P:=P) (ev:=a.eval) (w:=w) ah IV wX bu.jE (by rw[bu.size,ap6 Bm];rfl) ui k2 (by simpa using rY);refine⟨_,uj,EE ((bh _).2 (by rw[oG];rfl)),fun I V=>?_⟩;have oH:=setRow_heap w (ρ c).bj c9 (List.take (i*1+0) c9.toList++[a.eval v]++List.drop (i*1+0+ [a.eval v].length) c9.toList).toArray e (0,0) a1
       have gO:(List.take (i*1+0) c9.toList++[a.eval v]++List.drop (i*1+0+ [a.eval v].length) c9.toList)=c9.toList.set i (a.eval v):=by
        rw[List.set_eq_take_append_cons_drop,if_pos av9];simp
       rw[gO] at oH;refine⟨bh,jH,cs.set i (a.eval v),⟨by simp[ox,kO],.inr ⟨(ρ c).bj,cap,_,by rw[oG];simp,ap7 _,by rw[gO];exact oH,by simpa using xd,az,by simp[cM,kO],?_⟩⟩,fun j aC aR=>?_⟩
       .rw[<-cq];simp[kO,List.take_set]
       .by_cases kP:i=j
        .subst kP;rw[List.getElem?_set_self aH] at aR;injection aR with aR
         subst aR;refine co.mono V u y _ _ (fun q x hx=>?_) g2
         match q with
         |0=>
          rw[kO,Nat.mul_one,Nat.add_zero,List.getElem?_set_self au5];simpa using hx
         |q+1=>simp at hx
        .rw[List.getElem?_set_ne kP] at aR;have J:=jI j aC aR;refine co.mk u aC _ (co.wf u aC _ J) fun q aT=>?_
         obtain⟨x,hx,pp⟩:=co.cell u aC _ q J aT;refine⟨x,?_,gF.mono V _ _ pp⟩;rw[kO] at aT⊢;rw[kO] at hx;rw[List.getElem?_set_ne au5];exact hx
     .exact h.elim
    .exact h.elim
   .exact h.elim
  .exact h.elim
 .exact h.elim
end
end
section
section
variable {P:Program} {aS:dc} {N:Nat} {ids:ay5} {o:Oper} {K:aY} {B:aw} {k:aP->fR->Prop}
theorem OZ {ρ:Nat->bn} {I:Nat->Prop} {w:World} {v:Value} {s:bC} (h:IL v s=true):dU ρ I w s v/\v.oneCell'=true:=by
 unfold IL at h
 split at h
 .rename_i k n dV n';simp only[vj,ar5] at h;have:=nH h.1;subst this;rw[h.2];exact⟨rfl,rfl⟩
 .rename_i b dZ;rw[show b=dZ by simpa using h];exact⟨rfl,rfl⟩
 .rename_i s l;have h:s.data.toList=l:=av4
  subst h;exact⟨by simp[dU,gF],rfl⟩
 .exact⟨rfl,rfl⟩
 .exact⟨rfl,rfl⟩
 .exact⟨rfl,rfl⟩
 .exact⟨rfl,rfl⟩
 .exact⟨rfl,rfl⟩
 .cases h
theorem vF {ρ:Nat->bn} {I:Nat->Prop} {w:World}: ∀(aE:List Value) (l:List bC),s8 aE l=true->b' ρ I w l aE/\ ∀u∈aE,u.oneCell'=true
 | [],[],_=>⟨rfl,au7⟩
 |v::aE,s::l,h=>by
  simp only[s8,vj] at h;obtain⟨E,G⟩:=OZ (ρ:=ρ) (I:=I) (w:=w) h.1;obtain⟨aj,aX⟩:=vF (ρ:=ρ) (I:=I) (w:=w) aE l h.2;exact⟨⟨v,aE,rfl,E,aj⟩,fun u a7=>(ap3.1 a7).elim (fun e=>e▸G) (aX u)⟩
 | [],_::_,h=>by simp[s8] at h
 |_::_,[],h=>by simp[s8] at h
theorem O0 {c d p:Nat} (h:aP.has d (.c (.one (.ptr c p)))=true):d=c:=(ap6 h).symm
theorem Bn {c d:Nat} (h:aP.has d (.c (.one (.own c)))=true):d=c:=(ap6 h).symm
theorem Yg (bm:d6 P aS) {T:TypeId} (ah:o.op= .alloc T) (h:match aS.find T,o.dst with
  |some ti,some d=>gX ids K B d=true/\k (.c (.one (.ptr d 0))) ⟨[],[d],[(d,some (.cells ti.zero))]⟩
  |_,_=>False):cB P N ids o K B k:=by
 split at h
 .rename_i ti d gB J;obtain⟨i,ds,bu⟩:=bm.at_ gB;obtain⟨aC,aR,my⟩:=bu.zero;refine cB.bc h.2 h.1 <| bB.make (fun d h=>O0 h) fun K' B' E G C ρ F a w aq au hn=>?_
  refine⟨_,_,⟨w.heap.size,none,0,0⟩,fun b=>b=w.heap.size,(by
   simp[execOp,ah,Instr.alloc,zeroValue,typeInfo,bu.jE,aR,newVar,newRow];rfl),s0 w _,fun b O=>by subst O;exact⟨ap0 _,au7⟩,fun I V O=>⟨⟨fun b=>Iff.rfl,aC.cells.toList,T,H' _ rfl,(vF _ _ my).1⟩,?_⟩⟩
  simp only[cr,gA,dU,c6]
 .exact h.elim
theorem Yh (bm:d6 P aS) {T:TypeId} {x:Operand} (ah:o.op= .box T x) (h:match aS.find T,o.dst,vz (a6 K x) with
  |some ti,some d,some l=>match Nat.beq l.length ti.size with
   |true=>gX ids K B d=true/\k (.c (.one (.ptr d 0))) ⟨[],[d],[(d,some (.cells l))]⟩
   |false=>False
  |_,_,_=>False):cB P N ids o K B k:=by
 have m1:x∈o.op.operands:=av2
 split at h
 .rename_i ti d l gB J al
  split at h
  .refine cB.bc h.2 h.1 <| bB.make (fun d h=>O0 h) fun K' B' E G C ρ F a w aq au hn=>?_
   have ay:=au.get x;rw[E x m1] at ay;obtain⟨aE,ai,ao,bl⟩:=IS al ay
   refine⟨_,_,⟨w.heap.size,none,0,0⟩,fun b=>b=w.heap.size,(by
    simp[execOp,ah,Instr.box,newVar,newRow,ai];rfl),s0 w _,fun b O=>by subst O;exact⟨ap0 _,au7⟩,fun I V O=>⟨⟨fun b=>Iff.rfl,aE,T,H' _ rfl,?_⟩,?_⟩⟩
   .refine b'.mono V l aE (fun c H=>?_) ao;refine dd _ _ fun e=>?_
    subst e
    have bk:(a6 K x).has c=true:=by
     unfold vz at al
     split at al
     .rename_i hx
      split at al
      .injection al with al;subst al;rw[hx];simpa[aP.has,dI.has,mr] using H
      .cases al
     .rename_i hx
      split at al
      .injection al with al;subst al;rw[hx];simpa[aP.has,dI.has] using H
      .cases al
     .cases al
    rw[<-E x m1] at bk
    cases x with
    |tmp t=>have:=hn t;simp only[a6] at bk;rw[this] at bk;cases bk
    |const v=>
     have lv: ∀u:Value,(vy u).has c=false:=fun u=>by unfold vy;split <;>rfl
     have dJ: ∀us:List Value,mr c (us.map vy)=false:=fun us=>by induction us with
      |nil=>rfl
      |cons u us br=>simp[mr,lv,br]
     simp only[a6] at bk;unfold D7 at bk
     split at bk <;>simp[aP.has,dI.has,lv,dJ] at bk
    |func f=>simp[a6,aP.has,dI.has,bC.has,l0] at bk
    |global g=>simp[a6,aP.has,dI.has,bC.has] at bk
   .simp only[cr,gA,dU,c6]
  .exact h.elim
 .exact h.elim
theorem O1: ∀(us:List Value) (off j:Nat) (p m s:List Value),p.length=off+j->m.length=us.length->
  (us.zipIdx j).foldl (fun cs p=>cs.setIfInBounds (off+p.2) p.1) (p++m++s).toArray=(p++us++s).toArray
 | [],off,j,p,m,s,af,az=>by
  rw[show m=[] from List.eq_nil_of_length_eq_zero (by simpa using az)];simp
 |u::us,off,j,p,[],s,af,az=>by simp at az
 |u::us,off,j,p,x::m,s,af,az=>by
  simp only[List.zipIdx_cons,List.foldl_cons]
  have e:(p++x::m++s).toArray.setIfInBounds (off+j) u=((p++[u])++m++s).toArray:=by
   rw[List.setIfInBounds_toArray,<-af];simp
  rw[e,O1 us off (j+1) (p++[u]) m s av9 (by simpa using az)];simp
theorem Yi (us aE:List Value) (off:Nat) (h:off+us.length<=aE.length):
  (us.zipIdx).foldl (fun cs p=>cs.setIfInBounds (off+p.2) p.1) aE.toArray=(aE.take off++us++aE.drop (off+us.length)).toArray:=by
 have e:aE=aE.take off++(aE.drop off).take us.length++aE.drop (off+us.length):=by
  rw[as8,<-List.drop_drop,List.take_append_drop,List.take_append_drop]
 have:=O1 us off 0 (aE.take off) ((aE.drop off).take us.length) (aE.drop (off+us.length)) av9 av9;rw[<-e] at this;exact this
theorem IW {K':aY} {ρ:Nat->bn} {I:Nat->Prop} {a:Act} {w:World} (au:ee K' ρ I a w) {mv place:Nat->Option (Nat×Nat)} (hc: ∀i d n,mv i=some (d,n)->place i=some (d,n)):
  ∀(bE:List (Nat×Operand)) (l l':List bC) (aE:List Value),(∀p∈bE,a6 K' p.2=a6 K p.2)->vA K mv bE l=some l'->b' ρ I w l aE->(∀u∈aE,u.oneCell'=true)->
   ∃rZ,Instr.fill place (List.toArray aE) (bE.map fun p=>(p.1,a.eval p.2))=some (List.toArray rZ)/\b' ρ I w l' rZ/\ ∀u∈rZ,u.oneCell'=true
 | [],l,l',aE,_,h,ay,E=>by
  simp only[vA,ap4] at h;subst h;exact⟨aE,rfl,ay,E⟩
 |(i,x)::bE,l,l',aE,di,h,ay,E=>by
  unfold vA at h
  split at h
  .rename_i d n cs J gk
   split at h
   .rename_i ai ao;have ai:=ap6 ai;have ao:=Nat.le_of_ble_eq_true ao;have hx:=au.get x;rw[di (i,x) au7] at hx;obtain⟨us,g1,g2,cZ⟩:=IS gk hx;have cx:=b'.length _ _ g2;have cA:=b'.length _ _ ay
    obtain⟨rZ,ci,cN,ec⟩:=IW au hc bE _ l' (aE.take d++us++aE.drop (d+us.length)) (fun p af=>di p (by simp[af])) h (b'.splice ay g2) (fun u a7=>by
     simp only[aq8] at a7;rcases a7 with(a7 |a7) |a7
     .exact E u (List.mem_of_mem_take a7)
     .exact cZ u a7
     .exact E u (List.mem_of_mem_drop a7))
    refine⟨rZ,?_,cN,ec⟩;rw[<-ci];simp only[aq4,Instr.fill,hc i d n J,g1];have hf:=Yi us aE d au5;rw[if_neg av9]
    congr 1
    rw[<-hf,<-Array.foldl_toList,Array.toList_zipIdx]
   .cases h
  .cases h
theorem Yj {fs:List Field} {l:List (Nat×Nat)} (h:qY P fs l=true):fs.mapM (fun f=>(P.info? f.type).map fun i=>(f.offset,i.size))=some l:=by
 induction fs generalizing l with
 |nil=>cases l with
  |nil=>rfl
  |cons _ _=>simp[qY] at h
 |cons f fs br=>cases l with
  |nil=>simp[qY] at h
  |cons p l=>
   obtain⟨d,n⟩:=p;simp only[qY,vj] at h;obtain⟨⟨⟨E,G⟩,_⟩,aX⟩:=h
   split at G
   .rename_i i aH;have G:=ap6 G;have E:=ap6 E;simp[List.mapM_cons,aH,br aX,E,G]
   .cases G
theorem Yk (bm:d6 P aS) {T:TypeId} {bE:Array (Nat×Operand)} (ah:o.op= .build T bE) (h:match aS.find T with
  |some ti=>match ti.kd,vA K (fun f=>ti.mv[f]?) bE.toList ti.zero with
   | .st,some l=>pm l fun l=>k (.c (.agg l)) bG
   |_,_=>False
  |none=>False):cB P N ids o K B k:=by
 split at h
 .rename_i ti gB;obtain⟨i,d,bu⟩:=bm.at_ gB;obtain⟨aC,aR,my⟩:=bu.zero
  split at h
  .rename_i l ab al;rw[yW] at h;refine cB.of h <| bB.val fun K' B' E G C ρ F a w aq au=>?_
   obtain⟨kk,q1⟩:=vF (ρ:=ρ) (I:=bZ C B' F w) (w:=w) _ _ my;obtain⟨rZ,h2,jn,po⟩:=IW (K:=K) au (mv:=fun f=>ti.mv[f]?) (place:=fun f=>ti.mv[f]?) (fun i d n aH=>aH) bE.toList _ _ _ (fun p af=>E p.2 (by rw[ah];simp only[Op.operands];simpa using⟨p.1,by simpa using af⟩)) al kk q1;refine⟨.agg (List.toArray rZ),?_,rZ,rfl,jn⟩
   have Yl:P.built T (bE.toList.map fun p=>(p.1,a.eval p.2))=some (List.toArray rZ):=by
    unfold Program.built;rw[bu.jE,bu.nI];obtain⟨fs,_,tc⟩:=bu.st ab;have:=Yj (bu.mv fs tc);subst tc;simp only[aR,this];simpa using h2
   unfold execOp;simp only[ah,Sem.run_bind,run_build w T _ _ (show P.built T ((bE.map fun p=>(p.1,a.eval p.2)).toList)=_ by simpa using Yl),Result.andThen_ok];rfl
  .exact h.elim
 .exact h.elim
end
end
section
section
variable {P:Program} {aS:dc} {N:Nat} {ids:ay5} {o:Oper} {K:aY} {B:aw} {k:aP->fR->Prop}
theorem pq (bm:d6 P aS) {T e:Nat} {te:cb} (h:elemOf aS T=some (e,te)):P.underlying T=some (.slice e)/\ ∃i d,l3 P e te i d:=by
 unfold elemOf at h
 split at h
 .rename_i ti gB
  split at h
  .rename_i b5 ab
   split at h
   .rename_i aoL vG;injection h with h
    injection h with E G
    subst E G;obtain⟨_,_,bu⟩:=bm.at_ gB;exact⟨bu.b7 ab,bm.at_ vG⟩
   .cases h
  .cases h
 .cases h
theorem EG (bm:d6 P aS) {T:Nat} (h:w7 aS T=true):P.underlying T=some .string:=by
 unfold w7 at h
 split at h
 .rename_i ti gB
  split at h
  .rename_i ab;obtain⟨_,_,bu⟩:=bm.at_ gB;exact bu.str ab
  .cases h
 .cases h
theorem xe (bm:d6 P aS) {T:Nat} (h:qX aS T=true):P.underlying T=some (.int .u8)/\ ∃ti i d,l3 P T ti i d/\ti.zero=[.d (.int .u8 0)]/\ti.size=1/\ti.bytes=1:=by
 unfold qX at h
 split at h
 .rename_i ti gB
  split at h
  .rename_i ab aR ax O;obtain⟨i,d,bu⟩:=bm.at_ gB;exact⟨bu.int ab,ti,i,d,bu,aR,ax,O⟩
  .cases h
 .cases h
def r0 (n:Nat) (l:List Value):List Value:=match n with
 |0=>[]
 |n+1=>l++r0 n l
theorem Ym (n:Nat) (l:List Value):(r0 n l).length=n*l.length:=by
 induction n with
 |zero=>simp[r0]
 |succ n br=>simp[r0,br,Nat.succ_mul,Nat.add_comm]
theorem Yn (n:Nat) (l:List Value): ∀j,j < n*l.length->(r0 n l)[j]? =l[j % l.length]? :=by
 induction n with
 |zero=>intro j Z;simp at Z
 |succ n br=>
  intro j Z;unfold r0
  by_cases h:j < l.length
  .rw[ar7 h,Nat.mod_eq_of_lt h]
  .rw[ar9 au5,br _ (by rw[Nat.succ_mul] at Z;omega),Nat.mod_eq_sub_mod (a:=j) au5]
theorem Yo {ρ:Nat->bn} {I:Nat->Prop} {w:World} (n:Nat) {l:List bC} {aE:List Value} (h:b' ρ I w l aE):b' ρ I w (Eg n l) (r0 n aE):=by
 induction n with
 |zero=>rfl
 |succ n br=>exact b'.ud _ _ _ _ h br
theorem Yp {n:Nat} {l:List Value} {v:Value} (h:v∈r0 n l):v∈l:=by
 induction n with
 |zero=>simp[r0] at h
 |succ n br=>exact(aq8.1 h).elim id br
theorem Yq (aC:Array Value) (n:Nat) (aR:0 < aC.size):(Array.range (n*aC.size)).map (aC[· % aC.size]!)=(r0 n aC.toList).toArray:=by
 apply Array.ext';simp only[Array.toList_map,List.toList_toArray];apply List.ext_getElem?;intro j
 by_cases Z:j < n*aC.size
 .rw[Yn n aC.toList j aw4];simp only[Array.length_toList];have az:j % aC.size < aC.size:=Nat.mod_lt _ aR;simp[Z,az]
 .rw[at6 av9,at6 (by rw[Ym];simp;omega)]
theorem Yr {w:World} {l:List Value} {e:TypeId} {j:Nat} {v:Value} (h:l[j]? =some v):(w.alloc (.cells (List.toArray l) e)).cell? ⟨w.heap.size,j,none⟩=some v:=
 oF (T:=e) (heap_alloc_new w _) h
theorem Ys {I:Nat->Prop} {w:World} {u:bx} {xs:List (aa u)} {cs:List Value} {e:TypeId} {cap:Nat} (aF:gL I (w.alloc (.cells (List.toArray cs) e)) u xs cs) (ba:I w.heap.size) (H:xs.length<=cap) (az:cap<=maxLen):
  co I (w.alloc (.cells (List.toArray cs) e)) (.b7 u) xs (fun _=>some (.slice (some ⟨w.heap.size,0,none⟩) xs.length cap)):=
 ⟨_,cap,rfl,H,az,fun _=>⟨_,0,rfl,ba,fun i x hx=>co.mono (ce.refl _ _) u x _ _ (fun j v Z=>by
  simp only[Nat.zero_add];exact Yr Z) (aF i x hx)⟩⟩
theorem EH (w:World) (e s n:Nat) (cs:List Value) (al:cs.length=n*s) (az:n<=maxLen):(w.alloc (.cells (List.toArray cs) e)).ownsRow 0 e s (.slice (some ⟨w.heap.size,0,none⟩) n n) n cs:=
 ⟨al,.inr ⟨_,n,_,rfl,ap7 _,heap_alloc_new w _,ap0 _,az,by simpa using al,by simp[<-al]⟩⟩
theorem Yt (bm:d6 P aS) {T:TypeId} {bE:Array (Nat×Operand)} (ah:o.op= .buildSlice T 0 bE) (h:match elemOf aS T,o.dst with
  |some (e,te),some d=>match te.u with
   |some u=>gX ids K B d=true/\k (.c (.one (.own d))) ⟨[],[d],[(d,some (.row e u []))]⟩
   |none=>False
  |_,_=>False) (lw:bE.toList=[]):cB P N ids o K B k:=by
 split at h
 .rename_i e te d V J;obtain⟨a7,c7,ds,bu⟩:=pq bm V
  split at h
  .rename_i u vG;refine cB.bc h.2 h.1 <| bB.make (fun d h=>Bn h) fun K' B' E G C ρ F a w aq au hn=>?_
   have Yu:bE= #[]:=Array.toList_eq_nil_iff.1 lw;refine⟨.slice (some ⟨w.heap.size,0,none⟩) 0 0,w.alloc (.cells #[] e),⟨w.heap.size,some ⟨w.heap.size,0,none⟩,0,0⟩,fun b=>b=w.heap.size,?_,s0 w _,fun b O=>by subst O;exact⟨ap0 _,au7⟩,fun I V O=>⟨⟨?_,?_,[],?_,gL.nil u⟩,?_⟩⟩
   .subst Yu;simp[execOp,ah,Instr.buildSlice,run_underlying a7,sizeOf,typeInfo,bu.jE,Instr.fill,newRow];rw[show(Array.range 0)= #[] from rfl];simp
   .intro b;simp[bn.ey,Value.ownBlock,eq_comm]
   .intro b O;simp[bn.ey,Value.ownBlock] at O;exact O.symm
   .exact EH w e (aQ u) 0 [] au7 au6
   .simp only[cr,gA,dU,c6,bn.ey]
  .exact h.elim
 .exact h.elim
theorem Yv (bm:d6 P aS) {T n:Nat} {bE:Array (Nat×Operand)} (ah:o.op= .buildSlice T n bE) (r3:n≠0) (h:match elemOf aS T with
  |some (_,te)=>match te.u with
   |some u=>match Nat.ble (n*te.size) 1000,vA K (fun i=>some (i*te.size,te.size)) bE.toList (Eg n te.zero) with
    |true,some l=>match w3 u n l with
     |some (xs,none)=>k (.c (.one (.d (.ck u xs)))) bG
     |some (xs,some p)=>p/\k (.c (.one (.d (.ck u xs)))) bG
     |none=>n=1/\ ∃y:aa u,(oy u y/\l=gi u y 0 (aQ u))/\k (.c (.one (.d (.ck u [y])))) bG
    |_,_=>False
   |none=>False
  |none=>False):cB P N ids o K B k:=by
 split at h
 .rename_i e te V;obtain⟨a7,c7,ds,bu⟩:=pq bm V;obtain⟨aC,aR,my⟩:=bu.zero
  split at h
  .rename_i u vG
   split at h
   .rename_i l gZ al;have gZ:=Nat.le_of_ble_eq_true gZ
    have r4: ∀xs:List (aa u),(∀(ρ:Nat->bn) (I:Nat->Prop) (w:World) (aE:List Value),b' ρ I w l aE->xs.length=n/\aE.length=n*aQ u/\gL I w u xs aE)->bB P N ids o K B (.c (.one (.d (.ck u xs)))) bG:=fun xs ho=>bB.new fun K' B' E G C ρ F a w aq au=>by
     obtain⟨kk,q1⟩:=vF (ρ:=ρ) (I:=bZ C B' F w) (w:=w) _ _ my
     have nz:aC.cells.size=c7.size:=by
      have E:=b'.length _ _ kk;simp at E;rw[E,bu.iOz,bu.size]
     have nK:0 < c7.size:=by have:=bu.pos;have:=bu.size;omega
     have r5:aQ u=c7.size:=(bu.u u vG).trans bu.size.symm
     obtain⟨aE,h2,jn,po⟩:=IW (K:=K) au (mv:=fun i=>some (i*te.size,te.size)) (place:=fun i=>some (i*c7.size,c7.size)) (fun i d n aH=>by rw[bu.size];exact aH) bE.toList _ _ (r0 n aC.cells.toList)
      (fun p af=>E p.2 (by rw[ah];simp only[Op.operands];simpa using⟨p.1,by simpa using af⟩)) al (Yo n kk) (fun v ay=>q1 v (Yp ay))
     obtain⟨hB,iB,p5⟩:=ho ρ _ w aE jn
     have dO:=run_buildSlice (P:=P) w T e n (bE.map fun p=>(p.1,a.eval p.2)) (List.toArray aE) c7 aC a7 bu.jE aR (by rw[bu.size];omega)
      (by rw[Nat.mul_eq_zero];omega) (by rw[<-nz,Yq aC.cells n au5,nz];simpa using h2)
     refine⟨.slice (some ⟨w.heap.size,0,none⟩) n n,w.alloc (.cells (List.toArray aE) e),?_,s0 w (.cells (List.toArray aE) e),fun I V ba=>?_⟩
     .unfold execOp;simp only[ah,Sem.run_bind,dO,Result.andThen_ok];rfl
     .have:=Ys (e:=e) (cap:=n) (gL.mono (V) p5) (ba _ (ap0 _) au7) au5 (by simp only[maxLen];have:=Nat.le_mul_of_pos_right n (show 0 < te.size by have:=bu.pos;omega);omega);rw[hB] at this;exact this
    split at h
    .rename_i xs J
     exact cB.of h <| r4 xs fun ρ I w aE ay=>by
      obtain⟨hB,iB,p5,_⟩:=IU u n l xs none J trivial aE ay;exact⟨hB,iB,p5⟩
    .rename_i xs p J
     exact cB.of h.2 <| r4 xs fun ρ I w aE ay=>by
      obtain⟨hB,iB,p5,_⟩:=IU u n l xs (some p) J h.1 aE ay;exact⟨hB,iB,p5⟩
    .obtain⟨hn,y,⟨hw,f3⟩,h⟩:=h;subst hn;refine cB.of h <| r4 [y] fun ρ I w aE ay=>?_
     subst f3;refine⟨rfl,by rw[b'.length _ _ ay,ta,Nat.one_mul],fun i x hx=>?_⟩
     match i with
     |0=>
      simp only[aq5,ap4] at hx;subst hx;refine co.mono (ce.refl _ _) u y _ _ (fun j v Z=>?_) (Bj hw ay);rw[Nat.zero_mul,Nat.zero_add];exact Z
     |i+1=>simp at hx
   .exact h.elim
  .exact h.elim
 .exact h.elim
end
end
section
section
variable {P:Program} {aS:dc} {N:Nat} {ids:ay5} {o:Oper} {K:aY} {B:aw} {k:aP->fR->Prop}
theorem O2 {ev:Operand->Value} {T uk:TypeId} {x i:Operand} {b q n c s:Nat} {w:World} {m:Int} {c7:TypeInfo} (ah:o.op= .indexAddr T x i) (hx:ev x= .slice (some ⟨b,q,none⟩) n c) (aH:ev i= .int .i64 m) (a7:P.underlying T=some (.slice uk)) (p2:P.info? uk=some c7) (ax:c7.size=s)
  (av:0<=m) (ab:m.toNat < n):(execOp ev o).run P w= .ok (.value (.pointer (some ⟨b,q+m.toNat*s,none⟩))) w:=by
 subst ax;have E:m < (n:Int):=av3
 simp[execOp,ah,hx,aH,Instr.indexAt,asIntOf,run_underlying a7,av,E,sizeOf,typeInfo,p2,p1]
theorem Yw (bm:d6 P aS) {T:TypeId} {x i:Operand} (ah:o.op= .indexAddr T x i) (h:match elemOf aS T,a6 K i with
  |some (_,te),.c (.one (.d (.int .i64 n)))=>match a6 K x with
   | .c (.one (.d (.ck u xs)))=>match Nat.beq te.size (aQ u) with
    |true=>0<=n/\ ∃y,fD xs n.toNat=some y/\k (.c (.one (.el u y 0))) bG
    |false=>False
   | .c (.one (.own c))=>match ag B c with
    |some (.row _ u xs)=>match Nat.beq te.size (aQ u) with
     |true=>(0<=n/\n < xs.length)/\k (.c (.one (.f2 c (aQ u) n.toNat 0))) ⟨[c],[],[]⟩
     |false=>False
    |_=>False
   |_=>False
  |_,_=>False):cB P N ids o K B k:=by
 have m1:x∈o.op.operands:=av2
 have m2:i∈o.op.operands:=av2
 split at h
 .rename_i e te n V aH;obtain⟨a7,c7,ds,bu⟩:=pq bm V
  split at h
  .rename_i u xs hx
   split at h
   .rename_i ax;have ax:=ap6 ax;obtain⟨av,y,aB,h⟩:=h;refine cB.of h <| bB.two hx aH m1 m2 fun K' ρ I a w au ai ao=>?_
    obtain⟨A,cap,bl,c2,fS,hQ⟩:=au.ck ai;injection bl with bl
    have bw:=A6 aB;obtain⟨b,q,rfl,ba,J⟩:=hQ au5;refine⟨_,O2 ah bl (au.int ao) a7 bu.jE (bu.size.trans ax) av bw,b,q+n.toNat*aQ u,by rw[Nat.add_zero],ba,?_⟩;refine co.mono (ce.refl _ _) u y _ _ (fun j v Z=>?_) (J _ y aB);rw[<-Z]
    congr 2
    omega
   .exact h.elim
  .rename_i c hx
   split at h
   .rename_i b5 u xs al
    split at h
    .rename_i ax;have ax:=ap6 ax;obtain⟨⟨av,E⟩,h⟩:=h;refine cB.of h <| bB.val fun K' B' g1 g2 C ρ F a w aq au=>?_
     obtain⟨bh,jH,cs,du,_⟩:=aq.holds c _ ((g2 c au7).trans al);have dE:=au.own ((g1 x m1).trans hx);rcases du.2 with⟨_,G⟩ |⟨g,cap,c9,ay,_⟩
     .omega
     .have O:=jH g (by rw[ay];rfl);refine⟨_,O2 ah (dE.trans ay) (au.int ((g1 i m2).trans aH)) a7 bu.jE (bu.size.trans ax) av au5,?_⟩;simp only[cr,gA,dU];rw[<-O,Nat.zero_add,Nat.add_zero]
    .exact h.elim
   .exact h.elim
  .exact h.elim
 .exact h.elim
theorem Yx (bm:d6 P aS) {T:TypeId} {x i:Operand} (ah:o.op= .index T x i) (h:match w7 aS T,a6 K x,a6 K i with
  |true,.c (.one (.d (.str s))),.c (.one (.d (.int .i64 n)))=>0<=n/\ ∃y,fD s n.toNat=some y/\k (.c (.one (.d (.int .u8 (UInt8.toNat y:Int))))) bG
  |_,_,_=>False):cB P N ids o K B k:=by
 have m1:x∈o.op.operands:=av2
 have m2:i∈o.op.operands:=av2
 split at h
 .rename_i s n cd hx aH;obtain⟨av,y,aB,h⟩:=h;have a7:=EG bm cd;refine cB.of h <| bB.two hx aH m1 m2 fun K' ρ I a w au ai ao=>⟨_,?_,rfl⟩
  have O:(⟨s.toArray⟩:ByteArray)[n.toNat]? =some y:=by
   have bw:=A6 aB;have:=(ap5.1 aB).2;rw[getElem?_pos (⟨s.toArray⟩:ByteArray) n.toNat (by rw[xc];exact bw)];simp only[ap4];rw[<-this];rfl
  simp[execOp,ah,au.str ai,au.int ao,Instr.index,asIntOf,run_underlying a7,av,O]
 .exact h.elim
theorem IX {K':aY} {ρ:Nat->bn} {I:Nat->Prop} {a:Act} {w:World} (au:ee K' ρ I a w) {n cap:Nat} {EI:Bool} {hm aH:Option Operand} {l h:Nat} {p:Prop} (O:yZ n (hm.map (a6 K)) (aH.map (a6 K))=some (l,h,p)) (af:p) (H:n<=cap)
  (al: ∀x,hm=some x->a6 K' x=a6 K x) (bk: ∀x,aH=some x->a6 K' x=a6 K x):
  (Instr.sliceBounds EI n cap (hm.map a.eval) (aH.map a.eval) none).run P w= .ok (l,h,cap) w/\l<=h/\h<=n:=by
 unfold yZ at O
 split at O
 .rename_i j E G
  cases hm with
  |some x=>simp at E
  |none=>
   cases aH with
   |none=>simp at G
   |some y=>
    simp only[at2,ap4] at G;simp only[ap4,at3] at O;obtain⟨rfl,rfl,rfl⟩:=O;have aB:=au.int ((bk y rfl).trans G);have q:j<=(cap:Int):=av3
    refine⟨?_,au5,au5⟩;simp[Instr.sliceBounds,Instr.sliceBound,asIntOf,aB,af.1,q]
 .rename_i i E G
  cases hm with
  |none=>simp at E
  |some x=>
   cases aH with
   |some y=>simp at G
   |none=>
    simp only[at2,ap4] at E;simp only[ap4,at3] at O;obtain⟨rfl,rfl,rfl⟩:=O;have hx:=au.int ((al x rfl).trans E);refine⟨?_,au5,ap0 _⟩;simp[Instr.sliceBounds,Instr.sliceBound,asIntOf,hx,af.1,af.2]
 .rename_i i j E G
  cases hm with
  |none=>simp at E
  |some x=>
   cases aH with
   |none=>simp at G
   |some y=>
    simp only[at2,ap4] at E G;simp only[ap4,at3] at O;obtain⟨rfl,rfl,rfl⟩:=O;have hx:=au.int ((al x rfl).trans E);have aB:=au.int ((bk y rfl).trans G);have IY:0<=j:=av3
    have q:j<=(cap:Int):=av3
    have cx:i<=((j.toNat:Nat):Int):=av3
    refine⟨?_,au5,au5⟩;simp[Instr.sliceBounds,Instr.sliceBound,asIntOf,hx,aB,af.1,IY,q,af.2.1];intro bw;omega
 .rename_i E G
  cases hm with
  |some x=>simp at E
  |none=>
   cases aH with
   |some y=>simp at G
   |none=>
    simp only[ap4,at3] at O;obtain⟨rfl,rfl,rfl⟩:=O;refine⟨?_,ap7 _,ap0 _⟩;simp[Instr.sliceBounds]
 .cases O
theorem Yy {I:Nat->Prop} {w:World} {u:bx} {xs:List (aa u)} {A:Option Addr} {cap l h:Nat} (hx:co I w (.b7 u) xs (fun _=>some (.slice A xs.length cap))) (al:l<=h) (bk:h<=xs.length):
  co I w (.b7 u) ((xs.take h).drop l) (fun _=>some (.slice (if cap=l then A else A.map (·.add (l*aQ u))) (h - l) (cap - l))):=by
 obtain⟨A',IZ,e,E,G,aj⟩:=hx;injection e with e
 injection e with ai ao bl
 subst ai bl;have b6:List.length ((xs.take h).drop l)=h - l:=by rw[at1,ap8];omega
 refine⟨_,_,by rw[b6],by rw[b6];omega,au5,fun nK=>?_⟩;rw[b6] at nK;obtain⟨b,q,rfl,ba,J⟩:=aj au5;refine⟨b,q+l*aQ u,by rw[if_neg au5,at2,p1],ba,fun i x aH=>?_⟩
 have I0:fD (α:=aa u) xs (l+i)=some x:=by
  unfold fD at aH⊢;rw[List.getElem?_drop,List.getElem?_take] at aH
  split at aH
  .exact aH
  .cases aH
 refine co.mono (ce.refl _ _) u x _ _ (fun j v Z=>?_) (J _ x I0);rw[<-Z,Nat.add_mul]
 congr 2
 omega
theorem Yz (bm:d6 P aS) {T:TypeId} {x:Operand} {hm aH:Option Operand} (ah:o.op= .slice T x hm aH none) (h:Iy aS T (a6 K x) (hm.map (a6 K)) (aH.map (a6 K)) k):cB P N ids o K B k:=by
 have m1:x∈o.op.operands:=av2
 have m2: ∀y,hm=some y->y∈o.op.operands:=fun y aB=>by rw[ah];simp[Op.operands,aB]
 have m3: ∀y,aH=some y->y∈o.op.operands:=fun y aB=>by rw[ah];simp[Op.operands,aB]
 unfold Iy at h
 split at h
 .rename_i s hx
  split at h
  .rename_i l bk p cd O;have a7:=EG bm cd;refine cB.of h.2 <| bB.val fun K' B' E G C ρ F a w aq au=>⟨_,?_,rfl⟩
   have dE:=au.str ((E x m1).trans hx);obtain⟨cx,cA,dy⟩:=IX (P:=P) au (EI:=false) O h.1 (ap0 _) (fun y aB=>E y (m2 y aB)) (fun y aB=>E y (m3 y aB));rw[<-xc s] at cx
   have V:(⟨s.toArray⟩:ByteArray).extract l bk=⟨((s.take bk).drop l).toArray⟩:=by
    have e:=Lib.extract_data ⟨s.toArray⟩ l bk
    cases aR:(⟨s.toArray⟩:ByteArray).extract l bk with
    |mk s9=>
     rw[aR] at e;simp only at e
     congr 1
     rw[<-Array.toArray_toList (xs:=s9),e,List.drop_take]
   rw[<-V];simp only[execOp,ah,Sem.run_bind,Instr.sliceAt,Instr.slice,run_underlying a7,Result.andThen_ok,dE,Option.map_none];simp only[Option.isSome_none,Bool.false_eq_true,if_false,Sem.run_bind,Sem.run_pure,Result.andThen_ok,cx]
  .exact h.elim
 .rename_i u xs hx
  split at h
  .rename_i e te l bk p V O;obtain⟨a7,c7,ds,bu⟩:=pq bm V
   split at h
   .rename_i ax;have ax:=ap6 ax;refine cB.of h.2 <| bB.val fun K' B' E G C ρ F a w aq au=>?_
    have J:=au.ck ((E x m1).trans hx);have dK:=J;obtain⟨A,cap,bl,c2,fS,hQ⟩:=dK;injection bl with bl
    rw[bl] at J;obtain⟨cx,cA,dy⟩:=IX (P:=P) (w:=w) au (EI:=true) O h.1 c2 (fun y aB=>E y (m2 y aB)) (fun y aB=>E y (m3 y aB));refine⟨_,?_,Yy J cA dy⟩;have aR:(sizeOf e).run P w= .ok (aQ u) w:=by simp[sizeOf,typeInfo,bu.jE,bu.size,ax]
    simp only[execOp,ah,Sem.run_bind,Instr.sliceAt,Instr.slice,run_underlying a7,Result.andThen_ok,bl,Option.map_none,cx,aR,Sem.run_pure]
   .exact h.elim
  .exact h.elim
 .exact h.elim
theorem O3 {I:Nat->Prop} {w:World} {s:ay4} {v:Value} (h:co I w (.b7 .u8) s (fun _=>some v)) (ba: ∀b,I b->b < w.heap.size): ∃A c,v= .slice A s.length c/\kG I w (.slice A s.length c) s:=by
 obtain⟨eR,E,G,aj⟩:=OU h ba;have td:=E;obtain⟨al,A,c,rfl,_⟩:=E
 have e:eR=s.map hZ:=by
  apply List.ext_getElem?;intro i;rw[ar0]
  cases ax:s[i]? with
  |none=>
   have:=List.getElem?_eq_none_iff.1 ax;rw[at6 (by rw[al];simp[aQ];exact this)];rfl
  |some x=>
   have:=G i x ax;have this:eR[i*aQ .u8+0]? =some (.int .u8 (UInt8.toNat x:Int)):=this;simpa[aQ,hZ] using this
 subst e;exact⟨A,c,rfl,td⟩
theorem YA (bm:d6 P aS) {S T:TypeId} {x:Operand} (ah:o.op= .convert S T x) (h:Ix aS S T (a6 K x) B k):cB P N ids o K B k:=by
 have m1:x∈o.op.operands:=av2
 unfold Ix at h
 split at h
 .rename_i Ox ti ax cq;obtain⟨oI,hB,za⟩:=bm.at_ ax;obtain⟨oJ,iB,tf⟩:=bm.at_ cq
  split at h
  .rename_i i j OS n ci cN hx
   split at h
   .rename_i Z _;have Z:=nH Z;subst Z;refine cB.of h <| bB.one hx m1 fun K' ρ I a w au ai=>⟨_,?_,rfl⟩
    have ay:=au.int ai;have hw:IntKind.u8.wrap n=n % 256:=by simp[IntKind.wrap,IntKind.bits,IntKind.signed]
    simp[execOp,ah,ay,convert,run_underlying (za.int ci),run_underlying (tf.int cN),Conv.intToInt,hw]
   .have h:=w5 h;refine cB.of h.2 <| bB.one hx m1 fun K' ρ I a w au ai=>⟨_,?_,rfl⟩
    have ay:=au.int ai;simp[execOp,ah,ay,convert,run_underlying (za.int ci),run_underlying (tf.int cN),Conv.intToInt,xb h.1]
  .rename_i e s ci cN hx
   split at h
   .rename_i a7;obtain⟨q2,_⟩:=xe bm a7;refine cB.of h.2 <| bB.new fun K' B' E G C ρ F a w aq au=>?_
    have ay:=au.str ((E x m1).trans hx);obtain⟨cap,dz,dO,O,hd⟩:=Xt (P:=P) w S T e ⟨s.toArray⟩ (za.str ci) (tf.b7 cN) q2 (by rw[xc];exact h.1);rw[xc] at dO O;refine⟨.slice (some ⟨w.heap.size,0,none⟩) s.length cap,dz,by simp only[execOp,ah,Sem.run_bind,ay,dO,Result.andThen_ok,Sem.run_pure],hd,fun I V ba=>?_⟩;obtain⟨al,A,c,ai,ao,bl,c2⟩:=O;injection ai with ai k3 YB
    subst ai YB;have jp:s.length<=cap:=by simpa using ao
    refine⟨_,cap,rfl,jp,bl,fun nK=>?_⟩;have YC:0 < s.length:=nK;obtain⟨b,q,m4,vx,bw,H⟩:=c2 (by simpa using YC);refine⟨b,q,m4,ba b vx bw,fun i y aB=>?_⟩
    have az:(List.map hZ s)[i]? =some (hZ y):=by
     rw[ar0];exact congrArg (Option.map hZ) aB
    show dz.cell? ⟨b,q+(i*1+0),none⟩=some (hZ y);rw[Nat.mul_one,Nat.add_zero];exact H i _ az
   .exact h.elim
  .rename_i e s ci cN hx
   split at h
   .rename_i a7;obtain⟨q2,_⟩:=xe bm a7;refine cB.of h <| bB.val fun K' B' E G C ρ F a w aq au=>⟨_,?_,rfl⟩
    obtain⟨A,c,ay,O⟩:=O3 (au.ck ((E x m1).trans hx)) (fun b O=>O.1);simp only[execOp,ah,Sem.run_bind,ay,Ob O S T e (za.b7 ci) q2 (tf.str cN),Result.andThen_ok,Sem.run_pure]
   .exact h.elim
  .rename_i e ci cN hx
   split at h
   .rename_i a7;obtain⟨q2,_⟩:=xe bm a7;refine cB.of h <| bB.one hx m1 fun K' ρ I a w au ai=>⟨_,?_,rfl⟩
    have ay:=au.dD ai;simp only[execOp,ah,Sem.run_bind,ay,run_convert_bytes_nil (P:=P) (w:=w) S e (za.b7 ci) q2 0 0 T (tf.str cN),Result.andThen_ok,Sem.run_pure];rfl
   .exact h.elim
  .rename_i e c ci cN hx
   split at h
   .rename_i b5 s al a7;obtain⟨q2,_⟩:=xe bm a7;refine cB.of h <| bB.val fun K' B' E G C ρ F a w aq au=>⟨_,?_,rfl⟩
    have du:=aq.holds c _ ((G c au7).trans al);have J:=Bl du (I':=fun b=>b < w.heap.size) (fun b O=>O.1) (fun b O=>(aq.own c _ ((G c au7).trans al) b O).1);obtain⟨A,l4,ay,O⟩:=O3 J (fun b O=>O);have dE:=au.own ((E x m1).trans hx);simp only[execOp,ah,Sem.run_bind,dE,ay,Ob O S T e (za.b7 ci) q2 (tf.str cN),Result.andThen_ok,Sem.run_pure]
   .exact h.elim
  .exact h.elim
 .exact h.elim
theorem YD (bm:d6 P aS) {T:TypeId} {x:Operand} {hm aH:Option Operand} {c:Nat} (ah:o.op= .slice T x hm aH none) (hx:a6 K x= .c (.one (.own c))) (h:match elemOf aS T,ag B c with
   |some (_,te),some (.row _ u xs)=>match yZ xs.length (hm.map (a6 K)) (aH.map (a6 K)),Nat.beq te.size (aQ u) with
    |some (l,h,p),true=>p/\k (.c (.one (.os c (aQ u) l (h - l)))) ⟨[c],[],[]⟩
    |_,_=>False
   |_,_=>False):cB P N ids o K B k:=by
 have m1:x∈o.op.operands:=av2
 have m2: ∀y,hm=some y->y∈o.op.operands:=fun y aB=>by rw[ah];simp[Op.operands,aB]
 have m3: ∀y,aH=some y->y∈o.op.operands:=fun y aB=>by rw[ah];simp[Op.operands,aB]
 split at h
 .rename_i e te b5 u xs V al;obtain⟨a7,c7,ds,bu⟩:=pq bm V
  split at h
  .rename_i l bk p O ax;have ax:=ap6 ax;refine cB.of h.2 <| bB.val fun K' B' E G C ρ F a w aq au=>?_
   have dE:=au.own ((E x m1).trans hx);obtain⟨_,_,cs,du,_⟩:=aq.holds c _ ((G c au7).trans al);obtain⟨_,A,cap,ay,hn,H,_⟩:=eN.qQ du;unfold bn.ey at ay dE;injection ay with ai ao bl
   rw[ao] at dE;obtain⟨cx,cA,dy⟩:=IX (P:=P) (w:=w) au (EI:=true) O h.1 (by rw[<-bl] at hn;exact hn:xs.length<=(ρ c).cap) (fun y aB=>E y (m2 y aB)) (fun y aB=>E y (m3 y aB));refine⟨_,?_,rfl⟩;have aR:(sizeOf e).run P w= .ok (aQ u) w:=by simp[sizeOf,typeInfo,bu.jE,bu.size,ax]
   simp only[execOp,ah,Sem.run_bind,Instr.sliceAt,Instr.slice,run_underlying a7,Result.andThen_ok,dE,Option.map_none,cx,aR,Sem.run_pure]
  .exact h.elim
 .exact h.elim
end
end
section
section
variable {P:Program} {aS:dc} {N:Nat} {ids:ay5} {o:Oper} {K:aY} {B:aw} {k:aP->fR->Prop}
theorem YE {c d:Nat} (h:aP.has d (.c (.one (.mp c)))=true):d=c:=(ap6 h).symm
theorem EJ (bm:d6 P aS) {T kt et:Nat} (h:w8 aS T=some (kt,et)):P.underlying T=some (.map kt et):=by
 unfold w8 at h
 split at h
 .rename_i ti gB
  split at h
  .rename_i k e ab;obtain⟨_,_,bu⟩:=bm.at_ gB;injection h with h
   injection h with E G
   subst E G;have:=bu.kd;rw[ab] at this;rw[bu.nI]
   cases J:‹TypeDesc› <;>simp[J,s7] at this⊢
   exact this
  .cases h
 .cases h
theorem I1 (bm:d6 P aS) {kt:Nat} {aI:bx} (h:xa aS kt aI=true): ∃d,P.underlying kt=some d/\m0 aI d=true:=by
 unfold xa at h
 split at h
 .rename_i ti gB;obtain⟨_,_,bu⟩:=bm.at_ gB
  split at h
  .rename_i k dV ab;have:=nH h;subst this;exact⟨_,bu.int ab,by simp[m0]⟩
  .rename_i ab;exact⟨_,bu.str ab,rfl⟩
  .cases h
 .cases h
theorem EK: ∀u:bx,oy u (cL u)
 | .int _=>trivial
 | .u8=>trivial
 | .bool=>trivial
 | .str=>trivial
 | .aL=>trivial
 | .dC=>trivial
 | .fn=>trivial
 | .b7 _=>trivial
 | .bQ u v=>⟨EK u,EK v⟩
 | .arr n u=>⟨as4,fun x hx=>by
  have e:x=cL u:=List.eq_of_mem_replicate hx;rw[e];exact EK u⟩
theorem YF {ρ:Nat->bn} {I:Nat->Prop} {w:World} {s:bC} {x:D} {v:Value} (h:Em s x=true) (ay:dU ρ I w s v):gF I w x v:=by
 unfold Em at h
 split at h
 .simp only[vj,ar5] at h;obtain⟨E,G⟩:=h;have:=nH E;subst this G;exact ay
 .exact ay
 .exact ay
 .exact ay
 .rename_i b c;have:b=c:=av4
  subst this;exact ay
 .rw[show v=_ from ay];exact⟨none,0,rfl,ap0 _,ap7 _,fun h=>absurd h (Nat.lt_irrefl 0)⟩
 .cases h
theorem O4: ∀{l m:List bC},iz l m=true->l.length=m.length
 | [],[],_=>rfl
 |s::l,.d x::m,h=>by
  simp only[iz,vj] at h;simp[O4 h.2]
 | [],_::_,h=>by simp[iz] at h
 |_::_,[],h=>by simp[iz] at h
 |_::_,.ptr _ _::_,h=>by simp[iz] at h
 |_::_,.own _::_,h=>by simp[iz] at h
 |_::_,.el _ _ _::_,h=>by simp[iz] at h
 |_::_,.f2 _ _ _ _::_,h=>by simp[iz] at h
 |_::_,.os _ _ _ _::_,h=>by simp[iz] at h
 |_::_,.mp _::_,h=>by simp[iz] at h
 |_::_,.cU _ _::_,h=>by simp[iz] at h
 |_::_,.dD::_,h=>by simp[iz] at h
 |_::_,.bJ _::_,h=>by simp[iz] at h
 |_::_,.any::_,h=>by simp[iz] at h
theorem O5: ∀{l m:List bC},iz l m=true-> ∀(i:Nat) (y:bC),m[i]? =some y-> ∃s x,l[i]? =some s/\y= .d x/\Em s x=true
 | [],[],_,i,y,aB=>by simp at aB
 |s::l,.d x::m,h,0,y,aB=>by
  simp only[iz,vj] at h;simp only[aq5,ap4] at aB;exact⟨s,x,rfl,aB.symm,h.1⟩
 |s::l,.d x::m,h,i+1,y,aB=>by
  simp only[iz,vj] at h;simpa using O5 h.2 i y (by simpa using aB)
 | [],_::_,h,_,_,_=>by simp[iz] at h
 |_::_,[],h,_,_,aB=>by simp at aB
 |_::_,.ptr _ _::_,h,_,_,_=>by simp[iz] at h
 |_::_,.own _::_,h,_,_,_=>by simp[iz] at h
 |_::_,.el _ _ _::_,h,_,_,_=>by simp[iz] at h
 |_::_,.f2 _ _ _ _::_,h,_,_,_=>by simp[iz] at h
 |_::_,.os _ _ _ _::_,h,_,_,_=>by simp[iz] at h
 |_::_,.mp _::_,h,_,_,_=>by simp[iz] at h
 |_::_,.cU _ _::_,h,_,_,_=>by simp[iz] at h
 |_::_,.dD::_,h,_,_,_=>by simp[iz] at h
 |_::_,.bJ _::_,h,_,_,_=>by simp[iz] at h
 |_::_,.any::_,h,_,_,_=>by simp[iz] at h
theorem YG (bm:d6 P aS) {et:Nat} {aK:bx} (h:En aS et aK=true) {I:Nat->Prop} {w:World}: ∃aC,(zeroValue et).run P w= .ok aC w/\jk I w aK (cL aK) aC:=by
 unfold En at h
 split at h
 .rename_i ti gB;obtain⟨i,d,bu⟩:=bm.at_ gB;simp only[vj,beq_iff_eq,Bool.or_eq_true] at h;obtain⟨⟨E,G⟩,aj⟩:=h;obtain⟨aC,aR,my⟩:=bu.zero;have J:=(vF (ρ:=fun _=>⟨0,none,0,0⟩) (I:=I) (w:=w) _ _ my).1;have al:=b'.length _ _ J;have oK:ti.zero.length=aQ aK:=(O4 E).trans (ta aK _ _ _)
  have ax:aC.cells.size=aQ aK:=by
   rw[<-oK,<-al];simp
  refine⟨aC,by simp[zeroValue,typeInfo,bu.jE,aR],ax,⟨fun ah=>?_,fun ah=>?_⟩,co.mk _ _ _ (EK aK) fun j Z=>?_⟩
  .refine bu.OG aC aR ?_;rw[bu.row,G,ah];rfl
  .have:2<=aQ aK:=by
    rcases aj with aj |aj
    .rw[ah] at aj;cases aj
    .exact Nat.le_of_ble_eq_true aj
   cases aC with
   |agg cs=>exact⟨cs,rfl⟩
   |_=>simp[Value.cells] at ax;omega
  .have a1:=y7 aK (cL aK) (aQ aK) 0 j Z;rw[Nat.zero_add] at a1;obtain⟨s,x,ai,ao,bl⟩:=O5 E j _ a1;injection ao with ao
   obtain⟨v,c2,fS⟩:=b'.get _ _ J j s ai;exact⟨v,c2,by rw[ao];exact YF bl fS⟩
 .cases h
theorem O6 {ρ:Nat->bn} {I:Nat->Prop} {w:World} {u:bx} {x:aa u} {v:Value} (ah:mZ u=true) (h:jk I w u x v):dU ρ I w (.d (fC u x 0)) v:=by
 obtain⟨E,G,aj⟩:=h;have H:=G.1 ah;have nK:0 < aQ u:=by rw[<-E,H];simp
 obtain⟨cW,ai,ao⟩:=co.cell u x _ 0 aj nK;rw[H] at ai;simp at ai;subst ai;exact ao
theorem O7 {ρ:Nat->bn} {I:Nat->Prop} {w:World} {u:bx} {x:aa u} {v:Value} (ah:mZ u=false) (h:jk I w u x v):gA ρ I w (.agg (gi u x 0 (aQ u))) v:=by
 obtain⟨E,G,aj⟩:=h;obtain⟨cs,e⟩:=G.2 ah;subst e;obtain⟨aE,g1,g2⟩:=EC (ρ:=ρ) aj (aQ u) 0 au5;have al:=b'.length _ _ g1;rw[ta] at al
 have e:aE=cs.toList:=by
  apply List.ext_getElem?;intro j
  by_cases Z:j < aE.length
  .obtain⟨v,ay⟩: ∃v,aE[j]? =some v:=⟨_,oj Z⟩;have:=g2 j v ay;rw[ay,<-this];simp[Value.cells]
  .rw[at6 au5,at6 (by simp[Value.cells] at E;simp;omega)]
 subst e;exact⟨_,au7,g1⟩
theorem EL {ρ:Nat->bn} {I:Nat->Prop} {w:World} {u:bx} {x:aa u} {v:Value} (h:jk I w u x v):gA ρ I w (y0 u x) v:=by
 cases u with
 |bQ u v=>exact O7 rfl h
 |arr n u=>exact O7 rfl h
 |_=>exact O6 (ρ:=ρ) rfl h
theorem YH {ρ:Nat->bn} {I:Nat->Prop} {w:World} {u:bx} {s:aP} {y:aa u} {p:Option Prop} (h:IC u s=some (y,p)) (af:t6 p) {v:Value} (ay:cr ρ I w s v):jk I w u y v:=by
 unfold IC at h
 split at h
 .rename_i cW y'
  split at h
  .rename_i r6 _ ah;subst r6;injection h with h
   injection h with E G
   subst E G;obtain⟨aE,e,E,G⟩:=ay;subst e;exact⟨by simpa[Value.cells] using E,⟨fun e=>(by rw[ah] at e;cases e),fun _=>⟨_,rfl⟩⟩,by simpa[Value.cells,Ih] using G⟩
  .cases h
 .rename_i s'
  split at h
  .rename_i y' jX ah J;injection h with h
   injection h with E G
   subst E G;obtain⟨nJ,tb,ai,ao,bl,c2,fS⟩:=y8 u ρ I w _ _ _ _ J af [v] ⟨v,[],rfl,ay,rfl⟩;rw[show tb=[] from c2,as6] at ai;subst ai
   have H:v.cells= #[v]:=by
    have:=fS v au7
    cases v <;>first |rfl |(simp[Value.oneCell'] at this)
   refine⟨by rw[H,<-ao];rfl,⟨fun _=>H,fun e=>(by rw[ah] at e;cases e)⟩,by rw[H];exact bl⟩
  .cases h
 .rename_i l
  split at h
  .rename_i y' jX ah J;injection h with h
   injection h with E G
   subst E G;obtain⟨aE,e,ay⟩:=ay;subst e;obtain⟨nJ,tb,ai,ao,bl,c2,fS⟩:=y8 u ρ I w _ _ _ _ J af aE ay;rw[show tb=[] from c2,as6] at ai;subst ai;exact⟨by simpa[Value.cells] using ao,⟨fun e=>(by rw[ah] at e;cases e),fun _=>⟨_,rfl⟩⟩,by simpa[Value.cells] using bl⟩
  .cases h
 .cases h
theorem Bo {ρ:Nat->bn} {I:Nat->Prop} {w:World} {aI:bx} {s:aP} {key:aa aI} (h:w9 aI s=some key) {v:Value} (ay:cr ρ I w s v):v=gG aI key:=by
 unfold w9 at h
 split at h
 .split at h
  .rename_i e;have:=nH e;injection h with h
   subst this h;exact ay
  .cases h
 .injection h with h
  subst h;exact ay
 .cases h
theorem ee.mp {K':aY} {ρ:Nat->bn} {I:Nat->Prop} {a:Act} {w:World} {x:Operand} (au:ee K' ρ I a w) {c:Nat} (h:a6 K' x= .c (.one (.mp c))):a.eval x= .map (some (ρ c).bj):=au.ev h
theorem YI (bm:d6 P aS) {T:TypeId} {x i:Operand} {ok:Bool} (ah:o.op= .lookup T x i ok) (h:IB aS T (a6 K x) (a6 K i) ok B k):cB P N ids o K B k:=by
 have m1:x∈o.op.operands:=av2
 have m2:i∈o.op.operands:=av2
 unfold IB at h
 split at h
 .rename_i c hx
  split at h
  .rename_i aI aK es al
   split at h
   .rename_i kt et key cd ab
    have r4: ∀(v:aP),(xa aS kt aI&&En aS et aK)=true->(∀(ρ:Nat->bn) (I:Nat->Prop) (w:World) (u:Value),jk I w aK ((b0 es key).getD (cL aK)) u->cr ρ I w v (if ok then .tuple #[u,.bool (b0 es key).isSome] else u))->bB P N ids o K B v ⟨[c],[],[]⟩:=by
     intro v bu ay;simp only[vj] at bu;obtain⟨d,xf,jW⟩:=I1 bm bu.1;refine bB.val fun K' B' g1 g2 C ρ F a w aq au=>?_
     obtain⟨bh,bT,bV,O,az,da⟩:=aq.holds c _ ((g2 c au7).trans al);obtain⟨aC,aR,yT⟩:=YG bm bu.2 (I:=bZ C B' F w) (w:=w);obtain⟨u,aF,a7⟩:=Ok (P:=P) (EJ bm cd) xf jW O az aR yT key ok;have ai:=au.mp ((g1 x m1).trans hx);have ao:a.eval i=gG aI key:=Bo ab (au.ev (g1 i m2));exact⟨_,by simp only[execOp,ah,Sem.run_bind,ai,ao,aF,Result.andThen_ok,Sem.run_pure],ay ρ _ w u a7⟩
    split at h
    .rename_i bu;rw[D9] at h;refine cB.of h (r4 _ bu fun ρ I w u a7=>?_);exact⟨[u,.bool (b0 es key).isSome],rfl,u,_,rfl,EL a7,_,_,rfl,rfl,rfl⟩
    .rename_i bu;rw[D9] at h;exact cB.of h (r4 _ bu fun ρ I w u a7=>EL a7)
    .exact h.elim
   .exact h.elim
  .exact h.elim
 .exact h.elim
theorem ul {w:World} {b:Nat} {mz:Obj} {S:Nat->Prop} (au:S b):cK S w {w with heap:=w.heap.setIfInBounds b mz}:=
 ⟨rfl,rfl,rfl,au7,fun j _ hn=>by simp only[];rw[Array.getElem?_setIfInBounds_ne (fun e=>hn (by rw[<-e];exact au))]⟩
theorem YJ (bm:d6 P aS) {T:TypeId} {x i v:Operand} (ah:o.op= .mapUpdate T x i v) (h:ID aS T (a6 K x) (a6 K i) (a6 K v) B k):cB P N ids o K B k:=by
 have m1:x∈o.op.operands:=av2
 have m2:i∈o.op.operands:=av2
 have m3:v∈o.op.operands:=av2
 unfold ID at h
 split at h
 .rename_i c hx
  split at h
  .rename_i aI aK es al
   split at h
   .rename_i kt et key cd ab
    have r4: ∀y:aa aK,xa aS kt aI=true->(∀(ρ:Nat->bn) (I:Nat->Prop) (w:World) (u:Value),cr ρ I w (a6 K v) u->jk I w aK y u)->bB P N ids o K B .undef ⟨[c],[],[(c,some (.map aI aK (dr es key y)))]⟩:=fun y bu ay=>by
     obtain⟨d,xf,jW⟩:=I1 bm bu;refine bB.hP al fun K' B' g1 C ρ F a w aq au f3=>?_
     obtain⟨bh,bT,bV,O,az,da⟩:=aq.holds c _ f3;have ai:=au.mp ((g1 x m1).trans hx);have ao:a.eval i=gG aI key:=Bo ab (au.ev (g1 i m2));have bl:jk _ _ aK y (a.eval v):=ay _ _ _ _ (au.ev (g1 v m3));obtain⟨en,jD,aF,gl,p6⟩:=A9 (P:=P) (EJ bm cd) xf jW O az da key bl;have bw:=(Array.getElem?_eq_some_iff.1 O).1;refine⟨{w with heap:=w.heap.setIfInBounds (ρ c).bj (.map (List.toArray en) jD)},by simp only[execOp,ah,Sem.run_bind,ai,ao,aF,Result.andThen_ok,Sem.run_pure],ul ((bh _).2 rfl),fun I aW=>⟨bh,en,jD,by simp[bw],gl.mono aW,p6⟩⟩
    split at h
    .rename_i y p bu ay;exact cB.of h.2 (r4 y bu fun ρ I w u a7=>YH ay h.1 a7)
    .rename_i bu _
     split at h
     .rename_i l ay rY;obtain⟨y,⟨hw,f3⟩,h⟩:=h;refine cB.of h (r4 y bu fun ρ I w u a7=>?_);rw[ay] at a7;obtain⟨aE,e,J⟩:=a7;subst e f3;exact⟨by simpa[Value.cells,ta] using b'.length _ _ J,⟨fun e=>(by rw[rY] at e;cases e),fun _=>⟨_,rfl⟩⟩,by simpa[Value.cells] using Bj hw J⟩
     .exact h.elim
    .exact h.elim
   .exact h.elim
  .exact h.elim
 .exact h.elim
theorem bB.O8 {c:Nat} {cw ch:bb} (H:ag B c=some cw)
  (h: ∀(K':aY) (B':aw),(∀x,x∈o.op.operands->a6 K' x=a6 K x)-> ∀(C:e9) (ρ:Nat->bn) (F:Nat->Nat->Prop) (a:Act) (w:World),Mem ids C B' ρ F w->ee K' ρ (bZ C B' F w) a w->ag B' c=some cw-> ∃w',(execOp a.eval o).run P w= .ok (.value (.tuple #[])) w'/\cK (F c) w w'/\
   (∀I,ce (bZ C B' F w) w I w'->Holds ρ I (F c) w' (ρ c) ch)):
  bB P N ids o K B (.cf []) ⟨[c],[],[(c,some ch)]⟩:=by
 rintro K' B' E G - C a w ⟨hn,J,ρ,F,aq,au⟩ bw fE Q di;have cF:ag B' c=some cw:=(G c au7).trans H;obtain⟨w',hx,cz,cX⟩:=h K' B' E C ρ F a w aq au cF;obtain⟨bN,V⟩:=aq.hP cF cz cX;unfold Oper.wp;rw[hx,Oper.upon_value];exact di _ _ ⟨kf.trans hn,kg.trans J,ρ,F,bN,(au.mono V fun _ _ _=>rfl).kh (fun e V=>by rw[hn];exact bw e V) ⟨[],rfl,rfl⟩⟩
theorem YK (bm:d6 P aS) {T eS:TypeId} {x i:Operand} {c:Call} (ah:o.op= .call c) (dP:c.callee= .builtin .delete) (d7:c.args.toList=[x,i]) (lz:c.argTypes.toList=[T,eS]) (h:IE aS T (a6 K x) (a6 K i) B k):cB P N ids o K B k:=by
 have fu:c.args= #[x,i]:=Array.toList_inj.1 d7;have jq:c.argTypes= #[T,eS]:=Array.toList_inj.1 lz;obtain⟨r7,args,cp⟩:=c;simp only at dP fu jq;subst dP fu jq;have m1:x∈o.op.operands:=av6
 have m2:i∈o.op.operands:=av6
 unfold IE at h
 split at h
 .rename_i c hx
  split at h
  .rename_i aI aK es al
   split at h
   .rename_i kt et key cd ab
    split at h
    .rename_i bu;obtain⟨d,xf,jW⟩:=I1 bm bu;refine cB.of h <| bB.O8 al fun K' B' g1 C ρ F a w aq au f3=>?_
     obtain⟨bh,bT,bV,O,az,da⟩:=aq.holds c _ f3;have ai:=au.mp ((g1 x m1).trans hx);have ao:a.eval i=gG aI key:=Bo ab (au.ev (g1 i m2));obtain⟨en,aF,gl,p6⟩:=Ot (P:=P) (ty:=o.type) (EJ bm cd) xf jW O az da key eS;have bw:=(Array.getElem?_eq_some_iff.1 O).1;refine⟨{w with heap:=w.heap.setIfInBounds (ρ c).bj (.map (List.toArray en) bV)},?_,ul ((bh _).2 rfl),fun I aW=>⟨bh,en,bV,by simp[bw],gl.mono aW,p6⟩⟩;simp[execOp,ah,resolve,invoke,builtin,ai,ao,aF]
    .exact h.elim
   .exact h.elim
  .exact h.elim
 .exact h.elim
theorem l3.arr {T:Nat} {ti:cb} {i:TypeInfo} {d:TypeDesc} (h:l3 P T ti i d) {n e:Nat} (ab:ti.kd= .arr n e):P.underlying T=some (.array n e):=by
 have:=h.kd;rw[ab] at this;rw[h.nI]
 cases d <;>simp[s7] at this⊢
 exact this
theorem YL (bm:d6 P aS) {T:TypeId} {x:Operand} (ah:o.op= .sliceToArrayPointer T x) (h:IH aS T (a6 K x) k):cB P N ids o K B k:=by
 have m1:x∈o.op.operands:=av2
 unfold IH at h
 split at h
 .rename_i ti v xs gB hx;obtain⟨i,d,bu⟩:=bm.at_ gB
  split at h
  .rename_i n e ab;obtain⟨⟨av,gZ⟩,h⟩:=h;have a7:=bu.arr ab;refine cB.of h <| bB.one hx m1 fun K' ρ I a w au ai=>?_
   obtain⟨A,cap,bl,c2,fS,hQ⟩:=au.ck ai;injection bl with bl
   obtain⟨b,q,rfl,ba,J⟩:=hQ au5;refine⟨.pointer (some ⟨b,q,none⟩),?_,b,q,rfl,ba,by simp;omega,fun i aC aR=>?_⟩
   .have: ¬List.length xs < n:=av3
    simp[execOp,ah,bl,Instr.arrayAt,run_underlying a7,this]
   .have q3:fD (α:=aa v) xs i=some aC:=by
     unfold fD at aR⊢;rw[List.getElem?_take] at aR
     split at aR
     .exact aR
     .cases aR
    exact J i aC q3
  .exact h.elim
 .exact h.elim
theorem YM (bm:d6 P aS) {T:TypeId} {x:Operand} {c:Nat} (ah:o.op= .slice T x none none none) (hx:a6 K x= .c (.one (.ptr c 0))) (h:IG aS T c B k):cB P N ids o K B k:=by
 have m1:x∈o.op.operands:=av2
 unfold IG at h
 split at h
 .rename_i ti gB;obtain⟨i,d,bu⟩:=bm.at_ gB
  split at h
  .rename_i n e m v ab _;have a7:=bu.arr ab
   split at h
   .rename_i te l hn vG al;simp only[vj,Nat.beq_eq,Nat.ble_eq,Nat.blt_eq] at hn;obtain⟨⟨_,jY⟩,r3⟩:=hn;obtain⟨vB,I2,YN⟩:=bm.at_ vG;obtain⟨ys,⟨hw,f3⟩,h⟩:=h;refine cB.of h ?_;rintro K' B' E G - C a w ⟨p7,tc,ρ,F,aq,au⟩ bw fE Q di;have I3:ag B' c=some (.cells l):=(G c au7).trans al;obtain⟨bh,aE,eS,O,J⟩:=aq.holds c _ I3;have ai:=au.ptr ((E x m1).trans hx);subst f3;have YO:=Bj hw J;have a2:n≠0:=av3
    have dO:(execOp a.eval o).run P w= .ok (.value (.slice (some ⟨(ρ c).bj,0,none⟩) n n)) w:=by
     simp[execOp,ah,ai,Instr.sliceAt,run_underlying a7,Instr.sureAddr,Instr.sliceBounds,sizeOf,typeInfo,YN.jE,a2,p1]
    obtain⟨bN,aW⟩:=aq.step (B':=gM B' c) (ρ':=ρ) (F':=F) (w':=w) (fun d=>d=c) (fun _=>False) (cK.refl _ w) (fun d ch J a2=>by
      rw[hl,if_neg (fun e=>a2 e.symm)] at J;exact J) (fun _ _=>rfl) (fun _ _=>rfl) (fun _ _ h=>h) (fun _ h=>h.elim) (fun _ _ _ _ _ _ h=>h)
     (fun d ch J aq _=>by subst aq;rw[hl,if_pos rfl] at J;cases J)
     (fun d ch J aq=>by subst aq;rw[hl,if_pos rfl] at J;cases J)
     (fun d c1 ch ch' b J _ aq=>by subst aq;rw[hl,if_pos rfl] at J;cases J)
    have mA:=(bh (ρ c).bj).2 rfl
    have ba:bZ C (gM B' c) F w (ρ c).bj:=by
     obtain⟨cx,cA⟩:=aq.own c _ I3 _ mA;refine⟨cx,?_,fun d ch J dm=>?_⟩
     .rcases cA with cA |cA
      .exact .inr (.inl cA)
      .exact .inr (.inr cA)
     .rw[hl] at J
      split at J
      .cases J
      .rename_i a2;exact aq.e' c d _ ch _ I3 J a2 mA dm
    unfold Oper.wp;rw[dO,Oper.upon_value];refine di _ _ ⟨kf.trans p7,kg.trans tc,ρ,F,bN,(au.mono aW fun _ _ _=>rfl).kh (fun e V=>by rw[p7];exact bw e V) ?_⟩;have b6:List.length ys=n:=hw.1;refine⟨_,n,by rw[b6],au5,by simp only[maxLen];omega,fun _=>⟨_,0,rfl,ba,fun j aC aR=>?_⟩⟩;refine co.mono aW v aC _ _ (fun q y aT=>?_) (YO.2 j aC aR);rw[Nat.zero_add];exact oF O aT
   .exact h.elim
  .exact h.elim
 .exact h.elim
theorem YP (bm:d6 P aS) {T:TypeId} (ah:o.op= .makeMap T none) (h:IF aS T o.dst ids K B k):cB P N ids o K B k:=by
 unfold IF at h
 split at h
 .rename_i kt et d cd J
  split at h
  .rename_i Oy vB aoM aoN
   split at h
   .rename_i aI aK _ _;refine cB.bc h.2 h.1 <| bB.make (fun d h=>YE h) fun K' B' g1 g2 C ρ F a w aq au hn=>?_
    refine⟨.map (some w.heap.size),w.alloc (.map #[] 0),⟨w.heap.size,none,0,0⟩,fun b=>b=w.heap.size,by simp only[execOp,ah,Option.map_none,Sem.run_bind,XJ,Result.andThen_ok,Sem.run_pure],s0 w _,fun b O=>by subst O;exact⟨ap0 _,au7⟩,fun I V O=>⟨⟨fun b=>Iff.rfl,[],0,H' _ rfl,rfl,⟨au7,fun e V=>by cases V⟩⟩,?_⟩⟩;simp only[cr,gA,dU,c6]
   .exact h.elim
  .exact h.elim
 .exact h.elim
end
end
end Go.Proofs.YthnboghbhgapcaaGreat
