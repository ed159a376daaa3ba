/-
A part of the proof of this claim: lemmas, with no condition beyond what each says.
-/
import Derived.Great.BuildSlice
import Derived.Laws.Small
import Derived.Maps.AppendAt
import Derived.Lib.Strings
import Derived.Test.YthnboghbhgapcaaGreatZa3
set_option linter.unusedVariables false
set_option linter.unusedSimpArgs false
set_option maxRecDepth 10000
namespace Go.Proofs.YthnboghbhgapcaaGreat
open Go.RowKit Go.Proofs
section
section
variable {ρ:Nat->bo} {I:Nat->Prop} {w:World}
theorem cp.wf: ∀(u:bx) (x:Z u) (c:Nat->Option Value),cp I w u x c->ow u x:=by
 intro u
 induction u with
 |bR u v ox oy=>exact fun x c h=>⟨ox _ _ h.1,oy _ _ h.2⟩
 |arr n u br=>
  refine fun x c h=>⟨h.1,fun y aC=>?_⟩
  obtain⟨i,aI⟩:=List.getElem?_of_mem (α:=Z u) aC;exact br _ _ (h.2 i y aI)
 |_=>exact fun x c h=>trivial
theorem cp.one (u:bx) (x:Z u) (c:Nat->Option Value) (h:cp I w u x c) (j:Nat) (aa:j < aS u): ∃v,c j=some v/\v.oneCell'=true:=by
 obtain⟨v,E,G⟩:=cp.cell u x c j h aa;exact⟨v,E,ok_one (ρ:=fun _=>⟨0,none,0,0⟩) (s:=.d (fA u x j)) rfl G⟩
theorem ON {i j n s:Nat} (aI:i < n) (aa:j < s):i*s+j < n*s:=by
 have:=Nat.mul_le_mul_right s aI;rw[Nat.succ_mul] at this;omega
theorem OO {u:bx} {ys:List (Z u)} {v:Value} (h:cp I w (.b7 u) ys (fun _=>some v)) (bb: ∀b,I b->b < w.heap.size):
  ∃eS,eL I w (aS u) v ys.length eS/\gK I w u ys eS/\ ∀x∈eS,x.oneCell'=true:=by
 obtain⟨A,cap,e,E,G,al⟩:=h;injection e with e
 subst e;rcases Nat.eq_zero_or_pos ys.length with aw |aw
 .have aC:ys=[]:=List.eq_nil_of_length_eq_zero aw;subst aC;exact⟨[],⟨au7,A,cap,rfl,E,G,fun h=>absurd h au7⟩,fun i x hx=>by simp at hx,fun x hx=>by cases hx⟩
 .obtain⟨b,o,rfl,O,hx⟩:=al aw
  have H: ∀i (aI:i < ys.length) j,j < aS u-> ∃v,w.cell? ⟨b,o+(i*aS u+j),none⟩=some v/\v.oneCell'=true:=fun i aI j aa=>
   cp.one u _ _ (hx i ys[i] (by simp[fB,aI])) j aa
  have hn: ∀j,j < ys.length*aS u-> ∃v,w.cell? ⟨b,o+j,none⟩=some v/\v.oneCell'=true:=fun j aa=>by
   obtain⟨aj,ap,bm⟩:=DU aa;have:=H _ aj _ ap
   rwa[bm] at this
  have mw: ∀j,j < ys.length*aS u->((List.range (ys.length*aS u)).map fun j=>(w.cell? ⟨b,o+j,none⟩).getD undef)[j]? =w.cell? ⟨b,o+j,none⟩:=fun j aa=>by
   obtain⟨v,az,_⟩:=hn j aa;rw[ar0,List.getElem?_range aa];simp[az]
  refine⟨(List.range (ys.length*aS u)).map fun j=>(w.cell? ⟨b,o+j,none⟩).getD undef,⟨au7,some ⟨b,o,none⟩,cap,rfl,E,G,fun _=>⟨b,o,rfl,O,bb b O,fun j x aa=>?_⟩⟩,fun i x dE=>?_,fun x dE=>?_⟩
  .have ki:=(ap5.1 aa).1;simp only[aq3,List.length_range] at ki
   rwa[mw j ki] at aa
  .have aI:=(ap5.1 dE).1;have J:=hx i x dE;refine cp.mk u x _ (cp.wf u x _ J) fun j aa=>?_
   obtain⟨v,az,aZ⟩:=cp.cell u x _ j J aa;exact⟨v,by rw[mw _ (ON aI aa)];exact az,aZ⟩
  .obtain⟨j,aa,rfl⟩:=ar2.1 dE;obtain⟨v,az,aZ⟩:=hn j (List.mem_range.1 aa);simpa[az] using aZ
theorem gK.t7 {u:bx} {xs ys:List (Z u)} {cs ds:List Value} (h:gK I w u xs cs) (h':gK I w u ys ds) (aq:cs.length=xs.length*aS u):gK I w u (xs++ys) (cs++ds):=fun i x hx=>by
 by_cases aI:i < xs.length
 .rw[ar7 aI] at hx;have J:=h i x hx;refine cp.mk u x _ (cp.wf u x _ J) fun j aa=>?_
  obtain⟨v,az,aZ⟩:=cp.cell u x _ j J aa;exact⟨v,by rw[ar7 (by rw[aq];exact ON aI aa)];exact az,aZ⟩
 .rw[ar9 au5] at hx;have J:=h' _ x hx;refine cp.mono (cd.refl _ _) u x _ _ (fun j v aa=>?_) J;have e:i*aS u=xs.length*aS u+(i - xs.length)*aS u:=by rw[<-Nat.add_mul];congr 1;omega
  rw[ar9 (by rw[aq,e];omega),<-aa,aq,e]
  congr 1
  omega
theorem gK.nil (u:bx):gK I w u [] []:=fun i x hx=>by simp at hx
theorem Bd {ρ:Nat->bo} {F:Nat->Prop} {p:bo} {e:TypeId} {u:bx} {xs:List (Z u)} (h:Holds ρ I F w p (.row e u xs)) {I':Nat->Prop} (bb: ∀b,I b->I' b) (bj: ∀b,F b->I' b):cp I' w (.b7 u) xs (fun _=>some p.er):=by
 obtain⟨E,G,cs,al,aZ⟩:=h;have Bc:=al;rcases al.2 with⟨az,aw⟩ |⟨g,cap,c8,az,_,a6,aq,aA,_,_⟩
 .exact⟨none,0,by rw[az,aw],au5,au6,fun h=>absurd h au5⟩
 .refine⟨some ⟨g,0,none⟩,cap,by rw[az],aq,aA,fun _=>⟨g,0,rfl,bj g ((E g).2 (by rw[az];rfl)),fun i x hx=>?_⟩⟩;refine cp.mono (fun b O=>⟨bb b O,rfl⟩) u x _ _ (fun j v aa=>?_) (aZ i x hx);have:=Bc.cells (g:=g) (by rw[az];rfl) _ v aa
  rwa[pX] at this
end
section
variable {P:Program} {aU:dd} {N:Nat} {ids:List Nat} {o:Oper} {K:a1} {B:ay} {k:aQ->fP->Prop} {C:e8} {ρ:Nat->bo} {F:Nat->Nat->Prop} {w w':World}
theorem Ev {b:Nat} {cs:Array Value} {S:Nat->Prop} (av:S b):cJ S w (w.setRow b cs):=
 ⟨rfl,rfl,rfl,by simp[World.setRow],fun j _ hn=>setRow_other w b j cs (fun e=>hn (by rw[e];exact av))⟩
theorem OP {p q:Option Prop} (h:tW (Ib p q)):tW p/\tW q:=by
 cases p <;>cases q <;>first |exact⟨trivial,trivial⟩ |exact⟨trivial,h⟩ |exact⟨h,trivial⟩ |exact h
def qY {α:Type} (u:bx) (f:List bC->Option (α×List bC×Option Prop)) (g:α->Z u):Prop:= ∀(ρ:Nat->bo) (I:Nat->Prop) (w:World) (l:List bC) (x:α) (l':List bC) (p:Option Prop),f l=some (x,l',p)->tW p-> ∀aD,b' ρ I w l aD->
 ∃nJ s5,aD=nJ++s5/\nJ.length=aS u/\cp I w u (g x) (fun j=>nJ[j]?)/\b' ρ I w l' s5/\ ∀v∈nJ,v.oneCell'=true
theorem XS (k:IntKind):qY (.int k) (Ic k) (fun x=>x):=by
 intro ρ I w l x l' p h ag aD az;unfold Ic at h
 split at h
 .rename_i dU n l
  split at h
  .rename_i ab;have:=nH ab;subst this;simp only[ap4,at3] at h;obtain⟨rfl,rfl,rfl⟩:=h;obtain⟨v,r,rfl,E,G⟩:=az;have E:v= .int dU n:=E;subst E;exact⟨[.int dU n],r,rfl,rfl,rfl,G,by simp[Value.oneCell']⟩
  .cases h
 .cases h
theorem XT:qY .u8 Id (fun x=>x):=by
 intro ρ I w l x l' p h ag aD az;unfold Id at h
 split at h
 .rename_i dU n l
  split at h
  .rename_i ab;have:=nH ab;subst this;simp only[ap4,at3] at h;obtain⟨rfl,rfl,rfl⟩:=h;obtain⟨v,r,rfl,E,G⟩:=az;have E:v= .int .u8 n:=E;subst E;have ag:0<=n/\n < 256:=ag;refine⟨[.int .u8 n],r,rfl,rfl,?_,G,by simp[Value.oneCell']⟩;show some (Value.int .u8 n)=some (Value.int .u8 ((UInt8.ofNat n.toNat).toNat:Int))
   congr 2
   rw[UInt8.toNat_ofNat'];omega
  .cases h
 .cases h
theorem XU:qY .bool Ie (fun x=>x):=by
 intro ρ I w l x l' p h ag aD az;unfold Ie at h
 split at h
 all_goals first |(cases h;done) |skip
 all_goals
  rename_i b l;simp only[ap4,at3] at h;obtain⟨rfl,rfl,rfl⟩:=h;obtain⟨v,r,rfl,E,G⟩:=az;have E:v= .bool b:=E;subst E;exact⟨[.bool b],r,rfl,rfl,rfl,G,by simp[Value.oneCell']⟩
theorem XV:qY .str If (fun x=>x):=by
 intro ρ I w l x l' p h ag aD az;unfold If at h
 split at h
 .rename_i s l;simp only[ap4,at3] at h;obtain⟨rfl,rfl,rfl⟩:=h;obtain⟨v,r,rfl,E,G⟩:=az;have E:v= .string ⟨s.toArray⟩:=E;subst E;exact⟨[_],r,rfl,rfl,rfl,G,by simp[Value.oneCell']⟩
 .cases h
theorem XW:qY .dC Ih (fun x=>x):=by
 intro ρ I w l x l' p h ag aD az;unfold Ih at h
 split at h
 .rename_i s l;simp only[ap4,at3] at h;obtain⟨rfl,rfl,rfl⟩:=h;obtain⟨v,r,rfl,E,G⟩:=az;have E:v=qP s:=E;subst E;refine⟨[_],r,rfl,rfl,rfl,G,?_⟩;rcases s with _ |⟨b,n,c⟩ <;>simp[Value.oneCell',qP]
 .rename_i l;simp only[ap4,at3] at h;obtain⟨rfl,rfl,rfl⟩:=h;obtain⟨v,r,rfl,E,G⟩:=az;have E:v= .slice none 0 0:=E;subst E;exact⟨[_],r,rfl,rfl,rfl,G,by simp[Value.oneCell']⟩
 .cases h
theorem OQ {ρ:Nat->bo} {I:Nat->Prop} {w:World}: ∀{m:List kF} {bs:List Nat} {aD:List Value},A3 m=some bs->hM ρ I w m aD->aD=qQ bs
 | [],bs,aD,h,az=>by
  unfold A3 at h;injection h with h
  rw[<-h];exact az
 |c::m,bs,aD,h,az=>by
  unfold A3 at h
  split at h
  .rename_i e;cases e
  .rename_i b l e;injection e with aj ap
   subst aj ap
   split at h
   .rename_i r aF;injection h with h
    subst h;obtain⟨v,t,e,E,G⟩:=az;have E:v= .pointer (some ⟨b,0,none⟩):=E;rw[e,E,OQ aF G];rfl
   .cases h
  .cases h
theorem XX:qY .fn Ii (fun x=>x):=by
 intro ρ I w l x l' p h ag aD az;unfold Ii at h
 split at h
 .rename_i s l;simp only[ap4,at3] at h;obtain⟨rfl,rfl,rfl⟩:=h;obtain⟨v,r,rfl,E,G⟩:=az;have E:v=mo s:=E;subst E;exact⟨[_],r,rfl,rfl,rfl,G,by simp[Value.oneCell',mo]⟩
 .rename_i f m l
  split at h
  .rename_i bs XY;simp only[ap4,at3] at h;obtain⟨rfl,rfl,rfl⟩:=h;obtain⟨v,r,rfl,⟨us,e,H⟩,G⟩:=az;have ua:=OQ XY H;subst e ua;exact⟨[_],r,rfl,rfl,rfl,G,by simp[Value.oneCell']⟩
  .cases h
 .cases h
theorem XZ:qY .aM Ig (fun x=>x):=by
 intro ρ I w l x l' p h ag aD az;unfold Ig at h
 split at h
 .rename_i s l;simp only[ap4,at3] at h;obtain⟨rfl,rfl,rfl⟩:=h;obtain⟨v,r,rfl,E,G⟩:=az;have E:v= .pointer (nC s):=E;subst E;exact⟨[_],r,rfl,rfl,rfl,G,by simp[Value.oneCell']⟩
 .rename_i l;simp only[ap4,at3] at h;obtain⟨rfl,rfl,rfl⟩:=h;obtain⟨v,r,rfl,E,G⟩:=az;have E:v= .pointer none:=E;subst E;exact⟨[_],r,rfl,rfl,rfl,G,by simp[Value.oneCell']⟩
 .cases h
theorem X0 (u:bx):qY (.b7 u) (Ij u) (fun x=>x):=by
 intro ρ I w l x l' p h ag aD az;unfold Ij at h
 split at h
 .rename_i l;simp only[ap4,at3] at h;obtain⟨rfl,rfl,rfl⟩:=h;obtain⟨v,r,rfl,E,G⟩:=az;have E:v= .slice none 0 0:=E;subst E;exact⟨[_],r,rfl,rfl,⟨none,0,rfl,ap0 _,au6,fun h=>absurd h au7⟩,G,by simp[Value.oneCell']⟩
 .rename_i v xs l
  split at h
  .rename_i V _;subst V;simp only[ap4,at3] at h;obtain⟨rfl,rfl,rfl⟩:=h;obtain⟨v,r,rfl,E,G⟩:=az;have E:cp I w (.b7 _) xs (fun _=>some v):=E;refine⟨[v],r,rfl,rfl,?_,G,?_⟩
   .obtain⟨A,cap,e,al⟩:=E;exact⟨A,cap,e,al⟩
   .obtain⟨A,cap,e,al⟩:=E;injection e with e
    subst e;simp[Value.oneCell']
  .cases h
 .cases h
theorem X1 {u v:bx} (E:qY u (nE u) (fun x=>x)) (G:qY v (nE v) (fun x=>x)):qY (.bR u v) (nE (.bR u v)) (fun x=>x):=by
 intro ρ I w l x l' p h ag aD az;unfold nE at h
 cases aj:nE u l with
 |none=>simp only[aj] at h;cases h
 |some t=>
  obtain⟨y,iU,dY⟩:=t;simp only[aj] at h
  cases ap:nE v iU with
  |none=>simp only[ap] at h;cases h
  |some t=>
   obtain⟨aB,gM,cR⟩:=t;simp only[ap,ap4,at3] at h;obtain⟨rfl,rfl,rfl⟩:=h;obtain⟨cx,cA⟩:=OP ag;obtain⟨nJ,r1,rfl,g1,g2,cX,jo⟩:=E ρ I w l y iU dY aj cx aD az;obtain⟨s5,r2,rfl,cf,cM,eb,eA⟩:=G ρ I w iU aB _ cR ap cA r1 cX;refine⟨nJ++s5,r2,au7,by simp[aS,g1,cf],⟨?_,?_⟩,eb,fun x hx=>(aq8.1 hx).elim (jo x) (eA x)⟩
   .refine cp.mk u y _ (cp.wf u y _ g2) fun j aa=>?_
    obtain⟨x,hx,J⟩:=cp.cell u y _ j g2 aa;exact⟨x,by rw[ar7 au5];exact hx,J⟩
   .refine cp.mono (cd.refl _ _) v aB _ _ (fun j x aa=>?_) cM;show(nJ++s5)[aS u+j]? =some x;rw[ar9 au5,show aS u+j - nJ.length=j by omega];exact aa
theorem y0: ∀u:bx,qY u (nE u) (fun x=>x)
 | .int k=>XS k
 | .u8=>XT
 | .bool=>XU
 | .str=>XV
 | .aM=>XZ
 | .dC=>XW
 | .fn=>XX
 | .b7 u=>X0 u
 | .bR u v=>X1 (y0 u) (y0 v)
 | .arr n u=>fun ρ I w l x l' p h=>by unfold nE at h;cases h
theorem IL {ρ:Nat->bo} {I:Nat->Prop} {w:World} (u:bx): ∀(n:Nat) (l:List bC) (xs:List (Z u)) (p:Option Prop),wW u n l=some (xs,p)->tW p-> ∀aD,b' ρ I w l aD->xs.length=n/\aD.length=n*aS u/\gK I w u xs aD/\ ∀v∈aD,v.oneCell'=true
 |0,l,xs,p,h,ag,aD,az=>by
  unfold wW at h
  split at h
  .simp only[ap4,at3] at h;obtain⟨rfl,rfl⟩:=h;rw[show aD=[] from az];exact⟨rfl,au7,gK.nil u,au7⟩
  .cases h
  .rename_i e;cases e
 |n+1,l,xs,p,h,ag,aD,az=>by
  unfold wW at h
  cases aj:nE u l with
  |none=>simp only[aj] at h;cases h
  |some t=>
   obtain⟨y,iU,dY⟩:=t;simp only[aj] at h
   cases ap:wW u n iU with
   |none=>simp only[ap] at h;cases h
   |some t=>
    obtain⟨ys,cR⟩:=t;simp only[ap,ap4,at3] at h;obtain⟨rfl,rfl⟩:=h;obtain⟨cx,cA⟩:=OP ag;obtain⟨nJ,r1,rfl,g1,g2,cX,jo⟩:=y0 u ρ I w l y iU dY aj cx aD az;obtain⟨cf,cM,eb,eA⟩:=IL u n iU ys cR ap cA r1 cX;refine⟨by simp[cf],by simp[g1,cM,Nat.succ_mul,Nat.add_comm],?_,fun x hx=>(aq8.1 hx).elim (jo x) (eA x)⟩
    have:gK I w u [y] nJ:=fun i x hx=>by
     match i with
     |0=>
      simp only[aq5,ap4] at hx;subst hx;exact cp.mono (cd.refl _ _) u y _ _ (fun j v aa=>by simpa using aa) g2
     |i+1=>simp at hx
    exact gK.t7 this eb (by simpa using g1)
theorem X2 (bn:d6 P aU) {T:TypeId} {x v:Operand} (ai:o.op= .store T x v) (h:match aU.find T with
  |some ti=>match a7 K x with
   | .c (.one (.ptr c o))=>match ah B c with
    |some (.cells l)=>match vr (a7 K v) with
     |some cs=>match Nat.beq cs.length ti.size,Nat.ble (o+cs.length) l.length with
      |true,true=>ph (A2 l o cs) fun l=>k .undef ⟨[c],[],[(c,some (.cells l))]⟩
      |_,_=>False
     |none=>False
    |_=>False
   | .c (.one (.f1 c s i o))=>match ah B c with
    |some (.row e u xs)=>match Nat.beq (aS u) 1,Nat.beq s 1,Nat.beq o 0,Nat.beq ti.size 1,a7 K v with
     |true,true,true,true,.c (.one pi)=>match nE u [pi] with
      |some (y,[],p)=>(tW p/\i < xs.length)/\k .undef ⟨[c],[],[(c,some (.row e u (xs.set i y)))]⟩
      |_=>False
     |_,_,_,_,_=>False
    |_=>False
   |_=>False
  |none=>False):cC P N ids o K B k:=by
 have m1:x∈o.op.operands:=by rw[ai];simp[Op.operands]
 have m2:v∈o.op.operands:=by rw[ai];simp[Op.operands]
 split at h
 .rename_i ti gz;obtain⟨c7,d,bu⟩:=bn.at_ gz
  split at h
  .rename_i c p H
   split at h
   .rename_i l aq
    split at h
    .rename_i cs gj
     split at h
     .rename_i E G;have E:=ap6 E;have G:=Nat.le_of_ble_eq_true G;rw[yO] at h;refine cC.of h <| bB.hN aq fun K' B' aj C ρ F a w ar av f4=>?_
      obtain⟨bj,aD,eT,O,J⟩:=ar.holds c _ f4;have az:=av.get v;rw[aj v m2] at az;obtain⟨us,X3,Ew,X4⟩:=IJ gj az;have b6:=b'.length _ _ Ew;have OR:=b'.length _ _ J;refine⟨_,Ba ai (av.ptr ((aj x m1).trans H)) X3 bu.jF (by rw[b6,E];exact bu.size) O au5 X4,Ev ((bj _).2 rfl),fun I V=>⟨bj,_,eT,setRow_heap w _ _ _ eT _ O,?_⟩⟩;exact b'.splice (b'.mono V _ _ (fun _ _=>rfl) J) (b'.mono V _ _ (fun _ _=>rfl) Ew)
     .exact h.elim
    .exact h.elim
   .exact h.elim
  .rename_i c s i p H
   split at h
   .rename_i e u xs aq
    split at h
    .rename_i pi kN bD ub Be vw
     split at h
     .rename_i y q X5;have kN:=ap6 kN;have bD:=ap6 bD;have ub:=ap6 ub;subst bD ub;obtain⟨⟨aV,aI⟩,h⟩:=h;refine cC.of h <| bB.hN aq fun K' B' aj C ρ F a w ar av f4=>?_
      obtain⟨bj,jI,cs,du,jJ⟩:=ar.holds c _ f4;have az:=av.get v;rw[aj v m2,vw] at az;have IM:=av.f1 ((aj x m1).trans H);obtain⟨nJ,s5,c0,g1,g2,cX,jo⟩:=y0 u ρ _ w [pi] y [] q X5 aV [a.eval v] ⟨_,[],rfl,az,rfl⟩;have b6:nJ.length=1:=by rw[g1,kN]
      obtain rfl:nJ=[a.eval v]:=by
       match nJ,b6 with
       | [aB],_=>simp at c0;rw[c0.1]
      have rV:=jo (a.eval v) au7
      have wQ:(a.eval v).cells=List.toArray [a.eval v]:=by
       cases hx:a.eval v <;>first |rfl |(rw[hx] at rV;simp[Value.oneCell'] at rV)
      have OS:=du;obtain⟨pZ,du⟩:=du;rcases du with⟨_,aw⟩ |⟨g,cap,c8,oE,_,a6,w6,aA,cQ,cr⟩
      .omega
      .have y1:g=(ρ c).bk:=jI g (by rw[oE];rfl);subst y1;rw[kN,Nat.mul_one] at cQ cr pZ;have uc:w.heap[(ρ c).bk]? =some (.cells (List.toArray c8.toList) e (0,0)):=by simpa using a6
       have k1:i*1+0+ [a.eval v].length<=c8.toList.length:=by simp;omega
       have ud:=Ba (P:=P) (ev:=a.eval) (w:=w) ai IM wQ bu.jF (by rw[bu.size,ap6 Be];rfl) uc k1 (by simpa using rV);refine⟨_,ud,Ev ((bj _).2 (by rw[oE];rfl)),fun I V=>?_⟩;have oF:=setRow_heap w (ρ c).bk c8 (List.take (i*1+0) c8.toList++[a.eval v]++List.drop (i*1+0+ [a.eval v].length) c8.toList).toArray e (0,0) a6
       have gN:(List.take (i*1+0) c8.toList++[a.eval v]++List.drop (i*1+0+ [a.eval v].length) c8.toList)=c8.toList.set i (a.eval v):=by
        rw[List.set_eq_take_append_cons_drop,if_pos (by simp;omega)];simp
       rw[gN] at oF;refine⟨bj,jI,cs.set i (a.eval v),⟨by simp[pZ,kN],.inr ⟨(ρ c).bk,cap,_,by rw[oE];simp,ap7 _,by rw[gN];exact oF,by simpa using w6,aA,by simp[cQ,kN],?_⟩⟩,fun j aB aR=>?_⟩
       .rw[<-cr];simp[kN,List.take_set]
       .by_cases kO:i=j
        .subst kO;rw[List.getElem?_set_self aI] at aR;injection aR with aR
         subst aR;refine cp.mono V u y _ _ (fun q x hx=>?_) g2
         match q with
         |0=>
          rw[kN,Nat.mul_one,Nat.add_zero,List.getElem?_set_self au5];simpa using hx
         |q+1=>simp at hx
        .rw[List.getElem?_set_ne kO] at aR;have J:=jJ j aB aR;refine cp.mk u aB _ (cp.wf u aB _ J) fun q aV=>?_
         obtain⟨x,hx,pk⟩:=cp.cell u aB _ q J aV;refine⟨x,?_,gE.mono V _ _ pk⟩;rw[kN] at aV⊢;rw[kN] at hx;rw[List.getElem?_set_ne au5];exact hx
     .exact h.elim
    .exact h.elim
   .exact h.elim
  .exact h.elim
 .exact h.elim
end
end
section
section
variable {P:Program} {aU:dd} {N:Nat} {ids:List Nat} {o:Oper} {K:a1} {B:ay} {k:aQ->fP->Prop}
theorem OT {ρ:Nat->bo} {I:Nat->Prop} {w:World} {v:Value} {s:bC} (h:IC v s=true):dS ρ I w s v/\v.oneCell'=true:=by
 unfold IC at h
 split at h
 .rename_i k n dU n';simp only[vj,ar5] at h;have:=nH h.1;subst this;rw[h.2];exact⟨rfl,rfl⟩
 .rename_i b dZ;rw[show b=dZ by simpa using h];exact⟨rfl,rfl⟩
 .rename_i s l;have h:s.data.toList=l:=by simpa using h
  subst h;exact⟨by simp[dS,gE],rfl⟩
 .exact⟨rfl,rfl⟩
 .exact⟨rfl,rfl⟩
 .exact⟨rfl,rfl⟩
 .exact⟨rfl,rfl⟩
 .exact⟨rfl,rfl⟩
 .cases h
theorem vx {ρ:Nat->bo} {I:Nat->Prop} {w:World}: ∀(aD:List Value) (l:List bC),s2 aD l=true->b' ρ I w l aD/\ ∀u∈aD,u.oneCell'=true
 | [],[],_=>⟨rfl,au7⟩
 |v::aD,s::l,h=>by
  simp only[s2,vj] at h;obtain⟨E,G⟩:=OT (ρ:=ρ) (I:=I) (w:=w) h.1;obtain⟨al,aZ⟩:=vx (ρ:=ρ) (I:=I) (w:=w) aD l h.2;exact⟨⟨v,aD,rfl,E,al⟩,fun u a8=>(ap3.1 a8).elim (fun e=>e▸G) (aZ u)⟩
 | [],_::_,h=>by simp[s2] at h
 |_::_,[],h=>by simp[s2] at h
theorem OU {c d p:Nat} (h:aQ.has d (.c (.one (.ptr c p)))=true):d=c:=(ap6 h).symm
theorem Bf {c d:Nat} (h:aQ.has d (.c (.one (.own c)))=true):d=c:=(ap6 h).symm
theorem X6 (bn:d6 P aU) {T:TypeId} (ai:o.op= .alloc T) (h:match aU.find T,o.dst with
  |some ti,some d=>gW ids K B d=true/\k (.c (.one (.ptr d 0))) ⟨[],[d],[(d,some (.cells ti.zero))]⟩
  |_,_=>False):cC P N ids o K B k:=by
 split at h
 .rename_i ti d gz J;obtain⟨i,ds,bu⟩:=bn.at_ gz;obtain⟨aB,aR,mx⟩:=bu.zero;refine cC.bf h.2 h.1 <| bB.make (fun d h=>OU h) fun K' B' E G C ρ F a w ar av hn=>?_
  refine⟨_,_,⟨w.heap.size,none,0,0⟩,fun b=>b=w.heap.size,(by
   simp[execOp,ai,Instr.alloc,zeroValue,typeInfo,bu.jF,aR,newVar,newRow];rfl),sU w _,fun b O=>by subst O;exact⟨ap0 _,au7⟩,fun I V O=>⟨⟨fun b=>Iff.rfl,aB.cells.toList,T,H1 _ rfl,(vx _ _ mx).1⟩,?_⟩⟩
  simp only[ct,gy,dS,c6]
 .exact h.elim
theorem X7 (bn:d6 P aU) {T:TypeId} {x:Operand} (ai:o.op= .box T x) (h:match aU.find T,o.dst,vr (a7 K x) with
  |some ti,some d,some l=>match Nat.beq l.length ti.size with
   |true=>gW ids K B d=true/\k (.c (.one (.ptr d 0))) ⟨[],[d],[(d,some (.cells l))]⟩
   |false=>False
  |_,_,_=>False):cC P N ids o K B k:=by
 have m1:x∈o.op.operands:=by rw[ai];simp[Op.operands]
 split at h
 .rename_i ti d l gz J aq
  split at h
  .refine cC.bf h.2 h.1 <| bB.make (fun d h=>OU h) fun K' B' E G C ρ F a w ar av hn=>?_
   have az:=av.get x;rw[E x m1] at az;obtain⟨aD,aj,ap,bm⟩:=IJ aq az
   refine⟨_,_,⟨w.heap.size,none,0,0⟩,fun b=>b=w.heap.size,(by
    simp[execOp,ai,Instr.box,newVar,newRow,aj];rfl),sU w _,fun b O=>by subst O;exact⟨ap0 _,au7⟩,fun I V O=>⟨⟨fun b=>Iff.rfl,aD,T,H1 _ rfl,?_⟩,?_⟩⟩
   .refine b'.mono V l aD (fun c H=>?_) ap;refine de _ _ fun e=>?_
    subst e
    have bl:(a7 K x).has c=true:=by
     unfold vr at aq
     split at aq
     .rename_i hx
      split at aq
      .injection aq with aq;subst aq;rw[hx];simpa[aQ.has,dI.has,mq] using H
      .cases aq
     .rename_i hx
      split at aq
      .injection aq with aq;subst aq;rw[hx];simpa[aQ.has,dI.has] using H
      .cases aq
     .cases aq
    rw[<-E x m1] at bl
    cases x with
    |tmp t=>have:=hn t;simp only[a7] at bl;rw[this] at bl;cases bl
    |const v=>
     have ls: ∀u:Value,(vq u).has c=false:=fun u=>by unfold vq;split <;>rfl
     have dJ: ∀us:List Value,mq c (us.map vq)=false:=fun us=>by induction us with
      |nil=>rfl
      |cons u us br=>simp[mq,ls,br]
     simp only[a7] at bl;unfold DY at bl
     split at bl <;>simp[aQ.has,dI.has,ls,dJ] at bl
    |func f=>simp[a7,aQ.has,dI.has,bC.has,lY] at bl
    |global g=>simp[a7,aQ.has,dI.has,bC.has] at bl
   .simp only[ct,gy,dS,c6]
  .exact h.elim
 .exact h.elim
theorem OV: ∀(us:List Value) (off j:Nat) (p m s:List Value),p.length=off+j->m.length=us.length->
  (us.zipIdx j).foldl (fun cs p=>cs.setIfInBounds (off+p.2) p.1) (p++m++s).toArray=(p++us++s).toArray
 | [],off,j,p,m,s,ag,aA=>by
  rw[show m=[] from List.eq_nil_of_length_eq_zero (by simpa using aA)];simp
 |u::us,off,j,p,[],s,ag,aA=>by simp at aA
 |u::us,off,j,p,x::m,s,ag,aA=>by
  simp only[List.zipIdx_cons,List.foldl_cons]
  have e:(p++x::m++s).toArray.setIfInBounds (off+j) u=((p++[u])++m++s).toArray:=by
   rw[List.setIfInBounds_toArray,<-ag];simp
  rw[e,OV us off (j+1) (p++[u]) m s (by simp;omega) (by simpa using aA)];simp
theorem X8 (us aD:List Value) (off:Nat) (h:off+us.length<=aD.length):
  (us.zipIdx).foldl (fun cs p=>cs.setIfInBounds (off+p.2) p.1) aD.toArray=(aD.take off++us++aD.drop (off+us.length)).toArray:=by
 have e:aD=aD.take off++(aD.drop off).take us.length++aD.drop (off+us.length):=by
  rw[as6,<-List.drop_drop,List.take_append_drop,List.take_append_drop]
 have:=OV us off 0 (aD.take off) ((aD.drop off).take us.length) (aD.drop (off+us.length)) (by simp;omega) (by simp;omega);rw[<-e] at this;exact this
theorem IN {K':a1} {ρ:Nat->bo} {I:Nat->Prop} {a:Act} {w:World} (av:ee K' ρ I a w) {mt place:Nat->Option (Nat×Nat)} (g': ∀i d n,mt i=some (d,n)->place i=some (d,n)):
  ∀(bE:List (Nat×Operand)) (l l':List bC) (aD:List Value),(∀p∈bE,a7 K' p.2=a7 K p.2)->vs K mt bE l=some l'->b' ρ I w l aD->(∀u∈aD,u.oneCell'=true)->
   ∃rW,Instr.fill place (List.toArray aD) (bE.map fun p=>(p.1,a.eval p.2))=some (List.toArray rW)/\b' ρ I w l' rW/\ ∀u∈rW,u.oneCell'=true
 | [],l,l',aD,_,h,az,E=>by
  simp only[vs,ap4] at h;subst h;exact⟨aD,rfl,az,E⟩
 |(i,x)::bE,l,l',aD,di,h,az,E=>by
  unfold vs at h
  split at h
  .rename_i d n cs J gj
   split at h
   .rename_i aj ap;have aj:=ap6 aj;have ap:=Nat.le_of_ble_eq_true ap;have hx:=av.get x;rw[di (i,x) au7] at hx;obtain⟨us,g1,g2,cX⟩:=IJ gj hx;have cx:=b'.length _ _ g2;have cA:=b'.length _ _ az
    obtain⟨rW,cf,cM,eb⟩:=IN av g' bE _ l' (aD.take d++us++aD.drop (d+us.length)) (fun p ag=>di p (by simp[ag])) h (b'.splice az g2) (fun u a8=>by
     simp only[aq8] at a8;rcases a8 with(a8 |a8) |a8
     .exact E u (List.mem_of_mem_take a8)
     .exact cX u a8
     .exact E u (List.mem_of_mem_drop a8))
    refine⟨rW,?_,cM,eb⟩;rw[<-cf];simp only[aq4,Instr.fill,g' i d n J,g1];have hf:=X8 us aD d au5;rw[if_neg (by simp;omega)]
    congr 1
    rw[<-hf,<-Array.foldl_toList,Array.toList_zipIdx]
   .cases h
  .cases h
theorem X9 {fs:List Field} {l:List (Nat×Nat)} (h:qW P fs l=true):fs.mapM (fun f=>(P.info? f.type).map fun i=>(f.offset,i.size))=some l:=by
 induction fs generalizing l with
 |nil=>cases l with
  |nil=>rfl
  |cons _ _=>simp[qW] at h
 |cons f fs br=>cases l with
  |nil=>simp[qW] at h
  |cons p l=>
   obtain⟨d,n⟩:=p;simp only[qW,vj] at h;obtain⟨⟨⟨E,G⟩,_⟩,aZ⟩:=h
   split at G
   .rename_i i aI;have G:=ap6 G;have E:=ap6 E;simp[List.mapM_cons,aI,br aZ,E,G]
   .cases G
theorem X' (bn:d6 P aU) {T:TypeId} {bE:Array (Nat×Operand)} (ai:o.op= .build T bE) (h:match aU.find T with
  |some ti=>match ti.kd,vs K (fun f=>ti.mt[f]?) bE.toList ti.zero with
   | .st,some l=>ph l fun l=>k (.c (.agg l)) bG
   |_,_=>False
  |none=>False):cC P N ids o K B k:=by
 split at h
 .rename_i ti gz;obtain⟨i,d,bu⟩:=bn.at_ gz;obtain⟨aB,aR,mx⟩:=bu.zero
  split at h
  .rename_i l ab aq;rw[yO] at h;refine cC.of h <| bB.val fun K' B' E G C ρ F a w ar av=>?_
   obtain⟨kj,qZ⟩:=vx (ρ:=ρ) (I:=bZ C B' F w) (w:=w) _ _ mx;obtain⟨rW,h1,jn,f3⟩:=IN (K:=K) av (mt:=fun f=>ti.mt[f]?) (place:=fun f=>ti.mt[f]?) (fun i d n aI=>aI) bE.toList _ _ _ (fun p ag=>E p.2 (by rw[ai];simp only[Op.operands];simpa using⟨p.1,by simpa using ag⟩)) aq kj qZ;refine⟨.agg (List.toArray rW),?_,rW,rfl,jn⟩
   have Ya:P.built T (bE.toList.map fun p=>(p.1,a.eval p.2))=some (List.toArray rW):=by
    unfold Program.built;rw[bu.jF,bu.nI];obtain⟨fs,_,s6⟩:=bu.st ab;have:=X9 (bu.mt fs s6);subst s6;simp only[aR,this];simpa using h1
   unfold execOp;simp only[ai,Sem.run_bind,run_build w T _ _ (show P.built T ((bE.map fun p=>(p.1,a.eval p.2)).toList)=_ by simpa using Ya),Result.andThen_ok];rfl
  .exact h.elim
 .exact h.elim
end
end
section
section
variable {P:Program} {aU:dd} {N:Nat} {ids:List Nat} {o:Oper} {K:a1} {B:ay} {k:aQ->fP->Prop}
theorem pm (bn:d6 P aU) {T e:Nat} {te:cb} (h:elemOf aU T=some (e,te)):P.underlying T=some (.slice e)/\ ∃i d,l1 P e te i d:=by
 unfold elemOf at h
 split at h
 .rename_i ti gz
  split at h
  .rename_i b5 ab
   split at h
   .rename_i aoF vy;injection h with h
    injection h with E G
    subst E G;obtain⟨_,_,bu⟩:=bn.at_ gz;exact⟨bu.b7 ab,bn.at_ vy⟩
   .cases h
  .cases h
 .cases h
theorem Ex (bn:d6 P aU) {T:Nat} (h:w0 aU T=true):P.underlying T=some .string:=by
 unfold w0 at h
 split at h
 .rename_i ti gz
  split at h
  .rename_i ab;obtain⟨_,_,bu⟩:=bn.at_ gz;exact bu.str ab
  .cases h
 .cases h
theorem w7 (bn:d6 P aU) {T:Nat} (h:qV aU T=true):P.underlying T=some (.int .u8)/\ ∃ti i d,l1 P T ti i d/\ti.zero=[.d (.int .u8 0)]/\ti.size=1/\ti.bytes=1:=by
 unfold qV at h
 split at h
 .rename_i ti gz
  split at h
  .rename_i ab aR ax O;obtain⟨i,d,bu⟩:=bn.at_ gz;exact⟨bu.int ab,ti,i,d,bu,aR,ax,O⟩
  .cases h
 .cases h
def rX (n:Nat) (l:List Value):List Value:=match n with
 |0=>[]
 |n+1=>l++rX n l
theorem Yb (n:Nat) (l:List Value):(rX n l).length=n*l.length:=by
 induction n with
 |zero=>simp[rX]
 |succ n br=>simp[rX,br,Nat.succ_mul,Nat.add_comm]
theorem Yc (n:Nat) (l:List Value): ∀j,j < n*l.length->(rX n l)[j]? =l[j % l.length]? :=by
 induction n with
 |zero=>intro j aa;simp at aa
 |succ n br=>
  intro j aa;unfold rX
  by_cases h:j < l.length
  .rw[ar7 h,Nat.mod_eq_of_lt h]
  .rw[ar9 au5,br _ (by rw[Nat.succ_mul] at aa;omega),Nat.mod_eq_sub_mod (a:=j) au5]
theorem Yd {ρ:Nat->bo} {I:Nat->Prop} {w:World} (n:Nat) {l:List bC} {aD:List Value} (h:b' ρ I w l aD):b' ρ I w (D8 n l) (rX n aD):=by
 induction n with
 |zero=>rfl
 |succ n br=>exact b'.t7 _ _ _ _ h br
theorem Ye {n:Nat} {l:List Value} {v:Value} (h:v∈rX n l):v∈l:=by
 induction n with
 |zero=>simp[rX] at h
 |succ n br=>exact(aq8.1 h).elim id br
theorem Yf (aB:Array Value) (n:Nat) (aR:0 < aB.size):(Array.range (n*aB.size)).map (aB[· % aB.size]!)=(rX n aB.toList).toArray:=by
 apply Array.ext';simp only[Array.toList_map,List.toList_toArray];apply List.ext_getElem?;intro j
 by_cases aa:j < n*aB.size
 .rw[Yc n aB.toList j (by simpa using aa)];simp only[Array.length_toList];have aA:j % aB.size < aB.size:=Nat.mod_lt _ aR;simp[aa,aA]
 .rw[at6 (by simp;omega),at6 (by rw[Yb];simp;omega)]
theorem Yg {w:World} {l:List Value} {e:TypeId} {j:Nat} {v:Value} (h:l[j]? =some v):(w.alloc (.cells (List.toArray l) e)).cell? ⟨w.heap.size,j,none⟩=some v:=
 oD (T:=e) (heap_alloc_new w _) h
theorem Yh {I:Nat->Prop} {w:World} {u:bx} {xs:List (Z u)} {cs:List Value} {e:TypeId} {cap:Nat} (aF:gK I (w.alloc (.cells (List.toArray cs) e)) u xs cs) (bb:I w.heap.size) (H:xs.length<=cap) (aA:cap<=maxLen):
  cp I (w.alloc (.cells (List.toArray cs) e)) (.b7 u) xs (fun _=>some (.slice (some ⟨w.heap.size,0,none⟩) xs.length cap)):=
 ⟨_,cap,rfl,H,aA,fun _=>⟨_,0,rfl,bb,fun i x hx=>cp.mono (cd.refl _ _) u x _ _ (fun j v aa=>by
  simp only[Nat.zero_add];exact Yg aa) (aF i x hx)⟩⟩
theorem Ey (w:World) (e s n:Nat) (cs:List Value) (aq:cs.length=n*s) (aA:n<=maxLen):(w.alloc (.cells (List.toArray cs) e)).ownsRow 0 e s (.slice (some ⟨w.heap.size,0,none⟩) n n) n cs:=
 ⟨aq,.inr ⟨_,n,_,rfl,ap7 _,heap_alloc_new w _,ap0 _,aA,by simpa using aq,by simp[<-aq]⟩⟩
theorem Yi (bn:d6 P aU) {T:TypeId} {bE:Array (Nat×Operand)} (ai:o.op= .buildSlice T 0 bE) (h:match elemOf aU T,o.dst with
  |some (e,te),some d=>match te.u with
   |some u=>gW ids K B d=true/\k (.c (.one (.own d))) ⟨[],[d],[(d,some (.row e u []))]⟩
   |none=>False
  |_,_=>False) (lu:bE.toList=[]):cC P N ids o K B k:=by
 split at h
 .rename_i e te d V J;obtain⟨a8,c7,ds,bu⟩:=pm bn V
  split at h
  .rename_i u vy;refine cC.bf h.2 h.1 <| bB.make (fun d h=>Bf h) fun K' B' E G C ρ F a w ar av hn=>?_
   have Yj:bE= #[]:=Array.toList_eq_nil_iff.1 lu;refine⟨.slice (some ⟨w.heap.size,0,none⟩) 0 0,w.alloc (.cells #[] e),⟨w.heap.size,some ⟨w.heap.size,0,none⟩,0,0⟩,fun b=>b=w.heap.size,?_,sU w _,fun b O=>by subst O;exact⟨ap0 _,au7⟩,fun I V O=>⟨⟨?_,?_,[],?_,gK.nil u⟩,?_⟩⟩
   .subst Yj;simp[execOp,ai,Instr.buildSlice,run_underlying a8,sizeOf,typeInfo,bu.jF,Instr.fill,newRow];rw[show(Array.range 0)= #[] from rfl];simp
   .intro b;simp[bo.er,Value.ownBlock,eq_comm]
   .intro b O;simp[bo.er,Value.ownBlock] at O;exact O.symm
   .exact Ey w e (aS u) 0 [] au7 au6
   .simp only[ct,gy,dS,c6,bo.er]
  .exact h.elim
 .exact h.elim
theorem Yk (bn:d6 P aU) {T n:Nat} {bE:Array (Nat×Operand)} (ai:o.op= .buildSlice T n bE) (w8:n≠0) (h:match elemOf aU T with
  |some (_,te)=>match te.u with
   |some u=>match Nat.ble (n*te.size) 1000,vs K (fun i=>some (i*te.size,te.size)) bE.toList (D8 n te.zero) with
    |true,some l=>match wW u n l with
     |some (xs,none)=>k (.c (.one (.d (.ck u xs)))) bG
     |some (xs,some p)=>p/\k (.c (.one (.d (.ck u xs)))) bG
     |none=>n=1/\ ∃y:Z u,(ow u y/\l=gh u y 0 (aS u))/\k (.c (.one (.d (.ck u [y])))) bG
    |_,_=>False
   |none=>False
  |none=>False):cC P N ids o K B k:=by
 split at h
 .rename_i e te V;obtain⟨a8,c7,ds,bu⟩:=pm bn V;obtain⟨aB,aR,mx⟩:=bu.zero
  split at h
  .rename_i u vy
   split at h
   .rename_i l gY aq;have gY:=Nat.le_of_ble_eq_true gY
    have rY: ∀xs:List (Z u),(∀(ρ:Nat->bo) (I:Nat->Prop) (w:World) (aD:List Value),b' ρ I w l aD->xs.length=n/\aD.length=n*aS u/\gK I w u xs aD)->bB P N ids o K B (.c (.one (.d (.ck u xs)))) bG:=fun xs hm=>bB.new fun K' B' E G C ρ F a w ar av=>by
     obtain⟨kj,qZ⟩:=vx (ρ:=ρ) (I:=bZ C B' F w) (w:=w) _ _ mx
     have nz:aB.cells.size=c7.size:=by
      have E:=b'.length _ _ kj;simp at E;rw[E,bu.IF,bu.size]
     have nK:0 < c7.size:=by have:=bu.pos;have:=bu.size;omega
     have rZ:aS u=c7.size:=(bu.u u vy).trans bu.size.symm
     obtain⟨aD,h1,jn,f3⟩:=IN (K:=K) av (mt:=fun i=>some (i*te.size,te.size)) (place:=fun i=>some (i*c7.size,c7.size)) (fun i d n aI=>by rw[bu.size];exact aI) bE.toList _ _ (rX n aB.cells.toList)
      (fun p ag=>E p.2 (by rw[ai];simp only[Op.operands];simpa using⟨p.1,by simpa using ag⟩)) aq (Yd n kj) (fun v az=>qZ v (Ye az))
     obtain⟨hz,i5,p2⟩:=hm ρ _ w aD jn
     have dO:=run_buildSlice (P:=P) w T e n (bE.map fun p=>(p.1,a.eval p.2)) (List.toArray aD) c7 aB a8 bu.jF aR (by rw[bu.size];omega)
      (by rw[Nat.mul_eq_zero];omega) (by rw[<-nz,Yf aB.cells n au5,nz];simpa using h1)
     refine⟨.slice (some ⟨w.heap.size,0,none⟩) n n,w.alloc (.cells (List.toArray aD) e),?_,sU w (.cells (List.toArray aD) e),fun I V bb=>?_⟩
     .unfold execOp;simp only[ai,Sem.run_bind,dO,Result.andThen_ok];rfl
     .have:=Yh (e:=e) (cap:=n) (gK.mono (V) p2) (bb _ (ap0 _) au7) au5 (by simp only[maxLen];have:=Nat.le_mul_of_pos_right n (show 0 < te.size by have:=bu.pos;omega);omega);rw[hz] at this;exact this
    split at h
    .rename_i xs J
     exact cC.of h <| rY xs fun ρ I w aD az=>by
      obtain⟨hz,i5,p2,_⟩:=IL u n l xs none J trivial aD az;exact⟨hz,i5,p2⟩
    .rename_i xs p J
     exact cC.of h.2 <| rY xs fun ρ I w aD az=>by
      obtain⟨hz,i5,p2,_⟩:=IL u n l xs (some p) J h.1 aD az;exact⟨hz,i5,p2⟩
    .obtain⟨hn,y,⟨hw,f4⟩,h⟩:=h;subst hn;refine cC.of h <| rY [y] fun ρ I w aD az=>?_
     subst f4;refine⟨rfl,by rw[b'.length _ _ az,s4,Nat.one_mul],fun i x hx=>?_⟩
     match i with
     |0=>
      simp only[aq5,ap4] at hx;subst hx;refine cp.mono (cd.refl _ _) u y _ _ (fun j v aa=>?_) (Bb hw az);rw[Nat.zero_mul,Nat.zero_add];exact aa
     |i+1=>simp at hx
   .exact h.elim
  .exact h.elim
 .exact h.elim
end
end
section
section
variable {P:Program} {aU:dd} {N:Nat} {ids:List Nat} {o:Oper} {K:a1} {B:ay} {k:aQ->fP->Prop}
theorem OW {ev:Operand->Value} {T ue:TypeId} {x i:Operand} {b q n c s:Nat} {w:World} {m:Int} {c7:TypeInfo} (ai:o.op= .indexAddr T x i) (hx:ev x= .slice (some ⟨b,q,none⟩) n c) (aI:ev i= .int .i64 m) (a8:P.underlying T=some (.slice ue)) (pY:P.info? ue=some c7) (ax:c7.size=s)
  (aw:0<=m) (ab:m.toNat < n):(execOp ev o).run P w= .ok (.value (.pointer (some ⟨b,q+m.toNat*s,none⟩))) w:=by
 subst ax;have E:m < (n:Int):=by omega
 simp[execOp,ai,hx,aI,Instr.indexAt,asIntOf,run_underlying a8,aw,E,sizeOf,typeInfo,pY,pX]
theorem Yl (bn:d6 P aU) {T:TypeId} {x i:Operand} (ai:o.op= .indexAddr T x i) (h:match elemOf aU T,a7 K i with
  |some (_,te),.c (.one (.d (.int .i64 n)))=>match a7 K x with
   | .c (.one (.d (.ck u xs)))=>match Nat.beq te.size (aS u) with
    |true=>0<=n/\ ∃y,fB xs n.toNat=some y/\k (.c (.one (.el u y 0))) bG
    |false=>False
   | .c (.one (.own c))=>match ah B c with
    |some (.row _ u xs)=>match Nat.beq te.size (aS u) with
     |true=>(0<=n/\n < xs.length)/\k (.c (.one (.f1 c (aS u) n.toNat 0))) ⟨[c],[],[]⟩
     |false=>False
    |_=>False
   |_=>False
  |_,_=>False):cC P N ids o K B k:=by
 have m1:x∈o.op.operands:=by rw[ai];simp[Op.operands]
 have m2:i∈o.op.operands:=by rw[ai];simp[Op.operands]
 split at h
 .rename_i e te n V aI;obtain⟨a8,c7,ds,bu⟩:=pm bn V
  split at h
  .rename_i u xs hx
   split at h
   .rename_i ax;have ax:=ap6 ax;obtain⟨aw,y,aC,h⟩:=h;refine cC.of h <| bB.two hx aI m1 m2 fun K' ρ I a w av aj ap=>?_
    obtain⟨A,cap,bm,c0,fQ,hO⟩:=av.ck aj;injection bm with bm
    have bw:=AY aC;obtain⟨b,q,rfl,bb,J⟩:=hO au5;refine⟨_,OW ai bm (av.int ap) a8 bu.jF (bu.size.trans ax) aw bw,b,q+n.toNat*aS u,by rw[Nat.add_zero],bb,?_⟩;refine cp.mono (cd.refl _ _) u y _ _ (fun j v aa=>?_) (J _ y aC);rw[<-aa]
    congr 2
    omega
   .exact h.elim
  .rename_i c hx
   split at h
   .rename_i b5 u xs aq
    split at h
    .rename_i ax;have ax:=ap6 ax;obtain⟨⟨aw,E⟩,h⟩:=h;refine cC.of h <| bB.val fun K' B' g1 g2 C ρ F a w ar av=>?_
     obtain⟨bj,jI,cs,du,_⟩:=ar.holds c _ ((g2 c au7).trans aq);have dE:=av.own ((g1 x m1).trans hx);rcases du.2 with⟨_,G⟩ |⟨g,cap,c8,az,_⟩
     .omega
     .have O:=jI g (by rw[az];rfl);refine⟨_,OW ai (dE.trans az) (av.int ((g1 i m2).trans aI)) a8 bu.jF (bu.size.trans ax) aw au5,?_⟩;simp only[ct,gy,dS];rw[<-O,Nat.zero_add,Nat.add_zero]
    .exact h.elim
   .exact h.elim
  .exact h.elim
 .exact h.elim
theorem Ym (bn:d6 P aU) {T:TypeId} {x i:Operand} (ai:o.op= .index T x i) (h:match w0 aU T,a7 K x,a7 K i with
  |true,.c (.one (.d (.str s))),.c (.one (.d (.int .i64 n)))=>0<=n/\ ∃y,fB s n.toNat=some y/\k (.c (.one (.d (.int .u8 (UInt8.toNat y:Int))))) bG
  |_,_,_=>False):cC P N ids o K B k:=by
 have m1:x∈o.op.operands:=by rw[ai];simp[Op.operands]
 have m2:i∈o.op.operands:=by rw[ai];simp[Op.operands]
 split at h
 .rename_i s n cc hx aI;obtain⟨aw,y,aC,h⟩:=h;have a8:=Ex bn cc;refine cC.of h <| bB.two hx aI m1 m2 fun K' ρ I a w av aj ap=>⟨_,?_,rfl⟩
  have O:(⟨s.toArray⟩:ByteArray)[n.toNat]? =some y:=by
   have bw:=AY aC;have:=(ap5.1 aC).2;rw[getElem?_pos (⟨s.toArray⟩:ByteArray) n.toNat (by rw[w5];exact bw)];simp only[ap4];rw[<-this];rfl
  simp[execOp,ai,av.str aj,av.int ap,Instr.index,asIntOf,run_underlying a8,aw,O]
 .exact h.elim
theorem iOz {K':a1} {ρ:Nat->bo} {I:Nat->Prop} {a:Act} {w:World} (av:ee K' ρ I a w) {n cap:Nat} {Ez:Bool} {hl aI:Option Operand} {l h:Nat} {p:Prop} (O:yR n (hl.map (a7 K)) (aI.map (a7 K))=some (l,h,p)) (ag:p) (H:n<=cap)
  (aq: ∀x,hl=some x->a7 K' x=a7 K x) (bl: ∀x,aI=some x->a7 K' x=a7 K x):
  (Instr.sliceBounds Ez n cap (hl.map a.eval) (aI.map a.eval) none).run P w= .ok (l,h,cap) w/\l<=h/\h<=n:=by
 unfold yR at O
 split at O
 .rename_i j E G
  cases hl with
  |some x=>simp at E
  |none=>
   cases aI with
   |none=>simp at G
   |some y=>
    simp only[at2,ap4] at G;simp only[ap4,at3] at O;obtain⟨rfl,rfl,rfl⟩:=O;have aC:=av.int ((bl y rfl).trans G);have q:j<=(cap:Int):=by omega
    refine⟨?_,au5,au5⟩;simp[Instr.sliceBounds,Instr.sliceBound,asIntOf,aC,ag.1,q]
 .rename_i i E G
  cases hl with
  |none=>simp at E
  |some x=>
   cases aI with
   |some y=>simp at G
   |none=>
    simp only[at2,ap4] at E;simp only[ap4,at3] at O;obtain⟨rfl,rfl,rfl⟩:=O;have hx:=av.int ((aq x rfl).trans E);refine⟨?_,au5,ap0 _⟩;simp[Instr.sliceBounds,Instr.sliceBound,asIntOf,hx,ag.1,ag.2]
 .rename_i i j E G
  cases hl with
  |none=>simp at E
  |some x=>
   cases aI with
   |none=>simp at G
   |some y=>
    simp only[at2,ap4] at E G;simp only[ap4,at3] at O;obtain⟨rfl,rfl,rfl⟩:=O;have hx:=av.int ((aq x rfl).trans E);have aC:=av.int ((bl y rfl).trans G);have IP:0<=j:=by omega
    have q:j<=(cap:Int):=by omega
    have cx:i<=((j.toNat:Nat):Int):=by omega
    refine⟨?_,au5,au5⟩;simp[Instr.sliceBounds,Instr.sliceBound,asIntOf,hx,aC,ag.1,IP,q,ag.2.1];intro bw;omega
 .rename_i E G
  cases hl with
  |some x=>simp at E
  |none=>
   cases aI with
   |some y=>simp at G
   |none=>
    simp only[ap4,at3] at O;obtain⟨rfl,rfl,rfl⟩:=O;refine⟨?_,ap7 _,ap0 _⟩;simp[Instr.sliceBounds]
 .cases O
theorem Yn {I:Nat->Prop} {w:World} {u:bx} {xs:List (Z u)} {A:Option Addr} {cap l h:Nat} (hx:cp I w (.b7 u) xs (fun _=>some (.slice A xs.length cap))) (aq:l<=h) (bl:h<=xs.length):
  cp I w (.b7 u) ((xs.take h).drop l) (fun _=>some (.slice (if cap=l then A else A.map (·.add (l*aS u))) (h - l) (cap - l))):=by
 obtain⟨A',IQ,e,E,G,al⟩:=hx;injection e with e
 injection e with aj ap bm
 subst aj bm;have b6:List.length ((xs.take h).drop l)=h - l:=by rw[at1,ap8];omega
 refine⟨_,_,by rw[b6],by rw[b6];omega,au5,fun nK=>?_⟩;rw[b6] at nK;obtain⟨b,q,rfl,bb,J⟩:=al au5;refine⟨b,q+l*aS u,by rw[if_neg au5,at2,pX],bb,fun i x aI=>?_⟩
 have IR:fB (α:=Z u) xs (l+i)=some x:=by
  unfold fB at aI⊢;rw[List.getElem?_drop,List.getElem?_take] at aI
  split at aI
  .exact aI
  .cases aI
 refine cp.mono (cd.refl _ _) u x _ _ (fun j v aa=>?_) (J _ x IR);rw[<-aa,Nat.add_mul]
 congr 2
 omega
theorem Yo (bn:d6 P aU) {T:TypeId} {x:Operand} {hl aI:Option Operand} (ai:o.op= .slice T x hl aI none) (h:Ip aU T (a7 K x) (hl.map (a7 K)) (aI.map (a7 K)) k):cC P N ids o K B k:=by
 have m1:x∈o.op.operands:=by rw[ai];simp[Op.operands]
 have m2: ∀y,hl=some y->y∈o.op.operands:=fun y aC=>by rw[ai];simp[Op.operands,aC]
 have m3: ∀y,aI=some y->y∈o.op.operands:=fun y aC=>by rw[ai];simp[Op.operands,aC]
 unfold Ip at h
 split at h
 .rename_i s hx
  split at h
  .rename_i l bl p cc O;have a8:=Ex bn cc;refine cC.of h.2 <| bB.val fun K' B' E G C ρ F a w ar av=>⟨_,?_,rfl⟩
   have dE:=av.str ((E x m1).trans hx);obtain⟨cx,cA,dy⟩:=iOz (P:=P) av (Ez:=false) O h.1 (ap0 _) (fun y aC=>E y (m2 y aC)) (fun y aC=>E y (m3 y aC));rw[<-w5 s] at cx
   have V:(⟨s.toArray⟩:ByteArray).extract l bl=⟨((s.take bl).drop l).toArray⟩:=by
    have e:=Lib.extract_data ⟨s.toArray⟩ l bl
    cases aR:(⟨s.toArray⟩:ByteArray).extract l bl with
    |mk s3=>
     rw[aR] at e;simp only at e
     congr 1
     rw[<-Array.toArray_toList (xs:=s3),e,List.drop_take]
   rw[<-V];simp only[execOp,ai,Sem.run_bind,Instr.sliceAt,Instr.slice,run_underlying a8,Result.andThen_ok,dE,Option.map_none];simp only[Option.isSome_none,Bool.false_eq_true,if_false,Sem.run_bind,Sem.run_pure,Result.andThen_ok,cx]
  .exact h.elim
 .rename_i u xs hx
  split at h
  .rename_i e te l bl p V O;obtain⟨a8,c7,ds,bu⟩:=pm bn V
   split at h
   .rename_i ax;have ax:=ap6 ax;refine cC.of h.2 <| bB.val fun K' B' E G C ρ F a w ar av=>?_
    have J:=av.ck ((E x m1).trans hx);have dK:=J;obtain⟨A,cap,bm,c0,fQ,hO⟩:=dK;injection bm with bm
    rw[bm] at J;obtain⟨cx,cA,dy⟩:=iOz (P:=P) (w:=w) av (Ez:=true) O h.1 c0 (fun y aC=>E y (m2 y aC)) (fun y aC=>E y (m3 y aC));refine⟨_,?_,Yn J cA dy⟩;have aR:(sizeOf e).run P w= .ok (aS u) w:=by simp[sizeOf,typeInfo,bu.jF,bu.size,ax]
    simp only[execOp,ai,Sem.run_bind,Instr.sliceAt,Instr.slice,run_underlying a8,Result.andThen_ok,bm,Option.map_none,cx,aR,Sem.run_pure]
   .exact h.elim
  .exact h.elim
 .exact h.elim
theorem OX {I:Nat->Prop} {w:World} {s:List UInt8} {v:Value} (h:cp I w (.b7 .u8) s (fun _=>some v)) (bb: ∀b,I b->b < w.heap.size): ∃A c,v= .slice A s.length c/\kE I w (.slice A s.length c) s:=by
 obtain⟨eS,E,G,al⟩:=OO h bb;have s7:=E;obtain⟨aq,A,c,rfl,_⟩:=E
 have e:eS=s.map hY:=by
  apply List.ext_getElem?;intro i;rw[ar0]
  cases ax:s[i]? with
  |none=>
   have:=List.getElem?_eq_none_iff.1 ax;rw[at6 (by rw[aq];simp[aS];exact this)];rfl
  |some x=>
   have:=G i x ax;have this:eS[i*aS .u8+0]? =some (.int .u8 (UInt8.toNat x:Int)):=this;simpa[aS,hY] using this
 subst e;exact⟨A,c,rfl,s7⟩
theorem Yp (bn:d6 P aU) {S T:TypeId} {x:Operand} (ai:o.op= .convert S T x) (h:Io aU S T (a7 K x) B k):cC P N ids o K B k:=by
 have m1:x∈o.op.operands:=by rw[ai];simp[Op.operands]
 unfold Io at h
 split at h
 .rename_i Oo ti ax cr;obtain⟨oG,hz,y2⟩:=bn.at_ ax;obtain⟨oH,i5,s8⟩:=bn.at_ cr
  split at h
  .rename_i i j OM n cf cM hx
   split at h
   .rename_i aa _;have aa:=nH aa;subst aa;refine cC.of h <| bB.one hx m1 fun K' ρ I a w av aj=>⟨_,?_,rfl⟩
    have az:=av.int aj;have hw:IntKind.u8.wrap n=n % 256:=by simp[IntKind.wrap,IntKind.bits,IntKind.signed]
    simp[execOp,ai,az,convert,run_underlying (y2.int cf),run_underlying (s8.int cM),Conv.intToInt,hw]
   .have h:=wY h;refine cC.of h.2 <| bB.one hx m1 fun K' ρ I a w av aj=>⟨_,?_,rfl⟩
    have az:=av.int aj;simp[execOp,ai,az,convert,run_underlying (y2.int cf),run_underlying (s8.int cM),Conv.intToInt,w4 h.1]
  .rename_i e s cf cM hx
   split at h
   .rename_i a8;obtain⟨q0,_⟩:=w7 bn a8;refine cC.of h.2 <| bB.new fun K' B' E G C ρ F a w ar av=>?_
    have az:=av.str ((E x m1).trans hx);obtain⟨cap,dz,dO,O,hb⟩:=Xi (P:=P) w S T e ⟨s.toArray⟩ (y2.str cf) (s8.b7 cM) q0 (by rw[w5];exact h.1);rw[w5] at dO O;refine⟨.slice (some ⟨w.heap.size,0,none⟩) s.length cap,dz,by simp only[execOp,ai,Sem.run_bind,az,dO,Result.andThen_ok,Sem.run_pure],hb,fun I V bb=>?_⟩;obtain⟨aq,A,c,aj,ap,bm,c0⟩:=O;injection aj with aj k2 Yq
    subst aj Yq;have jp:s.length<=cap:=by simpa using ap
    refine⟨_,cap,rfl,jp,bm,fun nK=>?_⟩;have Yr:0 < s.length:=nK;obtain⟨b,q,mY,vp,bw,H⟩:=c0 (by simpa using Yr);refine⟨b,q,mY,bb b vp bw,fun i y aC=>?_⟩
    have aA:(List.map hY s)[i]? =some (hY y):=by
     rw[ar0];exact congrArg (Option.map hY) aC
    show dz.cell? ⟨b,q+(i*1+0),none⟩=some (hY y);rw[Nat.mul_one,Nat.add_zero];exact H i _ aA
   .exact h.elim
  .rename_i e s cf cM hx
   split at h
   .rename_i a8;obtain⟨q0,_⟩:=w7 bn a8;refine cC.of h <| bB.val fun K' B' E G C ρ F a w ar av=>⟨_,?_,rfl⟩
    obtain⟨A,c,az,O⟩:=OX (av.ck ((E x m1).trans hx)) (fun b O=>O.1);simp only[execOp,ai,Sem.run_bind,az,N6 O S T e (y2.b7 cf) q0 (s8.str cM),Result.andThen_ok,Sem.run_pure]
   .exact h.elim
  .rename_i e cf cM hx
   split at h
   .rename_i a8;obtain⟨q0,_⟩:=w7 bn a8;refine cC.of h <| bB.one hx m1 fun K' ρ I a w av aj=>⟨_,?_,rfl⟩
    have az:=av.dD aj;simp only[execOp,ai,Sem.run_bind,az,run_convert_bytes_nil (P:=P) (w:=w) S e (y2.b7 cf) q0 0 0 T (s8.str cM),Result.andThen_ok,Sem.run_pure];rfl
   .exact h.elim
  .rename_i e c cf cM hx
   split at h
   .rename_i b5 s aq a8;obtain⟨q0,_⟩:=w7 bn a8;refine cC.of h <| bB.val fun K' B' E G C ρ F a w ar av=>⟨_,?_,rfl⟩
    have du:=ar.holds c _ ((G c au7).trans aq);have J:=Bd du (I':=fun b=>b < w.heap.size) (fun b O=>O.1) (fun b O=>(ar.own c _ ((G c au7).trans aq) b O).1);obtain⟨A,l2,az,O⟩:=OX J (fun b O=>O);have dE:=av.own ((E x m1).trans hx);simp only[execOp,ai,Sem.run_bind,dE,az,N6 O S T e (y2.b7 cf) q0 (s8.str cM),Result.andThen_ok,Sem.run_pure]
   .exact h.elim
  .exact h.elim
 .exact h.elim
theorem Ys (bn:d6 P aU) {T:TypeId} {x:Operand} {hl aI:Option Operand} {c:Nat} (ai:o.op= .slice T x hl aI none) (hx:a7 K x= .c (.one (.own c))) (h:match elemOf aU T,ah B c with
   |some (_,te),some (.row _ u xs)=>match yR xs.length (hl.map (a7 K)) (aI.map (a7 K)),Nat.beq te.size (aS u) with
    |some (l,h,p),true=>p/\k (.c (.one (.os c (aS u) l (h - l)))) ⟨[c],[],[]⟩
    |_,_=>False
   |_,_=>False):cC P N ids o K B k:=by
 have m1:x∈o.op.operands:=by rw[ai];simp[Op.operands]
 have m2: ∀y,hl=some y->y∈o.op.operands:=fun y aC=>by rw[ai];simp[Op.operands,aC]
 have m3: ∀y,aI=some y->y∈o.op.operands:=fun y aC=>by rw[ai];simp[Op.operands,aC]
 split at h
 .rename_i e te b5 u xs V aq;obtain⟨a8,c7,ds,bu⟩:=pm bn V
  split at h
  .rename_i l bl p O ax;have ax:=ap6 ax;refine cC.of h.2 <| bB.val fun K' B' E G C ρ F a w ar av=>?_
   have dE:=av.own ((E x m1).trans hx);obtain⟨_,_,cs,du,_⟩:=ar.holds c _ ((G c au7).trans aq);obtain⟨_,A,cap,az,hn,H,_⟩:=eL.qO du;unfold bo.er at az dE;injection az with aj ap bm
   rw[ap] at dE;obtain⟨cx,cA,dy⟩:=iOz (P:=P) (w:=w) av (Ez:=true) O h.1 (by rw[<-bm] at hn;exact hn:xs.length<=(ρ c).cap) (fun y aC=>E y (m2 y aC)) (fun y aC=>E y (m3 y aC));refine⟨_,?_,rfl⟩;have aR:(sizeOf e).run P w= .ok (aS u) w:=by simp[sizeOf,typeInfo,bu.jF,bu.size,ax]
   simp only[execOp,ai,Sem.run_bind,Instr.sliceAt,Instr.slice,run_underlying a8,Result.andThen_ok,dE,Option.map_none,cx,aR,Sem.run_pure]
  .exact h.elim
 .exact h.elim
end
end
section
section
variable {P:Program} {aU:dd} {N:Nat} {ids:List Nat} {o:Oper} {K:a1} {B:ay} {k:aQ->fP->Prop}
theorem Yt {c d:Nat} (h:aQ.has d (.c (.one (.mp c)))=true):d=c:=(ap6 h).symm
theorem EA (bn:d6 P aU) {T kt et:Nat} (h:w1 aU T=some (kt,et)):P.underlying T=some (.map kt et):=by
 unfold w1 at h
 split at h
 .rename_i ti gz
  split at h
  .rename_i k e ab;obtain⟨_,_,bu⟩:=bn.at_ gz;injection h with h
   injection h with E G
   subst E G;have:=bu.kd;rw[ab] at this;rw[bu.nI]
   cases J:‹TypeDesc› <;>simp[J,s1] at this⊢
   exact this
  .cases h
 .cases h
theorem IS (bn:d6 P aU) {kt:Nat} {aJ:bx} (h:w3 aU kt aJ=true): ∃d,P.underlying kt=some d/\mX aJ d=true:=by
 unfold w3 at h
 split at h
 .rename_i ti gz;obtain⟨_,_,bu⟩:=bn.at_ gz
  split at h
  .rename_i k dU ab;have:=nH h;subst this;exact⟨_,bu.int ab,by simp[mX]⟩
  .rename_i ab;exact⟨_,bu.str ab,rfl⟩
  .cases h
 .cases h
theorem EB: ∀u:bx,ow u (cK u)
 | .int _=>trivial
 | .u8=>trivial
 | .bool=>trivial
 | .str=>trivial
 | .aM=>trivial
 | .dC=>trivial
 | .fn=>trivial
 | .b7 _=>trivial
 | .bR u v=>⟨EB u,EB v⟩
 | .arr n u=>⟨as7,fun x hx=>by
  have e:x=cK u:=List.eq_of_mem_replicate hx;rw[e];exact EB u⟩
theorem Yu {ρ:Nat->bo} {I:Nat->Prop} {w:World} {s:bC} {x:D} {v:Value} (h:Ed s x=true) (az:dS ρ I w s v):gE I w x v:=by
 unfold Ed at h
 split at h
 .simp only[vj,ar5] at h;obtain⟨E,G⟩:=h;have:=nH E;subst this G;exact az
 .exact az
 .exact az
 .exact az
 .rename_i b c;have:b=c:=by simpa using h
  subst this;exact az
 .rw[show v=_ from az];exact⟨none,0,rfl,ap0 _,ap7 _,fun h=>absurd h (Nat.lt_irrefl 0)⟩
 .cases h
theorem OY: ∀{l m:List bC},iz l m=true->l.length=m.length
 | [],[],_=>rfl
 |s::l,.d x::m,h=>by
  simp only[iz,vj] at h;simp[OY h.2]
 | [],_::_,h=>by simp[iz] at h
 |_::_,[],h=>by simp[iz] at h
 |_::_,.ptr _ _::_,h=>by simp[iz] at h
 |_::_,.own _::_,h=>by simp[iz] at h
 |_::_,.el _ _ _::_,h=>by simp[iz] at h
 |_::_,.f1 _ _ _ _::_,h=>by simp[iz] at h
 |_::_,.os _ _ _ _::_,h=>by simp[iz] at h
 |_::_,.mp _::_,h=>by simp[iz] at h
 |_::_,.cT _ _::_,h=>by simp[iz] at h
 |_::_,.dD::_,h=>by simp[iz] at h
 |_::_,.bI _::_,h=>by simp[iz] at h
 |_::_,.any::_,h=>by simp[iz] at h
theorem OZ: ∀{l m:List bC},iz l m=true-> ∀(i:Nat) (y:bC),m[i]? =some y-> ∃s x,l[i]? =some s/\y= .d x/\Ed s x=true
 | [],[],_,i,y,aC=>by simp at aC
 |s::l,.d x::m,h,0,y,aC=>by
  simp only[iz,vj] at h;simp only[aq5,ap4] at aC;exact⟨s,x,rfl,aC.symm,h.1⟩
 |s::l,.d x::m,h,i+1,y,aC=>by
  simp only[iz,vj] at h;simpa using OZ h.2 i y (by simpa using aC)
 | [],_::_,h,_,_,_=>by simp[iz] at h
 |_::_,[],h,_,_,aC=>by simp at aC
 |_::_,.ptr _ _::_,h,_,_,_=>by simp[iz] at h
 |_::_,.own _::_,h,_,_,_=>by simp[iz] at h
 |_::_,.el _ _ _::_,h,_,_,_=>by simp[iz] at h
 |_::_,.f1 _ _ _ _::_,h,_,_,_=>by simp[iz] at h
 |_::_,.os _ _ _ _::_,h,_,_,_=>by simp[iz] at h
 |_::_,.mp _::_,h,_,_,_=>by simp[iz] at h
 |_::_,.cT _ _::_,h,_,_,_=>by simp[iz] at h
 |_::_,.dD::_,h,_,_,_=>by simp[iz] at h
 |_::_,.bI _::_,h,_,_,_=>by simp[iz] at h
 |_::_,.any::_,h,_,_,_=>by simp[iz] at h
theorem Yv (bn:d6 P aU) {et:Nat} {aL:bx} (h:Ee aU et aL=true) {I:Nat->Prop} {w:World}: ∃aB,(zeroValue et).run P w= .ok aB w/\jk I w aL (cK aL) aB:=by
 unfold Ee at h
 split at h
 .rename_i ti gz;obtain⟨i,d,bu⟩:=bn.at_ gz;simp only[vj,beq_iff_eq,Bool.or_eq_true] at h;obtain⟨⟨E,G⟩,al⟩:=h;obtain⟨aB,aR,mx⟩:=bu.zero;have J:=(vx (ρ:=fun _=>⟨0,none,0,0⟩) (I:=I) (w:=w) _ _ mx).1;have aq:=b'.length _ _ J;have p3:ti.zero.length=aS aL:=(OY E).trans (s4 aL _ _ _)
  have ax:aB.cells.size=aS aL:=by
   rw[<-p3,<-aq];simp
  refine⟨aB,by simp[zeroValue,typeInfo,bu.jF,aR],ax,⟨fun ai=>?_,fun ai=>?_⟩,cp.mk _ _ _ (EB aL) fun j aa=>?_⟩
  .refine bu.OA aB aR ?_;rw[bu.row,G,ai];rfl
  .have:2<=aS aL:=by
    rcases al with al |al
    .rw[ai] at al;cases al
    .exact Nat.le_of_ble_eq_true al
   cases aB with
   |agg cs=>exact⟨cs,rfl⟩
   |_=>simp[Value.cells] at ax;omega
  .have a6:=yZ aL (cK aL) (aS aL) 0 j aa;rw[Nat.zero_add] at a6;obtain⟨s,x,aj,ap,bm⟩:=OZ E j _ a6;injection ap with ap
   obtain⟨v,c0,fQ⟩:=b'.get _ _ J j s aj;exact⟨v,c0,by rw[ap];exact Yu bm fQ⟩
 .cases h
theorem O0 {ρ:Nat->bo} {I:Nat->Prop} {w:World} {u:bx} {x:Z u} {v:Value} (ai:mW u=true) (h:jk I w u x v):dS ρ I w (.d (fA u x 0)) v:=by
 obtain⟨E,G,al⟩:=h;have H:=G.1 ai;have nK:0 < aS u:=by rw[<-E,H];simp
 obtain⟨cU,aj,ap⟩:=cp.cell u x _ 0 al nK;rw[H] at aj;simp at aj;subst aj;exact ap
theorem O1 {ρ:Nat->bo} {I:Nat->Prop} {w:World} {u:bx} {x:Z u} {v:Value} (ai:mW u=false) (h:jk I w u x v):gy ρ I w (.agg (gh u x 0 (aS u))) v:=by
 obtain⟨E,G,al⟩:=h;obtain⟨cs,e⟩:=G.2 ai;subst e;obtain⟨aD,g1,g2⟩:=Et (ρ:=ρ) al (aS u) 0 au5;have aq:=b'.length _ _ g1;rw[s4] at aq
 have e:aD=cs.toList:=by
  apply List.ext_getElem?;intro j
  by_cases aa:j < aD.length
  .obtain⟨v,az⟩: ∃v,aD[j]? =some v:=⟨_,oj aa⟩;have:=g2 j v az;rw[az,<-this];simp[Value.cells]
  .rw[at6 au5,at6 (by simp[Value.cells] at E;simp;omega)]
 subst e;exact⟨_,au7,g1⟩
theorem EC {ρ:Nat->bo} {I:Nat->Prop} {w:World} {u:bx} {x:Z u} {v:Value} (h:jk I w u x v):gy ρ I w (yS u x) v:=by
 cases u with
 |bR u v=>exact O1 rfl h
 |arr n u=>exact O1 rfl h
 |_=>exact O0 (ρ:=ρ) rfl h
theorem Yw {ρ:Nat->bo} {I:Nat->Prop} {w:World} {u:bx} {s:aQ} {y:Z u} {p:Option Prop} (h:It u s=some (y,p)) (ag:tW p) {v:Value} (az:ct ρ I w s v):jk I w u y v:=by
 unfold It at h
 split at h
 .rename_i cU y'
  split at h
  .rename_i r0 _ ai;subst r0;injection h with h
   injection h with E G
   subst E G;obtain⟨aD,e,E,G⟩:=az;subst e;exact⟨by simpa[Value.cells] using E,⟨fun e=>(by rw[ai] at e;cases e),fun _=>⟨_,rfl⟩⟩,by simpa[Value.cells,H9] using G⟩
  .cases h
 .rename_i s'
  split at h
  .rename_i y' jY ai J;injection h with h
   injection h with E G
   subst E G;obtain⟨nJ,s5,aj,ap,bm,c0,fQ⟩:=y0 u ρ I w _ _ _ _ J ag [v] ⟨v,[],rfl,az,rfl⟩;rw[show s5=[] from c0,as5] at aj;subst aj
   have H:v.cells= #[v]:=by
    have:=fQ v au7
    cases v <;>first |rfl |(simp[Value.oneCell'] at this)
   refine⟨by rw[H,<-ap];rfl,⟨fun _=>H,fun e=>(by rw[ai] at e;cases e)⟩,by rw[H];exact bm⟩
  .cases h
 .rename_i l
  split at h
  .rename_i y' jY ai J;injection h with h
   injection h with E G
   subst E G;obtain⟨aD,e,az⟩:=az;subst e;obtain⟨nJ,s5,aj,ap,bm,c0,fQ⟩:=y0 u ρ I w _ _ _ _ J ag aD az;rw[show s5=[] from c0,as5] at aj;subst aj;exact⟨by simpa[Value.cells] using ap,⟨fun e=>(by rw[ai] at e;cases e),fun _=>⟨_,rfl⟩⟩,by simpa[Value.cells] using bm⟩
  .cases h
 .cases h
theorem Bg {ρ:Nat->bo} {I:Nat->Prop} {w:World} {aJ:bx} {s:aQ} {key:Z aJ} (h:w2 aJ s=some key) {v:Value} (az:ct ρ I w s v):v=gF aJ key:=by
 unfold w2 at h
 split at h
 .split at h
  .rename_i e;have:=nH e;injection h with h
   subst this h;exact az
  .cases h
 .injection h with h
  subst h;exact az
 .cases h
theorem ee.mp {K':a1} {ρ:Nat->bo} {I:Nat->Prop} {a:Act} {w:World} {x:Operand} (av:ee K' ρ I a w) {c:Nat} (h:a7 K' x= .c (.one (.mp c))):a.eval x= .map (some (ρ c).bk):=av.ev h
theorem Yx (bn:d6 P aU) {T:TypeId} {x i:Operand} {ok:Bool} (ai:o.op= .lookup T x i ok) (h:Is aU T (a7 K x) (a7 K i) ok B k):cC P N ids o K B k:=by
 have m1:x∈o.op.operands:=by rw[ai];simp[Op.operands]
 have m2:i∈o.op.operands:=by rw[ai];simp[Op.operands]
 unfold Is at h
 split at h
 .rename_i c hx
  split at h
  .rename_i aJ aL es aq
   split at h
   .rename_i kt et key cc ab
    have rY: ∀(v:aQ),(w3 aU kt aJ&&Ee aU et aL)=true->(∀(ρ:Nat->bo) (I:Nat->Prop) (w:World) (u:Value),jk I w aL ((b0 es key).getD (cK aL)) u->ct ρ I w v (if ok then .tuple #[u,.bool (b0 es key).isSome] else u))->bB P N ids o K B v ⟨[c],[],[]⟩:=by
     intro v bu az;simp only[vj] at bu;obtain⟨d,w9,kM⟩:=IS bn bu.1;refine bB.val fun K' B' g1 g2 C ρ F a w ar av=>?_
     obtain⟨bj,bT,bU,O,aA,c'⟩:=ar.holds c _ ((g2 c au7).trans aq);obtain⟨aB,aR,yL⟩:=Yv bn bu.2 (I:=bZ C B' F w) (w:=w);obtain⟨u,aF,a8⟩:=Oe (P:=P) (EA bn cc) w9 kM O aA aR yL key ok;have aj:=av.mp ((g1 x m1).trans hx);have ap:a.eval i=gF aJ key:=Bg ab (av.ev (g1 i m2));exact⟨_,by simp only[execOp,ai,Sem.run_bind,aj,ap,aF,Result.andThen_ok,Sem.run_pure],az ρ _ w u a8⟩
    split at h
    .rename_i bu;rw[D0] at h;refine cC.of h (rY _ bu fun ρ I w u a8=>?_);exact⟨[u,.bool (b0 es key).isSome],rfl,u,_,rfl,EC a8,_,_,rfl,rfl,rfl⟩
    .rename_i bu;rw[D0] at h;exact cC.of h (rY _ bu fun ρ I w u a8=>EC a8)
    .exact h.elim
   .exact h.elim
  .exact h.elim
 .exact h.elim
theorem uf {w:World} {b:Nat} {my:Obj} {S:Nat->Prop} (av:S b):cJ S w {w with heap:=w.heap.setIfInBounds b my}:=
 ⟨rfl,rfl,rfl,au7,fun j _ hn=>by simp only[];rw[Array.getElem?_setIfInBounds_ne (fun e=>hn (by rw[<-e];exact av))]⟩
theorem Yy (bn:d6 P aU) {T:TypeId} {x i v:Operand} (ai:o.op= .mapUpdate T x i v) (h:Iu aU T (a7 K x) (a7 K i) (a7 K v) B k):cC P N ids o K B k:=by
 have m1:x∈o.op.operands:=by rw[ai];simp[Op.operands]
 have m2:i∈o.op.operands:=by rw[ai];simp[Op.operands]
 have m3:v∈o.op.operands:=by rw[ai];simp[Op.operands]
 unfold Iu at h
 split at h
 .rename_i c hx
  split at h
  .rename_i aJ aL es aq
   split at h
   .rename_i kt et key cc ab
    have rY: ∀y:Z aL,w3 aU kt aJ=true->(∀(ρ:Nat->bo) (I:Nat->Prop) (w:World) (u:Value),ct ρ I w (a7 K v) u->jk I w aL y u)->bB P N ids o K B .undef ⟨[c],[],[(c,some (.map aJ aL (dr es key y)))]⟩:=fun y bu az=>by
     obtain⟨d,w9,kM⟩:=IS bn bu;refine bB.hN aq fun K' B' g1 C ρ F a w ar av f4=>?_
     obtain⟨bj,bT,bU,O,aA,c'⟩:=ar.holds c _ f4;have aj:=av.mp ((g1 x m1).trans hx);have ap:a.eval i=gF aJ key:=Bg ab (av.ev (g1 i m2));have bm:jk _ _ aL y (a.eval v):=az _ _ _ _ (av.ev (g1 v m3));obtain⟨ek,jE,aF,gk,p4⟩:=A1 (P:=P) (EA bn cc) w9 kM O aA c' key bm;have bw:=(Array.getElem?_eq_some_iff.1 O).1;refine⟨{w with heap:=w.heap.setIfInBounds (ρ c).bk (.map (List.toArray ek) jE)},by simp only[execOp,ai,Sem.run_bind,aj,ap,aF,Result.andThen_ok,Sem.run_pure],uf ((bj _).2 rfl),fun I aY=>⟨bj,ek,jE,by simp[bw],gk.mono aY,p4⟩⟩
    split at h
    .rename_i y p bu az;exact cC.of h.2 (rY y bu fun ρ I w u a8=>Yw az h.1 a8)
    .rename_i bu _
     split at h
     .rename_i l az rV;obtain⟨y,⟨hw,f4⟩,h⟩:=h;refine cC.of h (rY y bu fun ρ I w u a8=>?_);rw[az] at a8;obtain⟨aD,e,J⟩:=a8;subst e f4;exact⟨by simpa[Value.cells,s4] using b'.length _ _ J,⟨fun e=>(by rw[rV] at e;cases e),fun _=>⟨_,rfl⟩⟩,by simpa[Value.cells] using Bb hw J⟩
     .exact h.elim
    .exact h.elim
   .exact h.elim
  .exact h.elim
 .exact h.elim
theorem bB.O2 {c:Nat} {cw ch:bd} (H:ah B c=some cw)
  (h: ∀(K':a1) (B':ay),(∀x,x∈o.op.operands->a7 K' x=a7 K x)-> ∀(C:e8) (ρ:Nat->bo) (F:Nat->Nat->Prop) (a:Act) (w:World),Mem ids C B' ρ F w->ee K' ρ (bZ C B' F w) a w->ah B' c=some cw-> ∃w',(execOp a.eval o).run P w= .ok (.value (.tuple #[])) w'/\cJ (F c) w w'/\
   (∀I,cd (bZ C B' F w) w I w'->Holds ρ I (F c) w' (ρ c) ch)):
  bB P N ids o K B (.ce []) ⟨[c],[],[(c,some ch)]⟩:=by
 rintro K' B' E G - C a w ⟨hn,J,ρ,F,ar,av⟩ bw fC Q di;have cF:ah B' c=some cw:=(G c au7).trans H;obtain⟨w',hx,cz,cV⟩:=h K' B' E C ρ F a w ar av cF;obtain⟨bN,V⟩:=ar.hN cF cz cV;unfold Oper.wp;rw[hx,Oper.upon_value];exact di _ _ ⟨ke.trans hn,kf.trans J,ρ,F,bN,(av.mono V fun _ _ _=>rfl).kg (fun e V=>by rw[hn];exact bw e V) ⟨[],rfl,rfl⟩⟩
theorem Yz (bn:d6 P aU) {T eT:TypeId} {x i:Operand} {c:Call} (ai:o.op= .call c) (dP:c.callee= .builtin .delete) (d7:c.args.toList=[x,i]) (lv:c.argTypes.toList=[T,eT]) (h:Iv aU T (a7 K x) (a7 K i) B k):cC P N ids o K B k:=by
 have ft:c.args= #[x,i]:=Array.toList_inj.1 d7;have jq:c.argTypes= #[T,eT]:=Array.toList_inj.1 lv;obtain⟨r3,args,cq⟩:=c;simp only at dP ft jq;subst dP ft jq;have m1:x∈o.op.operands:=by rw[ai];simp[Op.operands,Call.operands]
 have m2:i∈o.op.operands:=by rw[ai];simp[Op.operands,Call.operands]
 unfold Iv at h
 split at h
 .rename_i c hx
  split at h
  .rename_i aJ aL es aq
   split at h
   .rename_i kt et key cc ab
    split at h
    .rename_i bu;obtain⟨d,w9,kM⟩:=IS bn bu;refine cC.of h <| bB.O2 aq fun K' B' g1 C ρ F a w ar av f4=>?_
     obtain⟨bj,bT,bU,O,aA,c'⟩:=ar.holds c _ f4;have aj:=av.mp ((g1 x m1).trans hx);have ap:a.eval i=gF aJ key:=Bg ab (av.ev (g1 i m2));obtain⟨ek,aF,gk,p4⟩:=Ok (P:=P) (ty:=o.type) (EA bn cc) w9 kM O aA c' key eT;have bw:=(Array.getElem?_eq_some_iff.1 O).1;refine⟨{w with heap:=w.heap.setIfInBounds (ρ c).bk (.map (List.toArray ek) bU)},?_,uf ((bj _).2 rfl),fun I aY=>⟨bj,ek,bU,by simp[bw],gk.mono aY,p4⟩⟩;simp[execOp,ai,resolve,invoke,builtin,aj,ap,aF]
    .exact h.elim
   .exact h.elim
  .exact h.elim
 .exact h.elim
theorem l1.arr {T:Nat} {ti:cb} {i:TypeInfo} {d:TypeDesc} (h:l1 P T ti i d) {n e:Nat} (ab:ti.kd= .arr n e):P.underlying T=some (.array n e):=by
 have:=h.kd;rw[ab] at this;rw[h.nI]
 cases d <;>simp[s1] at this⊢
 exact this
theorem YA (bn:d6 P aU) {T:TypeId} {x:Operand} (ai:o.op= .sliceToArrayPointer T x) (h:Iy aU T (a7 K x) k):cC P N ids o K B k:=by
 have m1:x∈o.op.operands:=by rw[ai];simp[Op.operands]
 unfold Iy at h
 split at h
 .rename_i ti v xs gz hx;obtain⟨i,d,bu⟩:=bn.at_ gz
  split at h
  .rename_i n e ab;obtain⟨⟨aw,gY⟩,h⟩:=h;have a8:=bu.arr ab;refine cC.of h <| bB.one hx m1 fun K' ρ I a w av aj=>?_
   obtain⟨A,cap,bm,c0,fQ,hO⟩:=av.ck aj;injection bm with bm
   obtain⟨b,q,rfl,bb,J⟩:=hO au5;refine⟨.pointer (some ⟨b,q,none⟩),?_,b,q,rfl,bb,by simp;omega,fun i aB aR=>?_⟩
   .have: ¬List.length xs < n:=by omega
    simp[execOp,ai,bm,Instr.arrayAt,run_underlying a8,this]
   .have q1:fB (α:=Z v) xs i=some aB:=by
     unfold fB at aR⊢;rw[List.getElem?_take] at aR
     split at aR
     .exact aR
     .cases aR
    exact J i aB q1
  .exact h.elim
 .exact h.elim
theorem YB (bn:d6 P aU) {T:TypeId} {x:Operand} {c:Nat} (ai:o.op= .slice T x none none none) (hx:a7 K x= .c (.one (.ptr c 0))) (h:Ix aU T c B k):cC P N ids o K B k:=by
 have m1:x∈o.op.operands:=by rw[ai];simp[Op.operands]
 unfold Ix at h
 split at h
 .rename_i ti gz;obtain⟨i,d,bu⟩:=bn.at_ gz
  split at h
  .rename_i n e m v ab _;have a8:=bu.arr ab
   split at h
   .rename_i te l hn vy aq;simp only[vj,Nat.beq_eq,Nat.ble_eq,Nat.blt_eq] at hn;obtain⟨⟨_,jZ⟩,w8⟩:=hn;obtain⟨vt,IT,YC⟩:=bn.at_ vy;obtain⟨ys,⟨hw,f4⟩,h⟩:=h;refine cC.of h ?_;rintro K' B' E G - C a w ⟨p5,s6,ρ,F,ar,av⟩ bw fC Q di;have IU:ah B' c=some (.cells l):=(G c au7).trans aq;obtain⟨bj,aD,eT,O,J⟩:=ar.holds c _ IU;have aj:=av.ptr ((E x m1).trans hx);subst f4;have YD:=Bb hw J;have ba:n≠0:=by omega
    have dO:(execOp a.eval o).run P w= .ok (.value (.slice (some ⟨(ρ c).bk,0,none⟩) n n)) w:=by
     simp[execOp,ai,aj,Instr.sliceAt,run_underlying a8,Instr.sureAddr,Instr.sliceBounds,sizeOf,typeInfo,YC.jF,ba,pX]
    obtain⟨bN,aY⟩:=ar.step (B':=gL B' c) (ρ':=ρ) (F':=F) (w':=w) (fun d=>d=c) (fun _=>False) (cJ.refl _ w) (fun d ch J ba=>by
      rw[hk,if_neg (fun e=>ba e.symm)] at J;exact J) (fun _ _=>rfl) (fun _ _=>rfl) (fun _ _ h=>h) (fun _ h=>h.elim) (fun _ _ _ _ _ _ h=>h)
     (fun d ch J ar _=>by subst ar;rw[hk,if_pos rfl] at J;cases J)
     (fun d ch J ar=>by subst ar;rw[hk,if_pos rfl] at J;cases J)
     (fun d cZ ch ch' b J _ ar=>by subst ar;rw[hk,if_pos rfl] at J;cases J)
    have mz:=(bj (ρ c).bk).2 rfl
    have bb:bZ C (gL B' c) F w (ρ c).bk:=by
     obtain⟨cx,cA⟩:=ar.own c _ IU _ mz;refine⟨cx,?_,fun d ch J dm=>?_⟩
     .rcases cA with cA |cA
      .exact .inr (.inl cA)
      .exact .inr (.inr cA)
     .rw[hk] at J
      split at J
      .cases J
      .rename_i ba;exact ar.e9 c d _ ch _ IU J ba mz dm
    unfold Oper.wp;rw[dO,Oper.upon_value];refine di _ _ ⟨ke.trans p5,kf.trans s6,ρ,F,bN,(av.mono aY fun _ _ _=>rfl).kg (fun e V=>by rw[p5];exact bw e V) ?_⟩;have b6:List.length ys=n:=hw.1;refine⟨_,n,by rw[b6],au5,by simp only[maxLen];omega,fun _=>⟨_,0,rfl,bb,fun j aB aR=>?_⟩⟩;refine cp.mono aY v aB _ _ (fun q y aV=>?_) (YD.2 j aB aR);rw[Nat.zero_add];exact oD O aV
   .exact h.elim
  .exact h.elim
 .exact h.elim
theorem YE (bn:d6 P aU) {T:TypeId} (ai:o.op= .makeMap T none) (h:Iw aU T o.dst ids K B k):cC P N ids o K B k:=by
 unfold Iw at h
 split at h
 .rename_i kt et d cc J
  split at h
  .rename_i Oq vt aoG aoH
   split at h
   .rename_i aJ aL _ _;refine cC.bf h.2 h.1 <| bB.make (fun d h=>Yt h) fun K' B' g1 g2 C ρ F a w ar av hn=>?_
    refine⟨.map (some w.heap.size),w.alloc (.map #[] 0),⟨w.heap.size,none,0,0⟩,fun b=>b=w.heap.size,by simp only[execOp,ai,Option.map_none,Sem.run_bind,Xy,Result.andThen_ok,Sem.run_pure],sU w _,fun b O=>by subst O;exact⟨ap0 _,au7⟩,fun I V O=>⟨⟨fun b=>Iff.rfl,[],0,H1 _ rfl,rfl,⟨au7,fun e V=>by cases V⟩⟩,?_⟩⟩;simp only[ct,gy,dS,c6]
   .exact h.elim
  .exact h.elim
 .exact h.elim
end
end
end Go.Proofs.YthnboghbhgapcaaGreat
