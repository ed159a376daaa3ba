/-
A part of the proof of this claim: lemmas, with no condition beyond what each says.
-/
import Derived.Great.BuildSlice
import Derived.Laws.Small
import Derived.Maps.AppendAt
import Derived.Lib.Strings
import Derived.Test.YtkfbeijmgggkmaaGreatZc3
set_option linter.unusedVariables false
set_option linter.unusedSimpArgs false
set_option maxRecDepth 10000
set_option maxHeartbeats 4000000
namespace Go.Proofs.YtkfbeijmgggkmaaGreat
open Go.RowKit Go.Proofs
section
section
variable {ρ:Nat->bo} {I:Nat->Prop} {w:World}
theorem cq.wf: ∀(u:bA) (x:aa u) (c:Nat->Option Value),cq I w u x c->oS u x:=by
 intro u
 induction u with
 |bK u v oT oU=>exact fun x c h=>⟨oT _ _ h.1,oU _ _ h.2⟩
 |arr n u bu=>
  refine fun x c h=>⟨h.1,fun y aD=>?_⟩
  obtain⟨i,aG⟩:=List.getElem?_of_mem (α:=aa u) aD;exact bu _ _ (h.2 i y aG)
 |_=>exact fun x c h=>trivial
theorem cq.one (u:bA) (x:aa u) (c:Nat->Option Value) (h:cq I w u x c) (j:Nat) (V:j < aS u): ∃v,c j=some v/\v.oneCell'=true:=by
 obtain⟨v,E,G⟩:=cq.cell u x c j h V;exact⟨v,E,ok_one (ρ:=fun _=>⟨0,none,0,0⟩) (s:=.d (fM u x j)) rfl G⟩
theorem PR {i j n s:Nat} (aG:i < n) (V:j < s):i*s+j < n*s:=by
 have:=Nat.mul_le_mul_right s aG;rw[Nat.succ_mul] at this;omega
theorem PS {u:bA} {ys:List (aa u)} {v:Value} (h:cq I w (.b4 u) ys (fun _=>some v)) (a2: ∀b,I b->b < w.heap.size):
  ∃e2,fF I w (aS u) v ys.length e2/\gX I w u ys e2/\ ∀x∈e2,x.oneCell'=true:=by
 obtain⟨A,cap,e,E,G,al⟩:=h;injection e with e
 subst e;rcases Nat.eq_zero_or_pos ys.length with av |av
 .have aD:ys=[]:=List.eq_nil_of_length_eq_zero av;subst aD;exact⟨[],⟨aw2,A,cap,rfl,E,G,fun h=>absurd h aw2⟩,fun i x hx=>by simp at hx,fun x hx=>by cases hx⟩
 .obtain⟨b,o,rfl,O,hx⟩:=al av
  have J: ∀i (aG:i < ys.length) j,j < aS u-> ∃v,w.cell? ⟨b,o+(i*aS u+j),none⟩=some v/\v.oneCell'=true:=fun i aG j V=>
   cq.one u _ _ (hx i ys[i] (by simp[fz,aG])) j V
  have hn: ∀j,j < ys.length*aS u-> ∃v,w.cell? ⟨b,o+j,none⟩=some v/\v.oneCell'=true:=fun j V=>by
   obtain⟨af,ao,bm⟩:=EI V;have:=J _ af _ ao
   rwa[bm] at this
  have lL: ∀j,j < ys.length*aS u->((List.range (ys.length*aS u)).map fun j=>(w.cell? ⟨b,o+j,none⟩).getD undef)[j]? =w.cell? ⟨b,o+j,none⟩:=fun j V=>by
   obtain⟨v,aA,_⟩:=hn j V;rw[as6,List.getElem?_range V];simp[aA]
  refine⟨(List.range (ys.length*aS u)).map fun j=>(w.cell? ⟨b,o+j,none⟩).getD undef,⟨aw2,some ⟨b,o,none⟩,cap,rfl,E,G,fun _=>⟨b,o,rfl,O,a2 b O,fun j x V=>?_⟩⟩,fun i x dM=>?_,fun x dM=>?_⟩
  .have kx:=(ar1.1 V).1;simp only[ar7,List.length_range] at kx
   rwa[lL j kx] at V
  .have aG:=(ar1.1 dM).1;have H:=hx i x dM;refine cq.mk u x _ (cq.wf u x _ H) fun j V=>?_
   obtain⟨v,aA,aW⟩:=cq.cell u x _ j H V;exact⟨v,by rw[lL _ (PR aG V)];exact aA,aW⟩
  .obtain⟨j,V,rfl⟩:=as5.1 dM;obtain⟨v,aA,aW⟩:=hn j (List.mem_range.1 V);simpa[aA] using aW
theorem gX.uA {u:bA} {xs ys:List (aa u)} {cs ds:List Value} (h:gX I w u xs cs) (h':gX I w u ys ds) (ap:cs.length=xs.length*aS u):gX I w u (xs++ys) (cs++ds):=fun i x hx=>by
 by_cases aG:i < xs.length
 .rw[as8 aG] at hx;have H:=h i x hx;refine cq.mk u x _ (cq.wf u x _ H) fun j V=>?_
  obtain⟨v,aA,aW⟩:=cq.cell u x _ j H V;exact⟨v,by rw[as8 (by rw[ap];exact PR aG V)];exact aA,aW⟩
 .rw[at4 aw0] at hx;have H:=h' _ x hx;refine cq.mono (cj.refl _ _) u x _ _ (fun j v V=>?_) H;have e:i*aS u=xs.length*aS u+(i - xs.length)*aS u:=by rw[<-Nat.add_mul];congr 1;omega
  rw[at4 (by rw[ap,e];omega),<-V,ap,e]
  congr 1
  omega
theorem gX.nil (u:bA):gX I w u [] []:=fun i x hx=>by simp at hx
theorem BX {ρ:Nat->bo} {F:Nat->Prop} {p:bo} {e:TypeId} {u:bA} {xs:List (aa u)} (h:Holds ρ I F w p (.row e u xs)) {I':Nat->Prop} (a2: ∀b,I b->I' b) (bd: ∀b,F b->I' b):cq I' w (.b4 u) xs (fun _=>some p.eK):=by
 obtain⟨E,G,cs,al,aW⟩:=h;have BW:=al;rcases al.2 with⟨aA,av⟩ |⟨g,cap,df,aA,_,aY,ap,aw,_,_⟩
 .exact⟨none,0,by rw[aA,av],aw0,aw1,fun h=>absurd h aw0⟩
 .refine⟨some ⟨g,0,none⟩,cap,by rw[aA],ap,aw,fun _=>⟨g,0,rfl,bd g ((E g).2 (by rw[aA];rfl)),fun i x hx=>?_⟩⟩;refine cq.mono (fun b O=>⟨a2 b O,rfl⟩) u x _ _ (fun j v V=>?_) (aW i x hx);have:=BW.cells (g:=g) (by rw[aA];rfl) _ v V
  rwa[qk] at this
end
section
variable {P:Program} {aU:dl} {N:Nat} {ids:aA1} {o:Oper} {K:aX} {B:ay} {k:aO->fY->Prop} {C:fi} {ρ:Nat->bo} {F:Nat->Nat->Prop} {w w':World}
theorem Fi {b:Nat} {cs:Array Value} {S:Nat->Prop} (au:S b):cP S w (w.setRow b cs):=
 ⟨rfl,rfl,rfl,by simp[World.setRow],fun j _ hn=>setRow_other w b j cs (fun e=>hn (by rw[e];exact au))⟩
theorem PT {p q:Option Prop} (h:ut (Jc p q)):ut p/\ut q:=by
 cases p <;>cases q <;>first |exact⟨trivial,trivial⟩ |exact⟨trivial,h⟩ |exact⟨h,trivial⟩ |exact h
def ru {α:Type} (u:bA) (f:List bC->Option (α×List bC×Option Prop)) (g:α->aa u):Prop:= ∀(ρ:Nat->bo) (I:Nat->Prop) (w:World) (l:List bC) (x:α) (l':List bC) (p:Option Prop),f l=some (x,l',p)->ut p-> ∀aE,cc ρ I w l aE->
 ∃n1 tD,aE=n1++tD/\n1.length=aS u/\cq I w u (g x) (fun j=>n1[j]?)/\cc ρ I w l' tD/\ ∀v∈n1,v.oneCell'=true
theorem YY (k:IntKind):ru (.int k) (Jd k) (fun x=>x):=by
 intro ρ I w l x l' p h ae aE aA;unfold Jd at h
 split at h
 .rename_i d2 n l
  split at h
  .rename_i Z;have:=nZ Z;subst this;simp only[aq8,au6] at h;obtain⟨rfl,rfl,rfl⟩:=h;obtain⟨v,r,rfl,E,G⟩:=aA;have E:v= .int d2 n:=E;subst E;exact⟨[.int d2 n],r,rfl,rfl,rfl,G,by simp[Value.oneCell']⟩
  .cases h
 .cases h
theorem YZ:ru .u8 Je (fun x=>x):=by
 intro ρ I w l x l' p h ae aE aA;unfold Je at h
 split at h
 .rename_i d2 n l
  split at h
  .rename_i Z;have:=nZ Z;subst this;simp only[aq8,au6] at h;obtain⟨rfl,rfl,rfl⟩:=h;obtain⟨v,r,rfl,E,G⟩:=aA;have E:v= .int .u8 n:=E;subst E;have ae:0<=n/\n < 256:=ae;refine⟨[.int .u8 n],r,rfl,rfl,?_,G,by simp[Value.oneCell']⟩;show some (Value.int .u8 n)=some (Value.int .u8 ((UInt8.ofNat n.toNat).toNat:Int))
   congr 2
   rw[UInt8.toNat_ofNat'];omega
  .cases h
 .cases h
theorem Y0:ru .bool Jf (fun x=>x):=by
 intro ρ I w l x l' p h ae aE aA;unfold Jf at h
 split at h
 all_goals first |(cases h;done) |skip
 all_goals
  rename_i b l;simp only[aq8,au6] at h;obtain⟨rfl,rfl,rfl⟩:=h;obtain⟨v,r,rfl,E,G⟩:=aA;have E:v= .bool b:=E;subst E;exact⟨[.bool b],r,rfl,rfl,rfl,G,by simp[Value.oneCell']⟩
theorem Y1:ru .str Jg (fun x=>x):=by
 intro ρ I w l x l' p h ae aE aA;unfold Jg at h
 split at h
 .rename_i s l;simp only[aq8,au6] at h;obtain⟨rfl,rfl,rfl⟩:=h;obtain⟨v,r,rfl,E,G⟩:=aA;have E:v= .string ⟨s.toArray⟩:=E;subst E;exact⟨[_],r,rfl,rfl,rfl,G,by simp[Value.oneCell']⟩
 .cases h
theorem Y2:ru .dL Ji (fun x=>x):=by
 intro ρ I w l x l' p h ae aE aA;unfold Ji at h
 split at h
 .rename_i s l;simp only[aq8,au6] at h;obtain⟨rfl,rfl,rfl⟩:=h;obtain⟨v,r,rfl,E,G⟩:=aA;have E:v=rj s:=E;subst E;refine⟨[_],r,rfl,rfl,rfl,G,?_⟩;rcases s with _ |⟨b,n,c⟩ <;>simp[Value.oneCell',rj]
 .rename_i l;simp only[aq8,au6] at h;obtain⟨rfl,rfl,rfl⟩:=h;obtain⟨v,r,rfl,E,G⟩:=aA;have E:v= .slice none 0 0:=E;subst E;exact⟨[_],r,rfl,rfl,rfl,G,by simp[Value.oneCell']⟩
 .cases h
theorem PU {ρ:Nat->bo} {I:Nat->Prop} {w:World}: ∀{m:List kQ} {bs:aA1} {aE:List Value},BN m=some bs->hZ ρ I w m aE->aE=rk bs
 | [],bs,aE,h,aA=>by
  unfold BN at h;injection h with h
  rw[<-h];exact aA
 |c::m,bs,aE,h,aA=>by
  unfold BN at h
  split at h
  .rename_i e;cases e
  .rename_i b l e;injection e with af ao
   subst af ao
   split at h
   .rename_i r aC;injection h with h
    subst h;obtain⟨v,t,e,E,G⟩:=aA;have E:v= .pointer (some ⟨b,0,none⟩):=E;rw[e,E,PU aC G];rfl
   .cases h
  .cases h
theorem Y3:ru .fn Jj (fun x=>x):=by
 intro ρ I w l x l' p h ae aE aA;unfold Jj at h
 split at h
 .rename_i s l;simp only[aq8,au6] at h;obtain⟨rfl,rfl,rfl⟩:=h;obtain⟨v,r,rfl,E,G⟩:=aA;have E:v=mL s:=E;subst E;exact⟨[_],r,rfl,rfl,rfl,G,by simp[Value.oneCell',mL]⟩
 .rename_i f m l
  split at h
  .rename_i bs JM;simp only[aq8,au6] at h;obtain⟨rfl,rfl,rfl⟩:=h;obtain⟨v,r,rfl,⟨us,e,J⟩,G⟩:=aA;have su:=PU JM J;subst e su;exact⟨[_],r,rfl,rfl,rfl,G,by simp[Value.oneCell']⟩
  .cases h
 .cases h
theorem Y4:ru .aL Jh (fun x=>x):=by
 intro ρ I w l x l' p h ae aE aA;unfold Jh at h
 split at h
 .rename_i s l;simp only[aq8,au6] at h;obtain⟨rfl,rfl,rfl⟩:=h;obtain⟨v,r,rfl,E,G⟩:=aA;have E:v= .pointer (nU s):=E;subst E;exact⟨[_],r,rfl,rfl,rfl,G,by simp[Value.oneCell']⟩
 .rename_i l;simp only[aq8,au6] at h;obtain⟨rfl,rfl,rfl⟩:=h;obtain⟨v,r,rfl,E,G⟩:=aA;have E:v= .pointer none:=E;subst E;exact⟨[_],r,rfl,rfl,rfl,G,by simp[Value.oneCell']⟩
 .cases h
theorem Y5 (u:bA):ru (.b4 u) (Jk u) (fun x=>x):=by
 intro ρ I w l x l' p h ae aE aA;unfold Jk at h
 split at h
 .rename_i l;simp only[aq8,au6] at h;obtain⟨rfl,rfl,rfl⟩:=h;obtain⟨v,r,rfl,E,G⟩:=aA;have E:v= .slice none 0 0:=E;subst E;exact⟨[_],r,rfl,rfl,⟨none,0,rfl,aq4 _,aw1,fun h=>absurd h aw2⟩,G,by simp[Value.oneCell']⟩
 .rename_i v xs l
  split at h
  .rename_i U _;subst U;simp only[aq8,au6] at h;obtain⟨rfl,rfl,rfl⟩:=h;obtain⟨v,r,rfl,E,G⟩:=aA;have E:cq I w (.b4 _) xs (fun _=>some v):=E;refine⟨[v],r,rfl,rfl,?_,G,?_⟩
   .obtain⟨A,cap,e,al⟩:=E;exact⟨A,cap,e,al⟩
   .obtain⟨A,cap,e,al⟩:=E;injection e with e
    subst e;simp[Value.oneCell']
  .cases h
 .cases h
theorem Y6 {u v:bA} (E:ru u (nW u) (fun x=>x)) (G:ru v (nW v) (fun x=>x)):ru (.bK u v) (nW (.bK u v)) (fun x=>x):=by
 intro ρ I w l x l' p h ae aE aA;unfold nW at h
 cases af:nW u l with
 |none=>simp only[af] at h;cases h
 |some t=>
  obtain⟨y,i4,d6⟩:=t;simp only[af] at h
  cases ao:nW v i4 with
  |none=>simp only[ao] at h;cases h
  |some t=>
   obtain⟨aB,gT,cV⟩:=t;simp only[ao,aq8,au6] at h;obtain⟨rfl,rfl,rfl⟩:=h;obtain⟨cC,cF⟩:=PT ae;obtain⟨n1,r1,rfl,g1,g2,c2,jC⟩:=E ρ I w l y i4 d6 af cC aE aA;obtain⟨tD,r2,rfl,ce,cR,er,eQ⟩:=G ρ I w i4 aB _ cV ao cF r1 c2;refine⟨n1++tD,r2,aw2,by simp[aS,g1,ce],⟨?_,?_⟩,er,fun x hx=>(as4.1 hx).elim (jC x) (eQ x)⟩
   .refine cq.mk u y _ (cq.wf u y _ g2) fun j V=>?_
    obtain⟨x,hx,H⟩:=cq.cell u y _ j g2 V;exact⟨x,by rw[as8 aw0];exact hx,H⟩
   .refine cq.mono (cj.refl _ _) v aB _ _ (fun j x V=>?_) cR;show(n1++tD)[aS u+j]? =some x;rw[at4 aw0,show aS u+j - n1.length=j by omega];exact V
theorem zM: ∀u:bA,ru u (nW u) (fun x=>x)
 | .int k=>YY k
 | .u8=>YZ
 | .bool=>Y0
 | .str=>Y1
 | .aL=>Y4
 | .dL=>Y2
 | .fn=>Y3
 | .b4 u=>Y5 u
 | .bK u v=>Y6 (zM u) (zM v)
 | .arr n u=>fun ρ I w l x l' p h=>by unfold nW at h;cases h
theorem JN {ρ:Nat->bo} {I:Nat->Prop} {w:World} (u:bA): ∀(n:Nat) (l:List bC) (xs:List (aa u)) (p:Option Prop),xr u n l=some (xs,p)->ut p-> ∀aE,cc ρ I w l aE->xs.length=n/\aE.length=n*aS u/\gX I w u xs aE/\ ∀v∈aE,v.oneCell'=true
 |0,l,xs,p,h,ae,aE,aA=>by
  unfold xr at h
  split at h
  .simp only[aq8,au6] at h;obtain⟨rfl,rfl⟩:=h;rw[show aE=[] from aA];exact⟨rfl,aw2,gX.nil u,aw2⟩
  .cases h
  .rename_i e;cases e
 |n+1,l,xs,p,h,ae,aE,aA=>by
  unfold xr at h
  cases af:nW u l with
  |none=>simp only[af] at h;cases h
  |some t=>
   obtain⟨y,i4,d6⟩:=t;simp only[af] at h
   cases ao:xr u n i4 with
   |none=>simp only[ao] at h;cases h
   |some t=>
    obtain⟨ys,cV⟩:=t;simp only[ao,aq8,au6] at h;obtain⟨rfl,rfl⟩:=h;obtain⟨cC,cF⟩:=PT ae;obtain⟨n1,r1,rfl,g1,g2,c2,jC⟩:=zM u ρ I w l y i4 d6 af cC aE aA;obtain⟨ce,cR,er,eQ⟩:=JN u n i4 ys cV ao cF r1 c2;refine⟨by simp[ce],by simp[g1,cR,Nat.succ_mul,Nat.add_comm],?_,fun x hx=>(as4.1 hx).elim (jC x) (eQ x)⟩
    have:gX I w u [y] n1:=fun i x hx=>by
     match i with
     |0=>
      simp only[ar9,aq8] at hx;subst hx;exact cq.mono (cj.refl _ _) u y _ _ (fun j v V=>by simpa using V) g2
     |i+1=>simp at hx
    exact gX.uA this er (by simpa using g1)
theorem Y7 (bl:eh P aU) {T:TypeId} {x v:Operand} (ag:o.op= .store T x v) (h:match aU.find T with
  |some ti=>match a7 K x with
   | .c (.one (.ptr c o))=>match aj B c with
    |some (.cells l)=>match vT (a7 K v) with
     |some cs=>match Nat.beq cs.length ti.size,Nat.ble (o+cs.length) l.length with
      |true,true=>pJ (BM l o cs) fun l=>k .undef ⟨[c],[],[(c,some (.cells l))]⟩
      |_,_=>False
     |none=>False
    |_=>False
   | .c (.one (.gj c s i o))=>match aj B c with
    |some (.row e u xs)=>match Nat.beq (aS u) 1,Nat.beq s 1,Nat.beq o 0,Nat.beq ti.size 1,a7 K v with
     |true,true,true,true,.c (.one pK)=>match nW u [pK] with
      |some (y,[],p)=>(ut p/\i < xs.length)/\k .undef ⟨[c],[],[(c,some (.row e u (xs.set i y)))]⟩
      |_=>False
     |_,_,_,_,_=>False
    |_=>False
   |_=>False
  |none=>False):cI P N ids o K B k:=by
 have m1:x∈o.op.operands:=aw7
 have m2:v∈o.op.operands:=aw7
 split at h
 .rename_i ti gK;obtain⟨de,d,bz⟩:=bl.at_ gK
  split at h
  .rename_i c p J
   split at h
   .rename_i l ap
    split at h
    .rename_i cs f0
     split at h
     .rename_i E G;have E:=ar0 E;have G:=Nat.le_of_ble_eq_true G;rw[zA] at h;refine cI.of h <| bB.h0 ap fun K' B' af C ρ F a w ar au f1=>?_
      obtain⟨bd,aE,e3,O,H⟩:=ar.holds c _ f1;have aA:=au.get v;rw[af v m2] at aA;obtain⟨us,Y8,Fj,Y9⟩:=JK f0 aA;have bZ:=cc.length _ _ Fj;have PV:=cc.length _ _ H;refine⟨_,BU ag (au.ptr ((af x m1).trans J)) Y8 bz.jW (by rw[bZ,E];exact bz.size) O aw0 Y9,Fi ((bd _).2 rfl),fun I U=>⟨bd,_,e3,setRow_heap w _ _ _ e3 _ O,?_⟩⟩;exact cc.splice (cc.mono U _ _ (fun _ _=>rfl) H) (cc.mono U _ _ (fun _ _=>rfl) Fj)
     .exact h.elim
    .exact h.elim
   .exact h.elim
  .rename_i c s i p J
   split at h
   .rename_i e u xs ap
    split at h
    .rename_i pK kY bF uD BY vX
     split at h
     .rename_i y q Y';have kY:=ar0 kY;have bF:=ar0 bF;have uD:=ar0 uD;subst bF uD;obtain⟨⟨aP,aG⟩,h⟩:=h;refine cI.of h <| bB.h0 ap fun K' B' af C ρ F a w ar au f1=>?_
      obtain⟨bd,jY,cs,dC,jZ⟩:=ar.holds c _ f1;have aA:=au.get v;rw[af v m2,vX] at aA;have JO:=au.gj ((af x m1).trans J);obtain⟨n1,tD,c6,g1,g2,c2,jC⟩:=zM u ρ _ w [pK] y [] q Y' aP [a.eval v] ⟨_,[],rfl,aA,rfl⟩;have bZ:n1.length=1:=by rw[g1,kY]
      obtain rfl:n1=[a.eval v]:=by
       match n1,bZ with
       | [aB],_=>simp at c6;rw[c6.1]
      have ss:=jC (a.eval v) aw2
      have xm:(a.eval v).cells=List.toArray [a.eval v]:=by
       cases hx:a.eval v <;>first |rfl |(rw[hx] at ss;simp[Value.oneCell'] at ss)
      have PW:=dC;obtain⟨qm,dC⟩:=dC;rcases dC with⟨_,av⟩ |⟨g,cap,df,o0,_,aY,xC,aw,cu,cn⟩
      .omega
      .have uE:g=(ρ c).bh:=jY g (by rw[o0];rfl);subst uE;rw[kY,Nat.mul_one] at cu cn qm;have uF:w.heap[(ρ c).bh]? =some (.cells (List.toArray df.toList) e (0,0)):=by simpa using aY
       have lg:i*1+0+ [a.eval v].length<=df.toList.length:=ax4
       have uG:=BU (P:=P) (ev:=a.eval) (w:=w) ag JO xm bz.jW (by rw[bz.size,ar0 BY];rfl) uF lg (by simpa using ss);refine⟨_,uG,Fi ((bd _).2 (by rw[o0];rfl)),fun I U=>?_⟩;have o1:=setRow_heap w (ρ c).bh df (List.take (i*1+0) df.toList++[a.eval v]++List.drop (i*1+0+ [a.eval v].length) df.toList).toArray e (0,0) aY
       have gZ:(List.take (i*1+0) df.toList++[a.eval v]++List.drop (i*1+0+ [a.eval v].length) df.toList)=df.toList.set i (a.eval v):=by
        rw[List.set_eq_take_append_cons_drop,if_pos ax4];simp
       rw[gZ] at o1;refine⟨bd,jY,cs.set i (a.eval v),⟨by simp[qm,kY],.inr ⟨(ρ c).bh,cap,_,by rw[o0];simp,aq9 _,by rw[gZ];exact o1,by simpa using xC,aw,by simp[cu,kY],?_⟩⟩,fun j aB aR=>?_⟩
       .rw[<-cn];simp[kY,List.take_set]
       .by_cases kZ:i=j
        .subst kZ;rw[List.getElem?_set_self aG] at aR;injection aR with aR
         subst aR;refine cq.mono U u y _ _ (fun q x hx=>?_) g2
         match q with
         |0=>
          rw[kY,Nat.mul_one,Nat.add_zero,List.getElem?_set_self aw0];simpa using hx
         |q+1=>simp at hx
        .rw[List.getElem?_set_ne kZ] at aR;have H:=jZ j aB aR;refine cq.mk u aB _ (cq.wf u aB _ H) fun q aP=>?_
         obtain⟨x,hx,pN⟩:=cq.cell u aB _ q H aP;refine⟨x,?_,gP.mono U _ _ pN⟩;rw[kY] at aP⊢;rw[kY] at hx;rw[List.getElem?_set_ne aw0];exact hx
     .exact h.elim
    .exact h.elim
   .exact h.elim
  .exact h.elim
 .exact h.elim
end
end
section
section
variable {P:Program} {aU:dl} {N:Nat} {ids:aA1} {o:Oper} {K:aX} {B:ay} {k:aO->fY->Prop}
theorem PX {ρ:Nat->bo} {I:Nat->Prop} {w:World} {v:Value} {s:bC} (h:JD v s=true):d1 ρ I w s v/\v.oneCell'=true:=by
 unfold JD at h
 split at h
 .rename_i k n d2 n';simp only[vj,as1] at h;have:=nZ h.1;subst this;rw[h.2];exact⟨rfl,rfl⟩
 .rename_i b ea;rw[show b=ea by simpa using h];exact⟨rfl,rfl⟩
 .rename_i s l;have h:s.data.toList=l:=aw9
  subst h;exact⟨by simp[d1,gP],rfl⟩
 .exact⟨rfl,rfl⟩
 .exact⟨rfl,rfl⟩
 .exact⟨rfl,rfl⟩
 .exact⟨rfl,rfl⟩
 .exact⟨rfl,rfl⟩
 .cases h
theorem vY {ρ:Nat->bo} {I:Nat->Prop} {w:World}: ∀(aE:List Value) (l:List bC),tA aE l=true->cc ρ I w l aE/\ ∀u∈aE,u.oneCell'=true
 | [],[],_=>⟨rfl,aw2⟩
 |v::aE,s::l,h=>by
  simp only[tA,vj] at h;obtain⟨E,G⟩:=PX (ρ:=ρ) (I:=I) (w:=w) h.1;obtain⟨al,aW⟩:=vY (ρ:=ρ) (I:=I) (w:=w) aE l h.2;exact⟨⟨v,aE,rfl,E,al⟩,fun u a8=>(aq7.1 a8).elim (fun e=>e▸G) (aW u)⟩
 | [],_::_,h=>by simp[tA] at h
 |_::_,[],h=>by simp[tA] at h
theorem PY {c d p:Nat} (h:aO.has d (.c (.one (.ptr c p)))=true):d=c:=(ar0 h).symm
theorem BZ {c d:Nat} (h:aO.has d (.c (.one (.own c)))=true):d=c:=(ar0 h).symm
theorem Za (bl:eh P aU) {T:TypeId} (ag:o.op= .alloc T) (h:match aU.find T,o.dst with
  |some ti,some d=>g9 ids K B d=true/\k (.c (.one (.ptr d 0))) ⟨[],[d],[(d,some (.cells ti.zero))]⟩
  |_,_=>False):cI P N ids o K B k:=by
 split at h
 .rename_i ti d gK H;obtain⟨i,ds,bz⟩:=bl.at_ gK;obtain⟨aB,aR,mR⟩:=bz.zero;refine cI.bb h.2 h.1 <| bB.make (fun d h=>PY h) fun K' B' E G C ρ F a w ar au hn=>?_
  refine⟨_,_,⟨w.heap.size,none,0,0⟩,fun b=>b=w.heap.size,(by
   simp[execOp,ag,Instr.alloc,zeroValue,typeInfo,bz.jW,aR,newVar,newRow];rfl),ts w _,fun b O=>by subst O;exact⟨aq4 _,aw2⟩,fun I U O=>⟨⟨fun b=>Iff.rfl,aB.cells.toList,T,I1 _ rfl,(vY _ _ mR).1⟩,?_⟩⟩
  simp only[cx,gI,d1,dd]
 .exact h.elim
theorem Zb (bl:eh P aU) {T:TypeId} {x:Operand} (ag:o.op= .box T x) (h:match aU.find T,o.dst,vT (a7 K x) with
  |some ti,some d,some l=>match Nat.beq l.length ti.size with
   |true=>g9 ids K B d=true/\k (.c (.one (.ptr d 0))) ⟨[],[d],[(d,some (.cells l))]⟩
   |false=>False
  |_,_,_=>False):cI P N ids o K B k:=by
 have m1:x∈o.op.operands:=aw7
 split at h
 .rename_i ti d l gK H ap
  split at h
  .refine cI.bb h.2 h.1 <| bB.make (fun d h=>PY h) fun K' B' E G C ρ F a w ar au hn=>?_
   have aA:=au.get x;rw[E x m1] at aA;obtain⟨aE,af,ao,bm⟩:=JK ap aA
   refine⟨_,_,⟨w.heap.size,none,0,0⟩,fun b=>b=w.heap.size,(by
    simp[execOp,ag,Instr.box,newVar,newRow,af];rfl),ts w _,fun b O=>by subst O;exact⟨aq4 _,aw2⟩,fun I U O=>⟨⟨fun b=>Iff.rfl,aE,T,I1 _ rfl,?_⟩,?_⟩⟩
   .refine cc.mono U l aE (fun c J=>?_) ao;refine dm _ _ fun e=>?_
    subst e
    have bj:(a7 K x).has c=true:=by
     unfold vT at ap
     split at ap
     .rename_i hx
      split at ap
      .injection ap with ap;subst ap;rw[hx];simpa[aO.has,dQ.has,mM] using J
      .cases ap
     .rename_i hx
      split at ap
      .injection ap with ap;subst ap;rw[hx];simpa[aO.has,dQ.has] using J
      .cases ap
     .cases ap
    rw[<-E x m1] at bj
    cases x with
    |tmp t=>have:=hn t;simp only[a7] at bj;rw[this] at bj;cases bj
    |const v=>
     have j0: ∀u:Value,(vS u).has c=false:=fun u=>by unfold vS;split <;>rfl
     have dF: ∀us:List Value,mM c (us.map vS)=false:=fun us=>by induction us with
      |nil=>rfl
      |cons u us bu=>simp[mM,j0,bu]
     simp only[a7] at bj;unfold EM at bj
     split at bj <;>simp[aO.has,dQ.has,j0,dF] at bj
    |func f=>simp[a7,aO.has,dQ.has,bC.has,mh] at bj
    |global g=>simp[a7,aO.has,dQ.has,bC.has] at bj
   .simp only[cx,gI,d1,dd]
  .exact h.elim
 .exact h.elim
theorem PZ: ∀(us:List Value) (off j:Nat) (p m s:List Value),p.length=off+j->m.length=us.length->
  (us.zipIdx j).foldl (fun cs p=>cs.setIfInBounds (off+p.2) p.1) (p++m++s).toArray=(p++us++s).toArray
 | [],off,j,p,m,s,ae,aw=>by
  rw[show m=[] from List.eq_nil_of_length_eq_zero (by simpa using aw)];simp
 |u::us,off,j,p,[],s,ae,aw=>by simp at aw
 |u::us,off,j,p,x::m,s,ae,aw=>by
  simp only[List.zipIdx_cons,List.foldl_cons]
  have e:(p++x::m++s).toArray.setIfInBounds (off+j) u=((p++[u])++m++s).toArray:=by
   rw[List.setIfInBounds_toArray,<-ae];simp
  rw[e,PZ us off (j+1) (p++[u]) m s ax4 (by simpa using aw)];simp
theorem Zc (us aE:List Value) (off:Nat) (h:off+us.length<=aE.length):
  (us.zipIdx).foldl (fun cs p=>cs.setIfInBounds (off+p.2) p.1) aE.toArray=(aE.take off++us++aE.drop (off+us.length)).toArray:=by
 have e:aE=aE.take off++(aE.drop off).take us.length++aE.drop (off+us.length):=by
  rw[au2,<-List.drop_drop,List.take_append_drop,List.take_append_drop]
 have:=PZ us off 0 (aE.take off) ((aE.drop off).take us.length) (aE.drop (off+us.length)) ax4 ax4;rw[<-e] at this;exact this
theorem JP {K':aX} {ρ:Nat->bo} {I:Nat->Prop} {a:Act} {w:World} (au:ey K' ρ I a w) {mP place:Nat->Option (Nat×Nat)} (hm: ∀i d n,mP i=some (d,n)->place i=some (d,n)):
  ∀(bE:List (Nat×Operand)) (l l':List bC) (aE:List Value),(∀p∈bE,a7 K' p.2=a7 K p.2)->vU K mP bE l=some l'->cc ρ I w l aE->(∀u∈aE,u.oneCell'=true)->
   ∃sv,Instr.fill place (List.toArray aE) (bE.map fun p=>(p.1,a.eval p.2))=some (List.toArray sv)/\cc ρ I w l' sv/\ ∀u∈sv,u.oneCell'=true
 | [],l,l',aE,_,h,aA,E=>by
  simp only[vU,aq8] at h;subst h;exact⟨aE,rfl,aA,E⟩
 |(i,x)::bE,l,l',aE,dq,h,aA,E=>by
  unfold vU at h
  split at h
  .rename_i d n cs H f0
   split at h
   .rename_i af ao;have af:=ar0 af;have ao:=Nat.le_of_ble_eq_true ao;have hx:=au.get x;rw[dq (i,x) aw2] at hx;obtain⟨us,g1,g2,c2⟩:=JK f0 hx;have cC:=cc.length _ _ g2;have cF:=cc.length _ _ aA
    obtain⟨sv,ce,cR,er⟩:=JP au hm bE _ l' (aE.take d++us++aE.drop (d+us.length)) (fun p ae=>dq p (by simp[ae])) h (cc.splice aA g2) (fun u a8=>by
     simp only[as4] at a8;rcases a8 with(a8 |a8) |a8
     .exact E u (List.mem_of_mem_take a8)
     .exact c2 u a8
     .exact E u (List.mem_of_mem_drop a8))
    refine⟨sv,?_,cR,er⟩;rw[<-ce];simp only[ar8,Instr.fill,hm i d n H,g1];have hf:=Zc us aE d aw0;rw[if_neg ax4]
    congr 1
    rw[<-hf,<-Array.foldl_toList,Array.toList_zipIdx]
   .cases h
  .cases h
theorem Zd {fs:List Field} {l:List (Nat×Nat)} (h:rr P fs l=true):fs.mapM (fun f=>(P.info? f.type).map fun i=>(f.offset,i.size))=some l:=by
 induction fs generalizing l with
 |nil=>cases l with
  |nil=>rfl
  |cons _ _=>simp[rr] at h
 |cons f fs bu=>cases l with
  |nil=>simp[rr] at h
  |cons p l=>
   obtain⟨d,n⟩:=p;simp only[rr,vj] at h;obtain⟨⟨⟨E,G⟩,_⟩,aW⟩:=h
   split at G
   .rename_i i aG;have G:=ar0 G;have E:=ar0 E;simp[List.mapM_cons,aG,bu aW,E,G]
   .cases G
theorem Ze (bl:eh P aU) {T:TypeId} {bE:Array (Nat×Operand)} (ag:o.op= .build T bE) (h:match aU.find T with
  |some ti=>match ti.kd,vU K (fun f=>ti.mP[f]?) bE.toList ti.zero with
   | .st,some l=>pJ l fun l=>k (.c (.agg l)) bJ
   |_,_=>False
  |none=>False):cI P N ids o K B k:=by
 split at h
 .rename_i ti gK;obtain⟨i,d,bz⟩:=bl.at_ gK;obtain⟨aB,aR,mR⟩:=bz.zero
  split at h
  .rename_i l Z ap;rw[zA] at h;refine cI.of h <| bB.val fun K' B' E G C ρ F a w ar au=>?_
   obtain⟨ky,rv⟩:=vY (ρ:=ρ) (I:=b5 C B' F w) (w:=w) _ _ mR;obtain⟨sv,io,jB,pL⟩:=JP (K:=K) au (mP:=fun f=>ti.mP[f]?) (place:=fun f=>ti.mP[f]?) (fun i d n aG=>aG) bE.toList _ _ _ (fun p ae=>E p.2 (by rw[ag];simp only[Op.operands];simpa using⟨p.1,by simpa using ae⟩)) ap ky rv;refine⟨.agg (List.toArray sv),?_,sv,rfl,jB⟩
   have Zf:P.built T (bE.toList.map fun p=>(p.1,a.eval p.2))=some (List.toArray sv):=by
    unfold Program.built;rw[bz.jW,bz.n0];obtain⟨fs,_,tE⟩:=bz.st Z;have:=Zd (bz.mP fs tE);subst tE;simp only[aR,this];simpa using io
   unfold execOp;simp only[ag,Sem.run_bind,run_build w T _ _ (show P.built T ((bE.map fun p=>(p.1,a.eval p.2)).toList)=_ by simpa using Zf),Result.andThen_ok];rfl
  .exact h.elim
 .exact h.elim
end
end
section
section
variable {P:Program} {aU:dl} {N:Nat} {ids:aA1} {o:Oper} {K:aX} {B:ay} {k:aO->fY->Prop}
theorem pO (bl:eh P aU) {T e:Nat} {te:b8} (h:elemOf aU T=some (e,te)):P.underlying T=some (.slice e)/\ ∃i d,ml P e te i d:=by
 unfold elemOf at h
 split at h
 .rename_i ti gK
  split at h
  .rename_i b6 Z
   split at h
   .rename_i ap4 vZ;injection h with h
    injection h with E G
    subst E G;obtain⟨_,_,bz⟩:=bl.at_ gK;exact⟨bz.b4 Z,bl.at_ vZ⟩
   .cases h
  .cases h
 .cases h
theorem Fk (bl:eh P aU) {T:Nat} (h:xw aU T=true):P.underlying T=some .string:=by
 unfold xw at h
 split at h
 .rename_i ti gK
  split at h
  .rename_i Z;obtain⟨_,_,bz⟩:=bl.at_ gK;exact bz.str Z
  .cases h
 .cases h
theorem xD (bl:eh P aU) {T:Nat} (h:rq aU T=true):P.underlying T=some (.int .u8)/\ ∃ti i d,ml P T ti i d/\ti.zero=[.d (.int .u8 0)]/\ti.size=1/\ti.bytes=1:=by
 unfold rq at h
 split at h
 .rename_i ti gK
  split at h
  .rename_i Z aR ax O;obtain⟨i,d,bz⟩:=bl.at_ gK;exact⟨bz.int Z,ti,i,d,bz,aR,ax,O⟩
  .cases h
 .cases h
def sw (n:Nat) (l:List Value):List Value:=match n with
 |0=>[]
 |n+1=>l++sw n l
theorem Zg (n:Nat) (l:List Value):(sw n l).length=n*l.length:=by
 induction n with
 |zero=>simp[sw]
 |succ n bu=>simp[sw,bu,Nat.succ_mul,Nat.add_comm]
theorem Zh (n:Nat) (l:List Value): ∀j,j < n*l.length->(sw n l)[j]? =l[j % l.length]? :=by
 induction n with
 |zero=>intro j V;simp at V
 |succ n bu=>
  intro j V;unfold sw
  by_cases h:j < l.length
  .rw[as8 h,Nat.mod_eq_of_lt h]
  .rw[at4 aw0,bu _ (by rw[Nat.succ_mul] at V;omega),Nat.mod_eq_sub_mod (a:=j) aw0]
theorem Zi {ρ:Nat->bo} {I:Nat->Prop} {w:World} (n:Nat) {l:List bC} {aE:List Value} (h:cc ρ I w l aE):cc ρ I w (EW n l) (sw n aE):=by
 induction n with
 |zero=>rfl
 |succ n bu=>exact cc.uA _ _ _ _ h bu
theorem Zj {n:Nat} {l:List Value} {v:Value} (h:v∈sw n l):v∈l:=by
 induction n with
 |zero=>simp[sw] at h
 |succ n bu=>exact(as4.1 h).elim id bu
theorem Zk (aB:Array Value) (n:Nat) (aR:0 < aB.size):(Array.range (n*aB.size)).map (aB[· % aB.size]!)=(sw n aB.toList).toArray:=by
 apply Array.ext';simp only[Array.toList_map,List.toList_toArray];apply List.ext_getElem?;intro j
 by_cases V:j < n*aB.size
 .rw[Zh n aB.toList j ay0];simp only[Array.length_toList];have aw:j % aB.size < aB.size:=Nat.mod_lt _ aR;simp[V,aw]
 .rw[au9 ax4,au9 (by rw[Zg];simp;omega)]
theorem Zl {w:World} {l:List Value} {e:TypeId} {j:Nat} {v:Value} (h:l[j]? =some v):(w.alloc (.cells (List.toArray l) e)).cell? ⟨w.heap.size,j,none⟩=some v:=
 oZ (T:=e) (heap_alloc_new w _) h
theorem Zm {I:Nat->Prop} {w:World} {u:bA} {xs:List (aa u)} {cs:List Value} {e:TypeId} {cap:Nat} (aC:gX I (w.alloc (.cells (List.toArray cs) e)) u xs cs) (a2:I w.heap.size) (J:xs.length<=cap) (aw:cap<=maxLen):
  cq I (w.alloc (.cells (List.toArray cs) e)) (.b4 u) xs (fun _=>some (.slice (some ⟨w.heap.size,0,none⟩) xs.length cap)):=
 ⟨_,cap,rfl,J,aw,fun _=>⟨_,0,rfl,a2,fun i x hx=>cq.mono (cj.refl _ _) u x _ _ (fun j v V=>by
  simp only[Nat.zero_add];exact Zl V) (aC i x hx)⟩⟩
theorem Fl (w:World) (e s n:Nat) (cs:List Value) (ap:cs.length=n*s) (aw:n<=maxLen):(w.alloc (.cells (List.toArray cs) e)).ownsRow 0 e s (.slice (some ⟨w.heap.size,0,none⟩) n n) n cs:=
 ⟨ap,.inr ⟨_,n,_,rfl,aq9 _,heap_alloc_new w _,aq4 _,aw,by simpa using ap,by simp[<-ap]⟩⟩
theorem Zn (bl:eh P aU) {T:TypeId} {bE:Array (Nat×Operand)} (ag:o.op= .buildSlice T 0 bE) (h:match elemOf aU T,o.dst with
  |some (e,te),some d=>match te.u with
   |some u=>g9 ids K B d=true/\k (.c (.one (.own d))) ⟨[],[d],[(d,some (.row e u []))]⟩
   |none=>False
  |_,_=>False) (lM:bE.toList=[]):cI P N ids o K B k:=by
 split at h
 .rename_i e te d U H;obtain⟨a8,de,ds,bz⟩:=pO bl U
  split at h
  .rename_i u vZ;refine cI.bb h.2 h.1 <| bB.make (fun d h=>BZ h) fun K' B' E G C ρ F a w ar au hn=>?_
   have Zo:bE= #[]:=Array.toList_eq_nil_iff.1 lM;refine⟨.slice (some ⟨w.heap.size,0,none⟩) 0 0,w.alloc (.cells #[] e),⟨w.heap.size,some ⟨w.heap.size,0,none⟩,0,0⟩,fun b=>b=w.heap.size,?_,ts w _,fun b O=>by subst O;exact⟨aq4 _,aw2⟩,fun I U O=>⟨⟨?_,?_,[],?_,gX.nil u⟩,?_⟩⟩
   .subst Zo;simp[execOp,ag,Instr.buildSlice,run_underlying a8,sizeOf,typeInfo,bz.jW,Instr.fill,newRow];rw[show(Array.range 0)= #[] from rfl];simp
   .intro b;simp[bo.eK,Value.ownBlock,eq_comm]
   .intro b O;simp[bo.eK,Value.ownBlock] at O;exact O.symm
   .exact Fl w e (aS u) 0 [] aw2 aw1
   .simp only[cx,gI,d1,dd,bo.eK]
  .exact h.elim
 .exact h.elim
theorem Zp (bl:eh P aU) {T n:Nat} {bE:Array (Nat×Operand)} (ag:o.op= .buildSlice T n bE) (xE:n≠0) (h:match elemOf aU T with
  |some (_,te)=>match te.u with
   |some u=>match Nat.ble (n*te.size) 1000,vU K (fun i=>some (i*te.size,te.size)) bE.toList (EW n te.zero) with
    |true,some l=>match xr u n l with
     |some (xs,none)=>k (.c (.one (.d (.cf u xs)))) bJ
     |some (xs,some p)=>p/\k (.c (.one (.d (.cf u xs)))) bJ
     |none=>n=1/\ ∃y:aa u,(oS u y/\l=gr u y 0 (aS u))/\k (.c (.one (.d (.cf u [y])))) bJ
    |_,_=>False
   |none=>False
  |none=>False):cI P N ids o K B k:=by
 split at h
 .rename_i e te U;obtain⟨a8,de,ds,bz⟩:=pO bl U;obtain⟨aB,aR,mR⟩:=bz.zero
  split at h
  .rename_i u vZ
   split at h
   .rename_i l fZ ap;have fZ:=Nat.le_of_ble_eq_true fZ
    have sx: ∀xs:List (aa u),(∀(ρ:Nat->bo) (I:Nat->Prop) (w:World) (aE:List Value),cc ρ I w l aE->xs.length=n/\aE.length=n*aS u/\gX I w u xs aE)->bB P N ids o K B (.c (.one (.d (.cf u xs)))) bJ:=fun xs hA=>bB.new fun K' B' E G C ρ F a w ar au=>by
     obtain⟨ky,rv⟩:=vY (ρ:=ρ) (I:=b5 C B' F w) (w:=w) _ _ mR
     have nT:aB.cells.size=de.size:=by
      have E:=cc.length _ _ ky;simp at E;rw[E,bz.JG,bz.size]
     have mm:0 < de.size:=by have:=bz.pos;have:=bz.size;omega
     have sy:aS u=de.size:=(bz.u u vZ).trans bz.size.symm
     obtain⟨aE,io,jB,pL⟩:=JP (K:=K) au (mP:=fun i=>some (i*te.size,te.size)) (place:=fun i=>some (i*de.size,de.size)) (fun i d n aG=>by rw[bz.size];exact aG) bE.toList _ _ (sw n aB.cells.toList)
      (fun p ae=>E p.2 (by rw[ag];simp only[Op.operands];simpa using⟨p.1,by simpa using ae⟩)) ap (Zi n ky) (fun v aA=>rv v (Zj aA))
     obtain⟨hM,jj,qp⟩:=hA ρ _ w aE jB
     have dW:=run_buildSlice (P:=P) w T e n (bE.map fun p=>(p.1,a.eval p.2)) (List.toArray aE) de aB a8 bz.jW aR (by rw[bz.size];omega)
      (by rw[Nat.mul_eq_zero];omega) (by rw[<-nT,Zk aB.cells n aw0,nT];simpa using io)
     refine⟨.slice (some ⟨w.heap.size,0,none⟩) n n,w.alloc (.cells (List.toArray aE) e),?_,ts w (.cells (List.toArray aE) e),fun I U a2=>?_⟩
     .unfold execOp;simp only[ag,Sem.run_bind,dW,Result.andThen_ok];rfl
     .have:=Zm (e:=e) (cap:=n) (gX.mono (U) qp) (a2 _ (aq4 _) aw2) aw0 (by simp only[maxLen];have:=Nat.le_mul_of_pos_right n (show 0 < te.size by have:=bz.pos;omega);omega);rw[hM] at this;exact this
    split at h
    .rename_i xs H
     exact cI.of h <| sx xs fun ρ I w aE aA=>by
      obtain⟨hM,jj,qp,_⟩:=JN u n l xs none H trivial aE aA;exact⟨hM,jj,qp⟩
    .rename_i xs p H
     exact cI.of h.2 <| sx xs fun ρ I w aE aA=>by
      obtain⟨hM,jj,qp,_⟩:=JN u n l xs (some p) H h.1 aE aA;exact⟨hM,jj,qp⟩
    .obtain⟨hn,y,⟨hw,f1⟩,h⟩:=h;subst hn;refine cI.of h <| sx [y] fun ρ I w aE aA=>?_
     subst f1;refine⟨rfl,by rw[cc.length _ _ aA,tC,Nat.one_mul],fun i x hx=>?_⟩
     match i with
     |0=>
      simp only[ar9,aq8] at hx;subst hx;refine cq.mono (cj.refl _ _) u y _ _ (fun j v V=>?_) (BV hw aA);rw[Nat.zero_mul,Nat.zero_add];exact V
     |i+1=>simp at hx
   .exact h.elim
  .exact h.elim
 .exact h.elim
end
end
section
section
variable {P:Program} {aU:dl} {N:Nat} {ids:aA1} {o:Oper} {K:aX} {B:ay} {k:aO->fY->Prop}
theorem P0 {ev:Operand->Value} {T uH:TypeId} {x i:Operand} {b q n c s:Nat} {w:World} {m:Int} {de:TypeInfo} (ag:o.op= .indexAddr T x i) (hx:ev x= .slice (some ⟨b,q,none⟩) n c) (aG:ev i= .int .i64 m) (a8:P.underlying T=some (.slice uH)) (ql:P.info? uH=some de) (ax:de.size=s)
  (av:0<=m) (Z:m.toNat < n):(execOp ev o).run P w= .ok (.value (.pointer (some ⟨b,q+m.toNat*s,none⟩))) w:=by
 subst ax;have E:m < (n:Int):=aw8
 simp[execOp,ag,hx,aG,Instr.indexAt,asIntOf,run_underlying a8,av,E,sizeOf,typeInfo,ql,qk]
theorem Zq (bl:eh P aU) {T:TypeId} {x i:Operand} (ag:o.op= .indexAddr T x i) (h:match elemOf aU T,a7 K i with
  |some (_,te),.c (.one (.d (.int .i64 n)))=>match a7 K x with
   | .c (.one (.d (.cf u xs)))=>match Nat.beq te.size (aS u) with
    |true=>0<=n/\ ∃y,fz xs n.toNat=some y/\k (.c (.one (.el u y 0))) bJ
    |false=>False
   | .c (.one (.own c))=>match aj B c with
    |some (.row _ u xs)=>match Nat.beq te.size (aS u) with
     |true=>(0<=n/\n < xs.length)/\k (.c (.one (.gj c (aS u) n.toNat 0))) ⟨[c],[],[]⟩
     |false=>False
    |_=>False
   |_=>False
  |_,_=>False):cI P N ids o K B k:=by
 have m1:x∈o.op.operands:=aw7
 have m2:i∈o.op.operands:=aw7
 split at h
 .rename_i e te n U aG;obtain⟨a8,de,ds,bz⟩:=pO bl U
  split at h
  .rename_i u xs hx
   split at h
   .rename_i ax;have ax:=ar0 ax;obtain⟨av,y,aD,h⟩:=h;refine cI.of h <| bB.two hx aG m1 m2 fun K' ρ I a w au af ao=>?_
    obtain⟨A,cap,bm,c6,f2,h1⟩:=au.cf af;injection bm with bm
    have bx:=BI aD;obtain⟨b,q,rfl,a2,H⟩:=h1 aw0;refine⟨_,P0 ag bm (au.int ao) a8 bz.jW (bz.size.trans ax) av bx,b,q+n.toNat*aS u,by rw[Nat.add_zero],a2,?_⟩;refine cq.mono (cj.refl _ _) u y _ _ (fun j v V=>?_) (H _ y aD);rw[<-V]
    congr 2
    omega
   .exact h.elim
  .rename_i c hx
   split at h
   .rename_i b6 u xs ap
    split at h
    .rename_i ax;have ax:=ar0 ax;obtain⟨⟨av,E⟩,h⟩:=h;refine cI.of h <| bB.val fun K' B' g1 g2 C ρ F a w ar au=>?_
     obtain⟨bd,jY,cs,dC,_⟩:=ar.holds c _ ((g2 c aw2).trans ap);have dM:=au.own ((g1 x m1).trans hx);rcases dC.2 with⟨_,G⟩ |⟨g,cap,df,aA,_⟩
     .omega
     .have O:=jY g (by rw[aA];rfl);refine⟨_,P0 ag (dM.trans aA) (au.int ((g1 i m2).trans aG)) a8 bz.jW (bz.size.trans ax) av aw0,?_⟩;simp only[cx,gI,d1];rw[<-O,Nat.zero_add,Nat.add_zero]
    .exact h.elim
   .exact h.elim
  .exact h.elim
 .exact h.elim
theorem Zr (bl:eh P aU) {T:TypeId} {x i:Operand} (ag:o.op= .index T x i) (h:match xw aU T,a7 K x,a7 K i with
  |true,.c (.one (.d (.str s))),.c (.one (.d (.int .i64 n)))=>0<=n/\ ∃y,fz s n.toNat=some y/\k (.c (.one (.d (.int .u8 (UInt8.toNat y:Int))))) bJ
  |_,_,_=>False):cI P N ids o K B k:=by
 have m1:x∈o.op.operands:=aw7
 have m2:i∈o.op.operands:=aw7
 split at h
 .rename_i s n ci hx aG;obtain⟨av,y,aD,h⟩:=h;have a8:=Fk bl ci;refine cI.of h <| bB.two hx aG m1 m2 fun K' ρ I a w au af ao=>⟨_,?_,rfl⟩
  have O:(⟨s.toArray⟩:ByteArray)[n.toNat]? =some y:=by
   have bx:=BI aD;have:=(ar1.1 aD).2;rw[getElem?_pos (⟨s.toArray⟩:ByteArray) n.toNat (by rw[xB];exact bx)];simp only[aq8];rw[<-this];rfl
  simp[execOp,ag,au.str af,au.int ao,Instr.index,asIntOf,run_underlying a8,av,O]
 .exact h.elim
theorem JQ {K':aX} {ρ:Nat->bo} {I:Nat->Prop} {a:Act} {w:World} (au:ey K' ρ I a w) {n cap:Nat} {Fm:Bool} {hz aG:Option Operand} {l h:Nat} {p:Prop} (O:zD n (hz.map (a7 K)) (aG.map (a7 K))=some (l,h,p)) (ae:p) (J:n<=cap)
  (ap: ∀x,hz=some x->a7 K' x=a7 K x) (bj: ∀x,aG=some x->a7 K' x=a7 K x):
  (Instr.sliceBounds Fm n cap (hz.map a.eval) (aG.map a.eval) none).run P w= .ok (l,h,cap) w/\l<=h/\h<=n:=by
 unfold zD at O
 split at O
 .rename_i j E G
  cases hz with
  |some x=>simp at E
  |none=>
   cases aG with
   |none=>simp at G
   |some y=>
    simp only[au5,aq8] at G;simp only[aq8,au6] at O;obtain⟨rfl,rfl,rfl⟩:=O;have aD:=au.int ((bj y rfl).trans G);have q:j<=(cap:Int):=aw8
    refine⟨?_,aw0,aw0⟩;simp[Instr.sliceBounds,Instr.sliceBound,asIntOf,aD,ae.1,q]
 .rename_i i E G
  cases hz with
  |none=>simp at E
  |some x=>
   cases aG with
   |some y=>simp at G
   |none=>
    simp only[au5,aq8] at E;simp only[aq8,au6] at O;obtain⟨rfl,rfl,rfl⟩:=O;have hx:=au.int ((ap x rfl).trans E);refine⟨?_,aw0,aq4 _⟩;simp[Instr.sliceBounds,Instr.sliceBound,asIntOf,hx,ae.1,ae.2]
 .rename_i i j E G
  cases hz with
  |none=>simp at E
  |some x=>
   cases aG with
   |none=>simp at G
   |some y=>
    simp only[au5,aq8] at E G;simp only[aq8,au6] at O;obtain⟨rfl,rfl,rfl⟩:=O;have hx:=au.int ((ap x rfl).trans E);have aD:=au.int ((bj y rfl).trans G);have JR:0<=j:=aw8
    have q:j<=(cap:Int):=aw8
    have cC:i<=((j.toNat:Nat):Int):=aw8
    refine⟨?_,aw0,aw0⟩;simp[Instr.sliceBounds,Instr.sliceBound,asIntOf,hx,aD,ae.1,JR,q,ae.2.1];intro bx;omega
 .rename_i E G
  cases hz with
  |some x=>simp at E
  |none=>
   cases aG with
   |some y=>simp at G
   |none=>
    simp only[aq8,au6] at O;obtain⟨rfl,rfl,rfl⟩:=O;refine⟨?_,aq9 _,aq4 _⟩;simp[Instr.sliceBounds]
 .cases O
theorem Zs {I:Nat->Prop} {w:World} {u:bA} {xs:List (aa u)} {A:Option Addr} {cap l h:Nat} (hx:cq I w (.b4 u) xs (fun _=>some (.slice A xs.length cap))) (ap:l<=h) (bj:h<=xs.length):
  cq I w (.b4 u) ((xs.take h).drop l) (fun _=>some (.slice (if cap=l then A else A.map (·.add (l*aS u))) (h - l) (cap - l))):=by
 obtain⟨A',JS,e,E,G,al⟩:=hx;injection e with e
 injection e with af ao bm
 subst af bm;have bZ:List.length ((xs.take h).drop l)=h - l:=by rw[au3,ar3];omega
 refine⟨_,_,by rw[bZ],by rw[bZ];omega,aw0,fun mm=>?_⟩;rw[bZ] at mm;obtain⟨b,q,rfl,a2,H⟩:=al aw0;refine⟨b,q+l*aS u,by rw[if_neg aw0,au5,qk],a2,fun i x aG=>?_⟩
 have JT:fz (α:=aa u) xs (l+i)=some x:=by
  unfold fz at aG⊢;rw[List.getElem?_drop,List.getElem?_take] at aG
  split at aG
  .exact aG
  .cases aG
 refine cq.mono (cj.refl _ _) u x _ _ (fun j v V=>?_) (H _ x JT);rw[<-V,Nat.add_mul]
 congr 2
 omega
theorem Zt (bl:eh P aU) {T:TypeId} {x:Operand} {hz aG:Option Operand} (ag:o.op= .slice T x hz aG none) (h:Jq aU T (a7 K x) (hz.map (a7 K)) (aG.map (a7 K)) k):cI P N ids o K B k:=by
 have m1:x∈o.op.operands:=aw7
 have m2: ∀y,hz=some y->y∈o.op.operands:=fun y aD=>by rw[ag];simp[Op.operands,aD]
 have m3: ∀y,aG=some y->y∈o.op.operands:=fun y aD=>by rw[ag];simp[Op.operands,aD]
 unfold Jq at h
 split at h
 .rename_i s hx
  split at h
  .rename_i l bj p ci O;have a8:=Fk bl ci;refine cI.of h.2 <| bB.val fun K' B' E G C ρ F a w ar au=>⟨_,?_,rfl⟩
   have dM:=au.str ((E x m1).trans hx);obtain⟨cC,cF,dD⟩:=JQ (P:=P) au (Fm:=false) O h.1 (aq4 _) (fun y aD=>E y (m2 y aD)) (fun y aD=>E y (m3 y aD));rw[<-xB s] at cC
   have U:(⟨s.toArray⟩:ByteArray).extract l bj=⟨((s.take bj).drop l).toArray⟩:=by
    have e:=Lib.extract_data ⟨s.toArray⟩ l bj
    cases aR:(⟨s.toArray⟩:ByteArray).extract l bj with
    |mk tB=>
     rw[aR] at e;simp only at e
     congr 1
     rw[<-Array.toArray_toList (xs:=tB),e,List.drop_take]
   rw[<-U];simp only[execOp,ag,Sem.run_bind,Instr.sliceAt,Instr.slice,run_underlying a8,Result.andThen_ok,dM,Option.map_none];simp only[Option.isSome_none,Bool.false_eq_true,if_false,Sem.run_bind,Sem.run_pure,Result.andThen_ok,cC]
  .exact h.elim
 .rename_i u xs hx
  split at h
  .rename_i e te l bj p U O;obtain⟨a8,de,ds,bz⟩:=pO bl U
   split at h
   .rename_i ax;have ax:=ar0 ax;refine cI.of h.2 <| bB.val fun K' B' E G C ρ F a w ar au=>?_
    have H:=au.cf ((E x m1).trans hx);have dn:=H;obtain⟨A,cap,bm,c6,f2,h1⟩:=dn;injection bm with bm
    rw[bm] at H;obtain⟨cC,cF,dD⟩:=JQ (P:=P) (w:=w) au (Fm:=true) O h.1 c6 (fun y aD=>E y (m2 y aD)) (fun y aD=>E y (m3 y aD));refine⟨_,?_,Zs H cF dD⟩;have aR:(sizeOf e).run P w= .ok (aS u) w:=by simp[sizeOf,typeInfo,bz.jW,bz.size,ax]
    simp only[execOp,ag,Sem.run_bind,Instr.sliceAt,Instr.slice,run_underlying a8,Result.andThen_ok,bm,Option.map_none,cC,aR,Sem.run_pure]
   .exact h.elim
  .exact h.elim
 .exact h.elim
theorem P1 {I:Nat->Prop} {w:World} {s:aA0} {v:Value} (h:cq I w (.b4 .u8) s (fun _=>some v)) (a2: ∀b,I b->b < w.heap.size): ∃A c,v= .slice A s.length c/\mf I w (.slice A s.length c) s:=by
 obtain⟨e2,E,G,al⟩:=PS h a2;have tF:=E;obtain⟨ap,A,c,rfl,_⟩:=E
 have e:e2=s.map ij:=by
  apply List.ext_getElem?;intro i;rw[as6]
  cases ax:s[i]? with
  |none=>
   have:=List.getElem?_eq_none_iff.1 ax;rw[au9 (by rw[ap];simp[aS];exact this)];rfl
  |some x=>
   have:=G i x ax;have this:e2[i*aS .u8+0]? =some (.int .u8 (UInt8.toNat x:Int)):=this;simpa[aS,ij] using this
 subst e;exact⟨A,c,rfl,tF⟩
theorem Zu (bl:eh P aU) {S T:TypeId} {x:Operand} (ag:o.op= .convert S T x) (h:Jp aU S T (a7 K x) B k):cI P N ids o K B k:=by
 have m1:x∈o.op.operands:=aw7
 unfold Jp at h
 split at h
 .rename_i Pv ti ax cn;obtain⟨o2,hM,zN⟩:=bl.at_ ax;obtain⟨o3,jj,tG⟩:=bl.at_ cn
  split at h
  .rename_i i j PQ n ce cR hx
   split at h
   .rename_i V _;have V:=nZ V;subst V;refine cI.of h <| bB.one hx m1 fun K' ρ I a w au af=>⟨_,?_,rfl⟩
    have aA:=au.int af;have hw:IntKind.u8.wrap n=n % 256:=by simp[IntKind.wrap,IntKind.bits,IntKind.signed]
    simp[execOp,ag,aA,convert,run_underlying (zN.int ce),run_underlying (tG.int cR),Conv.intToInt,hw]
   .have h:=xu h;refine cI.of h.2 <| bB.one hx m1 fun K' ρ I a w au af=>⟨_,?_,rfl⟩
    have aA:=au.int af;simp[execOp,ag,aA,convert,run_underlying (zN.int ce),run_underlying (tG.int cR),Conv.intToInt,xA h.1]
  .rename_i e s ce cR hx
   split at h
   .rename_i a8;obtain⟨rx,_⟩:=xD bl a8;refine cI.of h.2 <| bB.new fun K' B' E G C ρ F a w ar au=>?_
    have aA:=au.str ((E x m1).trans hx);obtain⟨cap,d0,dW,O,gE⟩:=Yp (P:=P) w S T e ⟨s.toArray⟩ (zN.str ce) (tG.b4 cR) rx (by rw[xB];exact h.1);rw[xB] at dW O;refine⟨.slice (some ⟨w.heap.size,0,none⟩) s.length cap,d0,by simp only[execOp,ag,Sem.run_bind,aA,dW,Result.andThen_ok,Sem.run_pure],gE,fun I U a2=>?_⟩;obtain⟨ap,A,c,af,ao,bm,c6⟩:=O;injection af with af lh Zv
    subst af Zv;have jD:s.length<=cap:=by simpa using ao
    refine⟨_,cap,rfl,jD,bm,fun mm=>?_⟩;have Zw:0 < s.length:=mm;obtain⟨b,q,nn,vQ,bx,J⟩:=c6 (by simpa using Zw);refine⟨b,q,nn,a2 b vQ bx,fun i y aD=>?_⟩
    have aw:(List.map ij s)[i]? =some (ij y):=by
     rw[as6];exact congrArg (Option.map ij) aD
    show d0.cell? ⟨b,q+(i*1+0),none⟩=some (ij y);rw[Nat.mul_one,Nat.add_zero];exact J i _ aw
   .exact h.elim
  .rename_i e s ce cR hx
   split at h
   .rename_i a8;obtain⟨rx,_⟩:=xD bl a8;refine cI.of h <| bB.val fun K' B' E G C ρ F a w ar au=>⟨_,?_,rfl⟩
    obtain⟨A,c,aA,O⟩:=P1 (au.cf ((E x m1).trans hx)) (fun b O=>O.1);simp only[execOp,ag,Sem.run_bind,aA,Pd O S T e (zN.b4 ce) rx (tG.str cR),Result.andThen_ok,Sem.run_pure]
   .exact h.elim
  .rename_i e ce cR hx
   split at h
   .rename_i a8;obtain⟨rx,_⟩:=xD bl a8;refine cI.of h <| bB.one hx m1 fun K' ρ I a w au af=>⟨_,?_,rfl⟩
    have aA:=au.dH af;simp only[execOp,ag,Sem.run_bind,aA,run_convert_bytes_nil (P:=P) (w:=w) S e (zN.b4 ce) rx 0 0 T (tG.str cR),Result.andThen_ok,Sem.run_pure];rfl
   .exact h.elim
  .rename_i e c ce cR hx
   split at h
   .rename_i b6 s ap a8;obtain⟨rx,_⟩:=xD bl a8;refine cI.of h <| bB.val fun K' B' E G C ρ F a w ar au=>⟨_,?_,rfl⟩
    have dC:=ar.holds c _ ((G c aw2).trans ap);have H:=BX dC (I':=fun b=>b < w.heap.size) (fun b O=>O.1) (fun b O=>(ar.own c _ ((G c aw2).trans ap) b O).1);obtain⟨A,mn,aA,O⟩:=P1 H (fun b O=>O);have dM:=au.own ((E x m1).trans hx);simp only[execOp,ag,Sem.run_bind,dM,aA,Pd O S T e (zN.b4 ce) rx (tG.str cR),Result.andThen_ok,Sem.run_pure]
   .exact h.elim
  .exact h.elim
 .exact h.elim
theorem Zx (bl:eh P aU) {T:TypeId} {x:Operand} {hz aG:Option Operand} {c:Nat} (ag:o.op= .slice T x hz aG none) (hx:a7 K x= .c (.one (.own c))) (h:match elemOf aU T,aj B c with
   |some (_,te),some (.row _ u xs)=>match zD xs.length (hz.map (a7 K)) (aG.map (a7 K)),Nat.beq te.size (aS u) with
    |some (l,h,p),true=>p/\k (.c (.one (.os c (aS u) l (h - l)))) ⟨[c],[],[]⟩
    |_,_=>False
   |_,_=>False):cI P N ids o K B k:=by
 have m1:x∈o.op.operands:=aw7
 have m2: ∀y,hz=some y->y∈o.op.operands:=fun y aD=>by rw[ag];simp[Op.operands,aD]
 have m3: ∀y,aG=some y->y∈o.op.operands:=fun y aD=>by rw[ag];simp[Op.operands,aD]
 split at h
 .rename_i e te b6 u xs U ap;obtain⟨a8,de,ds,bz⟩:=pO bl U
  split at h
  .rename_i l bj p O ax;have ax:=ar0 ax;refine cI.of h.2 <| bB.val fun K' B' E G C ρ F a w ar au=>?_
   have dM:=au.own ((E x m1).trans hx);obtain⟨_,_,cs,dC,_⟩:=ar.holds c _ ((G c aw2).trans ap);obtain⟨_,A,cap,aA,hn,J,_⟩:=fF.sm dC;unfold bo.eK at aA dM;injection aA with af ao bm
   rw[ao] at dM;obtain⟨cC,cF,dD⟩:=JQ (P:=P) (w:=w) au (Fm:=true) O h.1 (by rw[<-bm] at hn;exact hn:xs.length<=(ρ c).cap) (fun y aD=>E y (m2 y aD)) (fun y aD=>E y (m3 y aD));refine⟨_,?_,rfl⟩;have aR:(sizeOf e).run P w= .ok (aS u) w:=by simp[sizeOf,typeInfo,bz.jW,bz.size,ax]
   simp only[execOp,ag,Sem.run_bind,Instr.sliceAt,Instr.slice,run_underlying a8,Result.andThen_ok,dM,Option.map_none,cC,aR,Sem.run_pure]
  .exact h.elim
 .exact h.elim
end
end
section
section
variable {P:Program} {aU:dl} {N:Nat} {ids:aA1} {o:Oper} {K:aX} {B:ay} {k:aO->fY->Prop}
theorem Zy {c d:Nat} (h:aO.has d (.c (.one (.mp c)))=true):d=c:=(ar0 h).symm
theorem Fo (bl:eh P aU) {T kt et:Nat} (h:xx aU T=some (kt,et)):P.underlying T=some (.map kt et):=by
 unfold xx at h
 split at h
 .rename_i ti gK
  split at h
  .rename_i k e Z;obtain⟨_,_,bz⟩:=bl.at_ gK;injection h with h
   injection h with E G
   subst E G;have:=bz.kd;rw[Z] at this;rw[bz.n0]
   cases H:‹TypeDesc› <;>simp[H,tz] at this⊢
   exact this
  .cases h
 .cases h
theorem JU (bl:eh P aU) {kt:Nat} {aH:bA} (h:xz aU kt aH=true): ∃d,P.underlying kt=some d/\nl aH d=true:=by
 unfold xz at h
 split at h
 .rename_i ti gK;obtain⟨_,_,bz⟩:=bl.at_ gK
  split at h
  .rename_i k d2 Z;have:=nZ h;subst this;exact⟨_,bz.int Z,by simp[nl]⟩
  .rename_i Z;exact⟨_,bz.str Z,rfl⟩
  .cases h
 .cases h
theorem Fp: ∀u:bA,oS u (cL u)
 | .int _=>trivial
 | .u8=>trivial
 | .bool=>trivial
 | .str=>trivial
 | .aL=>trivial
 | .dL=>trivial
 | .fn=>trivial
 | .b4 _=>trivial
 | .bK u v=>⟨Fp u,Fp v⟩
 | .arr n u=>⟨at1,fun x hx=>by
  have e:x=cL u:=List.eq_of_mem_replicate hx;rw[e];exact Fp u⟩
theorem Zz {ρ:Nat->bo} {I:Nat->Prop} {w:World} {s:bC} {x:D} {v:Value} (h:E2 s x=true) (aA:d1 ρ I w s v):gP I w x v:=by
 unfold E2 at h
 split at h
 .simp only[vj,as1] at h;obtain⟨E,G⟩:=h;have:=nZ E;subst this G;exact aA
 .exact aA
 .exact aA
 .exact aA
 .rename_i b c;have:b=c:=aw9
  subst this;exact aA
 .rw[show v=_ from aA];exact⟨none,0,rfl,aq4 _,aq9 _,fun h=>absurd h (Nat.lt_irrefl 0)⟩
 .cases h
theorem P2: ∀{l m:List bC},iM l m=true->l.length=m.length
 | [],[],_=>rfl
 |s::l,.d x::m,h=>by
  simp only[iM,vj] at h;simp[P2 h.2]
 | [],_::_,h=>by simp[iM] at h
 |_::_,[],h=>by simp[iM] at h
 |_::_,.ptr _ _::_,h=>by simp[iM] at h
 |_::_,.own _::_,h=>by simp[iM] at h
 |_::_,.el _ _ _::_,h=>by simp[iM] at h
 |_::_,.gj _ _ _ _::_,h=>by simp[iM] at h
 |_::_,.os _ _ _ _::_,h=>by simp[iM] at h
 |_::_,.mp _::_,h=>by simp[iM] at h
 |_::_,.cY _ _::_,h=>by simp[iM] at h
 |_::_,.dH::_,h=>by simp[iM] at h
 |_::_,.bM _::_,h=>by simp[iM] at h
 |_::_,.any::_,h=>by simp[iM] at h
theorem P3: ∀{l m:List bC},iM l m=true-> ∀(i:Nat) (y:bC),m[i]? =some y-> ∃s x,l[i]? =some s/\y= .d x/\E2 s x=true
 | [],[],_,i,y,aD=>by simp at aD
 |s::l,.d x::m,h,0,y,aD=>by
  simp only[iM,vj] at h;simp only[ar9,aq8] at aD;exact⟨s,x,rfl,aD.symm,h.1⟩
 |s::l,.d x::m,h,i+1,y,aD=>by
  simp only[iM,vj] at h;simpa using P3 h.2 i y (by simpa using aD)
 | [],_::_,h,_,_,_=>by simp[iM] at h
 |_::_,[],h,_,_,aD=>by simp at aD
 |_::_,.ptr _ _::_,h,_,_,_=>by simp[iM] at h
 |_::_,.own _::_,h,_,_,_=>by simp[iM] at h
 |_::_,.el _ _ _::_,h,_,_,_=>by simp[iM] at h
 |_::_,.gj _ _ _ _::_,h,_,_,_=>by simp[iM] at h
 |_::_,.os _ _ _ _::_,h,_,_,_=>by simp[iM] at h
 |_::_,.mp _::_,h,_,_,_=>by simp[iM] at h
 |_::_,.cY _ _::_,h,_,_,_=>by simp[iM] at h
 |_::_,.dH::_,h,_,_,_=>by simp[iM] at h
 |_::_,.bM _::_,h,_,_,_=>by simp[iM] at h
 |_::_,.any::_,h,_,_,_=>by simp[iM] at h
theorem ZA (bl:eh P aU) {et:Nat} {aJ:bA} (h:E3 aU et aJ=true) {I:Nat->Prop} {w:World}: ∃aB,(zeroValue et).run P w= .ok aB w/\jy I w aJ (cL aJ) aB:=by
 unfold E3 at h
 split at h
 .rename_i ti gK;obtain⟨i,d,bz⟩:=bl.at_ gK;simp only[vj,beq_iff_eq,Bool.or_eq_true] at h;obtain⟨⟨E,G⟩,al⟩:=h;obtain⟨aB,aR,mR⟩:=bz.zero;have H:=(vY (ρ:=fun _=>⟨0,none,0,0⟩) (I:=I) (w:=w) _ _ mR).1;have ap:=cc.length _ _ H;have qq:ti.zero.length=aS aJ:=(P2 E).trans (tC aJ _ _ _)
  have ax:aB.cells.size=aS aJ:=by
   rw[<-qq,<-ap];simp
  refine⟨aB,by simp[zeroValue,typeInfo,bz.jW,aR],ax,⟨fun ag=>?_,fun ag=>?_⟩,cq.mk _ _ _ (Fp aJ) fun j V=>?_⟩
  .refine bz.PE aB aR ?_;rw[bz.row,G,ag];rfl
  .have:2<=aS aJ:=by
    rcases al with al |al
    .rw[ag] at al;cases al
    .exact Nat.le_of_ble_eq_true al
   cases aB with
   |agg cs=>exact⟨cs,rfl⟩
   |_=>simp[Value.cells] at ax;omega
  .have aY:=zL aJ (cL aJ) (aS aJ) 0 j V;rw[Nat.zero_add] at aY;obtain⟨s,x,af,ao,bm⟩:=P3 E j _ aY;injection ao with ao
   obtain⟨v,c6,f2⟩:=cc.get _ _ H j s af;exact⟨v,c6,by rw[ao];exact Zz bm f2⟩
 .cases h
theorem P4 {ρ:Nat->bo} {I:Nat->Prop} {w:World} {u:bA} {x:aa u} {v:Value} (ag:nk u=true) (h:jy I w u x v):d1 ρ I w (.d (fM u x 0)) v:=by
 obtain⟨E,G,al⟩:=h;have J:=G.1 ag;have mm:0 < aS u:=by rw[<-E,J];simp
 obtain⟨da,af,ao⟩:=cq.cell u x _ 0 al mm;rw[J] at af;simp at af;subst af;exact ao
theorem P5 {ρ:Nat->bo} {I:Nat->Prop} {w:World} {u:bA} {x:aa u} {v:Value} (ag:nk u=false) (h:jy I w u x v):gI ρ I w (.agg (gr u x 0 (aS u))) v:=by
 obtain⟨E,G,al⟩:=h;obtain⟨cs,e⟩:=G.2 ag;subst e;obtain⟨aE,g1,g2⟩:=Fg (ρ:=ρ) al (aS u) 0 aw0;have ap:=cc.length _ _ g1;rw[tC] at ap
 have e:aE=cs.toList:=by
  apply List.ext_getElem?;intro j
  by_cases V:j < aE.length
  .obtain⟨v,aA⟩: ∃v,aE[j]? =some v:=⟨_,oj V⟩;have:=g2 j v aA;rw[aA,<-this];simp[Value.cells]
  .rw[au9 aw0,au9 (by simp[Value.cells] at E;simp;omega)]
 subst e;exact⟨_,aw2,g1⟩
theorem Fq {ρ:Nat->bo} {I:Nat->Prop} {w:World} {u:bA} {x:aa u} {v:Value} (h:jy I w u x v):gI ρ I w (zE u x) v:=by
 cases u with
 |bK u v=>exact P5 rfl h
 |arr n u=>exact P5 rfl h
 |_=>exact P4 (ρ:=ρ) rfl h
theorem ZB {ρ:Nat->bo} {I:Nat->Prop} {w:World} {u:bA} {s:aO} {y:aa u} {p:Option Prop} (h:Ju u s=some (y,p)) (ae:ut p) {v:Value} (aA:cx ρ I w s v):jy I w u y v:=by
 unfold Ju at h
 split at h
 .rename_i da y'
  split at h
  .rename_i sz _ ag;subst sz;injection h with h
   injection h with E G
   subst E G;obtain⟨aE,e,E,G⟩:=aA;subst e;exact⟨by simpa[Value.cells] using E,⟨fun e=>(by rw[ag] at e;cases e),fun _=>⟨_,rfl⟩⟩,by simpa[Value.cells,I9] using G⟩
  .cases h
 .rename_i s'
  split at h
  .rename_i y' i5 ag H;injection h with h
   injection h with E G
   subst E G;obtain⟨n1,tD,af,ao,bm,c6,f2⟩:=zM u ρ I w _ _ _ _ H ae [v] ⟨v,[],rfl,aA,rfl⟩;rw[show tD=[] from c6,au0] at af;subst af
   have J:v.cells= #[v]:=by
    have:=f2 v aw2
    cases v <;>first |rfl |(simp[Value.oneCell'] at this)
   refine⟨by rw[J,<-ao];rfl,⟨fun _=>J,fun e=>(by rw[ag] at e;cases e)⟩,by rw[J];exact bm⟩
  .cases h
 .rename_i l
  split at h
  .rename_i y' i5 ag H;injection h with h
   injection h with E G
   subst E G;obtain⟨aE,e,aA⟩:=aA;subst e;obtain⟨n1,tD,af,ao,bm,c6,f2⟩:=zM u ρ I w _ _ _ _ H ae aE aA;rw[show tD=[] from c6,au0] at af;subst af;exact⟨by simpa[Value.cells] using ao,⟨fun e=>(by rw[ag] at e;cases e),fun _=>⟨_,rfl⟩⟩,by simpa[Value.cells] using bm⟩
  .cases h
 .cases h
theorem B0 {ρ:Nat->bo} {I:Nat->Prop} {w:World} {aH:bA} {s:aO} {key:aa aH} (h:xy aH s=some key) {v:Value} (aA:cx ρ I w s v):v=gQ aH key:=by
 unfold xy at h
 split at h
 .split at h
  .rename_i e;have:=nZ e;injection h with h
   subst this h;exact aA
  .cases h
 .injection h with h
  subst h;exact aA
 .cases h
theorem ey.mp {K':aX} {ρ:Nat->bo} {I:Nat->Prop} {a:Act} {w:World} {x:Operand} (au:ey K' ρ I a w) {c:Nat} (h:a7 K' x= .c (.one (.mp c))):a.eval x= .map (some (ρ c).bh):=au.ev h
theorem ZC (bl:eh P aU) {T:TypeId} {x i:Operand} {ok:Bool} (ag:o.op= .lookup T x i ok) (h:Jt aU T (a7 K x) (a7 K i) ok B k):cI P N ids o K B k:=by
 have m1:x∈o.op.operands:=aw7
 have m2:i∈o.op.operands:=aw7
 unfold Jt at h
 split at h
 .rename_i c hx
  split at h
  .rename_i aH aJ es ap
   split at h
   .rename_i kt et key ci Z
    have sx: ∀(v:aO),(xz aU kt aH&&E3 aU et aJ)=true->(∀(ρ:Nat->bo) (I:Nat->Prop) (w:World) (u:Value),jy I w aJ ((bY es key).getD (cL aJ)) u->cx ρ I w v (if ok then .tuple #[u,.bool (bY es key).isSome] else u))->bB P N ids o K B v ⟨[c],[],[]⟩:=by
     intro v bz aA;simp only[vj] at bz;obtain⟨d,xF,kX⟩:=JU bl bz.1;refine bB.val fun K' B' g1 g2 C ρ F a w ar au=>?_
     obtain⟨bd,bU,bV,O,aw,dy⟩:=ar.holds c _ ((g2 c aw2).trans ap);obtain⟨aB,aR,zx⟩:=ZA bl bz.2 (I:=b5 C B' F w) (w:=w);obtain⟨u,aC,a8⟩:=Pl (P:=P) (Fo bl ci) xF kX O aw aR zx key ok;have af:=au.mp ((g1 x m1).trans hx);have ao:a.eval i=gQ aH key:=B0 Z (au.ev (g1 i m2));exact⟨_,by simp only[execOp,ag,Sem.run_bind,af,ao,aC,Result.andThen_ok,Sem.run_pure],aA ρ _ w u a8⟩
    split at h
    .rename_i bz;rw[EO] at h;refine cI.of h (sx _ bz fun ρ I w u a8=>?_);exact⟨[u,.bool (bY es key).isSome],rfl,u,_,rfl,Fq a8,_,_,rfl,rfl,rfl⟩
    .rename_i bz;rw[EO] at h;exact cI.of h (sx _ bz fun ρ I w u a8=>Fq a8)
    .exact h.elim
   .exact h.elim
  .exact h.elim
 .exact h.elim
theorem uI {w:World} {b:Nat} {mS:Obj} {S:Nat->Prop} (au:S b):cP S w {w with heap:=w.heap.setIfInBounds b mS}:=
 ⟨rfl,rfl,rfl,aw2,fun j _ hn=>by simp only[];rw[Array.getElem?_setIfInBounds_ne (fun e=>hn (by rw[<-e];exact au))]⟩
theorem ZD (bl:eh P aU) {T:TypeId} {x i v:Operand} (ag:o.op= .mapUpdate T x i v) (h:Jv aU T (a7 K x) (a7 K i) (a7 K v) B k):cI P N ids o K B k:=by
 have m1:x∈o.op.operands:=aw7
 have m2:i∈o.op.operands:=aw7
 have m3:v∈o.op.operands:=aw7
 unfold Jv at h
 split at h
 .rename_i c hx
  split at h
  .rename_i aH aJ es ap
   split at h
   .rename_i kt et key ci Z
    have sx: ∀y:aa aJ,xz aU kt aH=true->(∀(ρ:Nat->bo) (I:Nat->Prop) (w:World) (u:Value),cx ρ I w (a7 K v) u->jy I w aJ y u)->bB P N ids o K B .undef ⟨[c],[],[(c,some (.map aH aJ (dw es key y)))]⟩:=fun y bz aA=>by
     obtain⟨d,xF,kX⟩:=JU bl bz;refine bB.h0 ap fun K' B' g1 C ρ F a w ar au f1=>?_
     obtain⟨bd,bU,bV,O,aw,dy⟩:=ar.holds c _ f1;have af:=au.mp ((g1 x m1).trans hx);have ao:a.eval i=gQ aH key:=B0 Z (au.ev (g1 i m2));have bm:jy _ _ aJ y (a.eval v):=aA _ _ _ _ (au.ev (g1 v m3));obtain⟨eE,jV,aC,gv,qr⟩:=BL (P:=P) (Fo bl ci) xF kX O aw dy key bm;have bx:=(Array.getElem?_eq_some_iff.1 O).1;refine⟨{w with heap:=w.heap.setIfInBounds (ρ c).bh (.map (List.toArray eE) jV)},by simp only[execOp,ag,Sem.run_bind,af,ao,aC,Result.andThen_ok,Sem.run_pure],uI ((bd _).2 rfl),fun I aZ=>⟨bd,eE,jV,by simp[bx],gv.mono aZ,qr⟩⟩
    split at h
    .rename_i y p bz aA;exact cI.of h.2 (sx y bz fun ρ I w u a8=>ZB aA h.1 a8)
    .rename_i bz _
     split at h
     .rename_i l aA ss;obtain⟨y,⟨hw,f1⟩,h⟩:=h;refine cI.of h (sx y bz fun ρ I w u a8=>?_);rw[aA] at a8;obtain⟨aE,e,H⟩:=a8;subst e f1;exact⟨by simpa[Value.cells,tC] using cc.length _ _ H,⟨fun e=>(by rw[ss] at e;cases e),fun _=>⟨_,rfl⟩⟩,by simpa[Value.cells] using BV hw H⟩
     .exact h.elim
    .exact h.elim
   .exact h.elim
  .exact h.elim
 .exact h.elim
theorem bB.P6 {c:Nat} {cB ch:ba} (J:aj B c=some cB)
  (h: ∀(K':aX) (B':ay),(∀x,x∈o.op.operands->a7 K' x=a7 K x)-> ∀(C:fi) (ρ:Nat->bo) (F:Nat->Nat->Prop) (a:Act) (w:World),Mem ids C B' ρ F w->ey K' ρ (b5 C B' F w) a w->aj B' c=some cB-> ∃w',(execOp a.eval o).run P w= .ok (.value (.tuple #[])) w'/\cP (F c) w w'/\
   (∀I,cj (b5 C B' F w) w I w'->Holds ρ I (F c) w' (ρ c) ch)):
  bB P N ids o K B (.cb []) ⟨[c],[],[(c,some ch)]⟩:=by
 rintro K' B' E G - C a w ⟨hn,H,ρ,F,ar,au⟩ bx fO Q dq;have cQ:aj B' c=some cB:=(G c aw2).trans J;obtain⟨w',hx,cE,c0⟩:=h K' B' E C ρ F a w ar au cQ;obtain⟨bP,U⟩:=ar.h0 cQ cE c0;unfold Oper.wp;rw[hx,Oper.upon_value];exact dq _ _ ⟨kq.trans hn,kr.trans H,ρ,F,bP,(au.mono U fun _ _ _=>rfl).ku (fun e U=>by rw[hn];exact bx e U) ⟨[],rfl,rfl⟩⟩
theorem ZE (bl:eh P aU) {T e3:TypeId} {x i:Operand} {c:Call} (ag:o.op= .call c) (dX:c.callee= .builtin .delete) (ei:c.args.toList=[x,i]) (lN:c.argTypes.toList=[T,e3]) (h:Jw aU T (a7 K x) (a7 K i) B k):cI P N ids o K B k:=by
 have fG:c.args= #[x,i]:=Array.toList_inj.1 ei;have jE:c.argTypes= #[T,e3]:=Array.toList_inj.1 lN;obtain⟨sA,args,cv⟩:=c;simp only at dX fG jE;subst dX fG jE;have m1:x∈o.op.operands:=ax1
 have m2:i∈o.op.operands:=ax1
 unfold Jw at h
 split at h
 .rename_i c hx
  split at h
  .rename_i aH aJ es ap
   split at h
   .rename_i kt et key ci Z
    split at h
    .rename_i bz;obtain⟨d,xF,kX⟩:=JU bl bz;refine cI.of h <| bB.P6 ap fun K' B' g1 C ρ F a w ar au f1=>?_
     obtain⟨bd,bU,bV,O,aw,dy⟩:=ar.holds c _ f1;have af:=au.mp ((g1 x m1).trans hx);have ao:a.eval i=gQ aH key:=B0 Z (au.ev (g1 i m2));obtain⟨eE,aC,gv,qr⟩:=Pr (P:=P) (ty:=o.type) (Fo bl ci) xF kX O aw dy key e3;have bx:=(Array.getElem?_eq_some_iff.1 O).1;refine⟨{w with heap:=w.heap.setIfInBounds (ρ c).bh (.map (List.toArray eE) bV)},?_,uI ((bd _).2 rfl),fun I aZ=>⟨bd,eE,bV,by simp[bx],gv.mono aZ,qr⟩⟩;simp[execOp,ag,resolve,invoke,builtin,af,ao,aC]
    .exact h.elim
   .exact h.elim
  .exact h.elim
 .exact h.elim
theorem ml.arr {T:Nat} {ti:b8} {i:TypeInfo} {d:TypeDesc} (h:ml P T ti i d) {n e:Nat} (Z:ti.kd= .arr n e):P.underlying T=some (.array n e):=by
 have:=h.kd;rw[Z] at this;rw[h.n0]
 cases d <;>simp[tz] at this⊢
 exact this
theorem ZF (bl:eh P aU) {T:TypeId} {x:Operand} (ag:o.op= .sliceToArrayPointer T x) (h:Jz aU T (a7 K x) k):cI P N ids o K B k:=by
 have m1:x∈o.op.operands:=aw7
 unfold Jz at h
 split at h
 .rename_i ti v xs gK hx;obtain⟨i,d,bz⟩:=bl.at_ gK
  split at h
  .rename_i n e Z;obtain⟨⟨av,fZ⟩,h⟩:=h;have a8:=bz.arr Z;refine cI.of h <| bB.one hx m1 fun K' ρ I a w au af=>?_
   obtain⟨A,cap,bm,c6,f2,h1⟩:=au.cf af;injection bm with bm
   obtain⟨b,q,rfl,a2,H⟩:=h1 aw0;refine⟨.pointer (some ⟨b,q,none⟩),?_,b,q,rfl,a2,by simp;omega,fun i aB aR=>?_⟩
   .have: ¬List.length xs < n:=aw8
    simp[execOp,ag,bm,Instr.arrayAt,run_underlying a8,this]
   .have pP:fz (α:=aa v) xs i=some aB:=by
     unfold fz at aR⊢;rw[List.getElem?_take] at aR
     split at aR
     .exact aR
     .cases aR
    exact H i aB pP
  .exact h.elim
 .exact h.elim
theorem ZG (bl:eh P aU) {T:TypeId} {x:Operand} {c:Nat} (ag:o.op= .slice T x none none none) (hx:a7 K x= .c (.one (.ptr c 0))) (h:Jy aU T c B k):cI P N ids o K B k:=by
 have m1:x∈o.op.operands:=aw7
 unfold Jy at h
 split at h
 .rename_i ti gK;obtain⟨i,d,bz⟩:=bl.at_ gK
  split at h
  .rename_i n e m v Z _;have a8:=bz.arr Z
   split at h
   .rename_i te l hn vZ ap;simp only[vj,Nat.beq_eq,Nat.ble_eq,Nat.blt_eq] at hn;obtain⟨⟨_,ke⟩,xE⟩:=hn;obtain⟨vV,JV,ZH⟩:=bl.at_ vZ;obtain⟨ys,⟨hw,f1⟩,h⟩:=h;refine cI.of h ?_;rintro K' B' E G - C a w ⟨qs,tE,ρ,F,ar,au⟩ bx fO Q dq;have JW:aj B' c=some (.cells l):=(G c aw2).trans ap;obtain⟨bd,aE,e3,O,H⟩:=ar.holds c _ JW;have af:=au.ptr ((E x m1).trans hx);subst f1;have ZI:=BV hw H;have a6:n≠0:=aw8
    have dW:(execOp a.eval o).run P w= .ok (.value (.slice (some ⟨(ρ c).bh,0,none⟩) n n)) w:=by
     simp[execOp,ag,af,Instr.sliceAt,run_underlying a8,Instr.sureAddr,Instr.sliceBounds,sizeOf,typeInfo,ZH.jW,a6,qk]
    obtain⟨bP,aZ⟩:=ar.step (B':=gY B' c) (ρ':=ρ) (F':=F) (w':=w) (fun d=>d=c) (fun _=>False) (cP.refl _ w) (fun d ch H a6=>by
      rw[hv,if_neg (fun e=>a6 e.symm)] at H;exact H) (fun _ _=>rfl) (fun _ _=>rfl) (fun _ _ h=>h) (fun _ h=>h.elim) (fun _ _ _ _ _ _ h=>h)
     (fun d ch H ar _=>by subst ar;rw[hv,if_pos rfl] at H;cases H)
     (fun d ch H ar=>by subst ar;rw[hv,if_pos rfl] at H;cases H)
     (fun d cT ch ch' b H _ ar=>by subst ar;rw[hv,if_pos rfl] at H;cases H)
    have mT:=(bd (ρ c).bh).2 rfl
    have a2:b5 C (gY B' c) F w (ρ c).bh:=by
     obtain⟨cC,cF⟩:=ar.own c _ JW _ mT;refine⟨cC,?_,fun d ch H dt=>?_⟩
     .rcases cF with cF |cF
      .exact .inr (.inl cF)
      .exact .inr (.inr cF)
     .rw[hv] at H
      split at H
      .cases H
      .rename_i a6;exact ar.fj c d _ ch _ JW H a6 mT dt
    unfold Oper.wp;rw[dW,Oper.upon_value];refine dq _ _ ⟨kq.trans qs,kr.trans tE,ρ,F,bP,(au.mono aZ fun _ _ _=>rfl).ku (fun e U=>by rw[qs];exact bx e U) ?_⟩;have bZ:List.length ys=n:=hw.1;refine⟨_,n,by rw[bZ],aw0,by simp only[maxLen];omega,fun _=>⟨_,0,rfl,a2,fun j aB aR=>?_⟩⟩;refine cq.mono aZ v aB _ _ (fun q y aP=>?_) (ZI.2 j aB aR);rw[Nat.zero_add];exact oZ O aP
   .exact h.elim
  .exact h.elim
 .exact h.elim
theorem ZJ (bl:eh P aU) {T:TypeId} (ag:o.op= .makeMap T none) (h:Jx aU T o.dst ids K B k):cI P N ids o K B k:=by
 unfold Jx at h
 split at h
 .rename_i kt et d ci H
  split at h
  .rename_i Pw vV ap5 ap6
   split at h
   .rename_i aH aJ _ _;refine cI.bb h.2 h.1 <| bB.make (fun d h=>Zy h) fun K' B' g1 g2 C ρ F a w ar au hn=>?_
    refine⟨.map (some w.heap.size),w.alloc (.map #[] 0),⟨w.heap.size,none,0,0⟩,fun b=>b=w.heap.size,by simp only[execOp,ag,Option.map_none,Sem.run_bind,YE,Result.andThen_ok,Sem.run_pure],ts w _,fun b O=>by subst O;exact⟨aq4 _,aw2⟩,fun I U O=>⟨⟨fun b=>Iff.rfl,[],0,I1 _ rfl,rfl,⟨aw2,fun e U=>by cases U⟩⟩,?_⟩⟩;simp only[cx,gI,d1,dd]
   .exact h.elim
  .exact h.elim
 .exact h.elim
end
end
end Go.Proofs.YtkfbeijmgggkmaaGreat
