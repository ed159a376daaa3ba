/-
A part of the proof of this claim: lemmas, with no condition beyond what each says.
-/
import Derived.Great.BuildSlice
import Derived.Laws.Small
import Derived.Maps.AppendAt
import Derived.Lib.Strings
import Derived.Test.YtkfbeijmgggkmaaGreatZd3
set_option linter.unusedVariables false
set_option linter.unusedSimpArgs false
set_option maxRecDepth 10000
set_option maxHeartbeats 4000000
namespace Go.Proofs.YtkfbeijmgggkmaaGreat
open Go.RowKit Go.Proofs
section
section
variable {ρ:Nat->bn} {I:Nat->Prop} {w:World}
theorem cu.wf: ∀(u:bz) (x:Z u) (c:Nat->Option Value),cu I w u x c->oK u x:=by
 intro u
 induction u with
 |bP u v oL oM=>exact fun x c h=>⟨oL _ _ h.1,oM _ _ h.2⟩
 |arr n u bq=>
  refine fun x c h=>⟨h.1,fun y aD=>?_⟩
  obtain⟨i,aF⟩:=List.getElem?_of_mem (α:=Z u) aD;exact bq _ _ (h.2 i y aF)
 |_=>exact fun x c h=>trivial
theorem cu.one (u:bz) (x:Z u) (c:Nat->Option Value) (h:cu I w u x c) (j:Nat) (V:j < aQ u): ∃v,c j=some v/\v.oneCell'=true:=by
 obtain⟨v,E,G⟩:=cu.cell u x c j h V;exact⟨v,E,ok_one (ρ:=fun _=>⟨0,none,0,0⟩) (s:=.d (fD u x j)) rfl G⟩
theorem PK {i j n s:Nat} (aF:i < n) (V:j < s):i*s+j < n*s:=by
 have:=au8 s aF;rw[aw4] at this;omega
theorem PL {u:bz} {ys:List (Z u)} {v:Value} (h:cu I w (.b' u) ys (fun _=>some v)) (a8: ∀b,I b->b < w.heap.size):
  ∃e0,fC I w (aQ u) v ys.length e0/\gR I w u ys e0/\ ∀x∈e0,x.oneCell'=true:=by
 obtain⟨A,cap,e,E,G,af⟩:=h;injection e with e
 subst e;rcases Nat.eq_zero_or_pos ys.length with au |au
 .have aD:ys=[]:=at9 au;subst aD;exact⟨[],⟨ay6,A,cap,rfl,E,G,fun h=>absurd h ay6⟩,fun i x hx=>by simp at hx,fun x hx=>by cases hx⟩
 .obtain⟨b,o,rfl,O,hx⟩:=af au
  have J: ∀i (aF:i < ys.length) j,j < aQ u-> ∃v,w.cell? ⟨b,o+(i*aQ u+j),none⟩=some v/\v.oneCell'=true:=fun i aF j V=>
   cu.one u _ _ (hx i ys[i] (by simp[fE,aF])) j V
  have hn: ∀j,j < ys.length*aQ u-> ∃v,w.cell? ⟨b,o+j,none⟩=some v/\v.oneCell'=true:=fun j V=>by
   obtain⟨ae,ao,bm⟩:=Ey V;have:=J _ ae _ ao
   rwa[bm] at this
  have mG: ∀j,j < ys.length*aQ u->((List.range (ys.length*aQ u)).map fun j=>(w.cell? ⟨b,o+j,none⟩).getD undef)[j]? =w.cell? ⟨b,o+j,none⟩:=fun j V=>by
   obtain⟨v,ay,_⟩:=hn j V;rw[as0,List.getElem?_range V];simp[ay]
  refine⟨(List.range (ys.length*aQ u)).map fun j=>(w.cell? ⟨b,o+j,none⟩).getD undef,⟨ay6,some ⟨b,o,none⟩,cap,rfl,E,G,fun _=>⟨b,o,rfl,O,a8 b O,fun j x V=>?_⟩⟩,fun i x dO=>?_,fun x dO=>?_⟩
  .have kG:=(aq7.1 V).1;simp only[ar1,List.length_range] at kG
   rwa[mG j kG] at V
  .have aF:=(aq7.1 dO).1;have H:=hx i x dO;refine cu.mk u x _ (cu.wf u x _ H) fun j V=>?_
   obtain⟨v,ay,aW⟩:=cu.cell u x _ j H V;exact⟨v,by rw[mG _ (PK aF V)];exact ay,aW⟩
  .obtain⟨j,V,rfl⟩:=as9.1 dO;obtain⟨v,ay,aW⟩:=hn j (List.mem_range.1 V);simpa[ay] using aW
theorem gR.uq {u:bz} {xs ys:List (Z u)} {cs ds:List Value} (h:gR I w u xs cs) (h':gR I w u ys ds) (ak:cs.length=xs.length*aQ u):gR I w u (xs++ys) (cs++ds):=fun i x hx=>by
 by_cases aF:i < xs.length
 .rw[as6 aF] at hx;have H:=h i x hx;refine cu.mk u x _ (cu.wf u x _ H) fun j V=>?_
  obtain⟨v,ay,aW⟩:=cu.cell u x _ j H V;exact⟨v,by rw[as6 (by rw[ak];exact PK aF V)];exact ay,aW⟩
 .rw[at1 ay4] at hx;have H:=h' _ x hx;refine cu.mono (cm.refl _ _) u x _ _ (fun j v V=>?_) H;have e:i*aQ u=xs.length*aQ u+(i - xs.length)*aQ u:=by rw[<-Nat.add_mul];congr 1;omega
  rw[at1 (by rw[ak,e];omega),<-V,ak,e]
  congr 1
  omega
theorem gR.nil (u:bz):gR I w u [] []:=fun i x hx=>by simp at hx
theorem BQ {ρ:Nat->bn} {F:Nat->Prop} {p:bn} {e:TypeId} {u:bz} {xs:List (Z u)} (h:Holds ρ I F w p (.row e u xs)) {I':Nat->Prop} (a8: ∀b,I b->I' b) (bh: ∀b,F b->I' b):cu I' w (.b' u) xs (fun _=>some p.ef):=by
 obtain⟨E,G,cs,af,aW⟩:=h;have BP:=af;rcases af.2 with⟨ay,au⟩ |⟨g,cap,c9,ay,_,aZ,ak,aA,_,_⟩
 .exact⟨none,0,by rw[ay,au],ay4,ay5,fun h=>absurd h ay4⟩
 .refine⟨some ⟨g,0,none⟩,cap,by rw[ay],ak,aA,fun _=>⟨g,0,rfl,bh g ((E g).2 (by rw[ay];rfl)),fun i x hx=>?_⟩⟩;refine cu.mono (fun b O=>⟨a8 b O,rfl⟩) u x _ _ (fun j v V=>?_) (aW i x hx);have:=BP.cells (g:=g) (by rw[ay];rfl) _ v V
  rwa[pr] at this
end
section
variable {P:Program} {aS:dg} {N:Nat} {ids:aC4} {o:Oper} {K:aY} {B:az} {k:aP->fP->Prop} {C:fg} {ρ:Nat->bn} {F:Nat->Nat->Prop} {w w':World}
theorem E7 {b:Nat} {cs:Array Value} {S:Nat->Prop} (ar:S b):cS S w (w.setRow b cs):=
 ⟨rfl,rfl,rfl,by simp[World.setRow],fun j _ hn=>setRow_other w b j cs (fun e=>hn (by rw[e];exact ar))⟩
theorem PM {p q:Option Prop} (h:uj (IR p q)):uj p/\uj q:=by
 cases p <;>cases q <;>first |exact⟨trivial,trivial⟩ |exact⟨trivial,h⟩ |exact⟨h,trivial⟩ |exact h
def q9 {α:Type} (u:bz) (f:List bB->Option (α×List bB×Option Prop)) (g:α->Z u):Prop:= ∀(ρ:Nat->bn) (I:Nat->Prop) (w:World) (l:List bB) (x:α) (l':List bB) (p:Option Prop),f l=some (x,l',p)->uj p-> ∀aE,cc ρ I w l aE->
 ∃nU tn,aE=nU++tn/\nU.length=aQ u/\cu I w u (g x) (fun j=>nU[j]?)/\cc ρ I w l' tn/\ ∀v∈nU,v.oneCell'=true
theorem YR (k:IntKind):q9 (.int k) (IS k) (fun x=>x):=by
 intro ρ I w l x l' p h ai aE ay;unfold IS at h
 split at h
 .rename_i dZ n l
  split at h
  .rename_i aa;have:=nR aa;subst this;simp only[aq4,av7] at h;obtain⟨rfl,rfl,rfl⟩:=h;obtain⟨v,r,rfl,E,G⟩:=ay;have E:v= .int dZ n:=E;subst E;exact⟨[.int dZ n],r,rfl,rfl,rfl,G,by simp[Value.oneCell']⟩
  .cases h
 .cases h
theorem YS:q9 .u8 IT (fun x=>x):=by
 intro ρ I w l x l' p h ai aE ay;unfold IT at h
 split at h
 .rename_i dZ n l
  split at h
  .rename_i aa;have:=nR aa;subst this;simp only[aq4,av7] at h;obtain⟨rfl,rfl,rfl⟩:=h;obtain⟨v,r,rfl,E,G⟩:=ay;have E:v= .int .u8 n:=E;subst E;have ai:0<=n/\n < 256:=ai;refine⟨[.int .u8 n],r,rfl,rfl,?_,G,by simp[Value.oneCell']⟩;show some (Value.int .u8 n)=some (Value.int .u8 ((UInt8.ofNat n.toNat).toNat:Int))
   congr 2
   rw[UInt8.toNat_ofNat'];omega
  .cases h
 .cases h
theorem YT:q9 .bool IU (fun x=>x):=by
 intro ρ I w l x l' p h ai aE ay;unfold IU at h
 split at h
 all_goals first |(cases h;done) |skip
 all_goals
  rename_i b l;simp only[aq4,av7] at h;obtain⟨rfl,rfl,rfl⟩:=h;obtain⟨v,r,rfl,E,G⟩:=ay;have E:v= .bool b:=E;subst E;exact⟨[.bool b],r,rfl,rfl,rfl,G,by simp[Value.oneCell']⟩
theorem YU:q9 .str IV (fun x=>x):=by
 intro ρ I w l x l' p h ai aE ay;unfold IV at h
 split at h
 .rename_i s l;simp only[aq4,av7] at h;obtain⟨rfl,rfl,rfl⟩:=h;obtain⟨v,r,rfl,E,G⟩:=ay;have E:v= .string ⟨s.toArray⟩:=E;subst E;exact⟨[_],r,rfl,rfl,rfl,G,by simp[Value.oneCell']⟩
 .cases h
theorem YV:q9 .dm IX (fun x=>x):=by
 intro ρ I w l x l' p h ai aE ay;unfold IX at h
 split at h
 .rename_i s l;simp only[aq4,av7] at h;obtain⟨rfl,rfl,rfl⟩:=h;obtain⟨v,r,rfl,E,G⟩:=ay;have E:v=q1 s:=E;subst E;refine⟨[_],r,rfl,rfl,rfl,G,?_⟩;rcases s with _ |⟨b,n,c⟩ <;>simp[Value.oneCell',q1]
 .rename_i l;simp only[aq4,av7] at h;obtain⟨rfl,rfl,rfl⟩:=h;obtain⟨v,r,rfl,E,G⟩:=ay;have E:v= .slice none 0 0:=E;subst E;exact⟨[_],r,rfl,rfl,rfl,G,by simp[Value.oneCell']⟩
 .cases h
theorem PN {ρ:Nat->bn} {I:Nat->Prop} {w:World}: ∀{m:List kZ} {bs:aC4} {aE:List Value},BF m=some bs->hW ρ I w m aE->aE=q2 bs
 | [],bs,aE,h,ay=>by
  unfold BF at h;injection h with h
  rw[<-h];exact ay
 |c::m,bs,aE,h,ay=>by
  unfold BF at h
  split at h
  .rename_i e;cases e
  .rename_i b l e;injection e with ae ao
   subst ae ao
   split at h
   .rename_i r ax;injection h with h
    subst h;obtain⟨v,t,e,E,G⟩:=ay;have E:v= .pointer (some ⟨b,0,none⟩):=E;rw[e,E,PN ax G];rfl
   .cases h
  .cases h
theorem YW:q9 .fn IY (fun x=>x):=by
 intro ρ I w l x l' p h ai aE ay;unfold IY at h
 split at h
 .rename_i s l;simp only[aq4,av7] at h;obtain⟨rfl,rfl,rfl⟩:=h;obtain⟨v,r,rfl,E,G⟩:=ay;have E:v=mA s:=E;subst E;exact⟨[_],r,rfl,rfl,rfl,G,by simp[Value.oneCell',mA]⟩
 .rename_i f m l
  split at h
  .rename_i bs Jr;simp only[aq4,av7] at h;obtain⟨rfl,rfl,rfl⟩:=h;obtain⟨v,r,rfl,⟨us,e,J⟩,G⟩:=ay;have uu:=PN Jr J;subst e uu;exact⟨[_],r,rfl,rfl,rfl,G,by simp[Value.oneCell']⟩
  .cases h
 .cases h
theorem YX:q9 .aM IW (fun x=>x):=by
 intro ρ I w l x l' p h ai aE ay;unfold IW at h
 split at h
 .rename_i s l;simp only[aq4,av7] at h;obtain⟨rfl,rfl,rfl⟩:=h;obtain⟨v,r,rfl,E,G⟩:=ay;have E:v= .pointer (nN s):=E;subst E;exact⟨[_],r,rfl,rfl,rfl,G,by simp[Value.oneCell']⟩
 .rename_i l;simp only[aq4,av7] at h;obtain⟨rfl,rfl,rfl⟩:=h;obtain⟨v,r,rfl,E,G⟩:=ay;have E:v= .pointer none:=E;subst E;exact⟨[_],r,rfl,rfl,rfl,G,by simp[Value.oneCell']⟩
 .cases h
theorem YY (u:bz):q9 (.b' u) (IZ u) (fun x=>x):=by
 intro ρ I w l x l' p h ai aE ay;unfold IZ at h
 split at h
 .rename_i l;simp only[aq4,av7] at h;obtain⟨rfl,rfl,rfl⟩:=h;obtain⟨v,r,rfl,E,G⟩:=ay;have E:v= .slice none 0 0:=E;subst E;exact⟨[_],r,rfl,rfl,⟨none,0,rfl,aq0 _,ay5,fun h=>absurd h ay6⟩,G,by simp[Value.oneCell']⟩
 .rename_i v xs l
  split at h
  .rename_i U _;subst U;simp only[aq4,av7] at h;obtain⟨rfl,rfl,rfl⟩:=h;obtain⟨v,r,rfl,E,G⟩:=ay;have E:cu I w (.b' _) xs (fun _=>some v):=E;refine⟨[v],r,rfl,rfl,?_,G,?_⟩
   .obtain⟨A,cap,e,af⟩:=E;exact⟨A,cap,e,af⟩
   .obtain⟨A,cap,e,af⟩:=E;injection e with e
    subst e;simp[Value.oneCell']
  .cases h
 .cases h
theorem YZ {u v:bz} (E:q9 u (nP u) (fun x=>x)) (G:q9 v (nP v) (fun x=>x)):q9 (.bP u v) (nP (.bP u v)) (fun x=>x):=by
 intro ρ I w l x l' p h ai aE ay;unfold nP at h
 cases ae:nP u l with
 |none=>simp only[ae] at h;cases h
 |some t=>
  obtain⟨y,i5,dQ⟩:=t;simp only[ae] at h
  cases ao:nP v i5 with
  |none=>simp only[ao] at h;cases h
  |some t=>
   obtain⟨aB,gU,cW⟩:=t;simp only[ao,aq4,av7] at h;obtain⟨rfl,rfl,rfl⟩:=h;obtain⟨cA,cF⟩:=PM ai;obtain⟨nU,r1,rfl,g1,g2,cX,jD⟩:=E ρ I w l y i5 dQ ae cA aE ay;obtain⟨tn,r2,rfl,cj,cT,eg,eR⟩:=G ρ I w i5 aB _ cW ao cF r1 cX;refine⟨nU++tn,r2,ay6,by simp[aQ,g1,cj],⟨?_,?_⟩,eg,fun x hx=>(as1.1 hx).elim (jD x) (eR x)⟩
   .refine cu.mk u y _ (cu.wf u y _ g2) fun j V=>?_
    obtain⟨x,hx,H⟩:=cu.cell u y _ j g2 V;exact⟨x,by rw[as6 ay4];exact hx,H⟩
   .refine cu.mono (cm.refl _ _) v aB _ _ (fun j x V=>?_) cT;show(nU++tn)[aQ u+j]? =some x;rw[at1 ay4,show aQ u+j - nU.length=j by omega];exact V
theorem zu: ∀u:bz,q9 u (nP u) (fun x=>x)
 | .int k=>YR k
 | .u8=>YS
 | .bool=>YT
 | .str=>YU
 | .aM=>YX
 | .dm=>YV
 | .fn=>YW
 | .b' u=>YY u
 | .bP u v=>YZ (zu u) (zu v)
 | .arr n u=>fun ρ I w l x l' p h=>by unfold nP at h;cases h
theorem Js {ρ:Nat->bn} {I:Nat->Prop} {w:World} (u:bz): ∀(n:Nat) (l:List bB) (xs:List (Z u)) (p:Option Prop),xl u n l=some (xs,p)->uj p-> ∀aE,cc ρ I w l aE->xs.length=n/\aE.length=n*aQ u/\gR I w u xs aE/\ ∀v∈aE,v.oneCell'=true
 |0,l,xs,p,h,ai,aE,ay=>by
  unfold xl at h
  split at h
  .simp only[aq4,av7] at h;obtain⟨rfl,rfl⟩:=h;rw[show aE=[] from ay];exact⟨rfl,ay6,gR.nil u,ay6⟩
  .cases h
  .rename_i e;cases e
 |n+1,l,xs,p,h,ai,aE,ay=>by
  unfold xl at h
  cases ae:nP u l with
  |none=>simp only[ae] at h;cases h
  |some t=>
   obtain⟨y,i5,dQ⟩:=t;simp only[ae] at h
   cases ao:xl u n i5 with
   |none=>simp only[ao] at h;cases h
   |some t=>
    obtain⟨ys,cW⟩:=t;simp only[ao,aq4,av7] at h;obtain⟨rfl,rfl⟩:=h;obtain⟨cA,cF⟩:=PM ai;obtain⟨nU,r1,rfl,g1,g2,cX,jD⟩:=zu u ρ I w l y i5 dQ ae cA aE ay;obtain⟨cj,cT,eg,eR⟩:=Js u n i5 ys cW ao cF r1 cX;refine⟨by simp[cj],by simp[g1,cT,aw4,Nat.add_comm],?_,fun x hx=>(as1.1 hx).elim (jD x) (eR x)⟩
    have:gR I w u [y] nU:=fun i x hx=>by
     match i with
     |0=>
      simp only[ar3,aq4] at hx;subst hx;exact cu.mono (cm.refl _ _) u y _ _ (fun j v V=>by simpa using V) g2
     |i+1=>simp at hx
    exact gR.uq this eg (by simpa using g1)
theorem Y0 (bl:ec P aS) {T:TypeId} {x v:Operand} (ah:o.op= .store T x v) (h:match aS.find T with
  |some ti=>match a2 K x with
   | .c (.one (.ptr c o))=>match ag B c with
    |some (.cells l)=>match vQ (a2 K v) with
     |some cs=>match Nat.beq cs.length ti.size,Nat.ble (o+cs.length) l.length with
      |true,true=>pt (BE l o cs) fun l=>k .undef ⟨[c],[],[(c,some (.cells l))]⟩
      |_,_=>False
     |none=>False
    |_=>False
   | .c (.one (.gc c s i o))=>match ag B c with
    |some (.row e u xs)=>match Nat.beq (aQ u) 1,Nat.beq s 1,Nat.beq o 0,Nat.beq ti.size 1,a2 K v with
     |true,true,true,true,.c (.one pw)=>match nP u [pw] with
      |some (y,[],p)=>(uj p/\i < xs.length)/\k .undef ⟨[c],[],[(c,some (.row e u (xs.set i y)))]⟩
      |_=>False
     |_,_,_,_,_=>False
    |_=>False
   |_=>False
  |none=>False):cH P N ids o K B k:=by
 have m1:x∈o.op.operands:=az1
 have m2:v∈o.op.operands:=az1
 split at h
 .rename_i ti gD;obtain⟨c8,d,bv⟩:=bl.at_ gD
  split at h
  .rename_i c p J
   split at h
   .rename_i l ak
    split at h
    .rename_i cs e8
     split at h
     .rename_i E G;have E:=aq6 E;have G:=aw8 G;rw[zi] at h;refine cH.of h <| bA.hI ak fun K' B' ae C ρ F a w aj ar gf=>?_
      obtain⟨bh,aE,eJ,O,H⟩:=aj.holds c _ gf;have ay:=ar.get v;rw[ae v m2] at ay;obtain⟨us,Y1,E8,Y2⟩:=Jp e8 ay;have bV:=cc.length _ _ E8;have PO:=cc.length _ _ H;refine⟨_,BN ah (ar.ptr ((ae x m1).trans J)) Y1 bv.jY (by rw[bV,E];exact bv.size) O ay4 Y2,E7 ((bh _).2 rfl),fun I U=>⟨bh,_,eJ,setRow_heap w _ _ _ eJ _ O,?_⟩⟩;exact cc.splice (cc.mono U _ _ (fun _ _=>rfl) H) (cc.mono U _ _ (fun _ _=>rfl) E8)
     .exact h.elim
    .exact h.elim
   .exact h.elim
  .rename_i c s i p J
   split at h
   .rename_i e u xs ak
    split at h
    .rename_i pw k7 bC uv BR vV
     split at h
     .rename_i y q Y3;have k7:=aq6 k7;have bC:=aq6 bC;have uv:=aq6 uv;subst bC uv;obtain⟨⟨aT,aF⟩,h⟩:=h;refine cH.of h <| bA.hI ak fun K' B' ae C ρ F a w aj ar gf=>?_
      obtain⟨bh,jh,cs,dw,ji⟩:=aj.holds c _ gf;have ay:=ar.get v;rw[ae v m2,vV] at ay;have Jt:=ar.gc ((ae x m1).trans J);obtain⟨nU,tn,c0,g1,g2,cX,jD⟩:=zu u ρ _ w [pw] y [] q Y3 aT [a.eval v] ⟨_,[],rfl,ay,rfl⟩;have bV:nU.length=1:=by rw[g1,k7]
      obtain rfl:nU=[a.eval v]:=by
       match nU,bV with
       | [aB],_=>simp at c0;rw[c0.1]
      have sf:=jD (a.eval v) ay6
      have xg:(a.eval v).cells=List.toArray [a.eval v]:=by
       cases hx:a.eval v <;>first |rfl |(rw[hx] at sf;simp[Value.oneCell'] at sf)
      have E9:=dw;obtain⟨qc,dw⟩:=dw;rcases dw with⟨_,au⟩ |⟨g,cap,c9,oT,_,aZ,xw,aA,cC,cq⟩
      .omega
      .have zv:g=(ρ c).bk:=jh g (by rw[oT];rfl);subst zv;rw[k7,Nat.mul_one] at cC cq qc;have uw:w.heap[(ρ c).bk]? =some (.cells (List.toArray c9.toList) e (0,0)):=by simpa using aZ
       have kl:i*1+0+ [a.eval v].length<=c9.toList.length:=az8
       have ux:=BN (P:=P) (ev:=a.eval) (w:=w) ah Jt xg bv.jY (by rw[bv.size,aq6 BR];rfl) uw kl (by simpa using sf);refine⟨_,ux,E7 ((bh _).2 (by rw[oT];rfl)),fun I U=>?_⟩;have oU:=setRow_heap w (ρ c).bk c9 (List.take (i*1+0) c9.toList++[a.eval v]++List.drop (i*1+0+ [a.eval v].length) c9.toList).toArray e (0,0) aZ
       have gV:(List.take (i*1+0) c9.toList++[a.eval v]++List.drop (i*1+0+ [a.eval v].length) c9.toList)=c9.toList.set i (a.eval v):=by
        rw[List.set_eq_take_append_cons_drop,if_pos az8];simp
       rw[gV] at oU;refine⟨bh,jh,cs.set i (a.eval v),⟨by simp[qc,k7],.inr ⟨(ρ c).bk,cap,_,by rw[oT];simp,aq8 _,by rw[gV];exact oU,by simpa using xw,aA,by simp[cC,k7],?_⟩⟩,fun j aB aN=>?_⟩
       .rw[<-cq];simp[k7,List.take_set]
       .by_cases k8:i=j
        .subst k8;rw[av0 aF] at aN;injection aN with aN
         subst aN;refine cu.mono U u y _ _ (fun q x hx=>?_) g2
         match q with
         |0=>
          rw[k7,Nat.mul_one,aw3,av0 ay4];simpa using hx
         |q+1=>simp at hx
        .rw[au3 k8] at aN;have H:=ji j aB aN;refine cu.mk u aB _ (cu.wf u aB _ H) fun q aT=>?_
         obtain⟨x,hx,py⟩:=cu.cell u aB _ q H aT;refine⟨x,?_,gK.mono U _ _ py⟩;rw[k7] at aT⊢;rw[k7] at hx;rw[au3 ay4];exact hx
     .exact h.elim
    .exact h.elim
   .exact h.elim
  .exact h.elim
 .exact h.elim
end
end
section
section
variable {P:Program} {aS:dg} {N:Nat} {ids:aC4} {o:Oper} {K:aY} {B:az} {k:aP->fP->Prop}
theorem PP {ρ:Nat->bn} {I:Nat->Prop} {w:World} {v:Value} {s:bB} (h:Ji v s=true):dY ρ I w s v/\v.oneCell'=true:=by
 unfold Ji at h
 split at h
 .rename_i k n dZ n';simp only[vj,as5] at h;have:=nR h.1;subst this;rw[h.2];exact⟨rfl,rfl⟩
 .rename_i b d5;rw[show b=d5 by simpa using h];exact⟨rfl,rfl⟩
 .rename_i s l;have h:s.data.toList=l:=az3
  subst h;exact⟨by simp[dY,gK],rfl⟩
 .exact⟨rfl,rfl⟩
 .exact⟨rfl,rfl⟩
 .exact⟨rfl,rfl⟩
 .exact⟨rfl,rfl⟩
 .exact⟨rfl,rfl⟩
 .cases h
theorem vW {ρ:Nat->bn} {I:Nat->Prop} {w:World}: ∀(aE:List Value) (l:List bB),tk aE l=true->cc ρ I w l aE/\ ∀u∈aE,u.oneCell'=true
 | [],[],_=>⟨rfl,ay6⟩
 |v::aE,s::l,h=>by
  simp only[tk,vj] at h;obtain⟨E,G⟩:=PP (ρ:=ρ) (I:=I) (w:=w) h.1;obtain⟨af,aW⟩:=vW (ρ:=ρ) (I:=I) (w:=w) aE l h.2;exact⟨⟨v,aE,rfl,E,af⟩,fun u a6=>(aq5.1 a6).elim (fun e=>e▸G) (aW u)⟩
 | [],_::_,h=>by simp[tk] at h
 |_::_,[],h=>by simp[tk] at h
theorem PQ {c d p:Nat} (h:aP.has d (.c (.one (.ptr c p)))=true):d=c:=(aq6 h).symm
theorem BS {c d:Nat} (h:aP.has d (.c (.one (.own c)))=true):d=c:=(aq6 h).symm
theorem Y4 (bl:ec P aS) {T:TypeId} (ah:o.op= .alloc T) (h:match aS.find T,o.dst with
  |some ti,some d=>g6 ids K B d=true/\k (.c (.one (.ptr d 0))) ⟨[],[d],[(d,some (.cells ti.zero))]⟩
  |_,_=>False):cH P N ids o K B k:=by
 split at h
 .rename_i ti d gD H;obtain⟨i,ds,bv⟩:=bl.at_ gD;obtain⟨aB,aN,mH⟩:=bv.zero;refine cH.bb h.2 h.1 <| bA.make (fun d h=>PQ h) fun K' B' E G C ρ F a w aj ar hn=>?_
  refine⟨_,_,⟨w.heap.size,none,0,0⟩,fun b=>b=w.heap.size,(by
   simp[execOp,ah,Instr.alloc,zeroValue,typeInfo,bv.jY,aN,newVar,newRow];rfl),tb w _,fun b O=>by subst O;exact⟨aq0 _,ay6⟩,fun I U O=>⟨⟨fun b=>Iff.rfl,aB.cells.toList,T,IG _ rfl,(vW _ _ mH).1⟩,?_⟩⟩
  simp only[cw,gC,dY,c7]
 .exact h.elim
theorem Y5 (bl:ec P aS) {T:TypeId} {x:Operand} (ah:o.op= .box T x) (h:match aS.find T,o.dst,vQ (a2 K x) with
  |some ti,some d,some l=>match Nat.beq l.length ti.size with
   |true=>g6 ids K B d=true/\k (.c (.one (.ptr d 0))) ⟨[],[d],[(d,some (.cells l))]⟩
   |false=>False
  |_,_,_=>False):cH P N ids o K B k:=by
 have m1:x∈o.op.operands:=az1
 split at h
 .rename_i ti d l gD H ak
  split at h
  .refine cH.bb h.2 h.1 <| bA.make (fun d h=>PQ h) fun K' B' E G C ρ F a w aj ar hn=>?_
   have ay:=ar.get x;rw[E x m1] at ay;obtain⟨aE,ae,ao,bm⟩:=Jp ak ay
   refine⟨_,_,⟨w.heap.size,none,0,0⟩,fun b=>b=w.heap.size,(by
    simp[execOp,ah,Instr.box,newVar,newRow,ae];rfl),tb w _,fun b O=>by subst O;exact⟨aq0 _,ay6⟩,fun I U O=>⟨⟨fun b=>Iff.rfl,aE,T,IG _ rfl,?_⟩,?_⟩⟩
   .refine cc.mono U l aE (fun c J=>?_) ao;refine dh _ _ fun e=>?_
    subst e
    have bf:(a2 K x).has c=true:=by
     unfold vQ at ak
     split at ak
     .rename_i hx
      split at ak
      .injection ak with ak;subst ak;rw[hx];simpa[aP.has,dP.has,mB] using J
      .cases ak
     .rename_i hx
      split at ak
      .injection ak with ak;subst ak;rw[hx];simpa[aP.has,dP.has] using J
      .cases ak
     .cases ak
    rw[<-E x m1] at bf
    cases x with
    |tmp t=>have:=hn t;simp only[a2] at bf;rw[this] at bf;cases bf
    |const v=>
     have lH: ∀u:Value,(vP u).has c=false:=fun u=>by unfold vP;split <;>rfl
     have dH: ∀us:List Value,mB c (us.map vP)=false:=fun us=>by induction us with
      |nil=>rfl
      |cons u us bq=>simp[mB,lH,bq]
     simp only[a2] at bf;unfold EB at bf
     split at bf <;>simp[aP.has,dP.has,lH,dH] at bf
    |func f=>simp[a2,aP.has,dP.has,bB.has,l5] at bf
    |global g=>simp[a2,aP.has,dP.has,bB.has] at bf
   .simp only[cw,gC,dY,c7]
  .exact h.elim
 .exact h.elim
theorem PR: ∀(us:List Value) (off j:Nat) (p m s:List Value),p.length=off+j->m.length=us.length->
  (us.zipIdx j).foldl (fun cs p=>cs.setIfInBounds (off+p.2) p.1) (p++m++s).toArray=(p++us++s).toArray
 | [],off,j,p,m,s,ai,aA=>by
  rw[show m=[] from at9 (by simpa using aA)];simp
 |u::us,off,j,p,[],s,ai,aA=>by simp at aA
 |u::us,off,j,p,x::m,s,ai,aA=>by
  simp only[List.zipIdx_cons,List.foldl_cons]
  have e:(p++x::m++s).toArray.setIfInBounds (off+j) u=((p++[u])++m++s).toArray:=by
   rw[List.setIfInBounds_toArray,<-ai];simp
  rw[e,PR us off (j+1) (p++[u]) m s az8 (by simpa using aA)];simp
theorem Y6 (us aE:List Value) (off:Nat) (h:off+us.length<=aE.length):
  (us.zipIdx).foldl (fun cs p=>cs.setIfInBounds (off+p.2) p.1) aE.toArray=(aE.take off++us++aE.drop (off+us.length)).toArray:=by
 have e:aE=aE.take off++(aE.drop off).take us.length++aE.drop (off+us.length):=by
  rw[au2,<-List.drop_drop,List.take_append_drop,List.take_append_drop]
 have:=PR us off 0 (aE.take off) ((aE.drop off).take us.length) (aE.drop (off+us.length)) az8 az8;rw[<-e] at this;exact this
theorem Ju {K':aY} {ρ:Nat->bn} {I:Nat->Prop} {a:Act} {w:World} (ar:eq K' ρ I a w) {mE place:Nat->Option (Nat×Nat)} (hl: ∀i d n,mE i=some (d,n)->place i=some (d,n)):
  ∀(bD:List (Nat×Operand)) (l l':List bB) (aE:List Value),(∀p∈bD,a2 K' p.2=a2 K p.2)->vR K mE bD l=some l'->cc ρ I w l aE->(∀u∈aE,u.oneCell'=true)->
   ∃sg,Instr.fill place (List.toArray aE) (bD.map fun p=>(p.1,a.eval p.2))=some (List.toArray sg)/\cc ρ I w l' sg/\ ∀u∈sg,u.oneCell'=true
 | [],l,l',aE,_,h,ay,E=>by
  simp only[vR,aq4] at h;subst h;exact⟨aE,rfl,ay,E⟩
 |(i,x)::bD,l,l',aE,cV,h,ay,E=>by
  unfold vR at h
  split at h
  .rename_i d n cs H e8
   split at h
   .rename_i ae ao;have ae:=aq6 ae;have ao:=aw8 ao;have hx:=ar.get x;rw[cV (i,x) ay6] at hx;obtain⟨us,g1,g2,cX⟩:=Jp e8 hx;have cA:=cc.length _ _ g2;have cF:=cc.length _ _ ay
    obtain⟨sg,cj,cT,eg⟩:=Ju ar hl bD _ l' (aE.take d++us++aE.drop (d+us.length)) (fun p ai=>cV p (by simp[ai])) h (cc.splice ay g2) (fun u a6=>by
     simp only[as1] at a6;rcases a6 with(a6 |a6) |a6
     .exact E u (List.mem_of_mem_take a6)
     .exact cX u a6
     .exact E u (List.mem_of_mem_drop a6))
    refine⟨sg,?_,cT,eg⟩;rw[<-cj];simp only[ar4,Instr.fill,hl i d n H,g1];have hf:=Y6 us aE d ay4;rw[if_neg az8]
    congr 1
    rw[<-hf,<-Array.foldl_toList,Array.toList_zipIdx]
   .cases h
  .cases h
theorem Y7 {fs:List Field} {l:List (Nat×Nat)} (h:q8 P fs l=true):fs.mapM (fun f=>(P.info? f.type).map fun i=>(f.offset,i.size))=some l:=by
 induction fs generalizing l with
 |nil=>cases l with
  |nil=>rfl
  |cons _ _=>simp[q8] at h
 |cons f fs bq=>cases l with
  |nil=>simp[q8] at h
  |cons p l=>
   obtain⟨d,n⟩:=p;simp only[q8,vj] at h;obtain⟨⟨⟨E,G⟩,_⟩,aW⟩:=h
   split at G
   .rename_i i aF;have G:=aq6 G;have E:=aq6 E;simp[List.mapM_cons,aF,bq aW,E,G]
   .cases G
theorem Y8 (bl:ec P aS) {T:TypeId} {bD:Array (Nat×Operand)} (ah:o.op= .build T bD) (h:match aS.find T with
  |some ti=>match ti.kd,vR K (fun f=>ti.mE[f]?) bD.toList ti.zero with
   | .st,some l=>pt l fun l=>k (.c (.agg l)) bF
   |_,_=>False
  |none=>False):cH P N ids o K B k:=by
 split at h
 .rename_i ti gD;obtain⟨i,d,bv⟩:=bl.at_ gD;obtain⟨aB,aN,mH⟩:=bv.zero
  split at h
  .rename_i l aa ak;rw[zi] at h;refine cH.of h <| bA.val fun K' B' E G C ρ F a w aj ar=>?_
   obtain⟨kH,q'⟩:=vW (ρ:=ρ) (I:=bX C B' F w) (w:=w) _ _ mH;obtain⟨sg,ib,jC,f3⟩:=Ju (K:=K) ar (mE:=fun f=>ti.mE[f]?) (place:=fun f=>ti.mE[f]?) (fun i d n aF=>aF) bD.toList _ _ _ (fun p ai=>E p.2 (by rw[ah];simp only[Op.operands];simpa using⟨p.1,by simpa using ai⟩)) ak kH q';refine⟨.agg (List.toArray sg),?_,sg,rfl,jC⟩
   have Y9:P.built T (bD.toList.map fun p=>(p.1,a.eval p.2))=some (List.toArray sg):=by
    unfold Program.built;rw[bv.jY,bv.nS];obtain⟨fs,_,tp⟩:=bv.st aa;have:=Y7 (bv.mE fs tp);subst tp;simp only[aN,this];simpa using ib
   unfold execOp;simp only[ah,Sem.run_bind,run_build w T _ _ (show P.built T ((bD.map fun p=>(p.1,a.eval p.2)).toList)=_ by simpa using Y9),Result.andThen_ok];rfl
  .exact h.elim
 .exact h.elim
end
end
section
section
variable {P:Program} {aS:dg} {N:Nat} {ids:aC4} {o:Oper} {K:aY} {B:az} {k:aP->fP->Prop}
theorem pz (bl:ec P aS) {T e:Nat} {te:ca} (h:elemOf aS T=some (e,te)):P.underlying T=some (.slice e)/\ ∃i d,l8 P e te i d:=by
 unfold elemOf at h
 split at h
 .rename_i ti gD
  split at h
  .rename_i b7 aa
   split at h
   .rename_i apZ vX;injection h with h
    injection h with E G
    subst E G;obtain⟨_,_,bv⟩:=bl.at_ gD;exact⟨bv.b' aa,bl.at_ vX⟩
   .cases h
  .cases h
 .cases h
theorem E' (bl:ec P aS) {T:Nat} (h:xp aS T=true):P.underlying T=some .string:=by
 unfold xp at h
 split at h
 .rename_i ti gD
  split at h
  .rename_i aa;obtain⟨_,_,bv⟩:=bl.at_ gD;exact bv.str aa
  .cases h
 .cases h
theorem xx (bl:ec P aS) {T:Nat} (h:q7 aS T=true):P.underlying T=some (.int .u8)/\ ∃ti i d,l8 P T ti i d/\ti.zero=[.d (.int .u8 0)]/\ti.size=1/\ti.bytes=1:=by
 unfold q7 at h
 split at h
 .rename_i ti gD
  split at h
  .rename_i aa aN aw O;obtain⟨i,d,bv⟩:=bl.at_ gD;exact⟨bv.int aa,ti,i,d,bv,aN,aw,O⟩
  .cases h
 .cases h
def sh (n:Nat) (l:List Value):List Value:=match n with
 |0=>[]
 |n+1=>l++sh n l
theorem Y' (n:Nat) (l:List Value):(sh n l).length=n*l.length:=by
 induction n with
 |zero=>simp[sh]
 |succ n bq=>simp[sh,bq,aw4,Nat.add_comm]
theorem Za (n:Nat) (l:List Value): ∀j,j < n*l.length->(sh n l)[j]? =l[j % l.length]? :=by
 induction n with
 |zero=>intro j V;simp at V
 |succ n bq=>
  intro j V;unfold sh
  by_cases h:j < l.length
  .rw[as6 h,Nat.mod_eq_of_lt h]
  .rw[at1 ay4,bq _ (by rw[aw4] at V;omega),Nat.mod_eq_sub_mod (a:=j) ay4]
theorem Zb {ρ:Nat->bn} {I:Nat->Prop} {w:World} (n:Nat) {l:List bB} {aE:List Value} (h:cc ρ I w l aE):cc ρ I w (EL n l) (sh n aE):=by
 induction n with
 |zero=>rfl
 |succ n bq=>exact cc.uq _ _ _ _ h bq
theorem Zc {n:Nat} {l:List Value} {v:Value} (h:v∈sh n l):v∈l:=by
 induction n with
 |zero=>simp[sh] at h
 |succ n bq=>exact(as1.1 h).elim id bq
theorem Zd (aB:Array Value) (n:Nat) (aN:0 < aB.size):(Array.range (n*aB.size)).map (aB[· % aB.size]!)=(sh n aB.toList).toArray:=by
 apply Array.ext';simp only[Array.toList_map,List.toList_toArray];apply List.ext_getElem?;intro j
 by_cases V:j < n*aB.size
 .rw[Za n aB.toList j aA5];simp only[Array.length_toList];have aA:j % aB.size < aB.size:=Nat.mod_lt _ aN;simp[V,aA]
 .rw[ax1 az8,ax1 (by rw[Y'];simp;omega)]
theorem Ze {w:World} {l:List Value} {e:TypeId} {j:Nat} {v:Value} (h:l[j]? =some v):(w.alloc (.cells (List.toArray l) e)).cell? ⟨w.heap.size,j,none⟩=some v:=
 oS (T:=e) (heap_alloc_new w _) h
theorem Zf {I:Nat->Prop} {w:World} {u:bz} {xs:List (Z u)} {cs:List Value} {e:TypeId} {cap:Nat} (ax:gR I (w.alloc (.cells (List.toArray cs) e)) u xs cs) (a8:I w.heap.size) (J:xs.length<=cap) (aA:cap<=maxLen):
  cu I (w.alloc (.cells (List.toArray cs) e)) (.b' u) xs (fun _=>some (.slice (some ⟨w.heap.size,0,none⟩) xs.length cap)):=
 ⟨_,cap,rfl,J,aA,fun _=>⟨_,0,rfl,a8,fun i x hx=>cu.mono (cm.refl _ _) u x _ _ (fun j v V=>by
  simp only[au1];exact Ze V) (ax i x hx)⟩⟩
theorem Fa (w:World) (e s n:Nat) (cs:List Value) (ak:cs.length=n*s) (aA:n<=maxLen):(w.alloc (.cells (List.toArray cs) e)).ownsRow 0 e s (.slice (some ⟨w.heap.size,0,none⟩) n n) n cs:=
 ⟨ak,.inr ⟨_,n,_,rfl,aq8 _,heap_alloc_new w _,aq0 _,aA,by simpa using ak,by simp[<-ak]⟩⟩
theorem Zg (bl:ec P aS) {T:TypeId} {bD:Array (Nat×Operand)} (ah:o.op= .buildSlice T 0 bD) (h:match elemOf aS T,o.dst with
  |some (e,te),some d=>match te.u with
   |some u=>g6 ids K B d=true/\k (.c (.one (.own d))) ⟨[],[d],[(d,some (.row e u []))]⟩
   |none=>False
  |_,_=>False) (lI:bD.toList=[]):cH P N ids o K B k:=by
 split at h
 .rename_i e te d U H;obtain⟨a6,c8,ds,bv⟩:=pz bl U
  split at h
  .rename_i u vX;refine cH.bb h.2 h.1 <| bA.make (fun d h=>BS h) fun K' B' E G C ρ F a w aj ar hn=>?_
   have Zh:bD= #[]:=Array.toList_eq_nil_iff.1 lI;refine⟨.slice (some ⟨w.heap.size,0,none⟩) 0 0,w.alloc (.cells #[] e),⟨w.heap.size,some ⟨w.heap.size,0,none⟩,0,0⟩,fun b=>b=w.heap.size,?_,tb w _,fun b O=>by subst O;exact⟨aq0 _,ay6⟩,fun I U O=>⟨⟨?_,?_,[],?_,gR.nil u⟩,?_⟩⟩
   .subst Zh;simp[execOp,ah,Instr.buildSlice,run_underlying a6,sizeOf,typeInfo,bv.jY,Instr.fill,newRow];rw[show(Array.range 0)= #[] from rfl];simp
   .intro b;simp[bn.ef,Value.ownBlock,eq_comm]
   .intro b O;simp[bn.ef,Value.ownBlock] at O;exact O.symm
   .exact Fa w e (aQ u) 0 [] ay6 ay5
   .simp only[cw,gC,dY,c7,bn.ef]
  .exact h.elim
 .exact h.elim
theorem Zi (bl:ec P aS) {T n:Nat} {bD:Array (Nat×Operand)} (ah:o.op= .buildSlice T n bD) (xy:n≠0) (h:match elemOf aS T with
  |some (_,te)=>match te.u with
   |some u=>match Nat.ble (n*te.size) 1000,vR K (fun i=>some (i*te.size,te.size)) bD.toList (EL n te.zero) with
    |true,some l=>match xl u n l with
     |some (xs,none)=>k (.c (.one (.d (.co u xs)))) bF
     |some (xs,some p)=>p/\k (.c (.one (.d (.co u xs)))) bF
     |none=>n=1/\ ∃y:Z u,(oK u y/\l=gq u y 0 (aQ u))/\k (.c (.one (.d (.co u [y])))) bF
    |_,_=>False
   |none=>False
  |none=>False):cH P N ids o K B k:=by
 split at h
 .rename_i e te U;obtain⟨a6,c8,ds,bv⟩:=pz bl U;obtain⟨aB,aN,mH⟩:=bv.zero
  split at h
  .rename_i u vX
   split at h
   .rename_i l g8 ak;have g8:=aw8 g8
    have si: ∀xs:List (Z u),(∀(ρ:Nat->bn) (I:Nat->Prop) (w:World) (aE:List Value),cc ρ I w l aE->xs.length=n/\aE.length=n*aQ u/\gR I w u xs aE)->bA P N ids o K B (.c (.one (.d (.co u xs)))) bF:=fun xs hX=>bA.new fun K' B' E G C ρ F a w aj ar=>by
     obtain⟨kH,q'⟩:=vW (ρ:=ρ) (I:=bX C B' F w) (w:=w) _ _ mH
     have nL:aB.cells.size=c8.size:=by
      have E:=cc.length _ _ kH;simp at E;rw[E,bv.Jl,bv.size]
     have k9:0 < c8.size:=by have:=bv.pos;have:=bv.size;omega
     have sj:aQ u=c8.size:=(bv.u u vX).trans bv.size.symm
     obtain⟨aE,ib,jC,f3⟩:=Ju (K:=K) ar (mE:=fun i=>some (i*te.size,te.size)) (place:=fun i=>some (i*c8.size,c8.size)) (fun i d n aF=>by rw[bv.size];exact aF) bD.toList _ _ (sh n aB.cells.toList)
      (fun p ai=>E p.2 (by rw[ah];simp only[Op.operands];simpa using⟨p.1,by simpa using ai⟩)) ak (Zb n kH) (fun v ay=>q' v (Zc ay))
     obtain⟨hJ,jj,qf⟩:=hX ρ _ w aE jC
     have dN:=run_buildSlice (P:=P) w T e n (bD.map fun p=>(p.1,a.eval p.2)) (List.toArray aE) c8 aB a6 bv.jY aN (by rw[bv.size];omega)
      (by rw[Nat.mul_eq_zero];omega) (by rw[<-nL,Zd aB.cells n ay4,nL];simpa using ib)
     refine⟨.slice (some ⟨w.heap.size,0,none⟩) n n,w.alloc (.cells (List.toArray aE) e),?_,tb w (.cells (List.toArray aE) e),fun I U a8=>?_⟩
     .unfold execOp;simp only[ah,Sem.run_bind,dN,Result.andThen_ok];rfl
     .have:=Zf (e:=e) (cap:=n) (gR.mono (U) qf) (a8 _ (aq0 _) ay6) ay4 (by simp only[maxLen];have:=Nat.le_mul_of_pos_right n (show 0 < te.size by have:=bv.pos;omega);omega);rw[hJ] at this;exact this
    split at h
    .rename_i xs H
     exact cH.of h <| si xs fun ρ I w aE ay=>by
      obtain⟨hJ,jj,qf,_⟩:=Js u n l xs none H trivial aE ay;exact⟨hJ,jj,qf⟩
    .rename_i xs p H
     exact cH.of h.2 <| si xs fun ρ I w aE ay=>by
      obtain⟨hJ,jj,qf,_⟩:=Js u n l xs (some p) H h.1 aE ay;exact⟨hJ,jj,qf⟩
    .obtain⟨hn,y,⟨hw,gf⟩,h⟩:=h;subst hn;refine cH.of h <| si [y] fun ρ I w aE ay=>?_
     subst gf;refine⟨rfl,by rw[cc.length _ _ ay,tm,Nat.one_mul],fun i x hx=>?_⟩
     match i with
     |0=>
      simp only[ar3,aq4] at hx;subst hx;refine cu.mono (cm.refl _ _) u y _ _ (fun j v V=>?_) (BO hw ay);rw[Nat.zero_mul,au1];exact V
     |i+1=>simp at hx
   .exact h.elim
  .exact h.elim
 .exact h.elim
end
end
section
section
variable {P:Program} {aS:dg} {N:Nat} {ids:aC4} {o:Oper} {K:aY} {B:az} {k:aP->fP->Prop}
theorem PS {ev:Operand->Value} {T uy:TypeId} {x i:Operand} {b q n c s:Nat} {w:World} {m:Int} {c8:TypeInfo} (ah:o.op= .indexAddr T x i) (hx:ev x= .slice (some ⟨b,q,none⟩) n c) (aF:ev i= .int .i64 m) (a6:P.underlying T=some (.slice uy)) (qb:P.info? uy=some c8) (aw:c8.size=s)
  (au:0<=m) (aa:m.toNat < n):(execOp ev o).run P w= .ok (.value (.pointer (some ⟨b,q+m.toNat*s,none⟩))) w:=by
 subst aw;have E:m < (n:Int):=az2
 simp[execOp,ah,hx,aF,Instr.indexAt,asIntOf,run_underlying a6,au,E,sizeOf,typeInfo,qb,pr]
theorem Zj (bl:ec P aS) {T:TypeId} {x i:Operand} (ah:o.op= .indexAddr T x i) (h:match elemOf aS T,a2 K i with
  |some (_,te),.c (.one (.d (.int .i64 n)))=>match a2 K x with
   | .c (.one (.d (.co u xs)))=>match Nat.beq te.size (aQ u) with
    |true=>0<=n/\ ∃y,fE xs n.toNat=some y/\k (.c (.one (.el u y 0))) bF
    |false=>False
   | .c (.one (.own c))=>match ag B c with
    |some (.row _ u xs)=>match Nat.beq te.size (aQ u) with
     |true=>(0<=n/\n < xs.length)/\k (.c (.one (.gc c (aQ u) n.toNat 0))) ⟨[c],[],[]⟩
     |false=>False
    |_=>False
   |_=>False
  |_,_=>False):cH P N ids o K B k:=by
 have m1:x∈o.op.operands:=az1
 have m2:i∈o.op.operands:=az1
 split at h
 .rename_i e te n U aF;obtain⟨a6,c8,ds,bv⟩:=pz bl U
  split at h
  .rename_i u xs hx
   split at h
   .rename_i aw;have aw:=aq6 aw;obtain⟨au,y,aD,h⟩:=h;refine cH.of h <| bA.two hx aF m1 m2 fun K' ρ I a w ar ae ao=>?_
    obtain⟨A,cap,bm,c0,fQ,hY⟩:=ar.co ae;injection bm with bm
    have bt:=BA aD;obtain⟨b,q,rfl,a8,H⟩:=hY ay4;refine⟨_,PS ah bm (ar.int ao) a6 bv.jY (bv.size.trans aw) au bt,b,q+n.toNat*aQ u,by rw[aw3],a8,?_⟩;refine cu.mono (cm.refl _ _) u y _ _ (fun j v V=>?_) (H _ y aD);rw[<-V]
    congr 2
    omega
   .exact h.elim
  .rename_i c hx
   split at h
   .rename_i b7 u xs ak
    split at h
    .rename_i aw;have aw:=aq6 aw;obtain⟨⟨au,E⟩,h⟩:=h;refine cH.of h <| bA.val fun K' B' g1 g2 C ρ F a w aj ar=>?_
     obtain⟨bh,jh,cs,dw,_⟩:=aj.holds c _ ((g2 c ay6).trans ak);have dO:=ar.own ((g1 x m1).trans hx);rcases dw.2 with⟨_,G⟩ |⟨g,cap,c9,ay,_⟩
     .omega
     .have O:=jh g (by rw[ay];rfl);refine⟨_,PS ah (dO.trans ay) (ar.int ((g1 i m2).trans aF)) a6 bv.jY (bv.size.trans aw) au ay4,?_⟩;simp only[cw,gC,dY];rw[<-O,au1,aw3]
    .exact h.elim
   .exact h.elim
  .exact h.elim
 .exact h.elim
theorem Zk (bl:ec P aS) {T:TypeId} {x i:Operand} (ah:o.op= .index T x i) (h:match xp aS T,a2 K x,a2 K i with
  |true,.c (.one (.d (.str s))),.c (.one (.d (.int .i64 n)))=>0<=n/\ ∃y,fE s n.toNat=some y/\k (.c (.one (.d (.int .u8 (UInt8.toNat y:Int))))) bF
  |_,_,_=>False):cH P N ids o K B k:=by
 have m1:x∈o.op.operands:=az1
 have m2:i∈o.op.operands:=az1
 split at h
 .rename_i s n b6 hx aF;obtain⟨au,y,aD,h⟩:=h;have a6:=E' bl b6;refine cH.of h <| bA.two hx aF m1 m2 fun K' ρ I a w ar ae ao=>⟨_,?_,rfl⟩
  have O:(⟨s.toArray⟩:ByteArray)[n.toNat]? =some y:=by
   have bt:=BA aD;have:=(aq7.1 aD).2;rw[getElem?_pos (⟨s.toArray⟩:ByteArray) n.toNat (by rw[xv];exact bt)];simp only[aq4];rw[<-this];rfl
  simp[execOp,ah,ar.str ae,ar.int ao,Instr.index,asIntOf,run_underlying a6,au,O]
 .exact h.elim
theorem Jv {K':aY} {ρ:Nat->bn} {I:Nat->Prop} {a:Act} {w:World} (ar:eq K' ρ I a w) {n cap:Nat} {Fb:Bool} {ia aF:Option Operand} {l h:Nat} {p:Prop} (O:zl n (ia.map (a2 K)) (aF.map (a2 K))=some (l,h,p)) (ai:p) (J:n<=cap)
  (ak: ∀x,ia=some x->a2 K' x=a2 K x) (bf: ∀x,aF=some x->a2 K' x=a2 K x):
  (Instr.sliceBounds Fb n cap (ia.map a.eval) (aF.map a.eval) none).run P w= .ok (l,h,cap) w/\l<=h/\h<=n:=by
 unfold zl at O
 split at O
 .rename_i j E G
  cases ia with
  |some x=>simp at E
  |none=>
   cases aF with
   |none=>simp at G
   |some y=>
    simp only[av4,aq4] at G;simp only[aq4,av7] at O;obtain⟨rfl,rfl,rfl⟩:=O;have aD:=ar.int ((bf y rfl).trans G);have q:j<=(cap:Int):=az2
    refine⟨?_,ay4,ay4⟩;simp[Instr.sliceBounds,Instr.sliceBound,asIntOf,aD,ai.1,q]
 .rename_i i E G
  cases ia with
  |none=>simp at E
  |some x=>
   cases aF with
   |some y=>simp at G
   |none=>
    simp only[av4,aq4] at E;simp only[aq4,av7] at O;obtain⟨rfl,rfl,rfl⟩:=O;have hx:=ar.int ((ak x rfl).trans E);refine⟨?_,ay4,aq0 _⟩;simp[Instr.sliceBounds,Instr.sliceBound,asIntOf,hx,ai.1,ai.2]
 .rename_i i j E G
  cases ia with
  |none=>simp at E
  |some x=>
   cases aF with
   |none=>simp at G
   |some y=>
    simp only[av4,aq4] at E G;simp only[aq4,av7] at O;obtain⟨rfl,rfl,rfl⟩:=O;have hx:=ar.int ((ak x rfl).trans E);have aD:=ar.int ((bf y rfl).trans G);have Jw:0<=j:=az2
    have q:j<=(cap:Int):=az2
    have cA:i<=((j.toNat:Nat):Int):=az2
    refine⟨?_,ay4,ay4⟩;simp[Instr.sliceBounds,Instr.sliceBound,asIntOf,hx,aD,ai.1,Jw,q,ai.2.1];intro bt;omega
 .rename_i E G
  cases ia with
  |some x=>simp at E
  |none=>
   cases aF with
   |some y=>simp at G
   |none=>
    simp only[aq4,av7] at O;obtain⟨rfl,rfl,rfl⟩:=O;refine⟨?_,aq8 _,aq0 _⟩;simp[Instr.sliceBounds]
 .cases O
theorem Zl {I:Nat->Prop} {w:World} {u:bz} {xs:List (Z u)} {A:Option Addr} {cap l h:Nat} (hx:cu I w (.b' u) xs (fun _=>some (.slice A xs.length cap))) (ak:l<=h) (bf:h<=xs.length):
  cu I w (.b' u) ((xs.take h).drop l) (fun _=>some (.slice (if cap=l then A else A.map (·.add (l*aQ u))) (h - l) (cap - l))):=by
 obtain⟨A',Jx,e,E,G,af⟩:=hx;injection e with e
 injection e with ae ao bm
 subst ae bm;have bV:List.length ((xs.take h).drop l)=h - l:=by rw[au9,aq9];omega
 refine⟨_,_,by rw[bV],by rw[bV];omega,ay4,fun k9=>?_⟩;rw[bV] at k9;obtain⟨b,q,rfl,a8,H⟩:=af ay4;refine⟨b,q+l*aQ u,by rw[if_neg ay4,av4,pr],a8,fun i x aF=>?_⟩
 have Jy:fE (α:=Z u) xs (l+i)=some x:=by
  unfold fE at aF⊢;rw[List.getElem?_drop,au6] at aF
  split at aF
  .exact aF
  .cases aF
 refine cu.mono (cm.refl _ _) u x _ _ (fun j v V=>?_) (H _ x Jy);rw[<-V,Nat.add_mul]
 congr 2
 omega
theorem Zm (bl:ec P aS) {T:TypeId} {x:Operand} {ia aF:Option Operand} (ah:o.op= .slice T x ia aF none) (h:I5 aS T (a2 K x) (ia.map (a2 K)) (aF.map (a2 K)) k):cH P N ids o K B k:=by
 have m1:x∈o.op.operands:=az1
 have m2: ∀y,ia=some y->y∈o.op.operands:=fun y aD=>by rw[ah];simp[Op.operands,aD]
 have m3: ∀y,aF=some y->y∈o.op.operands:=fun y aD=>by rw[ah];simp[Op.operands,aD]
 unfold I5 at h
 split at h
 .rename_i s hx
  split at h
  .rename_i l bf p b6 O;have a6:=E' bl b6;refine cH.of h.2 <| bA.val fun K' B' E G C ρ F a w aj ar=>⟨_,?_,rfl⟩
   have dO:=ar.str ((E x m1).trans hx);obtain⟨cA,cF,dF⟩:=Jv (P:=P) ar (Fb:=false) O h.1 (aq0 _) (fun y aD=>E y (m2 y aD)) (fun y aD=>E y (m3 y aD));rw[<-xv s] at cA
   have U:(⟨s.toArray⟩:ByteArray).extract l bf=⟨((s.take bf).drop l).toArray⟩:=by
    have e:=Lib.extract_data ⟨s.toArray⟩ l bf
    cases aN:(⟨s.toArray⟩:ByteArray).extract l bf with
    |mk tl=>
     rw[aN] at e;simp only at e
     congr 1
     rw[<-Array.toArray_toList (xs:=tl),e,List.drop_take]
   rw[<-U];simp only[execOp,ah,Sem.run_bind,Instr.sliceAt,Instr.slice,run_underlying a6,Result.andThen_ok,dO,Option.map_none];simp only[Option.isSome_none,Bool.false_eq_true,if_false,Sem.run_bind,Sem.run_pure,Result.andThen_ok,cA]
  .exact h.elim
 .rename_i u xs hx
  split at h
  .rename_i e te l bf p U O;obtain⟨a6,c8,ds,bv⟩:=pz bl U
   split at h
   .rename_i aw;have aw:=aq6 aw;refine cH.of h.2 <| bA.val fun K' B' E G C ρ F a w aj ar=>?_
    have H:=ar.co ((E x m1).trans hx);have dq:=H;obtain⟨A,cap,bm,c0,fQ,hY⟩:=dq;injection bm with bm
    rw[bm] at H;obtain⟨cA,cF,dF⟩:=Jv (P:=P) (w:=w) ar (Fb:=true) O h.1 c0 (fun y aD=>E y (m2 y aD)) (fun y aD=>E y (m3 y aD));refine⟨_,?_,Zl H cF dF⟩;have aN:(sizeOf e).run P w= .ok (aQ u) w:=by simp[sizeOf,typeInfo,bv.jY,bv.size,aw]
    simp only[execOp,ah,Sem.run_bind,Instr.sliceAt,Instr.slice,run_underlying a6,Result.andThen_ok,bm,Option.map_none,cA,aN,Sem.run_pure]
   .exact h.elim
  .exact h.elim
 .exact h.elim
theorem PT {I:Nat->Prop} {w:World} {s:aC3} {v:Value} (h:cu I w (.b' .u8) s (fun _=>some v)) (a8: ∀b,I b->b < w.heap.size): ∃A c,v= .slice A s.length c/\qa I w (.slice A s.length c) s:=by
 obtain⟨e0,E,G,af⟩:=PL h a8;have tq:=E;obtain⟨ak,A,c,rfl,_⟩:=E
 have e:e0=s.map hj:=by
  apply List.ext_getElem?;intro i;rw[as0]
  cases aw:s[i]? with
  |none=>
   have:=List.getElem?_eq_none_iff.1 aw;rw[ax1 (by rw[ak];simp[aQ];exact this)];rfl
  |some x=>
   have:=G i x aw;have this:e0[i*aQ .u8+0]? =some (.int .u8 (UInt8.toNat x:Int)):=this;simpa[aQ,hj] using this
 subst e;exact⟨A,c,rfl,tq⟩
theorem Zn (bl:ec P aS) {S T:TypeId} {x:Operand} (ah:o.op= .convert S T x) (h:I4 aS S T (a2 K x) B k):cH P N ids o K B k:=by
 have m1:x∈o.op.operands:=az1
 unfold I4 at h
 split at h
 .rename_i Po ti aw cq;obtain⟨oV,hJ,zw⟩:=bl.at_ aw;obtain⟨oW,jj,tr⟩:=bl.at_ cq
  split at h
  .rename_i i j PJ n cj cT hx
   split at h
   .rename_i V _;have V:=nR V;subst V;refine cH.of h <| bA.one hx m1 fun K' ρ I a w ar ae=>⟨_,?_,rfl⟩
    have ay:=ar.int ae;have hw:IntKind.u8.wrap n=n % 256:=by simp[IntKind.wrap,IntKind.bits,IntKind.signed]
    simp[execOp,ah,ay,convert,run_underlying (zw.int cj),run_underlying (tr.int cT),Conv.intToInt,hw]
   .have h:=xn h;refine cH.of h.2 <| bA.one hx m1 fun K' ρ I a w ar ae=>⟨_,?_,rfl⟩
    have ay:=ar.int ae;simp[execOp,ah,ay,convert,run_underlying (zw.int cj),run_underlying (tr.int cT),Conv.intToInt,xu h.1]
  .rename_i e s cj cT hx
   split at h
   .rename_i a6;obtain⟨ra,_⟩:=xx bl a6;refine cH.of h.2 <| bA.new fun K' B' E G C ρ F a w aj ar=>?_
    have ay:=ar.str ((E x m1).trans hx);obtain⟨cap,dX,dN,O,fR⟩:=Yh (P:=P) w S T e ⟨s.toArray⟩ (zw.str cj) (tr.b' cT) ra (by rw[xv];exact h.1);rw[xv] at dN O;refine⟨.slice (some ⟨w.heap.size,0,none⟩) s.length cap,dX,by simp only[execOp,ah,Sem.run_bind,ay,dN,Result.andThen_ok,Sem.run_pure],fR,fun I U a8=>?_⟩;obtain⟨ak,A,c,ae,ao,bm,c0⟩:=O;injection ae with ae ll Zo
    subst ae Zo;have jE:s.length<=cap:=by simpa using ao
    refine⟨_,cap,rfl,jE,bm,fun k9=>?_⟩;have Zp:0 < s.length:=k9;obtain⟨b,q,na,vO,bt,J⟩:=c0 (by simpa using Zp);refine⟨b,q,na,a8 b vO bt,fun i y aD=>?_⟩
    have aA:(List.map hj s)[i]? =some (hj y):=by
     rw[as0];exact congrArg (Option.map hj) aD
    show dX.cell? ⟨b,q+(i*1+0),none⟩=some (hj y);rw[Nat.mul_one,aw3];exact J i _ aA
   .exact h.elim
  .rename_i e s cj cT hx
   split at h
   .rename_i a6;obtain⟨ra,_⟩:=xx bl a6;refine cH.of h <| bA.val fun K' B' E G C ρ F a w aj ar=>⟨_,?_,rfl⟩
    obtain⟨A,c,ay,O⟩:=PT (ar.co ((E x m1).trans hx)) (fun b O=>O.1);simp only[execOp,ah,Sem.run_bind,ay,O6 O S T e (zw.b' cj) ra (tr.str cT),Result.andThen_ok,Sem.run_pure]
   .exact h.elim
  .rename_i e cj cT hx
   split at h
   .rename_i a6;obtain⟨ra,_⟩:=xx bl a6;refine cH.of h <| bA.one hx m1 fun K' ρ I a w ar ae=>⟨_,?_,rfl⟩
    have ay:=ar.dK ae;simp only[execOp,ah,Sem.run_bind,ay,run_convert_bytes_nil (P:=P) (w:=w) S e (zw.b' cj) ra 0 0 T (tr.str cT),Result.andThen_ok,Sem.run_pure];rfl
   .exact h.elim
  .rename_i e c cj cT hx
   split at h
   .rename_i b7 s ak a6;obtain⟨ra,_⟩:=xx bl a6;refine cH.of h <| bA.val fun K' B' E G C ρ F a w aj ar=>⟨_,?_,rfl⟩
    have dw:=aj.holds c _ ((G c ay6).trans ak);have H:=BQ dw (I':=fun b=>b < w.heap.size) (fun b O=>O.1) (fun b O=>(aj.own c _ ((G c ay6).trans ak) b O).1);obtain⟨A,l9,ay,O⟩:=PT H (fun b O=>O);have dO:=ar.own ((E x m1).trans hx);simp only[execOp,ah,Sem.run_bind,dO,ay,O6 O S T e (zw.b' cj) ra (tr.str cT),Result.andThen_ok,Sem.run_pure]
   .exact h.elim
  .exact h.elim
 .exact h.elim
theorem Zq (bl:ec P aS) {T:TypeId} {x:Operand} {ia aF:Option Operand} {c:Nat} (ah:o.op= .slice T x ia aF none) (hx:a2 K x= .c (.one (.own c))) (h:match elemOf aS T,ag B c with
   |some (_,te),some (.row _ u xs)=>match zl xs.length (ia.map (a2 K)) (aF.map (a2 K)),Nat.beq te.size (aQ u) with
    |some (l,h,p),true=>p/\k (.c (.one (.os c (aQ u) l (h - l)))) ⟨[c],[],[]⟩
    |_,_=>False
   |_,_=>False):cH P N ids o K B k:=by
 have m1:x∈o.op.operands:=az1
 have m2: ∀y,ia=some y->y∈o.op.operands:=fun y aD=>by rw[ah];simp[Op.operands,aD]
 have m3: ∀y,aF=some y->y∈o.op.operands:=fun y aD=>by rw[ah];simp[Op.operands,aD]
 split at h
 .rename_i e te b7 u xs U ak;obtain⟨a6,c8,ds,bv⟩:=pz bl U
  split at h
  .rename_i l bf p O aw;have aw:=aq6 aw;refine cH.of h.2 <| bA.val fun K' B' E G C ρ F a w aj ar=>?_
   have dO:=ar.own ((E x m1).trans hx);obtain⟨_,_,cs,dw,_⟩:=aj.holds c _ ((G c ay6).trans ak);obtain⟨_,A,cap,ay,hn,J,_⟩:=fC.ps dw;unfold bn.ef at ay dO;injection ay with ae ao bm
   rw[ao] at dO;obtain⟨cA,cF,dF⟩:=Jv (P:=P) (w:=w) ar (Fb:=true) O h.1 (by rw[<-bm] at hn;exact hn:xs.length<=(ρ c).cap) (fun y aD=>E y (m2 y aD)) (fun y aD=>E y (m3 y aD));refine⟨_,?_,rfl⟩;have aN:(sizeOf e).run P w= .ok (aQ u) w:=by simp[sizeOf,typeInfo,bv.jY,bv.size,aw]
   simp only[execOp,ah,Sem.run_bind,Instr.sliceAt,Instr.slice,run_underlying a6,Result.andThen_ok,dO,Option.map_none,cA,aN,Sem.run_pure]
  .exact h.elim
 .exact h.elim
end
end
section
section
variable {P:Program} {aS:dg} {N:Nat} {ids:aC4} {o:Oper} {K:aY} {B:az} {k:aP->fP->Prop}
theorem Zr {c d:Nat} (h:aP.has d (.c (.one (.mp c)))=true):d=c:=(aq6 h).symm
theorem Fc (bl:ec P aS) {T kt et:Nat} (h:xq aS T=some (kt,et)):P.underlying T=some (.map kt et):=by
 unfold xq at h
 split at h
 .rename_i ti gD
  split at h
  .rename_i k e aa;obtain⟨_,_,bv⟩:=bl.at_ gD;injection h with h
   injection h with E G
   subst E G;have:=bv.kd;rw[aa] at this;rw[bv.nS]
   cases H:‹TypeDesc› <;>simp[H,tj] at this⊢
   exact this
  .cases h
 .cases h
theorem Jz (bl:ec P aS) {kt:Nat} {aI:bz} (h:xt aS kt aI=true): ∃d,P.underlying kt=some d/\m' aI d=true:=by
 unfold xt at h
 split at h
 .rename_i ti gD;obtain⟨_,_,bv⟩:=bl.at_ gD
  split at h
  .rename_i k dZ aa;have:=nR h;subst this;exact⟨_,bv.int aa,by simp[m']⟩
  .rename_i aa;exact⟨_,bv.str aa,rfl⟩
  .cases h
 .cases h
theorem Fd: ∀u:bz,oK u (cO u)
 | .int _=>trivial
 | .u8=>trivial
 | .bool=>trivial
 | .str=>trivial
 | .aM=>trivial
 | .dm=>trivial
 | .fn=>trivial
 | .b' _=>trivial
 | .bP u v=>⟨Fd u,Fd v⟩
 | .arr n u=>⟨ar7,fun x hx=>by
  have e:x=cO u:=List.eq_of_mem_replicate hx;rw[e];exact Fd u⟩
theorem Zs {ρ:Nat->bn} {I:Nat->Prop} {w:World} {s:bB} {x:D} {v:Value} (h:ER s x=true) (ay:dY ρ I w s v):gK I w x v:=by
 unfold ER at h
 split at h
 .simp only[vj,as5] at h;obtain⟨E,G⟩:=h;have:=nR E;subst this G;exact ay
 .exact ay
 .exact ay
 .exact ay
 .rename_i b c;have:b=c:=az3
  subst this;exact ay
 .rw[show v=_ from ay];exact⟨none,0,rfl,aq0 _,aq8 _,fun h=>absurd h (Nat.lt_irrefl 0)⟩
 .cases h
theorem PU: ∀{l m:List bB},iJ l m=true->l.length=m.length
 | [],[],_=>rfl
 |s::l,.d x::m,h=>by
  simp only[iJ,vj] at h;simp[PU h.2]
 | [],_::_,h=>by simp[iJ] at h
 |_::_,[],h=>by simp[iJ] at h
 |_::_,.ptr _ _::_,h=>by simp[iJ] at h
 |_::_,.own _::_,h=>by simp[iJ] at h
 |_::_,.el _ _ _::_,h=>by simp[iJ] at h
 |_::_,.gc _ _ _ _::_,h=>by simp[iJ] at h
 |_::_,.os _ _ _ _::_,h=>by simp[iJ] at h
 |_::_,.mp _::_,h=>by simp[iJ] at h
 |_::_,.cY _ _::_,h=>by simp[iJ] at h
 |_::_,.dK::_,h=>by simp[iJ] at h
 |_::_,.bJ _::_,h=>by simp[iJ] at h
 |_::_,.any::_,h=>by simp[iJ] at h
theorem PV: ∀{l m:List bB},iJ l m=true-> ∀(i:Nat) (y:bB),m[i]? =some y-> ∃s x,l[i]? =some s/\y= .d x/\ER s x=true
 | [],[],_,i,y,aD=>by simp at aD
 |s::l,.d x::m,h,0,y,aD=>by
  simp only[iJ,vj] at h;simp only[ar3,aq4] at aD;exact⟨s,x,rfl,aD.symm,h.1⟩
 |s::l,.d x::m,h,i+1,y,aD=>by
  simp only[iJ,vj] at h;simpa using PV h.2 i y (by simpa using aD)
 | [],_::_,h,_,_,_=>by simp[iJ] at h
 |_::_,[],h,_,_,aD=>by simp at aD
 |_::_,.ptr _ _::_,h,_,_,_=>by simp[iJ] at h
 |_::_,.own _::_,h,_,_,_=>by simp[iJ] at h
 |_::_,.el _ _ _::_,h,_,_,_=>by simp[iJ] at h
 |_::_,.gc _ _ _ _::_,h,_,_,_=>by simp[iJ] at h
 |_::_,.os _ _ _ _::_,h,_,_,_=>by simp[iJ] at h
 |_::_,.mp _::_,h,_,_,_=>by simp[iJ] at h
 |_::_,.cY _ _::_,h,_,_,_=>by simp[iJ] at h
 |_::_,.dK::_,h,_,_,_=>by simp[iJ] at h
 |_::_,.bJ _::_,h,_,_,_=>by simp[iJ] at h
 |_::_,.any::_,h,_,_,_=>by simp[iJ] at h
theorem Zt (bl:ec P aS) {et:Nat} {aK:bz} (h:ES aS et aK=true) {I:Nat->Prop} {w:World}: ∃aB,(zeroValue et).run P w= .ok aB w/\jz I w aK (cO aK) aB:=by
 unfold ES at h
 split at h
 .rename_i ti gD;obtain⟨i,d,bv⟩:=bl.at_ gD;simp only[vj,beq_iff_eq,av5] at h;obtain⟨⟨E,G⟩,af⟩:=h;obtain⟨aB,aN,mH⟩:=bv.zero;have H:=(vW (ρ:=fun _=>⟨0,none,0,0⟩) (I:=I) (w:=w) _ _ mH).1;have ak:=cc.length _ _ H;have qg:ti.zero.length=aQ aK:=(PU E).trans (tm aK _ _ _)
  have aw:aB.cells.size=aQ aK:=by
   rw[<-qg,<-ak];simp
  refine⟨aB,by simp[zeroValue,typeInfo,bv.jY,aN],aw,⟨fun ah=>?_,fun ah=>?_⟩,cu.mk _ _ _ (Fd aK) fun j V=>?_⟩
  .refine bv.Px aB aN ?_;rw[bv.row,G,ah];rfl
  .have:2<=aQ aK:=by
    rcases af with af |af
    .rw[ah] at af;cases af
    .exact aw8 af
   cases aB with
   |agg cs=>exact⟨cs,rfl⟩
   |_=>simp[Value.cells] at aw;omega
  .have aZ:=zt aK (cO aK) (aQ aK) 0 j V;rw[au1] at aZ;obtain⟨s,x,ae,ao,bm⟩:=PV E j _ aZ;injection ao with ao
   obtain⟨v,c0,fQ⟩:=cc.get _ _ H j s ae;exact⟨v,c0,by rw[ao];exact Zs bm fQ⟩
 .cases h
theorem PW {ρ:Nat->bn} {I:Nat->Prop} {w:World} {u:bz} {x:Z u} {v:Value} (ah:m9 u=true) (h:jz I w u x v):dY ρ I w (.d (fD u x 0)) v:=by
 obtain⟨E,G,af⟩:=h;have J:=G.1 ah;have k9:0 < aQ u:=by rw[<-E,J];simp
 obtain⟨df,ae,ao⟩:=cu.cell u x _ 0 af k9;rw[J] at ae;simp at ae;subst ae;exact ao
theorem PX {ρ:Nat->bn} {I:Nat->Prop} {w:World} {u:bz} {x:Z u} {v:Value} (ah:m9 u=false) (h:jz I w u x v):gC ρ I w (.agg (gq u x 0 (aQ u))) v:=by
 obtain⟨E,G,af⟩:=h;obtain⟨cs,e⟩:=G.2 ah;subst e;obtain⟨aE,g1,g2⟩:=E5 (ρ:=ρ) af (aQ u) 0 ay4;have ak:=cc.length _ _ g1;rw[tm] at ak
 have e:aE=cs.toList:=by
  apply List.ext_getElem?;intro j
  by_cases V:j < aE.length
  .obtain⟨v,ay⟩: ∃v,aE[j]? =some v:=⟨_,oj V⟩;have:=g2 j v ay;rw[ay,<-this];simp[Value.cells]
  .rw[ax1 ay4,ax1 (by simp[Value.cells] at E;simp;omega)]
 subst e;exact⟨_,ay6,g1⟩
theorem Fe {ρ:Nat->bn} {I:Nat->Prop} {w:World} {u:bz} {x:Z u} {v:Value} (h:jz I w u x v):gC ρ I w (zm u x) v:=by
 cases u with
 |bP u v=>exact PX rfl h
 |arr n u=>exact PX rfl h
 |_=>exact PW (ρ:=ρ) rfl h
theorem Zu {ρ:Nat->bn} {I:Nat->Prop} {w:World} {u:bz} {s:aP} {y:Z u} {p:Option Prop} (h:I9 u s=some (y,p)) (ai:uj p) {v:Value} (ay:cw ρ I w s v):jz I w u y v:=by
 unfold I9 at h
 split at h
 .rename_i df y'
  split at h
  .rename_i sk _ ah;subst sk;injection h with h
   injection h with E G
   subst E G;obtain⟨aE,e,E,G⟩:=ay;subst e;exact⟨by simpa[Value.cells] using E,⟨fun e=>(by rw[ah] at e;cases e),fun _=>⟨_,rfl⟩⟩,by simpa[Value.cells,iOz] using G⟩
  .cases h
 .rename_i s'
  split at h
  .rename_i y' km ah H;injection h with h
   injection h with E G
   subst E G;obtain⟨nU,tn,ae,ao,bm,c0,fQ⟩:=zu u ρ I w _ _ _ _ H ai [v] ⟨v,[],rfl,ay,rfl⟩;rw[show tn=[] from c0,at6] at ae;subst ae
   have J:v.cells= #[v]:=by
    have:=fQ v ay6
    cases v <;>first |rfl |(simp[Value.oneCell'] at this)
   refine⟨by rw[J,<-ao];rfl,⟨fun _=>J,fun e=>(by rw[ah] at e;cases e)⟩,by rw[J];exact bm⟩
  .cases h
 .rename_i l
  split at h
  .rename_i y' km ah H;injection h with h
   injection h with E G
   subst E G;obtain⟨aE,e,ay⟩:=ay;subst e;obtain⟨nU,tn,ae,ao,bm,c0,fQ⟩:=zu u ρ I w _ _ _ _ H ai aE ay;rw[show tn=[] from c0,at6] at ae;subst ae;exact⟨by simpa[Value.cells] using ao,⟨fun e=>(by rw[ah] at e;cases e),fun _=>⟨_,rfl⟩⟩,by simpa[Value.cells] using bm⟩
  .cases h
 .cases h
theorem BT {ρ:Nat->bn} {I:Nat->Prop} {w:World} {aI:bz} {s:aP} {key:Z aI} (h:xr aI s=some key) {v:Value} (ay:cw ρ I w s v):v=gL aI key:=by
 unfold xr at h
 split at h
 .split at h
  .rename_i e;have:=nR e;injection h with h
   subst this h;exact ay
  .cases h
 .injection h with h
  subst h;exact ay
 .cases h
theorem eq.mp {K':aY} {ρ:Nat->bn} {I:Nat->Prop} {a:Act} {w:World} {x:Operand} (ar:eq K' ρ I a w) {c:Nat} (h:a2 K' x= .c (.one (.mp c))):a.eval x= .map (some (ρ c).bk):=ar.ev h
theorem Zv (bl:ec P aS) {T:TypeId} {x i:Operand} {ok:Bool} (ah:o.op= .lookup T x i ok) (h:I8 aS T (a2 K x) (a2 K i) ok B k):cH P N ids o K B k:=by
 have m1:x∈o.op.operands:=az1
 have m2:i∈o.op.operands:=az1
 unfold I8 at h
 split at h
 .rename_i c hx
  split at h
  .rename_i aI aK es ak
   split at h
   .rename_i kt et key b6 aa
    have si: ∀(v:aP),(xt aS kt aI&&ES aS et aK)=true->(∀(ρ:Nat->bn) (I:Nat->Prop) (w:World) (u:Value),jz I w aK ((bY es key).getD (cO aK)) u->cw ρ I w v (if ok then .tuple #[u,.bool (bY es key).isSome] else u))->bA P N ids o K B v ⟨[c],[],[]⟩:=by
     intro v bv ay;simp only[vj] at bv;obtain⟨d,xz,k6⟩:=Jz bl bv.1;refine bA.val fun K' B' g1 g2 C ρ F a w aj ar=>?_
     obtain⟨bh,bR,bS,O,aA,c5⟩:=aj.holds c _ ((g2 c ay6).trans ak);obtain⟨aB,aN,zf⟩:=Zt bl bv.2 (I:=bX C B' F w) (w:=w);obtain⟨u,ax,a6⟩:=Pe (P:=P) (Fc bl b6) xz k6 O aA aN zf key ok;have ae:=ar.mp ((g1 x m1).trans hx);have ao:a.eval i=gL aI key:=BT aa (ar.ev (g1 i m2));exact⟨_,by simp only[execOp,ah,Sem.run_bind,ae,ao,ax,Result.andThen_ok,Sem.run_pure],ay ρ _ w u a6⟩
    split at h
    .rename_i bv;rw[ED] at h;refine cH.of h (si _ bv fun ρ I w u a6=>?_);exact⟨[u,.bool (bY es key).isSome],rfl,u,_,rfl,Fe a6,_,_,rfl,rfl,rfl⟩
    .rename_i bv;rw[ED] at h;exact cH.of h (si _ bv fun ρ I w u a6=>Fe a6)
    .exact h.elim
   .exact h.elim
  .exact h.elim
 .exact h.elim
theorem uz {w:World} {b:Nat} {mI:Obj} {S:Nat->Prop} (ar:S b):cS S w {w with heap:=w.heap.setIfInBounds b mI}:=
 ⟨rfl,rfl,rfl,ay6,fun j _ hn=>by simp only[];rw[aw1 (fun e=>hn (by rw[<-e];exact ar))]⟩
theorem Zw (bl:ec P aS) {T:TypeId} {x i v:Operand} (ah:o.op= .mapUpdate T x i v) (h:Ja aS T (a2 K x) (a2 K i) (a2 K v) B k):cH P N ids o K B k:=by
 have m1:x∈o.op.operands:=az1
 have m2:i∈o.op.operands:=az1
 have m3:v∈o.op.operands:=az1
 unfold Ja at h
 split at h
 .rename_i c hx
  split at h
  .rename_i aI aK es ak
   split at h
   .rename_i kt et key b6 aa
    have si: ∀y:Z aK,xt aS kt aI=true->(∀(ρ:Nat->bn) (I:Nat->Prop) (w:World) (u:Value),cw ρ I w (a2 K v) u->jz I w aK y u)->bA P N ids o K B .undef ⟨[c],[],[(c,some (.map aI aK (dx es key y)))]⟩:=fun y bv ay=>by
     obtain⟨d,xz,k6⟩:=Jz bl bv;refine bA.hI ak fun K' B' g1 C ρ F a w aj ar gf=>?_
     obtain⟨bh,bR,bS,O,aA,c5⟩:=aj.holds c _ gf;have ae:=ar.mp ((g1 x m1).trans hx);have ao:a.eval i=gL aI key:=BT aa (ar.ev (g1 i m2));have bm:jz _ _ aK y (a.eval v):=ay _ _ _ _ (ar.ev (g1 v m3));obtain⟨eB,jX,ax,gu,qh⟩:=BD (P:=P) (Fc bl b6) xz k6 O aA c5 key bm;have bt:=(aw5.1 O).1;refine⟨{w with heap:=w.heap.setIfInBounds (ρ c).bk (.map (List.toArray eB) jX)},by simp only[execOp,ah,Sem.run_bind,ae,ao,ax,Result.andThen_ok,Sem.run_pure],uz ((bh _).2 rfl),fun I a1=>⟨bh,eB,jX,by simp[bt],gu.mono a1,qh⟩⟩
    split at h
    .rename_i y p bv ay;exact cH.of h.2 (si y bv fun ρ I w u a6=>Zu ay h.1 a6)
    .rename_i bv _
     split at h
     .rename_i l ay sf;obtain⟨y,⟨hw,gf⟩,h⟩:=h;refine cH.of h (si y bv fun ρ I w u a6=>?_);rw[ay] at a6;obtain⟨aE,e,H⟩:=a6;subst e gf;exact⟨by simpa[Value.cells,tm] using cc.length _ _ H,⟨fun e=>(by rw[sf] at e;cases e),fun _=>⟨_,rfl⟩⟩,by simpa[Value.cells] using BO hw H⟩
     .exact h.elim
    .exact h.elim
   .exact h.elim
  .exact h.elim
 .exact h.elim
theorem bA.PY {c:Nat} {cz ch:ba} (J:ag B c=some cz)
  (h: ∀(K':aY) (B':az),(∀x,x∈o.op.operands->a2 K' x=a2 K x)-> ∀(C:fg) (ρ:Nat->bn) (F:Nat->Nat->Prop) (a:Act) (w:World),Mem ids C B' ρ F w->eq K' ρ (bX C B' F w) a w->ag B' c=some cz-> ∃w',(execOp a.eval o).run P w= .ok (.value (.tuple #[])) w'/\cS (F c) w w'/\
   (∀I,cm (bX C B' F w) w I w'->Holds ρ I (F c) w' (ρ c) ch)):
  bA P N ids o K B (.ci []) ⟨[c],[],[(c,some ch)]⟩:=by
 rintro K' B' E G - C a w ⟨hn,H,ρ,F,aj,ar⟩ bt fJ Q cV;have cK:ag B' c=some cz:=(G c ay6).trans J;obtain⟨w',hx,cy,cZ⟩:=h K' B' E C ρ F a w aj ar cK;obtain⟨bI,U⟩:=aj.hI cK cy cZ;unfold Oper.wp;rw[hx,Oper.upon_value];exact cV _ _ ⟨ki.trans hn,kj.trans H,ρ,F,bI,(ar.mono U fun _ _ _=>rfl).kk (fun e U=>by rw[hn];exact bt e U) ⟨[],rfl,rfl⟩⟩
theorem Zx (bl:ec P aS) {T eJ:TypeId} {x i:Operand} {c:Call} (ah:o.op= .call c) (dL:c.callee= .builtin .delete) (dS:c.args.toList=[x,i]) (k':c.argTypes.toList=[T,eJ]) (h:Jb aS T (a2 K x) (a2 K i) B k):cH P N ids o K B k:=by
 have e9:c.args= #[x,i]:=au7.1 dS;have iV:c.argTypes= #[T,eJ]:=au7.1 k';obtain⟨rb,args,cv⟩:=c;simp only at dL e9 iV;subst dL e9 iV;have m1:x∈o.op.operands:=az5
 have m2:i∈o.op.operands:=az5
 unfold Jb at h
 split at h
 .rename_i c hx
  split at h
  .rename_i aI aK es ak
   split at h
   .rename_i kt et key b6 aa
    split at h
    .rename_i bv;obtain⟨d,xz,k6⟩:=Jz bl bv;refine cH.of h <| bA.PY ak fun K' B' g1 C ρ F a w aj ar gf=>?_
     obtain⟨bh,bR,bS,O,aA,c5⟩:=aj.holds c _ gf;have ae:=ar.mp ((g1 x m1).trans hx);have ao:a.eval i=gL aI key:=BT aa (ar.ev (g1 i m2));obtain⟨eB,ax,gu,qh⟩:=Pk (P:=P) (ty:=o.type) (Fc bl b6) xz k6 O aA c5 key eJ;have bt:=(aw5.1 O).1;refine⟨{w with heap:=w.heap.setIfInBounds (ρ c).bk (.map (List.toArray eB) bS)},?_,uz ((bh _).2 rfl),fun I a1=>⟨bh,eB,bS,by simp[bt],gu.mono a1,qh⟩⟩;simp[execOp,ah,resolve,invoke,builtin,ae,ao,ax]
    .exact h.elim
   .exact h.elim
  .exact h.elim
 .exact h.elim
theorem l8.arr {T:Nat} {ti:ca} {i:TypeInfo} {d:TypeDesc} (h:l8 P T ti i d) {n e:Nat} (aa:ti.kd= .arr n e):P.underlying T=some (.array n e):=by
 have:=h.kd;rw[aa] at this;rw[h.nS]
 cases d <;>simp[tj] at this⊢
 exact this
theorem Zy (bl:ec P aS) {T:TypeId} {x:Operand} (ah:o.op= .sliceToArrayPointer T x) (h:Je aS T (a2 K x) k):cH P N ids o K B k:=by
 have m1:x∈o.op.operands:=az1
 unfold Je at h
 split at h
 .rename_i ti v xs gD hx;obtain⟨i,d,bv⟩:=bl.at_ gD
  split at h
  .rename_i n e aa;obtain⟨⟨au,g8⟩,h⟩:=h;have a6:=bv.arr aa;refine cH.of h <| bA.one hx m1 fun K' ρ I a w ar ae=>?_
   obtain⟨A,cap,bm,c0,fQ,hY⟩:=ar.co ae;injection bm with bm
   obtain⟨b,q,rfl,a8,H⟩:=hY ay4;refine⟨.pointer (some ⟨b,q,none⟩),?_,b,q,rfl,a8,by simp;omega,fun i aB aN=>?_⟩
   .have: ¬List.length xs < n:=az2
    simp[execOp,ah,bm,Instr.arrayAt,run_underlying a6,this]
   .have rc:fE (α:=Z v) xs i=some aB:=by
     unfold fE at aN⊢;rw[au6] at aN
     split at aN
     .exact aN
     .cases aN
    exact H i aB rc
  .exact h.elim
 .exact h.elim
theorem Zz (bl:ec P aS) {T:TypeId} {x:Operand} {c:Nat} (ah:o.op= .slice T x none none none) (hx:a2 K x= .c (.one (.ptr c 0))) (h:Jd aS T c B k):cH P N ids o K B k:=by
 have m1:x∈o.op.operands:=az1
 unfold Jd at h
 split at h
 .rename_i ti gD;obtain⟨i,d,bv⟩:=bl.at_ gD
  split at h
  .rename_i n e m v aa _;have a6:=bv.arr aa
   split at h
   .rename_i te l hn vX ak;simp only[vj,Nat.beq_eq,Nat.ble_eq,Nat.blt_eq] at hn;obtain⟨⟨_,kn⟩,xy⟩:=hn;obtain⟨vS,JA,ZA⟩:=bl.at_ vX;obtain⟨ys,⟨hw,gf⟩,h⟩:=h;refine cH.of h ?_;rintro K' B' E G - C a w ⟨re,tp,ρ,F,aj,ar⟩ bt fJ Q cV;have JB:ag B' c=some (.cells l):=(G c ay6).trans ak;obtain⟨bh,aE,eJ,O,H⟩:=aj.holds c _ JB;have ae:=ar.ptr ((E x m1).trans hx);subst gf;have ZB:=BO hw H;have a7:n≠0:=az2
    have dN:(execOp a.eval o).run P w= .ok (.value (.slice (some ⟨(ρ c).bk,0,none⟩) n n)) w:=by
     simp[execOp,ah,ae,Instr.sliceAt,run_underlying a6,Instr.sureAddr,Instr.sliceBounds,sizeOf,typeInfo,ZA.jY,a7,pr]
    obtain⟨bI,a1⟩:=aj.step (B':=gS B' c) (ρ':=ρ) (F':=F) (w':=w) (fun d=>d=c) (fun _=>False) (cS.refl _ w) (fun d ch H a7=>by
      rw[hA,if_neg (fun e=>a7 e.symm)] at H;exact H) (fun _ _=>rfl) (fun _ _=>rfl) (fun _ _ h=>h) (fun _ h=>h.elim) (fun _ _ _ _ _ _ h=>h)
     (fun d ch H aj _=>by subst aj;rw[hA,if_pos rfl] at H;cases H)
     (fun d ch H aj=>by subst aj;rw[hA,if_pos rfl] at H;cases H)
     (fun d c3 ch ch' b H _ aj=>by subst aj;rw[hA,if_pos rfl] at H;cases H)
    have mJ:=(bh (ρ c).bk).2 rfl
    have a8:bX C (gS B' c) F w (ρ c).bk:=by
     obtain⟨cA,cF⟩:=aj.own c _ JB _ mJ;refine⟨cA,?_,fun d ch H dp=>?_⟩
     .rcases cF with cF |cF
      .exact .inr (.inl cF)
      .exact .inr (.inr cF)
     .rw[hA] at H
      split at H
      .cases H
      .rename_i a7;exact aj.fh c d _ ch _ JB H a7 mJ dp
    unfold Oper.wp;rw[dN,Oper.upon_value];refine cV _ _ ⟨ki.trans re,kj.trans tp,ρ,F,bI,(ar.mono a1 fun _ _ _=>rfl).kk (fun e U=>by rw[re];exact bt e U) ?_⟩;have bV:List.length ys=n:=hw.1;refine⟨_,n,by rw[bV],ay4,by simp only[maxLen];omega,fun _=>⟨_,0,rfl,a8,fun j aB aN=>?_⟩⟩;refine cu.mono a1 v aB _ _ (fun q y aT=>?_) (ZB.2 j aB aN);rw[au1];exact oS O aT
   .exact h.elim
  .exact h.elim
 .exact h.elim
theorem ZC (bl:ec P aS) {T:TypeId} (ah:o.op= .makeMap T none) (h:Jc aS T o.dst ids K B k):cH P N ids o K B k:=by
 unfold Jc at h
 split at h
 .rename_i kt et d b6 H
  split at h
  .rename_i Pp vS ap0 ap1
   split at h
   .rename_i aI aK _ _;refine cH.bb h.2 h.1 <| bA.make (fun d h=>Zr h) fun K' B' g1 g2 C ρ F a w aj ar hn=>?_
    refine⟨.map (some w.heap.size),w.alloc (.map #[] 0),⟨w.heap.size,none,0,0⟩,fun b=>b=w.heap.size,by simp only[execOp,ah,Option.map_none,Sem.run_bind,Yw,Result.andThen_ok,Sem.run_pure],tb w _,fun b O=>by subst O;exact⟨aq0 _,ay6⟩,fun I U O=>⟨⟨fun b=>Iff.rfl,[],0,IG _ rfl,rfl,⟨ay6,fun e U=>by cases U⟩⟩,?_⟩⟩;simp only[cw,gC,dY,c7]
   .exact h.elim
  .exact h.elim
 .exact h.elim
end
end
end Go.Proofs.YtkfbeijmgggkmaaGreat
