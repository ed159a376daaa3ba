/-
Part 4 of the proof that stands in YteoamepgonpdlaaGreatPcRow, with what it needs from the parts ahead; the parts of this text: SndP, SndM.
-/
import Derived.Great.BuildSlice
import Derived.Laws.Small
import Derived.Maps.AppendAt
import Derived.Lib.Strings
import Derived.Test.YteoamepgonpdlaaGreatPc3
set_option linter.unusedVariables false
set_option linter.unusedSimpArgs false
set_option maxRecDepth 10000
namespace Go.Proofs.YteoamepgonpdlaaGreat
open Go.RowKit
section
variable {ρ:Nat→bq} {I:Nat→Prop} {w:World}
theorem b7.wf: ∀(u:U) (x:aI u) (c:Nat→Option Value),b7 I w u x c→nO u x:=by
 intro u
 induction u with
 |pr u v oL oM=>exact fun x c h=>⟨oL _ _ h.1,oM _ _ h.2⟩
 |arr n u aZ=>
  refine fun x c h=>⟨h.1,fun y aF=>?_⟩
  obtain⟨i,aD⟩:=List.getElem?_of_mem (α:=aI u) aF
  exact aZ _ _ (h.2 i y aD)
 |_=>exact fun x c h=>trivial
theorem b7.one (u:U) (x:aI u) (c:Nat→Option Value) (h:b7 I w u x c) (j:Nat) (au:j < aM u): ∃v,c j=some v∧v.oneCell'=true:=by
 obtain⟨v,aa,af⟩:=b7.cell u x c j h au
 exact⟨v,aa,ok_one (ρ:=fun _=>⟨0,none,0,0⟩) (s:=.d (e4 u x j)) rfl af⟩
theorem Li {i j n s:Nat} (aD:i < n) (au:j < s):i*s+j < n*s:=by
 have:=Nat.mul_le_mul_right s aD
 rw[Nat.succ_mul] at this
 omega
theorem Lj {u:U} {ys:List (aI u)} {v:Value} (h:b7 I w (.sl u) ys (fun _=>some v)) (bC: ∀b,I b→b < w.heap.size):
  ∃news,fF I w (aM u) v ys.length news∧gF I w u ys news∧ ∀x∈news,x.oneCell'=true:=by
 obtain⟨A,cap,e,aa,af,ay⟩:=h
 injection e with e
 subst e
 rcases Nat.eq_zero_or_pos ys.length with aE |aE
 ·have aF:ys=[]:=List.eq_nil_of_length_eq_zero aE
  subst aF
  exact⟨[],⟨by simp,A,cap,rfl,aa,af,fun h=>absurd h (by simp)⟩,fun i x hx=>by simp at hx,fun x hx=>by cases hx⟩
 ·obtain⟨b,o,rfl,ag,hx⟩:=ay aE
  have hc: ∀i (aD:i < ys.length) j,j < aM u→ ∃v,w.cell? ⟨b,o+(i*aM u+j),none⟩=some v∧v.oneCell'=true:=fun i aD j au=>
   b7.one u _ _ (hx i ys[i] (by simp[eT,aD])) j au
  have hn: ∀j,j < ys.length*aM u→ ∃v,w.cell? ⟨b,o+j,none⟩=some v∧v.oneCell'=true:=fun j au=>by
   obtain⟨aj,ak,bf⟩:=FG au
   have:=hc _ aj _ ak
   rwa[bf] at this
  have eB: ∀j,j < ys.length*aM u→((List.range (ys.length*aM u)).map fun j=>(w.cell? ⟨b,o+j,none⟩).getD undef)[j]? =w.cell? ⟨b,o+j,none⟩:=fun j au=>by
   obtain⟨v,hv,_⟩:=hn j au
   rw[List.getElem?_map,List.getElem?_range au]
   simp[hv]
  refine⟨(List.range (ys.length*aM u)).map fun j=>(w.cell? ⟨b,o+j,none⟩).getD undef,⟨by simp,some ⟨b,o,none⟩,cap,rfl,aa,af,fun _=>⟨b,o,rfl,ag,bC b ag,fun j x au=>?_⟩⟩,fun i x eF=>?_,fun x eF=>?_⟩
  ·have oS:=(List.getElem?_eq_some_iff.1 au).1
   simp only[List.length_map,List.length_range] at oS
   rwa[eB j oS] at au
  ·have aD:=(List.getElem?_eq_some_iff.1 eF).1
   have hd:=hx i x eF
   refine b7.mk u x _ (b7.wf u x _ hd) fun j au=>?_
   obtain⟨v,hv,bu⟩:=b7.cell u x _ j hd au
   exact⟨v,by rw[eB _ (Li aD au)];exact hv,bu⟩
  ·obtain⟨j,au,rfl⟩:=List.mem_map.1 eF
   obtain⟨v,hv,bu⟩:=hn j (List.mem_range.1 au)
   simpa[hv] using bu
theorem gF.app {u:U} {xs ys:List (aI u)} {cs ds:List Value} (h:gF I w u xs cs) (h':gF I w u ys ds) (aB:cs.length=xs.length*aM u):gF I w u (xs++ys) (cs++ds):=fun i x hx=>by
 by_cases aD:i < xs.length
 ·rw[List.getElem?_append_left aD] at hx
  have hd:=h i x hx
  refine b7.mk u x _ (b7.wf u x _ hd) fun j au=>?_
  obtain⟨v,hv,bu⟩:=b7.cell u x _ j hd au
  exact⟨v,by rw[List.getElem?_append_left (by rw[aB];exact Li aD au)];exact hv,bu⟩
 ·rw[List.getElem?_append_right (by omega)] at hx
  have hd:=h' _ x hx
  refine b7.mono (Ext.refl _ _) u x _ _ (fun j v au=>?_) hd
  have e:i*aM u=xs.length*aM u+(i - xs.length)*aM u:=by rw[←Nat.add_mul];congr 1;omega
  rw[List.getElem?_append_right (by rw[aB,e];omega),←au,aB,e]
  congr 1
  omega
theorem gF.nil (u:U):gF I w u [] []:=fun i x hx=>by simp at hx
theorem AT {ρ:Nat→bq} {F:Nat→Prop} {p:bq} {e:TypeId} {u:U} {xs:List (aI u)} (h:Holds ρ I F w p (.row e u xs)) {I':Nat→Prop} (bC: ∀b,I b→I' b) (hF: ∀b,F b→I' b):b7 I' w (.sl u) xs (fun _=>some p.hdr):=by
 obtain⟨aa,af,cs,ay,bu⟩:=h
 have AS:=ay
 rcases ay.2 with⟨hv,aE⟩ |⟨g,cap,cur,hv,_,bk,aB,hm,_,_⟩
 ·exact⟨none,0,by rw[hv,aE],by omega,by decide,fun h=>absurd h (by omega)⟩
 ·refine⟨some ⟨g,0,none⟩,cap,by rw[hv],aB,hm,fun _=>⟨g,0,rfl,hF g ((aa g).2 (by rw[hv];rfl)),fun i x hx=>?_⟩⟩
  refine b7.mono (fun b ag=>⟨bC b ag,rfl⟩) u x _ _ (fun j v au=>?_) (bu i x hx)
  have:=AS.cells (g:=g) (by rw[hv];rfl) _ v au
  rwa[qV] at this
end
section
variable {P:Program} {tt:cY} {N:Nat} {ids:List Nat} {o:Oper} {K:aQ} {B:aG} {k:aO→fA→Prop} {C:Ctx} {ρ:Nat→bq} {F:Nat→Nat→Prop} {w w':World}
theorem AU {b:Nat} {cs:Array Value} {S:Nat→Prop} (hS:S b):Fr S w (w.setRow b cs):=
 ⟨rfl,rfl,rfl,by simp[World.setRow],fun j _ hn=>setRow_other w b j cs (fun e=>hn (by rw[e];exact hS))⟩
theorem Lk {p q:Option Prop} (h:uw (FR p q)):uw p∧uw q:=by
 cases p <;>cases q <;>first |exact⟨trivial,trivial⟩ |exact⟨trivial,h⟩ |exact⟨h,trivial⟩ |exact h
def q6 {α:Type} (u:U) (f:List bD→Option (α×List bD×Option Prop)) (g:α→aI u):Prop:= ∀(ρ:Nat→bq) (I:Nat→Prop) (w:World) (l:List bD) (x:α) (l':List bD) (p:Option Prop),f l=some (x,l',p)→uw p→ ∀vs,bV ρ I w l vs→
 ∃nY s7,vs=nY++s7∧nY.length=aM u∧b7 I w u (g x) (fun j=>nY[j]?)∧bV ρ I w l' s7∧ ∀v∈nY,v.oneCell'=true
theorem RM (k:IntKind):q6 (.int k) (FT k) (fun x=>x):=by
 intro ρ I w l x l' p h hp vs hv
 unfold FT at h
 split at h
 ·rename_i k' n l
  split at h
  ·rename_i aq
   have:=nW aq
   subst this
   simp only[Option.some.injEq,Prod.mk.injEq] at h
   obtain⟨rfl,rfl,rfl⟩:=h
   obtain⟨v,r,rfl,aa,af⟩:=hv
   have aa:v= .int k' n:=aa
   subst aa
   exact⟨[.int k' n],r,rfl,rfl,rfl,af,by simp[Value.oneCell']⟩
  ·cases h
 ·cases h
theorem RN:q6 .u8 FU (fun x=>x):=by
 intro ρ I w l x l' p h hp vs hv
 unfold FU at h
 split at h
 ·rename_i k' n l
  split at h
  ·rename_i aq
   have:=nW aq
   subst this
   simp only[Option.some.injEq,Prod.mk.injEq] at h
   obtain⟨rfl,rfl,rfl⟩:=h
   obtain⟨v,r,rfl,aa,af⟩:=hv
   have aa:v= .int .u8 n:=aa
   subst aa
   have hp:0≤n∧n < 256:=hp
   refine⟨[.int .u8 n],r,rfl,rfl,?_,af,by simp[Value.oneCell']⟩
   show some (Value.int .u8 n)=some (Value.int .u8 ((UInt8.ofNat n.toNat).toNat:Int))
   congr 2
   rw[UInt8.toNat_ofNat']
   omega
  ·cases h
 ·cases h
theorem RO:q6 .bool FV (fun x=>x):=by
 intro ρ I w l x l' p h hp vs hv
 unfold FV at h
 split at h
 all_goals first |(cases h;done) |skip
 all_goals
  rename_i b l
  simp only[Option.some.injEq,Prod.mk.injEq] at h
  obtain⟨rfl,rfl,rfl⟩:=h
  obtain⟨v,r,rfl,aa,af⟩:=hv
  have aa:v= .bool b:=aa
  subst aa
  exact⟨[.bool b],r,rfl,rfl,rfl,af,by simp[Value.oneCell']⟩
theorem RP:q6 .str FW (fun x=>x):=by
 intro ρ I w l x l' p h hp vs hv
 unfold FW at h
 split at h
 ·rename_i s l
  simp only[Option.some.injEq,Prod.mk.injEq] at h
  obtain⟨rfl,rfl,rfl⟩:=h
  obtain⟨v,r,rfl,aa,af⟩:=hv
  have aa:v= .string ⟨s.toArray⟩:=aa
  subst aa
  exact⟨[_],r,rfl,rfl,rfl,af,by simp[Value.oneCell']⟩
 ·cases h
theorem RQ:q6 .c9 FY (fun x=>x):=by
 intro ρ I w l x l' p h hp vs hv
 unfold FY at h
 split at h
 ·rename_i s l
  simp only[Option.some.injEq,Prod.mk.injEq] at h
  obtain⟨rfl,rfl,rfl⟩:=h
  obtain⟨v,r,rfl,aa,af⟩:=hv
  have aa:v=qW s:=aa
  subst aa
  refine⟨[_],r,rfl,rfl,rfl,af,?_⟩
  rcases s with _ |⟨b,n,c⟩ <;>simp[Value.oneCell',qW]
 ·rename_i l
  simp only[Option.some.injEq,Prod.mk.injEq] at h
  obtain⟨rfl,rfl,rfl⟩:=h
  obtain⟨v,r,rfl,aa,af⟩:=hv
  have aa:v= .slice none 0 0:=aa
  subst aa
  exact⟨[_],r,rfl,rfl,rfl,af,by simp[Value.oneCell']⟩
 ·cases h
theorem Ll {ρ:Nat→bq} {I:Nat→Prop} {w:World}: ∀{m:List kH} {bs:List Nat} {vs:List Value},AK m=some bs→gZ ρ I w m vs→vs=qX bs
 | [],bs,vs,h,hv=>by
  unfold AK at h
  injection h with h
  rw[←h]
  exact hv
 |c::m,bs,vs,h,hv=>by
  unfold AK at h
  split at h
  ·rename_i e;cases e
  ·rename_i b l e
   injection e with aj ak
   subst aj ak
   split at h
   ·rename_i r hr
    injection h with h
    subst h
    obtain⟨v,t,e,aa,af⟩:=hv
    have aa:v= .pointer (some ⟨b,0,none⟩):=aa
    rw[e,aa,Ll hr af]
    rfl
   ·cases h
  ·cases h
theorem RR:q6 .fn FZ (fun x=>x):=by
 intro ρ I w l x l' p h hp vs hv
 unfold FZ at h
 split at h
 ·rename_i s l
  simp only[Option.some.injEq,Prod.mk.injEq] at h
  obtain⟨rfl,rfl,rfl⟩:=h
  obtain⟨v,r,rfl,aa,af⟩:=hv
  have aa:v=mJ s:=aa
  subst aa
  exact⟨[_],r,rfl,rfl,rfl,af,by simp[Value.oneCell',mJ]⟩
 ·rename_i f m l
  split at h
  ·rename_i bs AV
   simp only[Option.some.injEq,Prod.mk.injEq] at h
   obtain⟨rfl,rfl,rfl⟩:=h
   obtain⟨v,r,rfl,⟨us,e,hc⟩,af⟩:=hv
   have uA:=Ll AV hc
   subst e uA
   exact⟨[_],r,rfl,rfl,rfl,af,by simp[Value.oneCell']⟩
  ·cases h
 ·cases h
theorem RS:q6 .aY FX (fun x=>x):=by
 intro ρ I w l x l' p h hp vs hv
 unfold FX at h
 split at h
 ·rename_i s l
  simp only[Option.some.injEq,Prod.mk.injEq] at h
  obtain⟨rfl,rfl,rfl⟩:=h
  obtain⟨v,r,rfl,aa,af⟩:=hv
  have aa:v= .pointer (nP s):=aa
  subst aa
  exact⟨[_],r,rfl,rfl,rfl,af,by simp[Value.oneCell']⟩
 ·rename_i l
  simp only[Option.some.injEq,Prod.mk.injEq] at h
  obtain⟨rfl,rfl,rfl⟩:=h
  obtain⟨v,r,rfl,aa,af⟩:=hv
  have aa:v= .pointer none:=aa
  subst aa
  exact⟨[_],r,rfl,rfl,rfl,af,by simp[Value.oneCell']⟩
 ·cases h
theorem RT (u:U):q6 (.sl u) (F0 u) (fun x=>x):=by
 intro ρ I w l x l' p h hp vs hv
 unfold F0 at h
 split at h
 ·rename_i l
  simp only[Option.some.injEq,Prod.mk.injEq] at h
  obtain⟨rfl,rfl,rfl⟩:=h
  obtain⟨v,r,rfl,aa,af⟩:=hv
  have aa:v= .slice none 0 0:=aa
  subst aa
  exact⟨[_],r,rfl,rfl,⟨none,0,rfl,Nat.le_refl _,by decide,fun h=>absurd h (by simp)⟩,af,by simp[Value.oneCell']⟩
 ·rename_i v xs l
  split at h
  ·rename_i he _
   subst he
   simp only[Option.some.injEq,Prod.mk.injEq] at h
   obtain⟨rfl,rfl,rfl⟩:=h
   obtain⟨v,r,rfl,aa,af⟩:=hv
   have aa:b7 I w (.sl _) xs (fun _=>some v):=aa
   refine⟨[v],r,rfl,rfl,?_,af,?_⟩
   ·obtain⟨A,cap,e,ay⟩:=aa
    exact⟨A,cap,e,ay⟩
   ·obtain⟨A,cap,e,ay⟩:=aa
    injection e with e
    subst e
    simp[Value.oneCell']
  ·cases h
 ·cases h
theorem RU {u v:U} (aa:q6 u (nS u) (fun x=>x)) (af:q6 v (nS v) (fun x=>x)):q6 (.pr u v) (nS (.pr u v)) (fun x=>x):=by
 intro ρ I w l x l' p h hp vs hv
 unfold nS at h
 cases aj:nS u l with
 |none=>simp only[aj] at h;cases h
 |some t=>
  obtain⟨y,mh,dS⟩:=t
  simp only[aj] at h
  cases ak:nS v mh with
  |none=>simp only[ak] at h;cases h
  |some t=>
   obtain⟨z,kN,cW⟩:=t
   simp only[ak,Option.some.injEq,Prod.mk.injEq] at h
   obtain⟨rfl,rfl,rfl⟩:=h
   obtain⟨cC,cR⟩:=Lk hp
   obtain⟨nY,r1,rfl,g1,g2,bL,gH⟩:=aa ρ I w l y mh dS aj cC vs hv
   obtain⟨s7,r2,rfl,cz,er,eX,gi⟩:=af ρ I w mh z _ cW ak cR r1 bL
   refine⟨nY++s7,r2,by simp,by simp[aM,g1,cz],⟨?_,?_⟩,eX,fun x hx=>(List.mem_append.1 hx).elim (gH x) (gi x)⟩
   ·refine b7.mk u y _ (b7.wf u y _ g2) fun j au=>?_
    obtain⟨x,hx,hd⟩:=b7.cell u y _ j g2 au
    exact⟨x,by rw[List.getElem?_append_left (by omega)];exact hx,hd⟩
   ·refine b7.mono (Ext.refl _ _) v z _ _ (fun j x au=>?_) er
    show(nY++s7)[aM u+j]? =some x
    rw[List.getElem?_append_right (by omega),show aM u+j - nY.length=j by omega]
    exact au
theorem y6: ∀u:U,q6 u (nS u) (fun x=>x)
 | .int k=>RM k
 | .u8=>RN
 | .bool=>RO
 | .str=>RP
 | .aY=>RS
 | .c9=>RQ
 | .fn=>RR
 | .sl u=>RT u
 | .pr u v=>RU (y6 u) (y6 v)
 | .arr n u=>fun ρ I w l x l' p h=>by unfold nS at h;cases h
theorem Gv {ρ:Nat→bq} {I:Nat→Prop} {w:World} (u:U): ∀(n:Nat) (l:List bD) (xs:List (aI u)) (p:Option Prop),w9 u n l=some (xs,p)→uw p→ ∀vs,bV ρ I w l vs→xs.length=n∧vs.length=n*aM u∧gF I w u xs vs∧ ∀v∈vs,v.oneCell'=true
 |0,l,xs,p,h,hp,vs,hv=>by
  unfold w9 at h
  split at h
  ·simp only[Option.some.injEq,Prod.mk.injEq] at h
   obtain⟨rfl,rfl⟩:=h
   rw[show vs=[] from hv]
   exact⟨rfl,by simp,gF.nil u,by simp⟩
  ·cases h
  ·rename_i e;cases e
 |n+1,l,xs,p,h,hp,vs,hv=>by
  unfold w9 at h
  cases aj:nS u l with
  |none=>simp only[aj] at h;cases h
  |some t=>
   obtain⟨y,mh,dS⟩:=t
   simp only[aj] at h
   cases ak:w9 u n mh with
   |none=>simp only[ak] at h;cases h
   |some t=>
    obtain⟨ys,cW⟩:=t
    simp only[ak,Option.some.injEq,Prod.mk.injEq] at h
    obtain⟨rfl,rfl⟩:=h
    obtain⟨cC,cR⟩:=Lk hp
    obtain⟨nY,r1,rfl,g1,g2,bL,gH⟩:=y6 u ρ I w l y mh dS aj cC vs hv
    obtain⟨cz,er,eX,gi⟩:=Gv u n mh ys cW ak cR r1 bL
    refine⟨by simp[cz],by simp[g1,er,Nat.succ_mul,Nat.add_comm],?_,fun x hx=>(List.mem_append.1 hx).elim (gH x) (gi x)⟩
    have:gF I w u [y] nY:=fun i x hx=>by
     match i with
     |0=>
      simp only[List.getElem?_cons_zero,Option.some.injEq] at hx
      subst hx
      exact b7.mono (Ext.refl _ _) u y _ _ (fun j v au=>by simpa using au) g2
     |i+1=>simp at hx
    exact gF.app this eX (by simpa using g1)
theorem RV (bh:dQ P tt) {T:TypeId} {x v:Operand} (az:o.op= .store T x v) (h:match tt.find T with
  |some ti=>match aU K x with
   | .c (.one (.ptr c o))=>match ax B c with
    |some (.cells l)=>match vL (aU K v) with
     |some cs=>match Nat.beq cs.length ti.size,Nat.ble (o+cs.length) l.length with
      |true,true=>pG (AJ l o cs) fun l=>k .undef ⟨[c],[],[(c,some (.cells l))]⟩
      |_,_=>False
     |none=>False
    |_=>False
   | .c (.one (.fk c s i o))=>match ax B c with
    |some (.row e u xs)=>match Nat.beq (aM u) 1,Nat.beq s 1,Nat.beq o 0,Nat.beq ti.size 1,aU K v with
     |true,true,true,true,.c (.one vO)=>match nS u [vO] with
      |some (y,[],p)=>(uw p∧i < xs.length)∧k .undef ⟨[c],[],[(c,some (.row e u (xs.set i y)))]⟩
      |_=>False
     |_,_,_,_,_=>False
    |_=>False
   |_=>False
  |none=>False):cv P N ids o K B k:=by
 have m1:x∈o.op.operands:=by rw[az];simp[Op.operands]
 have m2:v∈o.op.operands:=by rw[az];simp[Op.operands]
 split at h
 ·rename_i ti gA
  obtain⟨inf,d,bB⟩:=bh.at_ gA
  split at h
  ·rename_i c p hc
   split at h
   ·rename_i l aB
    split at h
    ·rename_i cs nZ
     split at h
     ·rename_i aa af
      have aa:=Nat.eq_of_beq_eq_true aa
      have af:=Nat.le_of_ble_eq_true af
      rw[yO] at h
      refine cv.of h <| bH.jP aB fun K' B' aj C ρ F a w aA hS gj=>?_
      obtain⟨hF,vs,eN,ag,hd⟩:=aA.holds c _ gj
      have hv:=hS.get v
      rw[aj v m2] at hv
      obtain⟨us,RW,Df,RX⟩:=Gr nZ hv
      have hlen:=bV.length _ _ Df
      have acO:=bV.length _ _ hd
      refine⟨_,y3 az (hS.ptr ((aj x m1).trans hc)) RW bB.info (by rw[hlen,aa];exact bB.size) ag (by omega) RX,AU ((hF _).2 rfl),fun I he=>⟨hF,_,eN,setRow_heap w _ _ _ eN _ ag,?_⟩⟩
      exact bV.splice (bV.mono he _ _ (fun _ _=>rfl) hd) (bV.mono he _ _ (fun _ _=>rfl) Df)
     ·exact h.elim
    ·exact h.elim
   ·exact h.elim
  ·rename_i c s i p hc
   split at h
   ·rename_i e u xs aB
    split at h
    ·rename_i vO s1 s2 uB s8 RY
     split at h
     ·rename_i y q RZ
      have s1:=Nat.eq_of_beq_eq_true s1
      have s2:=Nat.eq_of_beq_eq_true s2
      have uB:=Nat.eq_of_beq_eq_true uB
      subst s2 uB
      obtain⟨⟨bp,aD⟩,h⟩:=h
      refine cv.of h <| bH.jP aB fun K' B' aj C ρ F a w aA hS gj=>?_
      obtain⟨hF,jq,cs,dD,lH⟩:=aA.holds c _ gj
      have hv:=hS.get v
      rw[aj v m2,RY] at hv
      have AW:=hS.fk ((aj x m1).trans hc)
      obtain⟨nY,s7,cF,g1,g2,bL,gH⟩:=y6 u ρ _ w [vO] y [] q RZ bp [a.eval v] ⟨_,[],rfl,hv,rfl⟩
      have hlen:nY.length=1:=by rw[g1,s1]
      obtain rfl:nY=[a.eval v]:=by
       match nY,hlen with
       | [z],_=>simp at cF;rw[cF.1]
      have rY:=gH (a.eval v) (by simp)
      have wW:(a.eval v).cells=List.toArray [a.eval v]:=by
       cases hx:a.eval v <;>first |rfl |(rw[hx] at rY;simp[Value.oneCell'] at rY)
      have Lm:=dD
      obtain⟨rV,dD⟩:=dD
      rcases dD with⟨_,aE⟩ |⟨g,cap,cur,nt,_,bk,xm,hm,dH,cc⟩
      ·omega
      ·have AX:g=(ρ c).bI:=jq g (by rw[nt];rfl)
       subst AX
       rw[s1,Nat.mul_one] at dH cc rV
       have uC:w.heap[(ρ c).bI]? =some (.cells (List.toArray cur.toList) e (0,0)):=by simpa using bk
       have nX:i*1+0+ [a.eval v].length≤cur.toList.length:=by simp;omega
       have hex:=y3 (P:=P) (ev:=a.eval) (w:=w) az AW wW bB.info (by rw[bB.size,Nat.eq_of_beq_eq_true s8];rfl) uC nX (by simpa using rY)
       refine⟨_,hex,AU ((hF _).2 (by rw[nt];rfl)),fun I he=>?_⟩
       have kz:=setRow_heap w (ρ c).bI cur (List.take (i*1+0) cur.toList++[a.eval v]++List.drop (i*1+0+ [a.eval v].length) cur.toList).toArray e (0,0) bk
       have iY:(List.take (i*1+0) cur.toList++[a.eval v]++List.drop (i*1+0+ [a.eval v].length) cur.toList)=cur.toList.set i (a.eval v):=by
        rw[List.set_eq_take_append_cons_drop,if_pos (by simp;omega)]
        simp
       rw[iY] at kz
       refine⟨hF,jq,cs.set i (a.eval v),⟨by simp[rV,s1],.inr ⟨(ρ c).bI,cap,_,by rw[nt];simp,Nat.zero_le _,by rw[iY];exact kz,by simpa using xm,hm,by simp[dH,s1],?_⟩⟩,fun j z aS=>?_⟩
       ·rw[←cc]
        simp[s1,List.take_set]
       ·by_cases mO:i=j
        ·subst mO
         rw[List.getElem?_set_self aD] at aS
         injection aS with aS
         subst aS
         refine b7.mono he u y _ _ (fun q x hx=>?_) g2
         match q with
         |0=>
          rw[s1,Nat.mul_one,Nat.add_zero,List.getElem?_set_self (by omega)]
          simpa using hx
         |q+1=>simp at hx
        ·rw[List.getElem?_set_ne mO] at aS
         have hd:=lH j z aS
         refine b7.mk u z _ (b7.wf u z _ hd) fun q bp=>?_
         obtain⟨x,hx,s9⟩:=b7.cell u z _ q hd bp
         refine⟨x,?_,Den.mono he _ _ s9⟩
         rw[s1] at bp⊢
         rw[s1] at hx
         rw[List.getElem?_set_ne (by omega)]
         exact hx
     ·exact h.elim
    ·exact h.elim
   ·exact h.elim
  ·exact h.elim
 ·exact h.elim
end
end Go.Proofs.YteoamepgonpdlaaGreat
namespace Go.Proofs.YteoamepgonpdlaaGreat
open Go.RowKit
section
variable {P:Program} {tt:cY} {N:Nat} {ids:List Nat} {o:Oper} {K:aQ} {B:aG} {k:aO→fA→Prop}
theorem Ln {ρ:Nat→bq} {I:Nat→Prop} {w:World} {v:Value} {s:bD} (h:Gk v s=true):dN ρ I w s v∧v.oneCell'=true:=by
 unfold Gk at h
 split at h
 ·rename_i k n k' xj
  simp only[Bool.and_eq_true,decide_eq_true_eq] at h
  have:=nW h.1
  subst this
  rw[h.2]
  exact⟨rfl,rfl⟩
 ·rename_i b e5
  rw[show b=e5 by simpa using h]
  exact⟨rfl,rfl⟩
 ·rename_i s l
  have h:s.data.toList=l:=by simpa using h
  subst h
  exact⟨by simp[dN,Den],rfl⟩
 ·exact⟨rfl,rfl⟩
 ·exact⟨rfl,rfl⟩
 ·exact⟨rfl,rfl⟩
 ·exact⟨rfl,rfl⟩
 ·cases h
theorem vP {ρ:Nat→bq} {I:Nat→Prop} {w:World}: ∀(vs:List Value) (l:List bD),s6 vs l=true→bV ρ I w l vs∧ ∀u∈vs,u.oneCell'=true
 | [],[],_=>⟨rfl,by simp⟩
 |v::vs,s::l,h=>by
  simp only[s6,Bool.and_eq_true] at h
  obtain⟨aa,af⟩:=Ln (ρ:=ρ) (I:=I) (w:=w) h.1
  obtain⟨ay,bu⟩:=vP (ρ:=ρ) (I:=I) (w:=w) vs l h.2
  exact⟨⟨v,vs,rfl,aa,ay⟩,fun u hu=>(List.mem_cons.1 hu).elim (fun e=>e▸af) (bu u)⟩
 | [],_::_,h=>by simp[s6] at h
 |_::_,[],h=>by simp[s6] at h
theorem Lo {c d p:Nat} (h:aO.has d (.c (.one (.ptr c p)))=true):d=c:=(Nat.eq_of_beq_eq_true h).symm
theorem y7 {c d:Nat} (h:aO.has d (.c (.one (.own c)))=true):d=c:=(Nat.eq_of_beq_eq_true h).symm
theorem R1 (bh:dQ P tt) {T:TypeId} (az:o.op= .alloc T) (h:match tt.find T,o.dst with
  |some ti,some d=>gz ids K B d=true∧k (.c (.one (.ptr d 0))) ⟨[],[d],[(d,some (.cells ti.zero))]⟩
  |_,_=>False):cv P N ids o K B k:=by
 split at h
 ·rename_i ti d gA hd
  obtain⟨i,ds,bB⟩:=bh.at_ gA
  obtain⟨z,aS,pJ⟩:=bB.zero
  refine cv.bA h.2 h.1 <| bH.make (fun d h=>Lo h) fun K' B' aa af C ρ F a w aA hS hn=>?_
  refine⟨_,_,⟨w.heap.size,none,0,0⟩,fun b=>b=w.heap.size,(by
   simp[execOp,az,Instr.alloc,zeroValue,typeInfo,bB.info,aS,newVar,newRow]
   rfl),uq w _,fun b ag=>by subst ag;exact⟨Nat.le_refl _,by simp⟩,fun I he ag=>⟨⟨fun b=>Iff.rfl,z.cells.toList,T,FF _ rfl,(vP _ _ pJ).1⟩,?_⟩⟩
  simp only[b8,fZ,dN,dR]
 ·exact h.elim
theorem R2 (bh:dQ P tt) {T:TypeId} {x:Operand} (az:o.op= .box T x) (h:match tt.find T,o.dst,vL (aU K x) with
  |some ti,some d,some l=>match Nat.beq l.length ti.size with
   |true=>gz ids K B d=true∧k (.c (.one (.ptr d 0))) ⟨[],[d],[(d,some (.cells l))]⟩
   |false=>False
  |_,_,_=>False):cv P N ids o K B k:=by
 have m1:x∈o.op.operands:=by rw[az];simp[Op.operands]
 split at h
 ·rename_i ti d l gA hd aB
  split at h
  ·refine cv.bA h.2 h.1 <| bH.make (fun d h=>Lo h) fun K' B' aa af C ρ F a w aA hS hn=>?_
   have hv:=hS.get x
   rw[aa x m1] at hv
   obtain⟨vs,aj,ak,bf⟩:=Gr aB hv
   refine⟨_,_,⟨w.heap.size,none,0,0⟩,fun b=>b=w.heap.size,(by
    simp[execOp,az,Instr.box,newVar,newRow,aj]
    rfl),uq w _,fun b ag=>by subst ag;exact⟨Nat.le_refl _,by simp⟩,fun I he ag=>⟨⟨fun b=>Iff.rfl,vs,T,FF _ rfl,?_⟩,?_⟩⟩
   ·refine bV.mono he l vs (fun c hc=>?_) ak
    refine dP _ _ fun e=>?_
    subst e
    have bZ:(aU K x).has c=true:=by
     unfold vL at aB
     split at aB
     ·rename_i hx
      split at aB
      ·injection aB with aB;subst aB;rw[hx];simpa[aO.has,dL.has,nj] using hc
      ·cases aB
     ·rename_i hx
      split at aB
      ·injection aB with aB;subst aB;rw[hx];simpa[aO.has,dL.has] using hc
      ·cases aB
     ·cases aB
    rw[←aa x m1] at bZ
    cases x with
    |tmp t=>have:=hn t;simp only[aU] at bZ;rw[this] at bZ;cases bZ
    |const v=>
     have nu: ∀u:Value,(vK u).has c=false:=fun u=>by unfold vK;split <;>rfl
     have cP: ∀us:List Value,nj c (us.map vK)=false:=fun us=>by induction us with
      |nil=>rfl
      |cons u us aZ=>simp[nj,nu,aZ]
     simp only[aU] at bZ
     unfold CO at bZ
     split at bZ <;>simp[aO.has,dL.has,nu,cP] at bZ
    |func f=>simp[aU,aO.has,dL.has,bD.has,l8] at bZ
    |global g=>simp[aU,aO.has,dL.has,bD.has] at bZ
   ·simp only[b8,fZ,dN,dR]
  ·exact h.elim
 ·exact h.elim
theorem Lp: ∀(us:List Value) (off j:Nat) (p m s:List Value),p.length=off+j→m.length=us.length→
  (us.zipIdx j).foldl (fun cs p=>cs.setIfInBounds (off+p.2) p.1) (p++m++s).toArray=(p++us++s).toArray
 | [],off,j,p,m,s,hp,hm=>by
  rw[show m=[] from List.eq_nil_of_length_eq_zero (by simpa using hm)]
  simp
 |u::us,off,j,p,[],s,hp,hm=>by simp at hm
 |u::us,off,j,p,x::m,s,hp,hm=>by
  simp only[List.zipIdx_cons,List.foldl_cons]
  have e:(p++x::m++s).toArray.setIfInBounds (off+j) u=((p++[u])++m++s).toArray:=by
   rw[List.setIfInBounds_toArray,←hp]
   simp
  rw[e,Lp us off (j+1) (p++[u]) m s (by simp;omega) (by simpa using hm)]
  simp
theorem foldl_set (us vs:List Value) (off:Nat) (h:off+us.length≤vs.length):
  (us.zipIdx).foldl (fun cs p=>cs.setIfInBounds (off+p.2) p.1) vs.toArray=(vs.take off++us++vs.drop (off+us.length)).toArray:=by
 have e:vs=vs.take off++(vs.drop off).take us.length++vs.drop (off+us.length):=by
  rw[List.append_assoc,←List.drop_drop,List.take_append_drop,List.take_append_drop]
 have:=Lp us off 0 (vs.take off) ((vs.drop off).take us.length) (vs.drop (off+us.length)) (by simp;omega) (by simp;omega)
 rw[←e] at this
 exact this
theorem Gw {K':aQ} {ρ:Nat→bq} {I:Nat→Prop} {a:Act} {w:World} (hS:ek K' ρ I a w) {mM place:Nat→Option (Nat×Nat)} (gq: ∀i d n,mM i=some (d,n)→place i=some (d,n)):
  ∀(ps:List (Nat×Operand)) (l l':List bD) (vs:List Value),(∀p∈ps,aU K' p.2=aU K p.2)→vM K mM ps l=some l'→bV ρ I w l vs→(∀u∈vs,u.oneCell'=true)→
   ∃r0,Instr.fill place (List.toArray vs) (ps.map fun p=>(p.1,a.eval p.2))=some (List.toArray r0)∧bV ρ I w l' r0∧ ∀u∈r0,u.oneCell'=true
 | [],l,l',vs,_,h,hv,aa=>by
  simp only[vM,Option.some.injEq] at h
  subst h
  exact⟨vs,rfl,hv,aa⟩
 |(i,x)::ps,l,l',vs,hK,h,hv,aa=>by
  unfold vM at h
  split at h
  ·rename_i d n cs hd nZ
   split at h
   ·rename_i aj ak
    have aj:=Nat.eq_of_beq_eq_true aj
    have ak:=Nat.le_of_ble_eq_true ak
    have hx:=hS.get x
    rw[hK (i,x) (by simp)] at hx
    obtain⟨us,g1,g2,bL⟩:=Gr nZ hx
    have cC:=bV.length _ _ g2
    have cR:=bV.length _ _ hv
    obtain⟨r0,cz,er,eX⟩:=Gw hS gq ps _ l' (vs.take d++us++vs.drop (d+us.length)) (fun p hp=>hK p (by simp[hp])) h (bV.splice hv g2) (fun u hu=>by
     simp only[List.mem_append] at hu
     rcases hu with(hu |hu) |hu
     ·exact aa u (List.mem_of_mem_take hu)
     ·exact bL u hu
     ·exact aa u (List.mem_of_mem_drop hu))
    refine⟨r0,?_,er,eX⟩
    rw[←cz]
    simp only[List.map_cons,Instr.fill,gq i d n hd,g1]
    have hf:=foldl_set us vs d (by omega)
    rw[if_neg (by simp;omega)]
    congr 1
    rw[←hf,←Array.foldl_toList,Array.toList_zipIdx]
   ·cases h
  ·cases h
theorem R3 {fs:List Field} {l:List (Nat×Nat)} (h:q5 P fs l=true):fs.mapM (fun f=>(P.info? f.type).map fun i=>(f.offset,i.size))=some l:=by
 induction fs generalizing l with
 |nil=>cases l with
  |nil=>rfl
  |cons _ _=>simp[q5] at h
 |cons f fs aZ=>cases l with
  |nil=>simp[q5] at h
  |cons p l=>
   obtain⟨d,n⟩:=p
   simp only[q5,Bool.and_eq_true] at h
   obtain⟨⟨⟨aa,af⟩,_⟩,bu⟩:=h
   split at af
   ·rename_i i aD
    have af:=Nat.eq_of_beq_eq_true af
    have aa:=Nat.eq_of_beq_eq_true aa
    simp[List.mapM_cons,aD,aZ bu,aa,af]
   ·cases af
theorem R4 (bh:dQ P tt) {T:TypeId} {ps:Array (Nat×Operand)} (az:o.op= .build T ps) (h:match tt.find T with
  |some ti=>match ti.cL,vM K (fun f=>ti.mM[f]?) ps.toList ti.zero with
   | .st,some l=>pG l fun l=>k (.c (.agg l)) bx
   |_,_=>False
  |none=>False):cv P N ids o K B k:=by
 split at h
 ·rename_i ti gA
  obtain⟨i,d,bB⟩:=bh.at_ gA
  obtain⟨z,aS,pJ⟩:=bB.zero
  split at h
  ·rename_i l aq aB
   rw[yO] at h
   refine cv.of h <| bH.val fun K' B' aa af C ρ F a w aA hS=>?_
   obtain⟨fB,n4⟩:=vP (ρ:=ρ) (I:=bO C B' F w) (w:=w) _ _ pJ
   obtain⟨r0,f1,f2,f3⟩:=Gw (K:=K) hS (mM:=fun f=>ti.mM[f]?) (place:=fun f=>ti.mM[f]?) (fun i d n aD=>aD) ps.toList _ _ _ (fun p hp=>aa p.2 (by rw[az];simp only[Op.operands];simpa using⟨p.1,by simpa using hp⟩)) aB fB n4
   refine⟨.agg (List.toArray r0),?_,r0,rfl,f2⟩
   have R5:P.built T (ps.toList.map fun p=>(p.1,a.eval p.2))=some (List.toArray r0):=by
    unfold Program.built
    rw[bB.info,bB.und]
    obtain⟨fs,_,hdd⟩:=bB.st aq
    have:=R3 (bB.mM fs hdd)
    subst hdd
    simp only[aS,this]
    simpa using f1
   unfold execOp
   simp only[az,Sem.run_bind,run_build w T _ _ (show P.built T ((ps.map fun p=>(p.1,a.eval p.2)).toList)=_ by simpa using R5),Result.andThen_ok]
   rfl
  ·exact h.elim
 ·exact h.elim
end
end Go.Proofs.YteoamepgonpdlaaGreat
namespace Go.Proofs.YteoamepgonpdlaaGreat
open Go.RowKit
section
variable {P:Program} {tt:cY} {N:Nat} {ids:List Nat} {o:Oper} {K:aQ} {B:aG} {k:aO→fA→Prop}
theorem pK (bh:dQ P tt) {T e:Nat} {te:cB} (h:elemOf tt T=some (e,te)):P.underlying T=some (.slice e)∧ ∃i d,mg P e te i d:=by
 unfold elemOf at h
 split at h
 ·rename_i ti gA
  split at h
  ·rename_i e' aq
   split at h
   ·rename_i acP vQ
    injection h with h
    injection h with aa af
    subst aa af
    obtain⟨_,_,bB⟩:=bh.at_ gA
    exact⟨bB.sl aq,bh.at_ vQ⟩
   ·cases h
  ·cases h
 ·cases h
theorem Dg (bh:dQ P tt) {T:Nat} (h:isStr tt T=true):P.underlying T=some .string:=by
 unfold isStr at h
 split at h
 ·rename_i ti gA
  split at h
  ·rename_i aq
   obtain⟨_,_,bB⟩:=bh.at_ gA
   exact bB.str aq
  ·cases h
 ·cases h
theorem xo (bh:dQ P tt) {T:Nat} (h:q4 tt T=true):P.underlying T=some (.int .u8)∧ ∃ti i d,mg P T ti i d∧ti.zero=[.d (.int .u8 0)]∧ti.size=1∧ti.bytes=1:=by
 unfold q4 at h
 split at h
 ·rename_i ti gA
  split at h
  ·rename_i aq aS hs ag
   obtain⟨i,d,bB⟩:=bh.at_ gA
   exact⟨bB.int aq,ti,i,d,bB,aS,hs,ag⟩
  ·cases h
 ·cases h
def r4 (n:Nat) (l:List Value):List Value:=match n with
 |0=>[]
 |n+1=>l++r4 n l
theorem R6 (n:Nat) (l:List Value):(r4 n l).length=n*l.length:=by
 induction n with
 |zero=>simp[r4]
 |succ n aZ=>simp[r4,aZ,Nat.succ_mul,Nat.add_comm]
theorem R7 (n:Nat) (l:List Value): ∀j,j < n*l.length→(r4 n l)[j]? =l[j % l.length]? :=by
 induction n with
 |zero=>intro j au;simp at au
 |succ n aZ=>
  intro j au
  unfold r4
  by_cases h:j < l.length
  ·rw[List.getElem?_append_left h,Nat.mod_eq_of_lt h]
  ·rw[List.getElem?_append_right (by omega),aZ _ (by rw[Nat.succ_mul] at au;omega),Nat.mod_eq_sub_mod (a:=j) (by omega)]
theorem R8 {ρ:Nat→bq} {I:Nat→Prop} {w:World} (n:Nat) {l:List bD} {vs:List Value} (h:bV ρ I w l vs):bV ρ I w (CZ n l) (r4 n vs):=by
 induction n with
 |zero=>rfl
 |succ n aZ=>exact bV.app _ _ _ _ h aZ
theorem R9 {n:Nat} {l:List Value} {v:Value} (h:v∈r4 n l):v∈l:=by
 induction n with
 |zero=>simp[r4] at h
 |succ n aZ=>exact(List.mem_append.1 h).elim id aZ
theorem Sa (z:Array Value) (n:Nat) (aS:0 < z.size):(Array.range (n*z.size)).map (z[· % z.size]!)=(r4 n z.toList).toArray:=by
 apply Array.ext'
 simp only[Array.toList_map,List.toList_toArray]
 apply List.ext_getElem?
 intro j
 by_cases au:j < n*z.size
 ·rw[R7 n z.toList j (by simpa using au)]
  simp only[Array.length_toList]
  have hm:j % z.size < z.size:=Nat.mod_lt _ aS
  simp[au,hm]
 ·rw[List.getElem?_eq_none (by simp;omega),List.getElem?_eq_none (by rw[R6];simp;omega)]
theorem Sb {w:World} {l:List Value} {e:TypeId} {j:Nat} {v:Value} (h:l[j]? =some v):(w.alloc (.cells (List.toArray l) e)).cell? ⟨w.heap.size,j,none⟩=some v:=
 cell_of (T:=e) (heap_alloc_new w _) h
theorem Sc {I:Nat→Prop} {w:World} {u:U} {xs:List (aI u)} {cs:List Value} {e:TypeId} {cap:Nat} (hr:gF I (w.alloc (.cells (List.toArray cs) e)) u xs cs) (bC:I w.heap.size) (hc:xs.length≤cap) (hm:cap≤maxLen):
  b7 I (w.alloc (.cells (List.toArray cs) e)) (.sl u) xs (fun _=>some (.slice (some ⟨w.heap.size,0,none⟩) xs.length cap)):=
 ⟨_,cap,rfl,hc,hm,fun _=>⟨_,0,rfl,bC,fun i x hx=>b7.mono (Ext.refl _ _) u x _ _ (fun j v au=>by
  simp only[Nat.zero_add]
  exact Sb au) (hr i x hx)⟩⟩
theorem AY (w:World) (e s n:Nat) (cs:List Value) (aB:cs.length=n*s) (hm:n≤maxLen):(w.alloc (.cells (List.toArray cs) e)).ownsRow 0 e s (.slice (some ⟨w.heap.size,0,none⟩) n n) n cs:=
 ⟨aB,.inr ⟨_,n,_,rfl,Nat.zero_le _,heap_alloc_new w _,Nat.le_refl _,hm,by simpa using aB,by simp[←aB]⟩⟩
theorem Sd (bh:dQ P tt) {T:TypeId} {ps:Array (Nat×Operand)} (az:o.op= .buildSlice T 0 ps) (h:match elemOf tt T,o.dst with
  |some (e,te),some d=>match te.u with
   |some u=>gz ids K B d=true∧k (.c (.one (.own d))) ⟨[],[d],[(d,some (.row e u []))]⟩
   |none=>False
  |_,_=>False) (oa:ps.toList=[]):cv P N ids o K B k:=by
 split at h
 ·rename_i e te d he hd
  obtain⟨hu,inf,ds,bB⟩:=pK bh he
  split at h
  ·rename_i u vQ
   refine cv.bA h.2 h.1 <| bH.make (fun d h=>y7 h) fun K' B' aa af C ρ F a w aA hS hn=>?_
   have Se:ps= #[]:=Array.toList_eq_nil_iff.1 oa
   refine⟨.slice (some ⟨w.heap.size,0,none⟩) 0 0,w.alloc (.cells #[] e),⟨w.heap.size,some ⟨w.heap.size,0,none⟩,0,0⟩,fun b=>b=w.heap.size,?_,uq w _,fun b ag=>by subst ag;exact⟨Nat.le_refl _,by simp⟩,fun I he ag=>⟨⟨?_,?_,[],?_,gF.nil u⟩,?_⟩⟩
   ·subst Se
    simp[execOp,az,Instr.buildSlice,run_underlying hu,sizeOf,typeInfo,bB.info,Instr.fill,newRow]
    rw[show(Array.range 0)= #[] from rfl]
    simp
   ·intro b
    simp[bq.hdr,Value.ownBlock,eq_comm]
   ·intro b ag
    simp[bq.hdr,Value.ownBlock] at ag
    exact ag.symm
   ·exact AY w e (aM u) 0 [] (by simp) (by decide)
   ·simp only[b8,fZ,dN,dR,bq.hdr]
  ·exact h.elim
 ·exact h.elim
theorem Sf (bh:dQ P tt) {T n:Nat} {ps:Array (Nat×Operand)} (az:o.op= .buildSlice T n ps) (xp:n≠0) (h:match elemOf tt T with
  |some (_,te)=>match te.u with
   |some u=>match Nat.ble (n*te.size) 1000,vM K (fun i=>some (i*te.size,te.size)) ps.toList (CZ n te.zero) with
    |true,some l=>match w9 u n l with
     |some (xs,none)=>k (.c (.one (.d (.cT u xs)))) bx
     |some (xs,some p)=>p∧k (.c (.one (.d (.cT u xs)))) bx
     |none=>n=1∧ ∃y:aI u,(nO u y∧l=fH u y 0 (aM u))∧k (.c (.one (.d (.cT u [y])))) bx
    |_,_=>False
   |none=>False
  |none=>False):cv P N ids o K B k:=by
 split at h
 ·rename_i e te he
  obtain⟨hu,inf,ds,bB⟩:=pK bh he
  obtain⟨z,aS,pJ⟩:=bB.zero
  split at h
  ·rename_i u vQ
   split at h
   ·rename_i l hle aB
    have hle:=Nat.le_of_ble_eq_true hle
    have main: ∀xs:List (aI u),(∀(ρ:Nat→bq) (I:Nat→Prop) (w:World) (vs:List Value),bV ρ I w l vs→xs.length=n∧vs.length=n*aM u∧gF I w u xs vs)→bH P N ids o K B (.c (.one (.d (.cT u xs)))) bx:=fun xs gQ=>bH.new fun K' B' aa af C ρ F a w aA hS=>by
     obtain⟨fB,n4⟩:=vP (ρ:=ρ) (I:=bO C B' F w) (w:=w) _ _ pJ
     have vI:z.cells.size=inf.size:=by
      have aa:=bV.length _ _ fB
      simp at aa
      rw[aa,bB.Gn,bB.size]
     have pL:0 < inf.size:=by have:=bB.pos;have:=bB.size;omega
     have acQ:aM u=inf.size:=(bB.u u vQ).trans bB.size.symm
     obtain⟨vs,f1,f2,f3⟩:=Gw (K:=K) hS (mM:=fun i=>some (i*te.size,te.size)) (place:=fun i=>some (i*inf.size,inf.size)) (fun i d n aD=>by rw[bB.size];exact aD) ps.toList _ _ (r4 n z.cells.toList)
      (fun p hp=>aa p.2 (by rw[az];simp only[Op.operands];simpa using⟨p.1,by simpa using hp⟩)) aB (R8 n fB) (fun v hv=>n4 v (R9 hv))
     obtain⟨d1,d2,d3⟩:=gQ ρ _ w vs f2
     have ep:=run_buildSlice (P:=P) w T e n (ps.map fun p=>(p.1,a.eval p.2)) (List.toArray vs) inf z hu bB.info aS (by rw[bB.size];omega)
      (by rw[Nat.mul_eq_zero];omega) (by rw[←vI,Sa z.cells n (by omega),vI];simpa using f1)
     refine⟨.slice (some ⟨w.heap.size,0,none⟩) n n,w.alloc (.cells (List.toArray vs) e),?_,uq w (.cells (List.toArray vs) e),fun I he bC=>?_⟩
     ·unfold execOp
      simp only[az,Sem.run_bind,ep,Result.andThen_ok]
      rfl
     ·have:=Sc (e:=e) (cap:=n) (gF.mono (he) d3) (bC _ (Nat.le_refl _) (by simp)) (by omega) (by simp only[maxLen];have:=Nat.le_mul_of_pos_right n (show 0 < te.size by have:=bB.pos;omega);omega)
      rw[d1] at this
      exact this
    split at h
    ·rename_i xs hd
     exact cv.of h <| main xs fun ρ I w vs hv=>by
      obtain⟨d1,d2,d3,_⟩:=Gv u n l xs none hd trivial vs hv
      exact⟨d1,d2,d3⟩
    ·rename_i xs p hd
     exact cv.of h.2 <| main xs fun ρ I w vs hv=>by
      obtain⟨d1,d2,d3,_⟩:=Gv u n l xs (some p) hd h.1 vs hv
      exact⟨d1,d2,d3⟩
    ·obtain⟨hn,y,⟨hw,gj⟩,h⟩:=h
     subst hn
     refine cv.of h <| main [y] fun ρ I w vs hv=>?_
     subst gj
     refine⟨rfl,by rw[bV.length _ _ hv,rZ,Nat.one_mul],fun i x hx=>?_⟩
     match i with
     |0=>
      simp only[List.getElem?_cons_zero,Option.some.injEq] at hx
      subst hx
      refine b7.mono (Ext.refl _ _) u y _ _ (fun j v au=>?_) (y5 hw hv)
      rw[Nat.zero_mul,Nat.zero_add]
      exact au
     |i+1=>simp at hx
   ·exact h.elim
  ·exact h.elim
 ·exact h.elim
end
end Go.Proofs.YteoamepgonpdlaaGreat
namespace Go.Proofs.YteoamepgonpdlaaGreat
open Go.RowKit
section
variable {P:Program} {tt:cY} {N:Nat} {ids:List Nat} {o:Oper} {K:aQ} {B:aG} {k:aO→fA→Prop}
theorem Lq {ev:Operand→Value} {T E:TypeId} {x i:Operand} {b q n c s:Nat} {w:World} {m:Int} {inf:TypeInfo} (az:o.op= .indexAddr T x i) (hx:ev x= .slice (some ⟨b,q,none⟩) n c) (aD:ev i= .int .i64 m) (hu:P.underlying T=some (.slice E)) (Sg:P.info? E=some inf) (hs:inf.size=s)
  (aE:0≤m) (aq:m.toNat < n):(execOp ev o).run P w= .ok (.value (.pointer (some ⟨b,q+m.toNat*s,none⟩))) w:=by
 subst hs
 have aa:m < (n:Int):=by omega
 simp[execOp,az,hx,aD,Instr.indexAt,asIntOf,run_underlying hu,aE,aa,sizeOf,typeInfo,Sg,qV]
theorem Sh (bh:dQ P tt) {T:TypeId} {x i:Operand} (az:o.op= .indexAddr T x i) (h:match elemOf tt T,aU K i with
  |some (_,te),.c (.one (.d (.int .i64 n)))=>match aU K x with
   | .c (.one (.d (.cT u xs)))=>match Nat.beq te.size (aM u) with
    |true=>0≤n∧ ∃y,eT xs n.toNat=some y∧k (.c (.one (.el u y 0))) bx
    |false=>False
   | .c (.one (.own c))=>match ax B c with
    |some (.row _ u xs)=>match Nat.beq te.size (aM u) with
     |true=>(0≤n∧n < xs.length)∧k (.c (.one (.fk c (aM u) n.toNat 0))) ⟨[c],[],[]⟩
     |false=>False
    |_=>False
   |_=>False
  |_,_=>False):cv P N ids o K B k:=by
 have m1:x∈o.op.operands:=by rw[az];simp[Op.operands]
 have m2:i∈o.op.operands:=by rw[az];simp[Op.operands]
 split at h
 ·rename_i e te n he aD
  obtain⟨hu,inf,ds,bB⟩:=pK bh he
  split at h
  ·rename_i u xs hx
   split at h
   ·rename_i hs
    have hs:=Nat.eq_of_beq_eq_true hs
    obtain⟨aE,y,aF,h⟩:=h
    refine cv.of h <| bH.two hx aD m1 m2 fun K' ρ I a w hS aj ak=>?_
    obtain⟨A,cap,bf,cF,eY,iH⟩:=hS.cT aj
    injection bf with bf
    have bF:=AH aF
    obtain⟨b,q,rfl,bC,hd⟩:=iH (by omega)
    refine⟨_,Lq az bf (hS.int ak) hu bB.info (bB.size.trans hs) aE bF,b,q+n.toNat*aM u,by rw[Nat.add_zero],bC,?_⟩
    refine b7.mono (Ext.refl _ _) u y _ _ (fun j v au=>?_) (hd _ y aF)
    rw[←au]
    congr 2
    omega
   ·exact h.elim
  ·rename_i c hx
   split at h
   ·rename_i e' u xs aB
    split at h
    ·rename_i hs
     have hs:=Nat.eq_of_beq_eq_true hs
     obtain⟨⟨aE,aa⟩,h⟩:=h
     refine cv.of h <| bH.val fun K' B' g1 g2 C ρ F a w aA hS=>?_
     obtain⟨hF,jq,cs,dD,_⟩:=aA.holds c _ ((g2 c (by simp)).trans aB)
     have eF:=hS.own ((g1 x m1).trans hx)
     rcases dD.2 with⟨_,af⟩ |⟨g,cap,cur,hv,_⟩
     ·omega
     ·have ag:=jq g (by rw[hv];rfl)
      refine⟨_,Lq az (eF.trans hv) (hS.int ((g1 i m2).trans aD)) hu bB.info (bB.size.trans hs) aE (by omega),?_⟩
      simp only[b8,fZ,dN]
      rw[←ag,Nat.zero_add,Nat.add_zero]
    ·exact h.elim
   ·exact h.elim
  ·exact h.elim
 ·exact h.elim
theorem Si (bh:dQ P tt) {T:TypeId} {x i:Operand} (az:o.op= .index T x i) (h:match isStr tt T,aU K x,aU K i with
  |true,.c (.one (.d (.str s))),.c (.one (.d (.int .i64 n)))=>0≤n∧ ∃y,eT s n.toNat=some y∧k (.c (.one (.d (.int .u8 (UInt8.toNat y:Int))))) bx
  |_,_,_=>False):cv P N ids o K B k:=by
 have m1:x∈o.op.operands:=by rw[az];simp[Op.operands]
 have m2:i∈o.op.operands:=by rw[az];simp[Op.operands]
 split at h
 ·rename_i s n cn hx aD
  obtain⟨aE,y,aF,h⟩:=h
  have hu:=Dg bh cn
  refine cv.of h <| bH.two hx aD m1 m2 fun K' ρ I a w hS aj ak=>⟨_,?_,rfl⟩
  have ag:(⟨s.toArray⟩:ByteArray)[n.toNat]? =some y:=by
   have bF:=AH aF
   have:=(List.getElem?_eq_some_iff.1 aF).2
   rw[getElem?_pos (⟨s.toArray⟩:ByteArray) n.toNat (by rw[xl];exact bF)]
   simp only[Option.some.injEq]
   rw[←this]
   rfl
  simp[execOp,az,hS.str aj,hS.int ak,Instr.index,asIntOf,run_underlying hu,aE,ag]
 ·exact h.elim
theorem Gx {K':aQ} {ρ:Nat→bq} {I:Nat→Prop} {a:Act} {w:World} (hS:ek K' ρ I a w) {n cap:Nat} {Dh:Bool} {j8 aD:Option Operand} {l h:Nat} {p:Prop} (ag:yQ n (j8.map (aU K)) (aD.map (aU K))=some (l,h,p)) (hp:p) (hc:n≤cap)
  (aB: ∀x,j8=some x→aU K' x=aU K x) (bZ: ∀x,aD=some x→aU K' x=aU K x):
  (Instr.sliceBounds Dh n cap (j8.map a.eval) (aD.map a.eval) none).run P w= .ok (l,h,cap) w∧l≤h∧h≤n:=by
 unfold yQ at ag
 split at ag
 ·rename_i j aa af
  cases j8 with
  |some x=>simp at aa
  |none=>
   cases aD with
   |none=>simp at af
   |some y=>
    simp only[Option.map_some,Option.some.injEq] at af
    simp only[Option.some.injEq,Prod.mk.injEq] at ag
    obtain⟨rfl,rfl,rfl⟩:=ag
    have aF:=hS.int ((bZ y rfl).trans af)
    have q:j≤(cap:Int):=by omega
    refine⟨?_,by omega,by omega⟩
    simp[Instr.sliceBounds,Instr.sliceBound,asIntOf,aF,hp.1,q]
 ·rename_i i aa af
  cases j8 with
  |none=>simp at aa
  |some x=>
   cases aD with
   |some y=>simp at af
   |none=>
    simp only[Option.map_some,Option.some.injEq] at aa
    simp only[Option.some.injEq,Prod.mk.injEq] at ag
    obtain⟨rfl,rfl,rfl⟩:=ag
    have hx:=hS.int ((aB x rfl).trans aa)
    refine⟨?_,by omega,Nat.le_refl _⟩
    simp[Instr.sliceBounds,Instr.sliceBound,asIntOf,hx,hp.1,hp.2]
 ·rename_i i j aa af
  cases j8 with
  |none=>simp at aa
  |some x=>
   cases aD with
   |none=>simp at af
   |some y=>
    simp only[Option.map_some,Option.some.injEq] at aa af
    simp only[Option.some.injEq,Prod.mk.injEq] at ag
    obtain⟨rfl,rfl,rfl⟩:=ag
    have hx:=hS.int ((aB x rfl).trans aa)
    have aF:=hS.int ((bZ y rfl).trans af)
    have Sj:0≤j:=by omega
    have q:j≤(cap:Int):=by omega
    have cC:i≤((j.toNat:Nat):Int):=by omega
    refine⟨?_,by omega,by omega⟩
    simp[Instr.sliceBounds,Instr.sliceBound,asIntOf,hx,aF,hp.1,Sj,q,hp.2.1]
    intro bF
    omega
 ·rename_i aa af
  cases j8 with
  |some x=>simp at aa
  |none=>
   cases aD with
   |some y=>simp at af
   |none=>
    simp only[Option.some.injEq,Prod.mk.injEq] at ag
    obtain⟨rfl,rfl,rfl⟩:=ag
    refine⟨?_,Nat.zero_le _,Nat.le_refl _⟩
    simp[Instr.sliceBounds]
 ·cases ag
theorem Sk {I:Nat→Prop} {w:World} {u:U} {xs:List (aI u)} {A:Option Addr} {cap l h:Nat} (hx:b7 I w (.sl u) xs (fun _=>some (.slice A xs.length cap))) (aB:l≤h) (bZ:h≤xs.length):
  b7 I w (.sl u) ((xs.take h).drop l) (fun _=>some (.slice (if cap=l then A else A.map (·.add (l*aM u))) (h - l) (cap - l))):=by
 obtain⟨uo,acR,e,aa,af,ay⟩:=hx
 injection e with e
 injection e with aj ak bf
 subst aj bf
 have hlen:List.length ((xs.take h).drop l)=h - l:=by rw[List.length_drop,List.length_take];omega
 refine⟨_,_,by rw[hlen],by rw[hlen];omega,by omega,fun pL=>?_⟩
 rw[hlen] at pL
 obtain⟨b,q,rfl,bC,hd⟩:=ay (by omega)
 refine⟨b,q+l*aM u,by rw[if_neg (by omega),Option.map_some,qV],bC,fun i x aD=>?_⟩
 have Sl:eT (α:=aI u) xs (l+i)=some x:=by
  unfold eT at aD⊢
  rw[List.getElem?_drop,List.getElem?_take] at aD
  split at aD
  ·exact aD
  ·cases aD
 refine b7.mono (Ext.refl _ _) u x _ _ (fun j v au=>?_) (hd _ x Sl)
 rw[←au,Nat.add_mul]
 congr 2
 omega
theorem Sm (bh:dQ P tt) {T:TypeId} {x:Operand} {j8 aD:Option Operand} (az:o.op= .slice T x j8 aD none) (h:F6 tt T (aU K x) (j8.map (aU K)) (aD.map (aU K)) k):cv P N ids o K B k:=by
 have m1:x∈o.op.operands:=by rw[az];simp[Op.operands]
 have m2: ∀y,j8=some y→y∈o.op.operands:=fun y aF=>by rw[az];simp[Op.operands,aF]
 have m3: ∀y,aD=some y→y∈o.op.operands:=fun y aF=>by rw[az];simp[Op.operands,aF]
 unfold F6 at h
 split at h
 ·rename_i s hx
  split at h
  ·rename_i l bZ p cn ag
   have hu:=Dg bh cn
   refine cv.of h.2 <| bH.val fun K' B' aa af C ρ F a w aA hS=>⟨_,?_,rfl⟩
   have eF:=hS.str ((aa x m1).trans hx)
   obtain⟨cC,cR,fo⟩:=Gx (P:=P) hS (Dh:=false) ag h.1 (Nat.le_refl _) (fun y aF=>aa y (m2 y aF)) (fun y aF=>aa y (m3 y aF))
   rw[←xl s] at cC
   have he:(⟨s.toArray⟩:ByteArray).extract l bZ=⟨((s.take bZ).drop l).toArray⟩:=by
    have e:=Lib.extract_data ⟨s.toArray⟩ l bZ
    cases aS:(⟨s.toArray⟩:ByteArray).extract l bZ with
    |mk dd=>
     rw[aS] at e
     simp only at e
     congr 1
     rw[←Array.toArray_toList (xs:=dd),e,List.drop_take]
   rw[←he]
   simp only[execOp,az,Sem.run_bind,Instr.sliceAt,Instr.slice,run_underlying hu,Result.andThen_ok,eF,Option.map_none]
   simp only[Option.isSome_none,Bool.false_eq_true,if_false,Sem.run_bind,Sem.run_pure,Result.andThen_ok,cC]
  ·exact h.elim
 ·rename_i u xs hx
  split at h
  ·rename_i e te l bZ p he ag
   obtain⟨hu,inf,ds,bB⟩:=pK bh he
   split at h
   ·rename_i hs
    have hs:=Nat.eq_of_beq_eq_true hs
    refine cv.of h.2 <| bH.val fun K' B' aa af C ρ F a w aA hS=>?_
    have hd:=hS.cT ((aa x m1).trans hx)
    have dO:=hd
    obtain⟨A,cap,bf,cF,eY,iH⟩:=dO
    injection bf with bf
    rw[bf] at hd
    obtain⟨cC,cR,fo⟩:=Gx (P:=P) (w:=w) hS (Dh:=true) ag h.1 cF (fun y aF=>aa y (m2 y aF)) (fun y aF=>aa y (m3 y aF))
    refine⟨_,?_,Sk hd cR fo⟩
    have aS:(sizeOf e).run P w= .ok (aM u) w:=by simp[sizeOf,typeInfo,bB.info,bB.size,hs]
    simp only[execOp,az,Sem.run_bind,Instr.sliceAt,Instr.slice,run_underlying hu,Result.andThen_ok,bf,Option.map_none,cC,aS,Sem.run_pure]
   ·exact h.elim
  ·exact h.elim
 ·exact h.elim
theorem Lr {I:Nat→Prop} {w:World} {s:List UInt8} {v:Value} (h:b7 I w (.sl .u8) s (fun _=>some v)) (bC: ∀b,I b→b < w.heap.size): ∃A c,v= .slice A s.length c∧Bytes I w (.slice A s.length c) s:=by
 obtain⟨news,aa,af,ay⟩:=Lj h bC
 have td:=aa
 obtain⟨aB,A,c,rfl,_⟩:=aa
 have e:news=s.map iM:=by
  apply List.ext_getElem?
  intro i
  rw[List.getElem?_map]
  cases hs:s[i]? with
  |none=>
   have:=List.getElem?_eq_none_iff.1 hs
   rw[List.getElem?_eq_none (by rw[aB];simp[aM];exact this)]
   rfl
  |some x=>
   have:=af i x hs
   have this:news[i*aM .u8+0]? =some (.int .u8 (UInt8.toNat x:Int)):=this
   simpa[aM,iM] using this
 subst e
 exact⟨A,c,rfl,td⟩
theorem Sn (bh:dQ P tt) {S T:TypeId} {x:Operand} (az:o.op= .convert S T x) (h:F5 tt S T (aU K x) B k):cv P N ids o K B k:=by
 have m1:x∈o.op.operands:=by rw[az];simp[Op.operands]
 unfold F5 at h
 split at h
 ·rename_i KX ti hs cc
  obtain⟨i1,d1,y8⟩:=bh.at_ hs
  obtain⟨i2,d2,th⟩:=bh.at_ cc
  split at h
  ·rename_i i j Lh n cz er hx
   split at h
   ·rename_i au _
    have au:=nW au
    subst au
    refine cv.of h <| bH.one hx m1 fun K' ρ I a w hS aj=>⟨_,?_,rfl⟩
    have hv:=hS.int aj
    have hw:IntKind.u8.wrap n=n % 256:=by simp[IntKind.wrap,IntKind.bits,IntKind.signed]
    simp[execOp,az,hv,convert,run_underlying (y8.int cz),run_underlying (th.int er),Conv.intToInt,hw]
   ·have h:=xd h
    refine cv.of h.2 <| bH.one hx m1 fun K' ρ I a w hS aj=>⟨_,?_,rfl⟩
    have hv:=hS.int aj
    simp[execOp,az,hv,convert,run_underlying (y8.int cz),run_underlying (th.int er),Conv.intToInt,yW h.1]
  ·rename_i e s cz er hx
   split at h
   ·rename_i hu
    obtain⟨q7,_⟩:=xo bh hu
    refine cv.of h.2 <| bH.new fun K' B' aa af C ρ F a w aA hS=>?_
    have hv:=hS.str ((aa x m1).trans hx)
    obtain⟨cap,b9,ep,ag,e6⟩:=Ra (P:=P) w S T e ⟨s.toArray⟩ (y8.str cz) (th.sl er) q7 (by rw[xl];exact h.1)
    rw[xl] at ep ag
    refine⟨.slice (some ⟨w.heap.size,0,none⟩) s.length cap,b9,by simp only[execOp,az,Sem.run_bind,hv,ep,Result.andThen_ok,Sem.run_pure],e6,fun I he bC=>?_⟩
    obtain⟨aB,A,c,aj,ak,bf,cF⟩:=ag
    injection aj with aj r5 Sp
    subst aj Sp
    have qp:s.length≤cap:=by simpa using ak
    refine⟨_,cap,rfl,qp,bf,fun pL=>?_⟩
    have Sq:0 < s.length:=pL
    obtain⟨b,q,xq,qi,bF,hc⟩:=cF (by simpa using Sq)
    refine⟨b,q,xq,bC b qi bF,fun i y aF=>?_⟩
    have hm:(List.map iM s)[i]? =some (iM y):=by
     rw[List.getElem?_map]
     exact congrArg (Option.map iM) aF
    show b9.cell? ⟨b,q+(i*1+0),none⟩=some (iM y)
    rw[Nat.mul_one,Nat.add_zero]
    exact hc i _ hm
   ·exact h.elim
  ·rename_i e s cz er hx
   split at h
   ·rename_i hu
    obtain⟨q7,_⟩:=xo bh hu
    refine cv.of h <| bH.val fun K' B' aa af C ρ F a w aA hS=>⟨_,?_,rfl⟩
    obtain⟨A,c,hv,ag⟩:=Lr (hS.cT ((aa x m1).trans hx)) (fun b ag=>ag.1)
    simp only[execOp,az,Sem.run_bind,hv,KI ag S T e (y8.sl cz) q7 (th.str er),Result.andThen_ok,Sem.run_pure]
   ·exact h.elim
  ·rename_i e cz er hx
   split at h
   ·rename_i hu
    obtain⟨q7,_⟩:=xo bh hu
    refine cv.of h <| bH.one hx m1 fun K' ρ I a w hS aj=>⟨_,?_,rfl⟩
    have hv:=hS.ec aj
    simp only[execOp,az,Sem.run_bind,hv,run_convert_bytes_nil (P:=P) (w:=w) S e (y8.sl cz) q7 0 0 T (th.str er),Result.andThen_ok,Sem.run_pure]
    rfl
   ·exact h.elim
  ·rename_i e c cz er hx
   split at h
   ·rename_i e' s aB hu
    obtain⟨q7,_⟩:=xo bh hu
    refine cv.of h <| bH.val fun K' B' aa af C ρ F a w aA hS=>⟨_,?_,rfl⟩
    have dD:=aA.holds c _ ((af c (by simp)).trans aB)
    have hd:=AT dD (I':=fun b=>b < w.heap.size) (fun b ag=>ag.1) (fun b ag=>(aA.own c _ ((af c (by simp)).trans aB) b ag).1)
    obtain⟨A,mj,hv,ag⟩:=Lr hd (fun b ag=>ag)
    have eF:=hS.own ((aa x m1).trans hx)
    simp only[execOp,az,Sem.run_bind,eF,hv,KI ag S T e (y8.sl cz) q7 (th.str er),Result.andThen_ok,Sem.run_pure]
   ·exact h.elim
  ·exact h.elim
 ·exact h.elim
theorem Sr (bh:dQ P tt) {T:TypeId} {x:Operand} {j8 aD:Option Operand} {c:Nat} (az:o.op= .slice T x j8 aD none) (hx:aU K x= .c (.one (.own c))) (h:match elemOf tt T,ax B c with
   |some (_,te),some (.row _ u xs)=>match yQ xs.length (j8.map (aU K)) (aD.map (aU K)),Nat.beq te.size (aM u) with
    |some (l,h,p),true=>p∧k (.c (.one (.os c (aM u) l (h - l)))) ⟨[c],[],[]⟩
    |_,_=>False
   |_,_=>False):cv P N ids o K B k:=by
 have m1:x∈o.op.operands:=by rw[az];simp[Op.operands]
 have m2: ∀y,j8=some y→y∈o.op.operands:=fun y aF=>by rw[az];simp[Op.operands,aF]
 have m3: ∀y,aD=some y→y∈o.op.operands:=fun y aF=>by rw[az];simp[Op.operands,aF]
 split at h
 ·rename_i e te e' u xs he aB
  obtain⟨hu,inf,ds,bB⟩:=pK bh he
  split at h
  ·rename_i l bZ p ag hs
   have hs:=Nat.eq_of_beq_eq_true hs
   refine cv.of h.2 <| bH.val fun K' B' aa af C ρ F a w aA hS=>?_
   have eF:=hS.own ((aa x m1).trans hx)
   obtain⟨_,_,cs,dD,_⟩:=aA.holds c _ ((af c (by simp)).trans aB)
   obtain⟨_,A,cap,hv,hn,hc,_⟩:=fF.vJ dD
   unfold bq.hdr at hv eF
   injection hv with aj ak bf
   rw[ak] at eF
   obtain⟨cC,cR,fo⟩:=Gx (P:=P) (w:=w) hS (Dh:=true) ag h.1 (by rw[←bf] at hn;exact hn:xs.length≤(ρ c).cap) (fun y aF=>aa y (m2 y aF)) (fun y aF=>aa y (m3 y aF))
   refine⟨_,?_,rfl⟩
   have aS:(sizeOf e).run P w= .ok (aM u) w:=by simp[sizeOf,typeInfo,bB.info,bB.size,hs]
   simp only[execOp,az,Sem.run_bind,Instr.sliceAt,Instr.slice,run_underlying hu,Result.andThen_ok,eF,Option.map_none,cC,aS,Sem.run_pure]
  ·exact h.elim
 ·exact h.elim
end
end Go.Proofs.YteoamepgonpdlaaGreat
namespace Go.Proofs.YteoamepgonpdlaaGreat
open Go.RowKit
section
variable {P:Program} {tt:cY} {N:Nat} {ids:List Nat} {o:Oper} {K:aQ} {B:aG} {k:aO→fA→Prop}
theorem Ss {c d:Nat} (h:aO.has d (.c (.one (.mp c)))=true):d=c:=(Nat.eq_of_beq_eq_true h).symm
theorem Di (bh:dQ P tt) {T kt et:Nat} (h:xg tt T=some (kt,et)):P.underlying T=some (.map kt et):=by
 unfold xg at h
 split at h
 ·rename_i ti gA
  split at h
  ·rename_i k e aq
   obtain⟨_,_,bB⟩:=bh.at_ gA
   injection h with h
   injection h with aa af
   subst aa af
   have:=bB.cL
   rw[aq] at this
   rw[bB.und]
   cases hd:‹TypeDesc› <;>simp[hd,s5] at this⊢
   exact this
  ·cases h
 ·cases h
theorem Gy (bh:dQ P tt) {kt:Nat} {aN:U} (h:xh tt kt aN=true): ∃d,P.underlying kt=some d∧nQ aN d=true:=by
 unfold xh at h
 split at h
 ·rename_i ti gA
  obtain⟨_,_,bB⟩:=bh.at_ gA
  split at h
  ·rename_i k k' aq
   have:=nW h
   subst this
   exact⟨_,bB.int aq,by simp[nQ]⟩
  ·rename_i aq
   exact⟨_,bB.str aq,rfl⟩
  ·cases h
 ·cases h
theorem Dj: ∀u:U,nO u (dflt u)
 | .int _=>trivial
 | .u8=>trivial
 | .bool=>trivial
 | .str=>trivial
 | .aY=>trivial
 | .c9=>trivial
 | .fn=>trivial
 | .sl _=>trivial
 | .pr u v=>⟨Dj u,Dj v⟩
 | .arr n u=>⟨List.length_replicate,fun x hx=>by
  have e:x=dflt u:=List.eq_of_mem_replicate hx
  rw[e]
  exact Dj u⟩
theorem St {ρ:Nat→bq} {I:Nat→Prop} {w:World} {s:bD} {x:D} {v:Value} (h:C4 s x=true) (hv:dN ρ I w s v):Den I w x v:=by
 unfold C4 at h
 split at h
 ·simp only[Bool.and_eq_true,decide_eq_true_eq] at h
  obtain⟨aa,af⟩:=h
  have:=nW aa
  subst this af
  exact hv
 ·exact hv
 ·exact hv
 ·exact hv
 ·rename_i b c
  have:b=c:=by simpa using h
  subst this
  exact hv
 ·rw[show v=_ from hv]
  exact⟨none,0,rfl,Nat.le_refl _,Nat.zero_le _,fun h=>absurd h (Nat.lt_irrefl 0)⟩
 ·cases h
theorem Ls: ∀{l m:List bD},iG l m=true→l.length=m.length
 | [],[],_=>rfl
 |s::l,.d x::m,h=>by
  simp only[iG,Bool.and_eq_true] at h
  simp[Ls h.2]
 | [],_::_,h=>by simp[iG] at h
 |_::_,[],h=>by simp[iG] at h
 |_::_,.ptr _ _::_,h=>by simp[iG] at h
 |_::_,.own _::_,h=>by simp[iG] at h
 |_::_,.el _ _ _::_,h=>by simp[iG] at h
 |_::_,.fk _ _ _ _::_,h=>by simp[iG] at h
 |_::_,.os _ _ _ _::_,h=>by simp[iG] at h
 |_::_,.mp _::_,h=>by simp[iG] at h
 |_::_,.eM _ _::_,h=>by simp[iG] at h
 |_::_,.ec::_,h=>by simp[iG] at h
 |_::_,.raw _::_,h=>by simp[iG] at h
 |_::_,.any::_,h=>by simp[iG] at h
theorem Lt: ∀{l m:List bD},iG l m=true→ ∀(i:Nat) (y:bD),m[i]? =some y→ ∃s x,l[i]? =some s∧y= .d x∧C4 s x=true
 | [],[],_,i,y,aF=>by simp at aF
 |s::l,.d x::m,h,0,y,aF=>by
  simp only[iG,Bool.and_eq_true] at h
  simp only[List.getElem?_cons_zero,Option.some.injEq] at aF
  exact⟨s,x,rfl,aF.symm,h.1⟩
 |s::l,.d x::m,h,i+1,y,aF=>by
  simp only[iG,Bool.and_eq_true] at h
  simpa using Lt h.2 i y (by simpa using aF)
 | [],_::_,h,_,_,_=>by simp[iG] at h
 |_::_,[],h,_,_,aF=>by simp at aF
 |_::_,.ptr _ _::_,h,_,_,_=>by simp[iG] at h
 |_::_,.own _::_,h,_,_,_=>by simp[iG] at h
 |_::_,.el _ _ _::_,h,_,_,_=>by simp[iG] at h
 |_::_,.fk _ _ _ _::_,h,_,_,_=>by simp[iG] at h
 |_::_,.os _ _ _ _::_,h,_,_,_=>by simp[iG] at h
 |_::_,.mp _::_,h,_,_,_=>by simp[iG] at h
 |_::_,.eM _ _::_,h,_,_,_=>by simp[iG] at h
 |_::_,.ec::_,h,_,_,_=>by simp[iG] at h
 |_::_,.raw _::_,h,_,_,_=>by simp[iG] at h
 |_::_,.any::_,h,_,_,_=>by simp[iG] at h
theorem Su (bh:dQ P tt) {et:Nat} {aP:U} (h:C5 tt et aP=true) {I:Nat→Prop} {w:World}: ∃z,(zeroValue et).run P w= .ok z w∧kI I w aP (dflt aP) z:=by
 unfold C5 at h
 split at h
 ·rename_i ti gA
  obtain⟨i,d,bB⟩:=bh.at_ gA
  simp only[Bool.and_eq_true,beq_iff_eq,Bool.or_eq_true] at h
  obtain⟨⟨aa,af⟩,ay⟩:=h
  obtain⟨z,aS,pJ⟩:=bB.zero
  have hd:=(vP (ρ:=fun _=>⟨0,none,0,0⟩) (I:=I) (w:=w) _ _ pJ).1
  have aB:=bV.length _ _ hd
  have r6:ti.zero.length=aM aP:=(Ls aa).trans (rZ aP _ _ _)
  have hs:z.cells.size=aM aP:=by
   rw[←r6,←aB]
   simp
  refine⟨z,by simp[zeroValue,typeInfo,bB.info,aS],hs,⟨fun az=>?_,fun az=>?_⟩,b7.mk _ _ _ (Dj aP) fun j au=>?_⟩
  ·refine bB.K5 z aS ?_
   rw[bB.row,af,az]
   rfl
  ·have:2≤aM aP:=by
    rcases ay with ay |ay
    ·rw[az] at ay;cases ay
    ·exact Nat.le_of_ble_eq_true ay
   cases z with
   |agg cs=>exact⟨cs,rfl⟩
   |_=>simp[Value.cells] at hs;omega
  ·have bk:=y4 aP (dflt aP) (aM aP) 0 j au
   rw[Nat.zero_add] at bk
   obtain⟨s,x,aj,ak,bf⟩:=Lt aa j _ bk
   injection ak with ak
   obtain⟨v,cF,eY⟩:=bV.get _ _ hd j s aj
   exact⟨v,cF,by rw[ak];exact St bf eY⟩
 ·cases h
theorem Lu {ρ:Nat→bq} {I:Nat→Prop} {w:World} {u:U} {x:aI u} {v:Value} (az:ni u=true) (h:kI I w u x v):dN ρ I w (.d (e4 u x 0)) v:=by
 obtain⟨aa,af,ay⟩:=h
 have hc:=af.1 az
 have pL:0 < aM u:=by rw[←aa,hc];simp
 obtain⟨v',aj,ak⟩:=b7.cell u x _ 0 ay pL
 rw[hc] at aj
 simp at aj
 subst aj
 exact ak
theorem Lv {ρ:Nat→bq} {I:Nat→Prop} {w:World} {u:U} {x:aI u} {v:Value} (az:ni u=false) (h:kI I w u x v):fZ ρ I w (.agg (fH u x 0 (aM u))) v:=by
 obtain⟨aa,af,ay⟩:=h
 obtain⟨cs,e⟩:=af.2 az
 subst e
 obtain⟨vs,g1,g2⟩:=Dd (ρ:=ρ) ay (aM u) 0 (by omega)
 have aB:=bV.length _ _ g1
 rw[rZ] at aB
 have e:vs=cs.toList:=by
  apply List.ext_getElem?
  intro j
  by_cases au:j < vs.length
  ·obtain⟨v,hv⟩: ∃v,vs[j]? =some v:=⟨_,List.getElem?_eq_getElem au⟩
   have:=g2 j v hv
   rw[hv,←this]
   simp[Value.cells]
  ·rw[List.getElem?_eq_none (by omega),List.getElem?_eq_none (by simp[Value.cells] at aa;simp;omega)]
 subst e
 exact⟨_,by simp,g1⟩
theorem Lw {ρ:Nat→bq} {I:Nat→Prop} {w:World} {u:U} {x:aI u} {v:Value} (h:kI I w u x v):fZ ρ I w (F9 u x) v:=by
 cases u with
 |pr u v=>exact Lv rfl h
 |arr n u=>exact Lv rfl h
 |_=>exact Lu (ρ:=ρ) rfl h
theorem Sv {ρ:Nat→bq} {I:Nat→Prop} {w:World} {u:U} {s:aO} {y:aI u} {p:Option Prop} (h:Gb u s=some (y,p)) (hp:uw p) {v:Value} (hv:b8 ρ I w s v):kI I w u y v:=by
 unfold Gb at h
 split at h
 ·rename_i v' y'
  split at h
  ·rename_i heq _ az
   subst heq
   injection h with h
   injection h with aa af
   subst aa af
   obtain⟨vs,e,aa,af⟩:=hv
   subst e
   exact⟨by simpa[Value.cells] using aa,⟨fun e=>(by rw[az] at e;cases e),fun _=>⟨_,rfl⟩⟩,by simpa[Value.cells,FN] using af⟩
  ·cases h
 ·rename_i s'
  split at h
  ·rename_i y' j9 az hd
   injection h with h
   injection h with aa af
   subst aa af
   obtain⟨nY,s7,aj,ak,bf,cF,eY⟩:=y6 u ρ I w _ _ _ _ hd hp [v] ⟨v,[],rfl,hv,rfl⟩
   rw[show s7=[] from cF,List.append_nil] at aj
   subst aj
   have hc:v.cells= #[v]:=by
    have:=eY v (by simp)
    cases v <;>first |rfl |(simp[Value.oneCell'] at this)
   refine⟨by rw[hc,←ak];rfl,⟨fun _=>hc,fun e=>(by rw[az] at e;cases e)⟩,by rw[hc];exact bf⟩
  ·cases h
 ·rename_i l
  split at h
  ·rename_i y' j9 az hd
   injection h with h
   injection h with aa af
   subst aa af
   obtain⟨vs,e,hv⟩:=hv
   subst e
   obtain⟨nY,s7,aj,ak,bf,cF,eY⟩:=y6 u ρ I w _ _ _ _ hd hp vs hv
   rw[show s7=[] from cF,List.append_nil] at aj
   subst aj
   exact⟨by simpa[Value.cells] using ak,⟨fun e=>(by rw[az] at e;cases e),fun _=>⟨_,rfl⟩⟩,by simpa[Value.cells] using bf⟩
  ·cases h
 ·cases h
theorem Dk {ρ:Nat→bq} {I:Nat→Prop} {w:World} {aN:U} {s:aO} {key:aI aN} (h:yR aN s=some key) {v:Value} (hv:b8 ρ I w s v):v=ir aN key:=by
 unfold yR at h
 split at h
 ·split at h
  ·rename_i e
   have:=nW e
   injection h with h
   subst this h
   exact hv
  ·cases h
 ·injection h with h
  subst h
  exact hv
 ·cases h
theorem ek.mp {K':aQ} {ρ:Nat→bq} {I:Nat→Prop} {a:Act} {w:World} {x:Operand} (hS:ek K' ρ I a w) {c:Nat} (h:aU K' x= .c (.one (.mp c))):a.eval x= .map (some (ρ c).bI):=hS.ev h
theorem Sw (bh:dQ P tt) {T:TypeId} {x i:Operand} {ok:Bool} (az:o.op= .lookup T x i ok) (h:Ga tt T (aU K x) (aU K i) ok B k):cv P N ids o K B k:=by
 have m1:x∈o.op.operands:=by rw[az];simp[Op.operands]
 have m2:i∈o.op.operands:=by rw[az];simp[Op.operands]
 unfold Ga at h
 split at h
 ·rename_i c hx
  split at h
  ·rename_i aN aP es aB
   split at h
   ·rename_i kt et key cn aq
    have main: ∀(v:aO),(xh tt kt aN&&C5 tt et aP)=true→(∀(ρ:Nat→bq) (I:Nat→Prop) (w:World) (u:Value),kI I w aP ((ct es key).getD (dflt aP)) u→b8 ρ I w v (if ok then .tuple #[u,.bool (ct es key).isSome] else u))→bH P N ids o K B v ⟨[c],[],[]⟩:=by
     intro v bB hv
     simp only[Bool.and_eq_true] at bB
     obtain⟨d,pM,ku⟩:=Gy bh bB.1
     refine bH.val fun K' B' g1 g2 C ρ F a w aA hS=>?_
     obtain⟨hF,cX,clock,ag,hm,dy⟩:=aA.holds c _ ((g2 c (by simp)).trans aB)
     obtain⟨z,aS,yL⟩:=Su bh bB.2 (I:=bO C B' F w) (w:=w)
     obtain⟨u,hr,hu⟩:=KQ (P:=P) (Di bh cn) pM ku ag hm aS yL key ok
     have aj:=hS.mp ((g1 x m1).trans hx)
     have ak:a.eval i=ir aN key:=Dk aq (hS.ev (g1 i m2))
     exact⟨_,by simp only[execOp,az,Sem.run_bind,aj,ak,hr,Result.andThen_ok,Sem.run_pure],hv ρ _ w u hu⟩
    split at h
    ·rename_i bB
     rw[CU] at h
     refine cv.of h (main _ bB fun ρ I w u hu=>?_)
     exact⟨[u,.bool (ct es key).isSome],rfl,u,_,rfl,Lw hu,_,_,rfl,rfl,rfl⟩
    ·rename_i bB
     rw[CU] at h
     exact cv.of h (main _ bB fun ρ I w u hu=>Lw hu)
    ·exact h.elim
   ·exact h.elim
  ·exact h.elim
 ·exact h.elim
theorem xu {w:World} {b:Nat} {Sx:Obj} {S:Nat→Prop} (hS:S b):Fr S w {w with heap:=w.heap.setIfInBounds b Sx}:=
 ⟨rfl,rfl,rfl,by simp,fun j _ hn=>by simp only[];rw[Array.getElem?_setIfInBounds_ne (fun e=>hn (by rw[←e];exact hS))]⟩
theorem Sy (bh:dQ P tt) {T:TypeId} {x i v:Operand} (az:o.op= .mapUpdate T x i v) (h:Gc tt T (aU K x) (aU K i) (aU K v) B k):cv P N ids o K B k:=by
 have m1:x∈o.op.operands:=by rw[az];simp[Op.operands]
 have m2:i∈o.op.operands:=by rw[az];simp[Op.operands]
 have m3:v∈o.op.operands:=by rw[az];simp[Op.operands]
 unfold Gc at h
 split at h
 ·rename_i c hx
  split at h
  ·rename_i aN aP es aB
   split at h
   ·rename_i kt et key cn aq
    have main: ∀y:aI aP,xh tt kt aN=true→(∀(ρ:Nat→bq) (I:Nat→Prop) (w:World) (u:Value),b8 ρ I w (aU K v) u→kI I w aP y u)→bH P N ids o K B .undef ⟨[c],[],[(c,some (.map aN aP (fc es key y)))]⟩:=fun y bB hv=>by
     obtain⟨d,pM,ku⟩:=Gy bh bB
     refine bH.jP aB fun K' B' g1 C ρ F a w aA hS gj=>?_
     obtain⟨hF,cX,clock,ag,hm,dy⟩:=aA.holds c _ gj
     have aj:=hS.mp ((g1 x m1).trans hx)
     have ak:a.eval i=ir aN key:=Dk aq (hS.ev (g1 i m2))
     have bf:kI _ _ aP y (a.eval v):=hv _ _ _ _ (hS.ev (g1 v m3))
     obtain⟨g6,lF,hr,gB,r7⟩:=CS (P:=P) (Di bh cn) pM ku ag hm dy key bf
     have bF:=(Array.getElem?_eq_some_iff.1 ag).1
     refine⟨{w with heap:=w.heap.setIfInBounds (ρ c).bI (.map (List.toArray g6) lF)},by simp only[execOp,az,Sem.run_bind,aj,ak,hr,Result.andThen_ok,Sem.run_pure],xu ((hF _).2 rfl),fun I bz=>⟨hF,g6,lF,by simp[bF],gB.mono bz,r7⟩⟩
    split at h
    ·rename_i y p bB hv
     exact cv.of h.2 (main y bB fun ρ I w u hu=>Sv hv h.1 hu)
    ·rename_i bB _
     split at h
     ·rename_i l hv rY
      obtain⟨y,⟨hw,gj⟩,h⟩:=h
      refine cv.of h (main y bB fun ρ I w u hu=>?_)
      rw[hv] at hu
      obtain⟨vs,e,hd⟩:=hu
      subst e gj
      exact⟨by simpa[Value.cells,rZ] using bV.length _ _ hd,⟨fun e=>(by rw[rY] at e;cases e),fun _=>⟨_,rfl⟩⟩,by simpa[Value.cells] using y5 hw hd⟩
     ·exact h.elim
    ·exact h.elim
   ·exact h.elim
  ·exact h.elim
 ·exact h.elim
theorem bH.Lx {c:Nat} {cm ch:bw} (hc:ax B c=some cm)
  (h: ∀(K':aQ) (B':aG),(∀x,x∈o.op.operands→aU K' x=aU K x)→ ∀(C:Ctx) (ρ:Nat→bq) (F:Nat→Nat→Prop) (a:Act) (w:World),Mem ids C B' ρ F w→ek K' ρ (bO C B' F w) a w→ax B' c=some cm→ ∃w',(execOp a.eval o).run P w= .ok (.value (.tuple #[])) w'∧Fr (F c) w w'∧
   (∀I,Ext (bO C B' F w) w I w'→Holds ρ I (F c) w' (ρ c) ch)):
  bH P N ids o K B (.c6 []) ⟨[c],[],[(c,some ch)]⟩:=by
 rintro K' B' aa af - C a w ⟨hn,hd,ρ,F,aA,hS⟩ bF fl Q hK
 have dm:ax B' c=some cm:=(af c (by simp)).trans hc
 obtain⟨w',hx,cr,dW⟩:=h K' B' aa C ρ F a w aA hS dm
 obtain⟨bR,he⟩:=aA.jP dm cr dW
 unfold Oper.wp
 rw[hx,Oper.upon_value]
 exact hK _ _ ⟨lC.trans hn,put_defers.trans hd,ρ,F,bR,(hS.mono he fun _ _ _=>rfl).lD (fun e he=>by rw[hn];exact bF e he) ⟨[],rfl,rfl⟩⟩
theorem Sz (bh:dQ P tt) {T eN:TypeId} {x i:Operand} {c:Call} (az:o.op= .call c) (fC:c.callee= .builtin .delete) (dc:c.args.toList=[x,i]) (ke:c.argTypes.toList=[T,eN]) (h:Gd tt T (aU K x) (aU K i) B k):cv P N ids o K B k:=by
 have fT:c.args= #[x,i]:=Array.toList_inj.1 dc
 have iP:c.argTypes= #[T,eN]:=Array.toList_inj.1 ke
 obtain⟨tj,args,ts⟩:=c
 simp only at fC fT iP
 subst fC fT iP
 have m1:x∈o.op.operands:=by rw[az];simp[Op.operands,Call.operands]
 have m2:i∈o.op.operands:=by rw[az];simp[Op.operands,Call.operands]
 unfold Gd at h
 split at h
 ·rename_i c hx
  split at h
  ·rename_i aN aP es aB
   split at h
   ·rename_i kt et key cn aq
    split at h
    ·rename_i bB
     obtain⟨d,pM,ku⟩:=Gy bh bB
     refine cv.of h <| bH.Lx aB fun K' B' g1 C ρ F a w aA hS gj=>?_
     obtain⟨hF,cX,clock,ag,hm,dy⟩:=aA.holds c _ gj
     have aj:=hS.mp ((g1 x m1).trans hx)
     have ak:a.eval i=ir aN key:=Dk aq (hS.ev (g1 i m2))
     obtain⟨g6,hr,gB,r7⟩:=KV (P:=P) (ty:=o.type) (Di bh cn) pM ku ag hm dy key eN
     have bF:=(Array.getElem?_eq_some_iff.1 ag).1
     refine⟨{w with heap:=w.heap.setIfInBounds (ρ c).bI (.map (List.toArray g6) clock)},?_,xu ((hF _).2 rfl),fun I bz=>⟨hF,g6,clock,by simp[bF],gB.mono bz,r7⟩⟩
     simp[execOp,az,resolve,invoke,builtin,aj,ak,hr]
    ·exact h.elim
   ·exact h.elim
  ·exact h.elim
 ·exact h.elim
theorem mg.arr {T:Nat} {ti:cB} {i:TypeInfo} {d:TypeDesc} (h:mg P T ti i d) {n e:Nat} (aq:ti.cL= .arr n e):P.underlying T=some (.array n e):=by
 have:=h.cL
 rw[aq] at this
 rw[h.und]
 cases d <;>simp[s5] at this⊢
 exact this
theorem SA (bh:dQ P tt) {T:TypeId} {x:Operand} (az:o.op= .sliceToArrayPointer T x) (h:Gg tt T (aU K x) k):cv P N ids o K B k:=by
 have m1:x∈o.op.operands:=by rw[az];simp[Op.operands]
 unfold Gg at h
 split at h
 ·rename_i ti v xs gA hx
  obtain⟨i,d,bB⟩:=bh.at_ gA
  split at h
  ·rename_i n e aq
   obtain⟨⟨aE,hle⟩,h⟩:=h
   have hu:=bB.arr aq
   refine cv.of h <| bH.one hx m1 fun K' ρ I a w hS aj=>?_
   obtain⟨A,cap,bf,cF,eY,iH⟩:=hS.cT aj
   injection bf with bf
   obtain⟨b,q,rfl,bC,hd⟩:=iH (by omega)
   refine⟨.pointer (some ⟨b,q,none⟩),?_,b,q,rfl,bC,by simp;omega,fun i z aS=>?_⟩
   ·have: ¬List.length xs < n:=by omega
    simp[execOp,az,bf,Instr.arrayAt,run_underlying hu,this]
   ·have mm:eT (α:=aI v) xs i=some z:=by
     unfold eT at aS⊢
     rw[List.getElem?_take] at aS
     split at aS
     ·exact aS
     ·cases aS
    exact hd i z mm
  ·exact h.elim
 ·exact h.elim
theorem SB (bh:dQ P tt) {T:TypeId} {x:Operand} {c:Nat} (az:o.op= .slice T x none none none) (hx:aU K x= .c (.one (.ptr c 0))) (h:Gf tt T c B k):cv P N ids o K B k:=by
 have m1:x∈o.op.operands:=by rw[az];simp[Op.operands]
 unfold Gf at h
 split at h
 ·rename_i ti gA
  obtain⟨i,d,bB⟩:=bh.at_ gA
  split at h
  ·rename_i n e m v aq _
   have hu:=bB.arr aq
   split at h
   ·rename_i te l hn vQ aB
    simp only[Bool.and_eq_true,Nat.beq_eq,Nat.ble_eq,Nat.blt_eq] at hn
    obtain⟨⟨_,tq⟩,xp⟩:=hn
    obtain⟨yS,uD,SC⟩:=bh.at_ vQ
    obtain⟨ys,⟨hw,gj⟩,h⟩:=h
    refine cv.of h ?_
    rintro K' B' aa af - C a w ⟨qq,hdd,ρ,F,aA,hS⟩ bF fl Q hK
    have Gz:ax B' c=some (.cells l):=(af c (by simp)).trans aB
    obtain⟨hF,vs,eN,ag,hd⟩:=aA.holds c _ Gz
    have aj:=hS.ptr ((aa x m1).trans hx)
    subst gj
    have SD:=y5 hw hd
    have bg:n≠0:=by omega
    have ep:(execOp a.eval o).run P w= .ok (.value (.slice (some ⟨(ρ c).bI,0,none⟩) n n)) w:=by
     simp[execOp,az,aj,Instr.sliceAt,run_underlying hu,Instr.sureAddr,Instr.sliceBounds,sizeOf,typeInfo,SC.info,bg,qV]
    obtain⟨bR,bz⟩:=aA.step (B':=ia B' c) (ρ':=ρ) (F':=F) (w':=w) (fun d=>d=c) (fun _=>False) (Fr.refl _ w) (fun d ch hd bg=>by
      rw[j7,if_neg (fun e=>bg e.symm)] at hd
      exact hd) (fun _ _=>rfl) (fun _ _=>rfl) (fun _ _ h=>h) (fun _ h=>h.elim) (fun _ _ _ _ _ _ h=>h)
     (fun d ch hd aA _=>by subst aA;rw[j7,if_pos rfl] at hd;cases hd)
     (fun d ch hd aA=>by subst aA;rw[j7,if_pos rfl] at hd;cases hd)
     (fun d d' ch ch' b hd _ aA=>by subst aA;rw[j7,if_pos rfl] at hd;cases hd)
    have pN:=(hF (ρ c).bI).2 rfl
    have bC:bO C (ia B' c) F w (ρ c).bI:=by
     obtain⟨cC,cR⟩:=aA.own c _ Gz _ pN
     refine⟨cC,?_,fun d ch hd dw=>?_⟩
     ·rcases cR with cR |cR
      ·exact .inr (.inl cR)
      ·exact .inr (.inr cR)
     ·rw[j7] at hd
      split at hd
      ·cases hd
      ·rename_i bg
       exact aA.e8 c d _ ch _ Gz hd bg pN dw
    unfold Oper.wp
    rw[ep,Oper.upon_value]
    refine hK _ _ ⟨lC.trans qq,put_defers.trans hdd,ρ,F,bR,(hS.mono bz fun _ _ _=>rfl).lD (fun e he=>by rw[qq];exact bF e he) ?_⟩
    have hlen:List.length ys=n:=hw.1
    refine⟨_,n,by rw[hlen],by omega,by simp only[maxLen];omega,fun _=>⟨_,0,rfl,bC,fun j z aS=>?_⟩⟩
    refine b7.mono bz v z _ _ (fun q y bp=>?_) (SD.2 j z aS)
    rw[Nat.zero_add]
    exact cell_of ag bp
   ·exact h.elim
  ·exact h.elim
 ·exact h.elim
theorem SE (bh:dQ P tt) {T:TypeId} (az:o.op= .makeMap T none) (h:Ge tt T o.dst ids K B k):cv P N ids o K B k:=by
 unfold Ge at h
 split at h
 ·rename_i kt et d cn hd
  split at h
  ·rename_i KY yS acS acT
   split at h
   ·rename_i aN aP _ _
    refine cv.bA h.2 h.1 <| bH.make (fun d h=>Ss h) fun K' B' g1 g2 C ρ F a w aA hS hn=>?_
    refine⟨.map (some w.heap.size),w.alloc (.map #[] 0),⟨w.heap.size,none,0,0⟩,fun b=>b=w.heap.size,by simp only[execOp,az,Option.map_none,Sem.run_bind,Rt,Result.andThen_ok,Sem.run_pure],uq w _,fun b ag=>by subst ag;exact⟨Nat.le_refl _,by simp⟩,fun I he ag=>⟨⟨fun b=>Iff.rfl,[],0,FF _ rfl,rfl,⟨by simp,fun e he=>by cases he⟩⟩,?_⟩⟩
    simp only[b8,fZ,dN,dR]
   ·exact h.elim
  ·exact h.elim
 ·exact h.elim
end
end Go.Proofs.YteoamepgonpdlaaGreat
