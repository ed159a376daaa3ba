/-
Part 4 of the proof that stands in YteoamepgonpdlaaGreatPbRow, with what it needs from the parts ahead; the parts of this text: SndP, SndM.
-/
import Derived.Great.BuildSlice
import Derived.Laws.Small
import Derived.Maps.AppendAt
import Derived.Lib.Strings
import Derived.Test.YteoamepgonpdlaaGreatPb3
namespace Go.Proofs.YteoamepgonpdlaaGreat
set_option linter.unusedVariables false
set_option linter.unusedSimpArgs false
open Go.RowKit
section
variable {ρ:Nat→bn} {I:Nat→Prop} {w:World}
theorem cg.wf: ∀(u:U) (x:aJ u) (c:Nat→Option Value),cg I w u x c→nt u x:=by
 intro u
 induction u with
 |pr u v od oe=>exact fun x c h=>⟨od _ _ h.1,oe _ _ h.2⟩
 |arr n u aY=>
  refine fun x c h=>⟨h.1,fun y aF=>?_⟩
  obtain⟨i,ay⟩:=List.getElem?_of_mem (α:=aJ u) aF
  exact aY _ _ (h.2 i y ay)
 |_=>exact fun x c h=>trivial
theorem cg.one (u:U) (x:aJ u) (c:Nat→Option Value) (h:cg I w u x c) (j:Nat) (ak:j < aM u): ∃v,c j=some v∧v.oneCell'=true:=by
 obtain⟨v,aa,af⟩:=cg.cell u x c j h ak
 exact⟨v,aa,ok_one (ρ:=fun _=>⟨0,none,0,0⟩) (s:=.d (eW u x j)) rfl af⟩
theorem Kr {i j n s:Nat} (ay:i < n) (ak:j < s):i*s+j < n*s:=by
 have:=Nat.mul_le_mul_right s ay
 rw[Nat.succ_mul] at this
 omega
theorem Ks {u:U} {ys:List (aJ u)} {v:Value} (h:cg I w (.sl u) ys (fun _=>some v)) (bC: ∀b,I b→b < w.heap.size):
  ∃news,fR I w (aM u) v ys.length news∧gA I w u ys news∧ ∀x∈news,x.oneCell'=true:=by
 obtain⟨A,cap,e,aa,af,aA⟩:=h
 injection e with e
 subst e
 rcases Nat.eq_zero_or_pos ys.length with aC |aC
 ·have aF:ys=[]:=List.eq_nil_of_length_eq_zero aC
  subst aF
  exact⟨[],⟨by simp,A,cap,rfl,aa,af,fun h=>absurd h (by simp)⟩,fun i x hx=>by simp at hx,fun x hx=>by cases hx⟩
 ·obtain⟨b,o,rfl,ag,hx⟩:=aA aC
  have hc: ∀i (ay:i < ys.length) j,j < aM u→ ∃v,w.cell? ⟨b,o+(i*aM u+j),none⟩=some v∧v.oneCell'=true:=fun i ay j ak=>
   cg.one u _ _ (hx i ys[i] (by simp[ff,ay])) j ak
  have hn: ∀j,j < ys.length*aM u→ ∃v,w.cell? ⟨b,o+j,none⟩=some v∧v.oneCell'=true:=fun j ak=>by
   obtain⟨ai,aq,bk⟩:=EW ak
   have:=hc _ ai _ aq
   rwa[bk] at this
  have eP: ∀j,j < ys.length*aM u→((List.range (ys.length*aM u)).map fun j=>(w.cell? ⟨b,o+j,none⟩).getD undef)[j]? =w.cell? ⟨b,o+j,none⟩:=fun j ak=>by
   obtain⟨v,hv,_⟩:=hn j ak
   rw[List.getElem?_map,List.getElem?_range ak]
   simp[hv]
  refine⟨(List.range (ys.length*aM u)).map fun j=>(w.cell? ⟨b,o+j,none⟩).getD undef,⟨by simp,some ⟨b,o,none⟩,cap,rfl,aa,af,fun _=>⟨b,o,rfl,ag,bC b ag,fun j x ak=>?_⟩⟩,fun i x eB=>?_,fun x eB=>?_⟩
  ·have oq:=(List.getElem?_eq_some_iff.1 ak).1
   simp only[List.length_map,List.length_range] at oq
   rwa[eP j oq] at ak
  ·have ay:=(List.getElem?_eq_some_iff.1 eB).1
   have hd:=hx i x eB
   refine cg.mk u x _ (cg.wf u x _ hd) fun j ak=>?_
   obtain⟨v,hv,bE⟩:=cg.cell u x _ j hd ak
   exact⟨v,by rw[eP _ (Kr ay ak)];exact hv,bE⟩
  ·obtain⟨j,ak,rfl⟩:=List.mem_map.1 eB
   obtain⟨v,hv,bE⟩:=hn j (List.mem_range.1 ak)
   simpa[hv] using bE
theorem gA.app {u:U} {xs ys:List (aJ u)} {cs ds:List Value} (h:gA I w u xs cs) (h':gA I w u ys ds) (aB:cs.length=xs.length*aM u):gA I w u (xs++ys) (cs++ds):=fun i x hx=>by
 by_cases ay:i < xs.length
 ·rw[List.getElem?_append_left ay] at hx
  have hd:=h i x hx
  refine cg.mk u x _ (cg.wf u x _ hd) fun j ak=>?_
  obtain⟨v,hv,bE⟩:=cg.cell u x _ j hd ak
  exact⟨v,by rw[List.getElem?_append_left (by rw[aB];exact Kr ay ak)];exact hv,bE⟩
 ·rw[List.getElem?_append_right (by omega)] at hx
  have hd:=h' _ x hx
  refine cg.mono (Ext.refl _ _) u x _ _ (fun j v ak=>?_) hd
  have e:i*aM u=xs.length*aM u+(i - xs.length)*aM u:=by rw[←Nat.add_mul];congr 1;omega
  rw[List.getElem?_append_right (by rw[aB,e];omega),←ak,aB,e]
  congr 1
  omega
theorem gA.nil (u:U):gA I w u [] []:=fun i x hx=>by simp at hx
theorem Al {ρ:Nat→bn} {F:Nat→Prop} {p:bn} {e:TypeId} {u:U} {xs:List (aJ u)} (h:Holds ρ I F w p (.row e u xs)) {I':Nat→Prop} (bC: ∀b,I b→I' b) (hF: ∀b,F b→I' b):cg I' w (.sl u) xs (fun _=>some p.hdr):=by
 obtain⟨aa,af,cs,aA,bE⟩:=h
 have Ak:=aA
 rcases aA.2 with⟨hv,aC⟩ |⟨g,cap,cur,hv,_,bl,aB,hm,_,_⟩
 ·exact⟨none,0,by rw[hv,aC],by omega,by decide,fun h=>absurd h (by omega)⟩
 ·refine⟨some ⟨g,0,none⟩,cap,by rw[hv],aB,hm,fun _=>⟨g,0,rfl,hF g ((aa g).2 (by rw[hv];rfl)),fun i x hx=>?_⟩⟩
  refine cg.mono (fun b ag=>⟨bC b ag,rfl⟩) u x _ _ (fun j v ak=>?_) (bE i x hx)
  have:=Ak.cells (g:=g) (by rw[hv];rfl) _ v ak
  rwa[ql] at this
end
section
variable {P:Program} {tt:c4} {N:Nat} {ids:List Nat} {o:Oper} {K:aQ} {B:aG} {k:aN→fk→Prop} {C:Ctx} {ρ:Nat→bn} {F:Nat→Nat→Prop} {w w':World}
theorem Am {b:Nat} {cs:Array Value} {S:Nat→Prop} (hS:S b):Fr S w (w.setRow b cs):=
 ⟨rfl,rfl,rfl,by simp[World.setRow],fun j _ hn=>setRow_other w b j cs (fun e=>hn (by rw[e];exact hS))⟩
theorem Kt {p q:Option Prop} (h:tJ (Fa p q)):tJ p∧tJ q:=by
 cases p <;>cases q <;>first |exact⟨trivial,trivial⟩ |exact⟨trivial,h⟩ |exact⟨h,trivial⟩ |exact h
def qx {α:Type} (u:U) (f:List bx→Option (α×List bx×Option Prop)) (g:α→aJ u):Prop:= ∀(ρ:Nat→bn) (I:Nat→Prop) (w:World) (l:List bx) (x:α) (l':List bx) (p:Option Prop),f l=some (x,l',p)→tJ p→ ∀vs,bZ ρ I w l vs→
 ∃nF sx,vs=nF++sx∧nF.length=aM u∧cg I w u (g x) (fun j=>nF[j]?)∧bZ ρ I w l' sx∧ ∀v∈nF,v.oneCell'=true
theorem QJ (k:IntKind):qx (.int k) (Fb k) (fun x=>x):=by
 intro ρ I w l x l' p h hp vs hv
 unfold Fb at h
 split at h
 ·rename_i k' n l
  split at h
  ·rename_i au
   have:=nD au
   subst this
   simp only[Option.some.injEq,Prod.mk.injEq] at h
   obtain⟨rfl,rfl,rfl⟩:=h
   obtain⟨v,r,rfl,aa,af⟩:=hv
   have aa:v= .int k' n:=aa
   subst aa
   exact⟨[.int k' n],r,rfl,rfl,rfl,af,by simp[Value.oneCell']⟩
  ·cases h
 ·cases h
theorem QK:qx .u8 Fc (fun x=>x):=by
 intro ρ I w l x l' p h hp vs hv
 unfold Fc at h
 split at h
 ·rename_i k' n l
  split at h
  ·rename_i au
   have:=nD au
   subst this
   simp only[Option.some.injEq,Prod.mk.injEq] at h
   obtain⟨rfl,rfl,rfl⟩:=h
   obtain⟨v,r,rfl,aa,af⟩:=hv
   have aa:v= .int .u8 n:=aa
   subst aa
   have hp:0≤n∧n < 256:=hp
   refine⟨[.int .u8 n],r,rfl,rfl,?_,af,by simp[Value.oneCell']⟩
   show some (Value.int .u8 n)=some (Value.int .u8 ((UInt8.ofNat n.toNat).toNat:Int))
   congr 2
   rw[UInt8.toNat_ofNat']
   omega
  ·cases h
 ·cases h
theorem QL:qx .bool Fe (fun x=>x):=by
 intro ρ I w l x l' p h hp vs hv
 unfold Fe at h
 split at h
 all_goals first |(cases h;done) |skip
 all_goals
  rename_i b l
  simp only[Option.some.injEq,Prod.mk.injEq] at h
  obtain⟨rfl,rfl,rfl⟩:=h
  obtain⟨v,r,rfl,aa,af⟩:=hv
  have aa:v= .bool b:=aa
  subst aa
  exact⟨[.bool b],r,rfl,rfl,rfl,af,by simp[Value.oneCell']⟩
theorem QM:qx .str Ff (fun x=>x):=by
 intro ρ I w l x l' p h hp vs hv
 unfold Ff at h
 split at h
 ·rename_i s l
  simp only[Option.some.injEq,Prod.mk.injEq] at h
  obtain⟨rfl,rfl,rfl⟩:=h
  obtain⟨v,r,rfl,aa,af⟩:=hv
  have aa:v= .string ⟨s.toArray⟩:=aa
  subst aa
  exact⟨[_],r,rfl,rfl,rfl,af,by simp[Value.oneCell']⟩
 ·cases h
theorem QN:qx .dg Fh (fun x=>x):=by
 intro ρ I w l x l' p h hp vs hv
 unfold Fh at h
 split at h
 ·rename_i s l
  simp only[Option.some.injEq,Prod.mk.injEq] at h
  obtain⟨rfl,rfl,rfl⟩:=h
  obtain⟨v,r,rfl,aa,af⟩:=hv
  have aa:v=qm s:=aa
  subst aa
  refine⟨[_],r,rfl,rfl,rfl,af,?_⟩
  rcases s with _ |⟨b,n,c⟩ <;>simp[Value.oneCell',qm]
 ·rename_i l
  simp only[Option.some.injEq,Prod.mk.injEq] at h
  obtain⟨rfl,rfl,rfl⟩:=h
  obtain⟨v,r,rfl,aa,af⟩:=hv
  have aa:v= .slice none 0 0:=aa
  subst aa
  exact⟨[_],r,rfl,rfl,rfl,af,by simp[Value.oneCell']⟩
 ·cases h
theorem Ku {ρ:Nat→bn} {I:Nat→Prop} {w:World}: ∀{m:List ki} {bs:List Nat} {vs:List Value},Ac m=some bs→gS ρ I w m vs→vs=qo bs
 | [],bs,vs,h,hv=>by
  unfold Ac at h
  injection h with h
  rw[←h]
  exact hv
 |c::m,bs,vs,h,hv=>by
  unfold Ac at h
  split at h
  ·rename_i e;cases e
  ·rename_i b l e
   injection e with ai aq
   subst ai aq
   split at h
   ·rename_i r hr
    injection h with h
    subst h
    obtain⟨v,t,e,aa,af⟩:=hv
    have aa:v= .pointer (some ⟨b,0,none⟩):=aa
    rw[e,aa,Ku hr af]
    rfl
   ·cases h
  ·cases h
theorem QO:qx .fn Fi (fun x=>x):=by
 intro ρ I w l x l' p h hp vs hv
 unfold Fi at h
 split at h
 ·rename_i s l
  simp only[Option.some.injEq,Prod.mk.injEq] at h
  obtain⟨rfl,rfl,rfl⟩:=h
  obtain⟨v,r,rfl,aa,af⟩:=hv
  have aa:v=tG s:=aa
  subst aa
  exact⟨[_],r,rfl,rfl,rfl,af,by simp[Value.oneCell',tG]⟩
 ·rename_i f m l
  split at h
  ·rename_i bs An
   simp only[Option.some.injEq,Prod.mk.injEq] at h
   obtain⟨rfl,rfl,rfl⟩:=h
   obtain⟨v,r,rfl,⟨us,e,hc⟩,af⟩:=hv
   have FP:=Ku An hc
   subst e FP
   exact⟨[_],r,rfl,rfl,rfl,af,by simp[Value.oneCell']⟩
  ·cases h
 ·cases h
theorem QS:qx .aW Fg (fun x=>x):=by
 intro ρ I w l x l' p h hp vs hv
 unfold Fg at h
 split at h
 ·rename_i s l
  simp only[Option.some.injEq,Prod.mk.injEq] at h
  obtain⟨rfl,rfl,rfl⟩:=h
  obtain⟨v,r,rfl,aa,af⟩:=hv
  have aa:v= .pointer (nu s):=aa
  subst aa
  exact⟨[_],r,rfl,rfl,rfl,af,by simp[Value.oneCell']⟩
 ·rename_i l
  simp only[Option.some.injEq,Prod.mk.injEq] at h
  obtain⟨rfl,rfl,rfl⟩:=h
  obtain⟨v,r,rfl,aa,af⟩:=hv
  have aa:v= .pointer none:=aa
  subst aa
  exact⟨[_],r,rfl,rfl,rfl,af,by simp[Value.oneCell']⟩
 ·cases h
theorem QT (u:U):qx (.sl u) (Fj u) (fun x=>x):=by
 intro ρ I w l x l' p h hp vs hv
 unfold Fj at h
 split at h
 ·rename_i l
  simp only[Option.some.injEq,Prod.mk.injEq] at h
  obtain⟨rfl,rfl,rfl⟩:=h
  obtain⟨v,r,rfl,aa,af⟩:=hv
  have aa:v= .slice none 0 0:=aa
  subst aa
  exact⟨[_],r,rfl,rfl,⟨none,0,rfl,Nat.le_refl _,by decide,fun h=>absurd h (by simp)⟩,af,by simp[Value.oneCell']⟩
 ·rename_i v xs l
  split at h
  ·rename_i he _
   subst he
   simp only[Option.some.injEq,Prod.mk.injEq] at h
   obtain⟨rfl,rfl,rfl⟩:=h
   obtain⟨v,r,rfl,aa,af⟩:=hv
   have aa:cg I w (.sl _) xs (fun _=>some v):=aa
   refine⟨[v],r,rfl,rfl,?_,af,?_⟩
   ·obtain⟨A,cap,e,aA⟩:=aa
    exact⟨A,cap,e,aA⟩
   ·obtain⟨A,cap,e,aA⟩:=aa
    injection e with e
    subst e
    simp[Value.oneCell']
  ·cases h
 ·cases h
theorem QU {u v:U} (aa:qx u (ny u) (fun x=>x)) (af:qx v (ny v) (fun x=>x)):qx (.pr u v) (ny (.pr u v)) (fun x=>x):=by
 intro ρ I w l x l' p h hp vs hv
 unfold ny at h
 cases ai:ny u l with
 |none=>simp only[ai] at h;cases h
 |some t=>
  obtain⟨y,lF,dO⟩:=t
  simp only[ai] at h
  cases aq:ny v lF with
  |none=>simp only[aq] at h;cases h
  |some t=>
   obtain⟨z,Ao,cZ⟩:=t
   simp only[aq,Option.some.injEq,Prod.mk.injEq] at h
   obtain⟨rfl,rfl,rfl⟩:=h
   obtain⟨cK,c5⟩:=Kt hp
   obtain⟨nF,r1,rfl,g1,g2,bL,gU⟩:=aa ρ I w l y lF dO ai cK vs hv
   obtain⟨sx,r2,rfl,cE,ey,fo,fY⟩:=af ρ I w lF z _ cZ aq c5 r1 bL
   refine⟨nF++sx,r2,by simp,by simp[aM,g1,cE],⟨?_,?_⟩,fo,fun x hx=>(List.mem_append.1 hx).elim (gU x) (fY x)⟩
   ·refine cg.mk u y _ (cg.wf u y _ g2) fun j ak=>?_
    obtain⟨x,hx,hd⟩:=cg.cell u y _ j g2 ak
    exact⟨x,by rw[List.getElem?_append_left (by omega)];exact hx,hd⟩
   ·refine cg.mono (Ext.refl _ _) v z _ _ (fun j x ak=>?_) ey
    show(nF++sx)[aM u+j]? =some x
    rw[List.getElem?_append_right (by omega),show aM u+j - nF.length=j by omega]
    exact ak
theorem yy: ∀u:U,qx u (ny u) (fun x=>x)
 | .int k=>QJ k
 | .u8=>QK
 | .bool=>QL
 | .str=>QM
 | .aW=>QS
 | .dg=>QN
 | .fn=>QO
 | .sl u=>QT u
 | .pr u v=>QU (yy u) (yy v)
 | .arr n u=>fun ρ I w l x l' p h=>by unfold ny at h;cases h
theorem FQ {ρ:Nat→bn} {I:Nat→Prop} {w:World} (u:U): ∀(n:Nat) (l:List bx) (xs:List (aJ u)) (p:Option Prop),wz u n l=some (xs,p)→tJ p→ ∀vs,bZ ρ I w l vs→xs.length=n∧vs.length=n*aM u∧gA I w u xs vs∧ ∀v∈vs,v.oneCell'=true
 |0,l,xs,p,h,hp,vs,hv=>by
  unfold wz at h
  split at h
  ·simp only[Option.some.injEq,Prod.mk.injEq] at h
   obtain⟨rfl,rfl⟩:=h
   rw[show vs=[] from hv]
   exact⟨rfl,by simp,gA.nil u,by simp⟩
  ·cases h
  ·rename_i e;cases e
 |n+1,l,xs,p,h,hp,vs,hv=>by
  unfold wz at h
  cases ai:ny u l with
  |none=>simp only[ai] at h;cases h
  |some t=>
   obtain⟨y,lF,dO⟩:=t
   simp only[ai] at h
   cases aq:wz u n lF with
   |none=>simp only[aq] at h;cases h
   |some t=>
    obtain⟨ys,cZ⟩:=t
    simp only[aq,Option.some.injEq,Prod.mk.injEq] at h
    obtain⟨rfl,rfl⟩:=h
    obtain⟨cK,c5⟩:=Kt hp
    obtain⟨nF,r1,rfl,g1,g2,bL,gU⟩:=yy u ρ I w l y lF dO ai cK vs hv
    obtain⟨cE,ey,fo,fY⟩:=FQ u n lF ys cZ aq c5 r1 bL
    refine⟨by simp[cE],by simp[g1,ey,Nat.succ_mul,Nat.add_comm],?_,fun x hx=>(List.mem_append.1 hx).elim (gU x) (fY x)⟩
    have:gA I w u [y] nF:=fun i x hx=>by
     match i with
     |0=>
      simp only[List.getElem?_cons_zero,Option.some.injEq] at hx
      subst hx
      exact cg.mono (Ext.refl _ _) u y _ _ (fun j v ak=>by simpa using ak) g2
     |i+1=>simp at hx
    exact gA.app this fo (by simpa using g1)
theorem QV (aX:dP P tt) {T:TypeId} {x v:Operand} (av:o.op= .store T x v) (h:match tt.find T with
  |some ti=>match aU K x with
   | .c (.one (.ptr c o))=>match ax B c with
    |some (.cells l)=>match uQ (aU K v) with
     |some cs=>match Nat.beq cs.length ti.size,Nat.ble (o+cs.length) l.length with
      |true,true=>oH (Ab l o cs) fun l=>k .undef ⟨[c],[],[(c,some (.cells l))]⟩
      |_,_=>False
     |none=>False
    |_=>False
   | .c (.one (.fh c s i o))=>match ax B c with
    |some (.row e u xs)=>match Nat.beq (aM u) 1,Nat.beq s 1,Nat.beq o 0,Nat.beq ti.size 1,aU K v with
     |true,true,true,true,.c (.one uT)=>match ny u [uT] with
      |some (y,[],p)=>(tJ p∧i < xs.length)∧k .undef ⟨[c],[],[(c,some (.row e u (xs.set i y)))]⟩
      |_=>False
     |_,_,_,_,_=>False
    |_=>False
   |_=>False
  |none=>False):cw P N ids o K B k:=by
 have bw:x∈o.op.operands:=by rw[av];simp[Op.operands]
 have bX:v∈o.op.operands:=by rw[av];simp[Op.operands]
 split at h
 ·rename_i ti gK
  obtain⟨inf,d,bD⟩:=aX.at_ gK
  split at h
  ·rename_i c p hc
   split at h
   ·rename_i l aB
    split at h
    ·rename_i cs oK
     split at h
     ·rename_i aa af
      have aa:=Nat.eq_of_beq_eq_true aa
      have af:=Nat.le_of_ble_eq_true af
      rw[yd] at h
      refine cw.of h <| bI.jV aB fun K' B' ai C ρ F a w az hS gC=>?_
      obtain⟨hF,vs,eG,ag,hd⟩:=az.holds c _ gC
      have hv:=hS.get v
      rw[ai v bX] at hv
      obtain⟨us,QW,CK,QX⟩:=FL oK hv
      have hlen:=bZ.length _ _ CK
      have aa0:=bZ.length _ _ hd
      refine⟨_,yu av (hS.ptr ((ai x bw).trans hc)) QW bD.info (by rw[hlen,aa];exact bD.size) ag (by omega) QX,Am ((hF _).2 rfl),fun I he=>⟨hF,_,eG,setRow_heap w _ _ _ eG _ ag,?_⟩⟩
      exact bZ.splice (bZ.mono he _ _ (fun _ _=>rfl) hd) (bZ.mono he _ _ (fun _ _=>rfl) CK)
     ·exact h.elim
    ·exact h.elim
   ·exact h.elim
  ·rename_i c s i p hc
   split at h
   ·rename_i e u xs aB
    split at h
    ·rename_i uT s1 s2 uU yz QY
     split at h
     ·rename_i y q QZ
      have s1:=Nat.eq_of_beq_eq_true s1
      have s2:=Nat.eq_of_beq_eq_true s2
      have uU:=Nat.eq_of_beq_eq_true uU
      subst s2 uU
      obtain⟨⟨bh,ay⟩,h⟩:=h
      refine cw.of h <| bI.jV aB fun K' B' ai C ρ F a w az hS gC=>?_
      obtain⟨hF,jb,cs,dF,kU⟩:=az.holds c _ gC
      have hv:=hS.get v
      rw[ai v bX,QY] at hv
      have Ap:=hS.fh ((ai x bw).trans hc)
      obtain⟨nF,sx,cX,g1,g2,bL,gU⟩:=yy u ρ _ w [uT] y [] q QZ bh [a.eval v] ⟨_,[],rfl,hv,rfl⟩
      have hlen:nF.length=1:=by rw[g1,s1]
      obtain rfl:nF=[a.eval v]:=by
       match nF,hlen with
       | [z],_=>simp at cX;rw[cX.1]
      have q7:=gU (a.eval v) (by simp)
      have wj:(a.eval v).cells=List.toArray [a.eval v]:=by
       cases hx:a.eval v <;>first |rfl |(rw[hx] at q7;simp[Value.oneCell'] at q7)
      have Kv:=dF
      obtain⟨q4,dF⟩:=dF
      rcases dF with⟨_,aC⟩ |⟨g,cap,cur,mT,_,bl,wI,hm,ek,cl⟩
      ·omega
      ·have Aq:g=(ρ c).bO:=jb g (by rw[mT];rfl)
       subst Aq
       rw[s1,Nat.mul_one] at ek cl q4
       have tN:w.heap[(ρ c).bO]? =some (.cells (List.toArray cur.toList) e (0,0)):=by simpa using bl
       have nE:i*1+0+ [a.eval v].length≤cur.toList.length:=by simp;omega
       have hex:=yu (P:=P) (ev:=a.eval) (w:=w) av Ap wj bD.info (by rw[bD.size,Nat.eq_of_beq_eq_true yz];rfl) tN nE (by simpa using q7)
       refine⟨_,hex,Am ((hF _).2 (by rw[mT];rfl)),fun I he=>?_⟩
       have j7:=setRow_heap w (ρ c).bO cur (List.take (i*1+0) cur.toList++[a.eval v]++List.drop (i*1+0+ [a.eval v].length) cur.toList).toArray e (0,0) bl
       have iM:(List.take (i*1+0) cur.toList++[a.eval v]++List.drop (i*1+0+ [a.eval v].length) cur.toList)=cur.toList.set i (a.eval v):=by
        rw[List.set_eq_take_append_cons_drop,if_pos (by simp;omega)]
        simp
       rw[iM] at j7
       refine⟨hF,jb,cs.set i (a.eval v),⟨by simp[q4,s1],.inr ⟨(ρ c).bO,cap,_,by rw[mT];simp,Nat.zero_le _,by rw[iM];exact j7,by simpa using wI,hm,by simp[ek,s1],?_⟩⟩,fun j z aS=>?_⟩
       ·rw[←cl]
        simp[s1,List.take_set]
       ·by_cases l8:i=j
        ·subst l8
         rw[List.getElem?_set_self ay] at aS
         injection aS with aS
         subst aS
         refine cg.mono he u y _ _ (fun q x hx=>?_) g2
         match q with
         |0=>
          rw[s1,Nat.mul_one,Nat.add_zero,List.getElem?_set_self (by omega)]
          simpa using hx
         |q+1=>simp at hx
        ·rw[List.getElem?_set_ne l8] at aS
         have hd:=kU j z aS
         refine cg.mk u z _ (cg.wf u z _ hd) fun q bh=>?_
         obtain⟨x,hx,wJ⟩:=cg.cell u z _ q hd bh
         refine⟨x,?_,Den.mono he _ _ wJ⟩
         rw[s1] at bh⊢
         rw[s1] at hx
         rw[List.getElem?_set_ne (by omega)]
         exact hx
     ·exact h.elim
    ·exact h.elim
   ·exact h.elim
  ·exact h.elim
 ·exact h.elim
end
end Go.Proofs.YteoamepgonpdlaaGreat
set_option linter.unusedVariables false
set_option linter.unusedSimpArgs false
namespace Go.Proofs.YteoamepgonpdlaaGreat
open Go.RowKit
section
variable {P:Program} {tt:c4} {N:Nat} {ids:List Nat} {o:Oper} {K:aQ} {B:aG} {k:aN→fk→Prop}
theorem Kw {ρ:Nat→bn} {I:Nat→Prop} {w:World} {v:Value} {s:bx} (h:FF v s=true):dI ρ I w s v∧v.oneCell'=true:=by
 unfold FF at h
 split at h
 ·rename_i k n k' wF
  simp only[Bool.and_eq_true,decide_eq_true_eq] at h
  have:=nD h.1
  subst this
  rw[h.2]
  exact⟨rfl,rfl⟩
 ·rename_i b eX
  rw[show b=eX by simpa using h]
  exact⟨rfl,rfl⟩
 ·rename_i s l
  have h:s.data.toList=l:=by simpa using h
  subst h
  exact⟨by simp[dI,Den],rfl⟩
 ·exact⟨rfl,rfl⟩
 ·exact⟨rfl,rfl⟩
 ·exact⟨rfl,rfl⟩
 ·exact⟨rfl,rfl⟩
 ·cases h
theorem uV {ρ:Nat→bn} {I:Nat→Prop} {w:World}: ∀(vs:List Value) (l:List bx),sw vs l=true→bZ ρ I w l vs∧ ∀u∈vs,u.oneCell'=true
 | [],[],_=>⟨rfl,by simp⟩
 |v::vs,s::l,h=>by
  simp only[sw,Bool.and_eq_true] at h
  obtain⟨aa,af⟩:=Kw (ρ:=ρ) (I:=I) (w:=w) h.1
  obtain⟨aA,bE⟩:=uV (ρ:=ρ) (I:=I) (w:=w) vs l h.2
  exact⟨⟨v,vs,rfl,aa,aA⟩,fun u hu=>(List.mem_cons.1 hu).elim (fun e=>e▸af) (bE u)⟩
 | [],_::_,h=>by simp[sw] at h
 |_::_,[],h=>by simp[sw] at h
theorem Ky {c d p:Nat} (h:aN.has d (.c (.one (.ptr c p)))=true):d=c:=(Nat.eq_of_beq_eq_true h).symm
theorem yA {c d:Nat} (h:aN.has d (.c (.one (.own c)))=true):d=c:=(Nat.eq_of_beq_eq_true h).symm
theorem Q0 (aX:dP P tt) {T:TypeId} (av:o.op= .alloc T) (h:match tt.find T,o.dst with
  |some ti,some d=>gu ids K B d=true∧k (.c (.one (.ptr d 0))) ⟨[],[d],[(d,some (.cells ti.zero))]⟩
  |_,_=>False):cw P N ids o K B k:=by
 split at h
 ·rename_i ti d gK hd
  obtain⟨i,ds,bD⟩:=aX.at_ gK
  obtain⟨z,aS,pP⟩:=bD.zero
  refine cw.bu h.2 h.1 <| bI.make (fun d h=>Ky h) fun K' B' aa af C ρ F a w az hS hn=>?_
  refine⟨_,_,⟨w.heap.size,none,0,0⟩,fun b=>b=w.heap.size,(by
   simp[execOp,av,Instr.alloc,zeroValue,typeInfo,bD.info,aS,newVar,newRow]
   rfl),tE w _,fun b ag=>by subst ag;exact⟨Nat.le_refl _,by simp⟩,fun I he ag=>⟨⟨fun b=>Iff.rfl,z.cells.toList,T,EV _ rfl,(uV _ _ pP).1⟩,?_⟩⟩
  simp only[cj,fS,dI,dN]
 ·exact h.elim
theorem Q1 (aX:dP P tt) {T:TypeId} {x:Operand} (av:o.op= .box T x) (h:match tt.find T,o.dst,uQ (aU K x) with
  |some ti,some d,some l=>match Nat.beq l.length ti.size with
   |true=>gu ids K B d=true∧k (.c (.one (.ptr d 0))) ⟨[],[d],[(d,some (.cells l))]⟩
   |false=>False
  |_,_,_=>False):cw P N ids o K B k:=by
 have bw:x∈o.op.operands:=by rw[av];simp[Op.operands]
 split at h
 ·rename_i ti d l gK hd aB
  split at h
  ·refine cw.bu h.2 h.1 <| bI.make (fun d h=>Ky h) fun K' B' aa af C ρ F a w az hS hn=>?_
   have hv:=hS.get x
   rw[aa x bw] at hv
   obtain⟨vs,ai,aq,bk⟩:=FL aB hv
   refine⟨_,_,⟨w.heap.size,none,0,0⟩,fun b=>b=w.heap.size,(by
    simp[execOp,av,Instr.box,newVar,newRow,ai]
    rfl),tE w _,fun b ag=>by subst ag;exact⟨Nat.le_refl _,by simp⟩,fun I he ag=>⟨⟨fun b=>Iff.rfl,vs,T,EV _ rfl,?_⟩,?_⟩⟩
   ·refine bZ.mono he l vs (fun c hc=>?_) aq
    refine dL _ _ fun e=>?_
    subst e
    have bM:(aU K x).has c=true:=by
     unfold uQ at aB
     split at aB
     ·rename_i hx
      split at aB
      ·injection aB with aB;subst aB;rw[hx];simpa[aN.has,dG.has,mR] using hc
      ·cases aB
     ·rename_i hx
      split at aB
      ·injection aB with aB;subst aB;rw[hx];simpa[aN.has,dG.has] using hc
      ·cases aB
     ·cases aB
    rw[←aa x bw] at bM
    cases x with
    |tmp t=>have:=hn t;simp only[aU] at bM;rw[this] at bM;cases bM
    |const v=>
     have mU: ∀u:Value,(uP u).has c=false:=fun u=>by unfold uP;split <;>rfl
     have cQ: ∀us:List Value,mR c (us.map uP)=false:=fun us=>by induction us with
      |nil=>rfl
      |cons u us aY=>simp[mR,mU,aY]
     simp only[aU] at bM
     unfold Ci at bM
     split at bM <;>simp[aN.has,dG.has,mU,cQ] at bM
    |func f=>simp[aU,aN.has,dG.has,bx.has,lu] at bM
    |global g=>simp[aU,aN.has,dG.has,bx.has] at bM
   ·simp only[cj,fS,dI,dN]
  ·exact h.elim
 ·exact h.elim
theorem Kz: ∀(us:List Value) (off j:Nat) (p m s:List Value),p.length=off+j→m.length=us.length→
  (us.zipIdx j).foldl (fun cs p=>cs.setIfInBounds (off+p.2) p.1) (p++m++s).toArray=(p++us++s).toArray
 | [],off,j,p,m,s,hp,hm=>by
  rw[show m=[] from List.eq_nil_of_length_eq_zero (by simpa using hm)]
  simp
 |u::us,off,j,p,[],s,hp,hm=>by simp at hm
 |u::us,off,j,p,x::m,s,hp,hm=>by
  simp only[List.zipIdx_cons,List.foldl_cons]
  have e:(p++x::m++s).toArray.setIfInBounds (off+j) u=((p++[u])++m++s).toArray:=by
   rw[List.setIfInBounds_toArray,←hp]
   simp
  rw[e,Kz us off (j+1) (p++[u]) m s (by simp;omega) (by simpa using hm)]
  simp
theorem foldl_set (us vs:List Value) (off:Nat) (h:off+us.length≤vs.length):
  (us.zipIdx).foldl (fun cs p=>cs.setIfInBounds (off+p.2) p.1) vs.toArray=(vs.take off++us++vs.drop (off+us.length)).toArray:=by
 have e:vs=vs.take off++(vs.drop off).take us.length++vs.drop (off+us.length):=by
  rw[List.append_assoc,←List.drop_drop,List.take_append_drop,List.take_append_drop]
 have:=Kz us off 0 (vs.take off) ((vs.drop off).take us.length) (vs.drop (off+us.length)) (by simp;omega) (by simp;omega)
 rw[←e] at this
 exact this
theorem FR {K':aQ} {ρ:Nat→bn} {I:Nat→Prop} {a:Act} {w:World} (hS:ei K' ρ I a w) {l5 place:Nat→Option (Nat×Nat)} (gh: ∀i d n,l5 i=some (d,n)→place i=some (d,n)):
  ∀(ps:List (Nat×Operand)) (l l':List bx) (vs:List Value),(∀p∈ps,aU K' p.2=aU K p.2)→uR K l5 ps l=some l'→bZ ρ I w l vs→(∀u∈vs,u.oneCell'=true)→
   ∃q9,Instr.fill place (List.toArray vs) (ps.map fun p=>(p.1,a.eval p.2))=some (List.toArray q9)∧bZ ρ I w l' q9∧ ∀u∈q9,u.oneCell'=true
 | [],l,l',vs,_,h,hv,aa=>by
  simp only[uR,Option.some.injEq] at h
  subst h
  exact⟨vs,rfl,hv,aa⟩
 |(i,x)::ps,l,l',vs,hK,h,hv,aa=>by
  unfold uR at h
  split at h
  ·rename_i d n cs hd oK
   split at h
   ·rename_i ai aq
    have ai:=Nat.eq_of_beq_eq_true ai
    have aq:=Nat.le_of_ble_eq_true aq
    have hx:=hS.get x
    rw[hK (i,x) (by simp)] at hx
    obtain⟨us,g1,g2,bL⟩:=FL oK hx
    have cK:=bZ.length _ _ g2
    have c5:=bZ.length _ _ hv
    obtain⟨q9,cE,ey,fo⟩:=FR hS gh ps _ l' (vs.take d++us++vs.drop (d+us.length)) (fun p hp=>hK p (by simp[hp])) h (bZ.splice hv g2) (fun u hu=>by
     simp only[List.mem_append] at hu
     rcases hu with(hu |hu) |hu
     ·exact aa u (List.mem_of_mem_take hu)
     ·exact bL u hu
     ·exact aa u (List.mem_of_mem_drop hu))
    refine⟨q9,?_,ey,fo⟩
    rw[←cE]
    simp only[List.map_cons,Instr.fill,gh i d n hd,g1]
    have hf:=foldl_set us vs d (by omega)
    rw[if_neg (by simp;omega)]
    congr 1
    rw[←hf,←Array.foldl_toList,Array.toList_zipIdx]
   ·cases h
  ·cases h
theorem Q2 {fs:List Field} {l:List (Nat×Nat)} (h:qw P fs l=true):fs.mapM (fun f=>(P.info? f.type).map fun i=>(f.offset,i.size))=some l:=by
 induction fs generalizing l with
 |nil=>cases l with
  |nil=>rfl
  |cons _ _=>simp[qw] at h
 |cons f fs aY=>cases l with
  |nil=>simp[qw] at h
  |cons p l=>
   obtain⟨d,n⟩:=p
   simp only[qw,Bool.and_eq_true] at h
   obtain⟨⟨⟨aa,af⟩,_⟩,bE⟩:=h
   split at af
   ·rename_i i ay
    have af:=Nat.eq_of_beq_eq_true af
    have aa:=Nat.eq_of_beq_eq_true aa
    simp[List.mapM_cons,ay,aY bE,aa,af]
   ·cases af
theorem Q3 (aX:dP P tt) {T:TypeId} {ps:Array (Nat×Operand)} (av:o.op= .build T ps) (h:match tt.find T with
  |some ti=>match ti.eu,uR K (fun f=>ti.l5[f]?) ps.toList ti.zero with
   | .st,some l=>oH l fun l=>k (.c (.agg l)) bt
   |_,_=>False
  |none=>False):cw P N ids o K B k:=by
 split at h
 ·rename_i ti gK
  obtain⟨i,d,bD⟩:=aX.at_ gK
  obtain⟨z,aS,pP⟩:=bD.zero
  split at h
  ·rename_i l au aB
   rw[yd] at h
   refine cw.of h <| bI.val fun K' B' aa af C ρ F a w az hS=>?_
   obtain⟨fq,nG⟩:=uV (ρ:=ρ) (I:=bS C B' F w) (w:=w) _ _ pP
   obtain⟨q9,f1,f2,f3⟩:=FR (K:=K) hS (l5:=fun f=>ti.l5[f]?) (place:=fun f=>ti.l5[f]?) (fun i d n ay=>ay) ps.toList _ _ _ (fun p hp=>aa p.2 (by rw[av];simp only[Op.operands];simpa using⟨p.1,by simpa using hp⟩)) aB fq nG
   refine⟨.agg (List.toArray q9),?_,q9,rfl,f2⟩
   have Q4:P.built T (ps.toList.map fun p=>(p.1,a.eval p.2))=some (List.toArray q9):=by
    unfold Program.built
    rw[bD.info,bD.und]
    obtain⟨fs,_,hdd⟩:=bD.st au
    have:=Q2 (bD.l5 fs hdd)
    subst hdd
    simp only[aS,this]
    simpa using f1
   unfold execOp
   simp only[av,Sem.run_bind,run_build w T _ _ (show P.built T ((ps.map fun p=>(p.1,a.eval p.2)).toList)=_ by simpa using Q4),Result.andThen_ok]
   rfl
  ·exact h.elim
 ·exact h.elim
end
end Go.Proofs.YteoamepgonpdlaaGreat
set_option linter.unusedVariables false
set_option linter.unusedSimpArgs false
namespace Go.Proofs.YteoamepgonpdlaaGreat
open Go.RowKit
section
variable {P:Program} {tt:c4} {N:Nat} {ids:List Nat} {o:Oper} {K:aQ} {B:aG} {k:aN→fk→Prop}
theorem oL (aX:dP P tt) {T e:Nat} {te:cD} (h:elemOf tt T=some (e,te)):P.underlying T=some (.slice e)∧ ∃i d,lD P e te i d:=by
 unfold elemOf at h
 split at h
 ·rename_i ti gK
  split at h
  ·rename_i e' au
   split at h
   ·rename_i aa1 uW
    injection h with h
    injection h with aa af
    subst aa af
    obtain⟨_,_,bD⟩:=aX.at_ gK
    exact⟨bD.sl au,aX.at_ uW⟩
   ·cases h
  ·cases h
 ·cases h
theorem CL (aX:dP P tt) {T:Nat} (h:isStr tt T=true):P.underlying T=some .string:=by
 unfold isStr at h
 split at h
 ·rename_i ti gK
  split at h
  ·rename_i au
   obtain⟨_,_,bD⟩:=aX.at_ gK
   exact bD.str au
  ·cases h
 ·cases h
theorem wK (aX:dP P tt) {T:Nat} (h:qv tt T=true):P.underlying T=some (.int .u8)∧ ∃ti i d,lD P T ti i d∧ti.zero=[.d (.int .u8 0)]∧ti.size=1∧ti.bytes=1:=by
 unfold qv at h
 split at h
 ·rename_i ti gK
  split at h
  ·rename_i au aS hs ag
   obtain⟨i,d,bD⟩:=aX.at_ gK
   exact⟨bD.int au,ti,i,d,bD,aS,hs,ag⟩
  ·cases h
 ·cases h
def ri (n:Nat) (l:List Value):List Value:=match n with
 |0=>[]
 |n+1=>l++ri n l
theorem Q5 (n:Nat) (l:List Value):(ri n l).length=n*l.length:=by
 induction n with
 |zero=>simp[ri]
 |succ n aY=>simp[ri,aY,Nat.succ_mul,Nat.add_comm]
theorem Q6 (n:Nat) (l:List Value): ∀j,j < n*l.length→(ri n l)[j]? =l[j % l.length]? :=by
 induction n with
 |zero=>intro j ak;simp at ak
 |succ n aY=>
  intro j ak
  unfold ri
  by_cases h:j < l.length
  ·rw[List.getElem?_append_left h,Nat.mod_eq_of_lt h]
  ·rw[List.getElem?_append_right (by omega),aY _ (by rw[Nat.succ_mul] at ak;omega),Nat.mod_eq_sub_mod (a:=j) (by omega)]
theorem Q7 {ρ:Nat→bn} {I:Nat→Prop} {w:World} (n:Nat) {l:List bx} {vs:List Value} (h:bZ ρ I w l vs):bZ ρ I w (Ct n l) (ri n vs):=by
 induction n with
 |zero=>rfl
 |succ n aY=>exact bZ.app _ _ _ _ h aY
theorem Q8 {n:Nat} {l:List Value} {v:Value} (h:v∈ri n l):v∈l:=by
 induction n with
 |zero=>simp[ri] at h
 |succ n aY=>exact(List.mem_append.1 h).elim id aY
theorem Q9 (z:Array Value) (n:Nat) (aS:0 < z.size):(Array.range (n*z.size)).map (z[· % z.size]!)=(ri n z.toList).toArray:=by
 apply Array.ext'
 simp only[Array.toList_map,List.toList_toArray]
 apply List.ext_getElem?
 intro j
 by_cases ak:j < n*z.size
 ·rw[Q6 n z.toList j (by simpa using ak)]
  simp only[Array.length_toList]
  have hm:j % z.size < z.size:=Nat.mod_lt _ aS
  simp[ak,hm]
 ·rw[List.getElem?_eq_none (by simp;omega),List.getElem?_eq_none (by rw[Q5];simp;omega)]
theorem Ra {w:World} {l:List Value} {e:TypeId} {j:Nat} {v:Value} (h:l[j]? =some v):(w.alloc (.cells (List.toArray l) e)).cell? ⟨w.heap.size,j,none⟩=some v:=
 cell_of (T:=e) (heap_alloc_new w _) h
theorem Rb {I:Nat→Prop} {w:World} {u:U} {xs:List (aJ u)} {cs:List Value} {e:TypeId} {cap:Nat} (hr:gA I (w.alloc (.cells (List.toArray cs) e)) u xs cs) (bC:I w.heap.size) (hc:xs.length≤cap) (hm:cap≤maxLen):
  cg I (w.alloc (.cells (List.toArray cs) e)) (.sl u) xs (fun _=>some (.slice (some ⟨w.heap.size,0,none⟩) xs.length cap)):=
 ⟨_,cap,rfl,hc,hm,fun _=>⟨_,0,rfl,bC,fun i x hx=>cg.mono (Ext.refl _ _) u x _ _ (fun j v ak=>by
  simp only[Nat.zero_add]
  exact Ra ak) (hr i x hx)⟩⟩
theorem Ar (w:World) (e s n:Nat) (cs:List Value) (aB:cs.length=n*s) (hm:n≤maxLen):(w.alloc (.cells (List.toArray cs) e)).ownsRow 0 e s (.slice (some ⟨w.heap.size,0,none⟩) n n) n cs:=
 ⟨aB,.inr ⟨_,n,_,rfl,Nat.zero_le _,heap_alloc_new w _,Nat.le_refl _,hm,by simpa using aB,by simp[←aB]⟩⟩
theorem Rc (aX:dP P tt) {T:TypeId} {ps:Array (Nat×Operand)} (av:o.op= .buildSlice T 0 ps) (h:match elemOf tt T,o.dst with
  |some (e,te),some d=>match te.u with
   |some u=>gu ids K B d=true∧k (.c (.one (.own d))) ⟨[],[d],[(d,some (.row e u []))]⟩
   |none=>False
  |_,_=>False) (nH:ps.toList=[]):cw P N ids o K B k:=by
 split at h
 ·rename_i e te d he hd
  obtain⟨hu,inf,ds,bD⟩:=oL aX he
  split at h
  ·rename_i u uW
   refine cw.bu h.2 h.1 <| bI.make (fun d h=>yA h) fun K' B' aa af C ρ F a w az hS hn=>?_
   have Re:ps= #[]:=Array.toList_eq_nil_iff.1 nH
   refine⟨.slice (some ⟨w.heap.size,0,none⟩) 0 0,w.alloc (.cells #[] e),⟨w.heap.size,some ⟨w.heap.size,0,none⟩,0,0⟩,fun b=>b=w.heap.size,?_,tE w _,fun b ag=>by subst ag;exact⟨Nat.le_refl _,by simp⟩,fun I he ag=>⟨⟨?_,?_,[],?_,gA.nil u⟩,?_⟩⟩
   ·subst Re
    simp[execOp,av,Instr.buildSlice,run_underlying hu,sizeOf,typeInfo,bD.info,Instr.fill,newRow]
    rw[show(Array.range 0)= #[] from rfl]
    simp
   ·intro b
    simp[bn.hdr,Value.ownBlock,eq_comm]
   ·intro b ag
    simp[bn.hdr,Value.ownBlock] at ag
    exact ag.symm
   ·exact Ar w e (aM u) 0 [] (by simp) (by decide)
   ·simp only[cj,fS,dI,dN,bn.hdr]
  ·exact h.elim
 ·exact h.elim
theorem Rf (aX:dP P tt) {T n:Nat} {ps:Array (Nat×Operand)} (av:o.op= .buildSlice T n ps) (wL:n≠0) (h:match elemOf tt T with
  |some (_,te)=>match te.u with
   |some u=>match Nat.ble (n*te.size) 1000,uR K (fun i=>some (i*te.size,te.size)) ps.toList (Ct n te.zero) with
    |true,some l=>match wz u n l with
     |some (xs,none)=>k (.c (.one (.d (.cW u xs)))) bt
     |some (xs,some p)=>p∧k (.c (.one (.d (.cW u xs)))) bt
     |none=>n=1∧ ∃y:aJ u,(nt u y∧l=fE u y 0 (aM u))∧k (.c (.one (.d (.cW u [y])))) bt
    |_,_=>False
   |none=>False
  |none=>False):cw P N ids o K B k:=by
 split at h
 ·rename_i e te he
  obtain⟨hu,inf,ds,bD⟩:=oL aX he
  obtain⟨z,aS,pP⟩:=bD.zero
  split at h
  ·rename_i u uW
   split at h
   ·rename_i l hle aB
    have hle:=Nat.le_of_ble_eq_true hle
    have main: ∀xs:List (aJ u),(∀(ρ:Nat→bn) (I:Nat→Prop) (w:World) (vs:List Value),bZ ρ I w l vs→xs.length=n∧vs.length=n*aM u∧gA I w u xs vs)→bI P N ids o K B (.c (.one (.d (.cW u xs)))) bt:=fun xs gV=>bI.new fun K' B' aa af C ρ F a w az hS=>by
     obtain⟨fq,nG⟩:=uV (ρ:=ρ) (I:=bS C B' F w) (w:=w) _ _ pP
     have uO:z.cells.size=inf.size:=by
      have aa:=bZ.length _ _ fq
      simp at aa
      rw[aa,bD.FI,bD.size]
     have oM:0 < inf.size:=by have:=bD.pos;have:=bD.size;omega
     have aa2:aM u=inf.size:=(bD.u u uW).trans bD.size.symm
     obtain⟨vs,f1,f2,f3⟩:=FR (K:=K) hS (l5:=fun i=>some (i*te.size,te.size)) (place:=fun i=>some (i*inf.size,inf.size)) (fun i d n ay=>by rw[bD.size];exact ay) ps.toList _ _ (ri n z.cells.toList)
      (fun p hp=>aa p.2 (by rw[av];simp only[Op.operands];simpa using⟨p.1,by simpa using hp⟩)) aB (Q7 n fq) (fun v hv=>nG v (Q8 hv))
     obtain⟨d1,d2,d3⟩:=gV ρ _ w vs f2
     have ef:=run_buildSlice (P:=P) w T e n (ps.map fun p=>(p.1,a.eval p.2)) (List.toArray vs) inf z hu bD.info aS (by rw[bD.size];omega)
      (by rw[Nat.mul_eq_zero];omega) (by rw[←uO,Q9 z.cells n (by omega),uO];simpa using f1)
     refine⟨.slice (some ⟨w.heap.size,0,none⟩) n n,w.alloc (.cells (List.toArray vs) e),?_,tE w (.cells (List.toArray vs) e),fun I he bC=>?_⟩
     ·unfold execOp
      simp only[av,Sem.run_bind,ef,Result.andThen_ok]
      rfl
     ·have:=Rb (e:=e) (cap:=n) (gA.mono (he) d3) (bC _ (Nat.le_refl _) (by simp)) (by omega) (by simp only[maxLen];have:=Nat.le_mul_of_pos_right n (show 0 < te.size by have:=bD.pos;omega);omega)
      rw[d1] at this
      exact this
    split at h
    ·rename_i xs hd
     exact cw.of h <| main xs fun ρ I w vs hv=>by
      obtain⟨d1,d2,d3,_⟩:=FQ u n l xs none hd trivial vs hv
      exact⟨d1,d2,d3⟩
    ·rename_i xs p hd
     exact cw.of h.2 <| main xs fun ρ I w vs hv=>by
      obtain⟨d1,d2,d3,_⟩:=FQ u n l xs (some p) hd h.1 vs hv
      exact⟨d1,d2,d3⟩
    ·obtain⟨hn,y,⟨hw,gC⟩,h⟩:=h
     subst hn
     refine cw.of h <| main [y] fun ρ I w vs hv=>?_
     subst gC
     refine⟨rfl,by rw[bZ.length _ _ hv,q8,Nat.one_mul],fun i x hx=>?_⟩
     match i with
     |0=>
      simp only[List.getElem?_cons_zero,Option.some.injEq] at hx
      subst hx
      refine cg.mono (Ext.refl _ _) u y _ _ (fun j v ak=>?_) (yx hw hv)
      rw[Nat.zero_mul,Nat.zero_add]
      exact ak
     |i+1=>simp at hx
   ·exact h.elim
  ·exact h.elim
 ·exact h.elim
end
end Go.Proofs.YteoamepgonpdlaaGreat
set_option linter.unusedVariables false
set_option linter.unusedSimpArgs false
namespace Go.Proofs.YteoamepgonpdlaaGreat
open Go.RowKit
section
variable {P:Program} {tt:c4} {N:Nat} {ids:List Nat} {o:Oper} {K:aQ} {B:aG} {k:aN→fk→Prop}
theorem KA {ev:Operand→Value} {T E:TypeId} {x i:Operand} {b q n c s:Nat} {w:World} {m:Int} {inf:TypeInfo} (av:o.op= .indexAddr T x i) (hx:ev x= .slice (some ⟨b,q,none⟩) n c) (ay:ev i= .int .i64 m) (hu:P.underlying T=some (.slice E)) (Rg:P.info? E=some inf) (hs:inf.size=s)
  (aC:0≤m) (au:m.toNat < n):(execOp ev o).run P w= .ok (.value (.pointer (some ⟨b,q+m.toNat*s,none⟩))) w:=by
 subst hs
 have aa:m < (n:Int):=by omega
 simp[execOp,av,hx,ay,Instr.indexAt,asIntOf,run_underlying hu,aC,aa,sizeOf,typeInfo,Rg,ql]
theorem Rh (aX:dP P tt) {T:TypeId} {x i:Operand} (av:o.op= .indexAddr T x i) (h:match elemOf tt T,aU K i with
  |some (_,te),.c (.one (.d (.int .i64 n)))=>match aU K x with
   | .c (.one (.d (.cW u xs)))=>match Nat.beq te.size (aM u) with
    |true=>0≤n∧ ∃y,ff xs n.toNat=some y∧k (.c (.one (.el u y 0))) bt
    |false=>False
   | .c (.one (.own c))=>match ax B c with
    |some (.row _ u xs)=>match Nat.beq te.size (aM u) with
     |true=>(0≤n∧n < xs.length)∧k (.c (.one (.fh c (aM u) n.toNat 0))) ⟨[c],[],[]⟩
     |false=>False
    |_=>False
   |_=>False
  |_,_=>False):cw P N ids o K B k:=by
 have bw:x∈o.op.operands:=by rw[av];simp[Op.operands]
 have bX:i∈o.op.operands:=by rw[av];simp[Op.operands]
 split at h
 ·rename_i e te n he ay
  obtain⟨hu,inf,ds,bD⟩:=oL aX he
  split at h
  ·rename_i u xs hx
   split at h
   ·rename_i hs
    have hs:=Nat.eq_of_beq_eq_true hs
    obtain⟨aC,y,aF,h⟩:=h
    refine cw.of h <| bI.two hx ay bw bX fun K' ρ I a w hS ai aq=>?_
    obtain⟨A,cap,bk,cX,eR,gW⟩:=hS.cW ai
    injection bk with bk
    have bH:=z8 aF
    obtain⟨b,q,rfl,bC,hd⟩:=gW (by omega)
    refine⟨_,KA av bk (hS.int aq) hu bD.info (bD.size.trans hs) aC bH,b,q+n.toNat*aM u,by rw[Nat.add_zero],bC,?_⟩
    refine cg.mono (Ext.refl _ _) u y _ _ (fun j v ak=>?_) (hd _ y aF)
    rw[←ak]
    congr 2
    omega
   ·exact h.elim
  ·rename_i c hx
   split at h
   ·rename_i e' u xs aB
    split at h
    ·rename_i hs
     have hs:=Nat.eq_of_beq_eq_true hs
     obtain⟨⟨aC,aa⟩,h⟩:=h
     refine cw.of h <| bI.val fun K' B' g1 g2 C ρ F a w az hS=>?_
     obtain⟨hF,jb,cs,dF,_⟩:=az.holds c _ ((g2 c (by simp)).trans aB)
     have eB:=hS.own ((g1 x bw).trans hx)
     rcases dF.2 with⟨_,af⟩ |⟨g,cap,cur,hv,_⟩
     ·omega
     ·have ag:=jb g (by rw[hv];rfl)
      refine⟨_,KA av (eB.trans hv) (hS.int ((g1 i bX).trans ay)) hu bD.info (bD.size.trans hs) aC (by omega),?_⟩
      simp only[cj,fS,dI]
      rw[←ag,Nat.zero_add,Nat.add_zero]
    ·exact h.elim
   ·exact h.elim
  ·exact h.elim
 ·exact h.elim
theorem Ri (aX:dP P tt) {T:TypeId} {x i:Operand} (av:o.op= .index T x i) (h:match isStr tt T,aU K x,aU K i with
  |true,.c (.one (.d (.str s))),.c (.one (.d (.int .i64 n)))=>0≤n∧ ∃y,ff s n.toNat=some y∧k (.c (.one (.d (.int .u8 (UInt8.toNat y:Int))))) bt
  |_,_,_=>False):cw P N ids o K B k:=by
 have bw:x∈o.op.operands:=by rw[av];simp[Op.operands]
 have bX:i∈o.op.operands:=by rw[av];simp[Op.operands]
 split at h
 ·rename_i s n cu hx ay
  obtain⟨aC,y,aF,h⟩:=h
  have hu:=CL aX cu
  refine cw.of h <| bI.two hx ay bw bX fun K' ρ I a w hS ai aq=>⟨_,?_,rfl⟩
  have ag:(⟨s.toArray⟩:ByteArray)[n.toNat]? =some y:=by
   have bH:=z8 aF
   have:=(List.getElem?_eq_some_iff.1 aF).2
   rw[getElem?_pos (⟨s.toArray⟩:ByteArray) n.toNat (by rw[wH];exact bH)]
   simp only[Option.some.injEq]
   rw[←this]
   rfl
  simp[execOp,av,hS.str ai,hS.int aq,Instr.index,asIntOf,run_underlying hu,aC,ag]
 ·exact h.elim
theorem FT {K':aQ} {ρ:Nat→bn} {I:Nat→Prop} {a:Act} {w:World} (hS:ei K' ρ I a w) {n cap:Nat} {CM:Bool} {jU ay:Option Operand} {l h:Nat} {p:Prop} (ag:yf n (jU.map (aU K)) (ay.map (aU K))=some (l,h,p)) (hp:p) (hc:n≤cap)
  (aB: ∀x,jU=some x→aU K' x=aU K x) (bM: ∀x,ay=some x→aU K' x=aU K x):
  (Instr.sliceBounds CM n cap (jU.map a.eval) (ay.map a.eval) none).run P w= .ok (l,h,cap) w∧l≤h∧h≤n:=by
 unfold yf at ag
 split at ag
 ·rename_i j aa af
  cases jU with
  |some x=>simp at aa
  |none=>
   cases ay with
   |none=>simp at af
   |some y=>
    simp only[Option.map_some,Option.some.injEq] at af
    simp only[Option.some.injEq,Prod.mk.injEq] at ag
    obtain⟨rfl,rfl,rfl⟩:=ag
    have aF:=hS.int ((bM y rfl).trans af)
    have q:j≤(cap:Int):=by omega
    refine⟨?_,by omega,by omega⟩
    simp[Instr.sliceBounds,Instr.sliceBound,asIntOf,aF,hp.1,q]
 ·rename_i i aa af
  cases jU with
  |none=>simp at aa
  |some x=>
   cases ay with
   |some y=>simp at af
   |none=>
    simp only[Option.map_some,Option.some.injEq] at aa
    simp only[Option.some.injEq,Prod.mk.injEq] at ag
    obtain⟨rfl,rfl,rfl⟩:=ag
    have hx:=hS.int ((aB x rfl).trans aa)
    refine⟨?_,by omega,Nat.le_refl _⟩
    simp[Instr.sliceBounds,Instr.sliceBound,asIntOf,hx,hp.1,hp.2]
 ·rename_i i j aa af
  cases jU with
  |none=>simp at aa
  |some x=>
   cases ay with
   |none=>simp at af
   |some y=>
    simp only[Option.map_some,Option.some.injEq] at aa af
    simp only[Option.some.injEq,Prod.mk.injEq] at ag
    obtain⟨rfl,rfl,rfl⟩:=ag
    have hx:=hS.int ((aB x rfl).trans aa)
    have aF:=hS.int ((bM y rfl).trans af)
    have Rj:0≤j:=by omega
    have q:j≤(cap:Int):=by omega
    have cK:i≤((j.toNat:Nat):Int):=by omega
    refine⟨?_,by omega,by omega⟩
    simp[Instr.sliceBounds,Instr.sliceBound,asIntOf,hx,aF,hp.1,Rj,q,hp.2.1]
    intro bH
    omega
 ·rename_i aa af
  cases jU with
  |some x=>simp at aa
  |none=>
   cases ay with
   |some y=>simp at af
   |none=>
    simp only[Option.some.injEq,Prod.mk.injEq] at ag
    obtain⟨rfl,rfl,rfl⟩:=ag
    refine⟨?_,Nat.zero_le _,Nat.le_refl _⟩
    simp[Instr.sliceBounds]
 ·cases ag
theorem Rk {I:Nat→Prop} {w:World} {u:U} {xs:List (aJ u)} {A:Option Addr} {cap l h:Nat} (hx:cg I w (.sl u) xs (fun _=>some (.slice A xs.length cap))) (aB:l≤h) (bM:h≤xs.length):
  cg I w (.sl u) ((xs.take h).drop l) (fun _=>some (.slice (if cap=l then A else A.map (·.add (l*aM u))) (h - l) (cap - l))):=by
 obtain⟨tD,aa3,e,aa,af,aA⟩:=hx
 injection e with e
 injection e with ai aq bk
 subst ai bk
 have hlen:List.length ((xs.take h).drop l)=h - l:=by rw[List.length_drop,List.length_take];omega
 refine⟨_,_,by rw[hlen],by rw[hlen];omega,by omega,fun oM=>?_⟩
 rw[hlen] at oM
 obtain⟨b,q,rfl,bC,hd⟩:=aA (by omega)
 refine⟨b,q+l*aM u,by rw[if_neg (by omega),Option.map_some,ql],bC,fun i x ay=>?_⟩
 have Rl:ff (α:=aJ u) xs (l+i)=some x:=by
  unfold ff at ay⊢
  rw[List.getElem?_drop,List.getElem?_take] at ay
  split at ay
  ·exact ay
  ·cases ay
 refine cg.mono (Ext.refl _ _) u x _ _ (fun j v ak=>?_) (hd _ x Rl)
 rw[←ak,Nat.add_mul]
 congr 2
 omega
theorem Rm (aX:dP P tt) {T:TypeId} {x:Operand} {jU ay:Option Operand} (av:o.op= .slice T x jU ay none) (h:Fq tt T (aU K x) (jU.map (aU K)) (ay.map (aU K)) k):cw P N ids o K B k:=by
 have bw:x∈o.op.operands:=by rw[av];simp[Op.operands]
 have bX: ∀y,jU=some y→y∈o.op.operands:=fun y aF=>by rw[av];simp[Op.operands,aF]
 have fT: ∀y,ay=some y→y∈o.op.operands:=fun y aF=>by rw[av];simp[Op.operands,aF]
 unfold Fq at h
 split at h
 ·rename_i s hx
  split at h
  ·rename_i l bM p cu ag
   have hu:=CL aX cu
   refine cw.of h.2 <| bI.val fun K' B' aa af C ρ F a w az hS=>⟨_,?_,rfl⟩
   have eB:=hS.str ((aa x bw).trans hx)
   obtain⟨cK,c5,fU⟩:=FT (P:=P) hS (CM:=false) ag h.1 (Nat.le_refl _) (fun y aF=>aa y (bX y aF)) (fun y aF=>aa y (fT y aF))
   rw[←wH s] at cK
   have he:(⟨s.toArray⟩:ByteArray).extract l bM=⟨((s.take bM).drop l).toArray⟩:=by
    have e:=Lib.extract_data ⟨s.toArray⟩ l bM
    cases aS:(⟨s.toArray⟩:ByteArray).extract l bM with
    |mk dd=>
     rw[aS] at e
     simp only at e
     congr 1
     rw[←Array.toArray_toList (xs:=dd),e,List.drop_take]
   rw[←he]
   simp only[execOp,av,Sem.run_bind,Instr.sliceAt,Instr.slice,run_underlying hu,Result.andThen_ok,eB,Option.map_none]
   simp only[Option.isSome_none,Bool.false_eq_true,if_false,Sem.run_bind,Sem.run_pure,Result.andThen_ok,cK]
  ·exact h.elim
 ·rename_i u xs hx
  split at h
  ·rename_i e te l bM p he ag
   obtain⟨hu,inf,ds,bD⟩:=oL aX he
   split at h
   ·rename_i hs
    have hs:=Nat.eq_of_beq_eq_true hs
    refine cw.of h.2 <| bI.val fun K' B' aa af C ρ F a w az hS=>?_
    have hd:=hS.cW ((aa x bw).trans hx)
    have dQ:=hd
    obtain⟨A,cap,bk,cX,eR,gW⟩:=dQ
    injection bk with bk
    rw[bk] at hd
    obtain⟨cK,c5,fU⟩:=FT (P:=P) (w:=w) hS (CM:=true) ag h.1 cX (fun y aF=>aa y (bX y aF)) (fun y aF=>aa y (fT y aF))
    refine⟨_,?_,Rk hd c5 fU⟩
    have aS:(sizeOf e).run P w= .ok (aM u) w:=by simp[sizeOf,typeInfo,bD.info,bD.size,hs]
    simp only[execOp,av,Sem.run_bind,Instr.sliceAt,Instr.slice,run_underlying hu,Result.andThen_ok,bk,Option.map_none,cK,aS,Sem.run_pure]
   ·exact h.elim
  ·exact h.elim
 ·exact h.elim
theorem KB {I:Nat→Prop} {w:World} {s:List UInt8} {v:Value} (h:cg I w (.sl .u8) s (fun _=>some v)) (bC: ∀b,I b→b < w.heap.size): ∃A c,v= .slice A s.length c∧Bytes I w (.slice A s.length c) s:=by
 obtain⟨news,aa,af,aA⟩:=Ks h bC
 have sy:=aa
 obtain⟨aB,A,c,rfl,_⟩:=aa
 have e:news=s.map iC:=by
  apply List.ext_getElem?
  intro i
  rw[List.getElem?_map]
  cases hs:s[i]? with
  |none=>
   have:=List.getElem?_eq_none_iff.1 hs
   rw[List.getElem?_eq_none (by rw[aB];simp[aM];exact this)]
   rfl
  |some x=>
   have:=af i x hs
   have this:news[i*aM .u8+0]? =some (.int .u8 (UInt8.toNat x:Int)):=this
   simpa[aM,iC] using this
 subst e
 exact⟨A,c,rfl,sy⟩
theorem Rn (aX:dP P tt) {S T:TypeId} {x:Operand} (av:o.op= .convert S T x) (h:Fp tt S T (aU K x) B k):cw P N ids o K B k:=by
 have bw:x∈o.op.operands:=by rw[av];simp[Op.operands]
 unfold Fp at h
 split at h
 ·rename_i J6 ti hs cl
  obtain⟨i1,d1,yB⟩:=aX.at_ hs
  obtain⟨i2,d2,sA⟩:=aX.at_ cl
  split at h
  ·rename_i i j Kq n cE ey hx
   split at h
   ·rename_i ak _
    have ak:=nD ak
    subst ak
    refine cw.of h <| bI.one hx bw fun K' ρ I a w hS ai=>⟨_,?_,rfl⟩
    have hv:=hS.int ai
    have hw:IntKind.u8.wrap n=n % 256:=by simp[IntKind.wrap,IntKind.bits,IntKind.signed]
    simp[execOp,av,hv,convert,run_underlying (yB.int cE),run_underlying (sA.int ey),Conv.intToInt,hw]
   ·have h:=wB h
    refine cw.of h.2 <| bI.one hx bw fun K' ρ I a w hS ai=>⟨_,?_,rfl⟩
    have hv:=hS.int ai
    simp[execOp,av,hv,convert,run_underlying (yB.int cE),run_underlying (sA.int ey),Conv.intToInt,ym h.1]
  ·rename_i e s cE ey hx
   split at h
   ·rename_i hu
    obtain⟨qy,_⟩:=wK aX hu
    refine cw.of h.2 <| bI.new fun K' B' aa af C ρ F a w az hS=>?_
    have hv:=hS.str ((aa x bw).trans hx)
    obtain⟨cap,cx,ef,ag,eC⟩:=P8 (P:=P) w S T e ⟨s.toArray⟩ (yB.str cE) (sA.sl ey) qy (by rw[wH];exact h.1)
    rw[wH] at ef ag
    refine⟨.slice (some ⟨w.heap.size,0,none⟩) s.length cap,cx,by simp only[execOp,av,Sem.run_bind,hv,ef,Result.andThen_ok,Sem.run_pure],eC,fun I he bC=>?_⟩
    obtain⟨aB,A,c,ai,aq,bk,cX⟩:=ag
    injection ai with ai rj Ro
    subst ai Ro
    have pQ:s.length≤cap:=by simpa using aq
    refine⟨_,cap,rfl,pQ,bk,fun oM=>?_⟩
    have Rp:0 < s.length:=oM
    obtain⟨b,q,nI,uN,bH,hc⟩:=cX (by simpa using Rp)
    refine⟨b,q,nI,bC b uN bH,fun i y aF=>?_⟩
    have hm:(List.map iC s)[i]? =some (iC y):=by
     rw[List.getElem?_map]
     exact congrArg (Option.map iC) aF
    show cx.cell? ⟨b,q+(i*1+0),none⟩=some (iC y)
    rw[Nat.mul_one,Nat.add_zero]
    exact hc i _ hm
   ·exact h.elim
  ·rename_i e s cE ey hx
   split at h
   ·rename_i hu
    obtain⟨qy,_⟩:=wK aX hu
    refine cw.of h <| bI.val fun K' B' aa af C ρ F a w az hS=>⟨_,?_,rfl⟩
    obtain⟨A,c,hv,ag⟩:=KB (hS.cW ((aa x bw).trans hx)) (fun b ag=>ag.1)
    simp only[execOp,av,Sem.run_bind,hv,JR ag S T e (yB.sl cE) qy (sA.str ey),Result.andThen_ok,Sem.run_pure]
   ·exact h.elim
  ·rename_i e cE ey hx
   split at h
   ·rename_i hu
    obtain⟨qy,_⟩:=wK aX hu
    refine cw.of h <| bI.one hx bw fun K' ρ I a w hS ai=>⟨_,?_,rfl⟩
    have hv:=hS.ee ai
    simp only[execOp,av,Sem.run_bind,hv,run_convert_bytes_nil (P:=P) (w:=w) S e (yB.sl cE) qy 0 0 T (sA.str ey),Result.andThen_ok,Sem.run_pure]
    rfl
   ·exact h.elim
  ·rename_i e c cE ey hx
   split at h
   ·rename_i e' s aB hu
    obtain⟨qy,_⟩:=wK aX hu
    refine cw.of h <| bI.val fun K' B' aa af C ρ F a w az hS=>⟨_,?_,rfl⟩
    have dF:=az.holds c _ ((af c (by simp)).trans aB)
    have hd:=Al dF (I':=fun b=>b < w.heap.size) (fun b ag=>ag.1) (fun b ag=>(az.own c _ ((af c (by simp)).trans aB) b ag).1)
    obtain⟨A,lG,hv,ag⟩:=KB hd (fun b ag=>ag)
    have eB:=hS.own ((aa x bw).trans hx)
    simp only[execOp,av,Sem.run_bind,eB,hv,JR ag S T e (yB.sl cE) qy (sA.str ey),Result.andThen_ok,Sem.run_pure]
   ·exact h.elim
  ·exact h.elim
 ·exact h.elim
theorem Rq (aX:dP P tt) {T:TypeId} {x:Operand} {jU ay:Option Operand} {c:Nat} (av:o.op= .slice T x jU ay none) (hx:aU K x= .c (.one (.own c))) (h:match elemOf tt T,ax B c with
   |some (_,te),some (.row _ u xs)=>match yf xs.length (jU.map (aU K)) (ay.map (aU K)),Nat.beq te.size (aM u) with
    |some (l,h,p),true=>p∧k (.c (.one (.os c (aM u) l (h - l)))) ⟨[c],[],[]⟩
    |_,_=>False
   |_,_=>False):cw P N ids o K B k:=by
 have bw:x∈o.op.operands:=by rw[av];simp[Op.operands]
 have bX: ∀y,jU=some y→y∈o.op.operands:=fun y aF=>by rw[av];simp[Op.operands,aF]
 have fT: ∀y,ay=some y→y∈o.op.operands:=fun y aF=>by rw[av];simp[Op.operands,aF]
 split at h
 ·rename_i e te e' u xs he aB
  obtain⟨hu,inf,ds,bD⟩:=oL aX he
  split at h
  ·rename_i l bM p ag hs
   have hs:=Nat.eq_of_beq_eq_true hs
   refine cw.of h.2 <| bI.val fun K' B' aa af C ρ F a w az hS=>?_
   have eB:=hS.own ((aa x bw).trans hx)
   obtain⟨_,_,cs,dF,_⟩:=az.holds c _ ((af c (by simp)).trans aB)
   obtain⟨_,A,cap,hv,hn,hc,_⟩:=fR.wk dF
   unfold bn.hdr at hv eB
   injection hv with ai aq bk
   rw[aq] at eB
   obtain⟨cK,c5,fU⟩:=FT (P:=P) (w:=w) hS (CM:=true) ag h.1 (by rw[←bk] at hn;exact hn:xs.length≤(ρ c).cap) (fun y aF=>aa y (bX y aF)) (fun y aF=>aa y (fT y aF))
   refine⟨_,?_,rfl⟩
   have aS:(sizeOf e).run P w= .ok (aM u) w:=by simp[sizeOf,typeInfo,bD.info,bD.size,hs]
   simp only[execOp,av,Sem.run_bind,Instr.sliceAt,Instr.slice,run_underlying hu,Result.andThen_ok,eB,Option.map_none,cK,aS,Sem.run_pure]
  ·exact h.elim
 ·exact h.elim
end
end Go.Proofs.YteoamepgonpdlaaGreat
namespace Go.Proofs.YteoamepgonpdlaaGreat
set_option linter.unusedVariables false
set_option linter.unusedSimpArgs false
open Go.RowKit
section
variable {P:Program} {tt:c4} {N:Nat} {ids:List Nat} {o:Oper} {K:aQ} {B:aG} {k:aN→fk→Prop}
theorem Rr {c d:Nat} (h:aN.has d (.c (.one (.mp c)))=true):d=c:=(Nat.eq_of_beq_eq_true h).symm
theorem CN (aX:dP P tt) {T kt et:Nat} (h:wD tt T=some (kt,et)):P.underlying T=some (.map kt et):=by
 unfold wD at h
 split at h
 ·rename_i ti gK
  split at h
  ·rename_i k e au
   obtain⟨_,_,bD⟩:=aX.at_ gK
   injection h with h
   injection h with aa af
   subst aa af
   have:=bD.eu
   rw[au] at this
   rw[bD.und]
   cases hd:‹TypeDesc› <;>simp[hd,su] at this⊢
   exact this
  ·cases h
 ·cases h
theorem FU (aX:dP P tt) {kt:Nat} {aO:U} (h:wE tt kt aO=true): ∃d,P.underlying kt=some d∧nv aO d=true:=by
 unfold wE at h
 split at h
 ·rename_i ti gK
  obtain⟨_,_,bD⟩:=aX.at_ gK
  split at h
  ·rename_i k k' au
   have:=nD h
   subst this
   exact⟨_,bD.int au,by simp[nv]⟩
  ·rename_i au
   exact⟨_,bD.str au,rfl⟩
  ·cases h
 ·cases h
theorem CO: ∀u:U,nt u (dflt u)
 | .int _=>trivial
 | .u8=>trivial
 | .bool=>trivial
 | .str=>trivial
 | .aW=>trivial
 | .dg=>trivial
 | .fn=>trivial
 | .sl _=>trivial
 | .pr u v=>⟨CO u,CO v⟩
 | .arr n u=>⟨List.length_replicate,fun x hx=>by
  have e:x=dflt u:=List.eq_of_mem_replicate hx
  rw[e]
  exact CO u⟩
theorem Rs {ρ:Nat→bn} {I:Nat→Prop} {w:World} {s:bx} {x:D} {v:Value} (h:Cy s x=true) (hv:dI ρ I w s v):Den I w x v:=by
 unfold Cy at h
 split at h
 ·simp only[Bool.and_eq_true,decide_eq_true_eq] at h
  obtain⟨aa,af⟩:=h
  have:=nD aa
  subst this af
  exact hv
 ·exact hv
 ·exact hv
 ·exact hv
 ·rename_i b c
  have:b=c:=by simpa using h
  subst this
  exact hv
 ·rw[show v=_ from hv]
  exact⟨none,0,rfl,Nat.le_refl _,Nat.zero_le _,fun h=>absurd h (Nat.lt_irrefl 0)⟩
 ·cases h
theorem KC: ∀{l m:List bx},ir l m=true→l.length=m.length
 | [],[],_=>rfl
 |s::l,.d x::m,h=>by
  simp only[ir,Bool.and_eq_true] at h
  simp[KC h.2]
 | [],_::_,h=>by simp[ir] at h
 |_::_,[],h=>by simp[ir] at h
 |_::_,.ptr _ _::_,h=>by simp[ir] at h
 |_::_,.own _::_,h=>by simp[ir] at h
 |_::_,.el _ _ _::_,h=>by simp[ir] at h
 |_::_,.fh _ _ _ _::_,h=>by simp[ir] at h
 |_::_,.os _ _ _ _::_,h=>by simp[ir] at h
 |_::_,.mp _::_,h=>by simp[ir] at h
 |_::_,.eH _ _::_,h=>by simp[ir] at h
 |_::_,.ee::_,h=>by simp[ir] at h
 |_::_,.raw _::_,h=>by simp[ir] at h
 |_::_,.any::_,h=>by simp[ir] at h
theorem KD: ∀{l m:List bx},ir l m=true→ ∀(i:Nat) (y:bx),m[i]? =some y→ ∃s x,l[i]? =some s∧y= .d x∧Cy s x=true
 | [],[],_,i,y,aF=>by simp at aF
 |s::l,.d x::m,h,0,y,aF=>by
  simp only[ir,Bool.and_eq_true] at h
  simp only[List.getElem?_cons_zero,Option.some.injEq] at aF
  exact⟨s,x,rfl,aF.symm,h.1⟩
 |s::l,.d x::m,h,i+1,y,aF=>by
  simp only[ir,Bool.and_eq_true] at h
  simpa using KD h.2 i y (by simpa using aF)
 | [],_::_,h,_,_,_=>by simp[ir] at h
 |_::_,[],h,_,_,aF=>by simp at aF
 |_::_,.ptr _ _::_,h,_,_,_=>by simp[ir] at h
 |_::_,.own _::_,h,_,_,_=>by simp[ir] at h
 |_::_,.el _ _ _::_,h,_,_,_=>by simp[ir] at h
 |_::_,.fh _ _ _ _::_,h,_,_,_=>by simp[ir] at h
 |_::_,.os _ _ _ _::_,h,_,_,_=>by simp[ir] at h
 |_::_,.mp _::_,h,_,_,_=>by simp[ir] at h
 |_::_,.eH _ _::_,h,_,_,_=>by simp[ir] at h
 |_::_,.ee::_,h,_,_,_=>by simp[ir] at h
 |_::_,.raw _::_,h,_,_,_=>by simp[ir] at h
 |_::_,.any::_,h,_,_,_=>by simp[ir] at h
theorem Rt (aX:dP P tt) {et:Nat} {aV:U} (h:Cz tt et aV=true) {I:Nat→Prop} {w:World}: ∃z,(zeroValue et).run P w= .ok z w∧kS I w aV (dflt aV) z:=by
 unfold Cz at h
 split at h
 ·rename_i ti gK
  obtain⟨i,d,bD⟩:=aX.at_ gK
  simp only[Bool.and_eq_true,beq_iff_eq,Bool.or_eq_true] at h
  obtain⟨⟨aa,af⟩,aA⟩:=h
  obtain⟨z,aS,pP⟩:=bD.zero
  have hd:=(uV (ρ:=fun _=>⟨0,none,0,0⟩) (I:=I) (w:=w) _ _ pP).1
  have aB:=bZ.length _ _ hd
  have rq:ti.zero.length=aM aV:=(KC aa).trans (q8 aV _ _ _)
  have hs:z.cells.size=aM aV:=by
   rw[←rq,←aB]
   simp
  refine⟨z,by simp[zeroValue,typeInfo,bD.info,aS],hs,⟨fun av=>?_,fun av=>?_⟩,cg.mk _ _ _ (CO aV) fun j ak=>?_⟩
  ·refine bD.Ke z aS ?_
   rw[bD.row,af,av]
   rfl
  ·have:2≤aM aV:=by
    rcases aA with aA |aA
    ·rw[av] at aA;cases aA
    ·exact Nat.le_of_ble_eq_true aA
   cases z with
   |agg cs=>exact⟨cs,rfl⟩
   |_=>simp[Value.cells] at hs;omega
  ·have bl:=yw aV (dflt aV) (aM aV) 0 j ak
   rw[Nat.zero_add] at bl
   obtain⟨s,x,ai,aq,bk⟩:=KD aa j _ bl
   injection aq with aq
   obtain⟨v,cX,eR⟩:=bZ.get _ _ hd j s ai
   exact⟨v,cX,by rw[aq];exact Rs bk eR⟩
 ·cases h
theorem KE {ρ:Nat→bn} {I:Nat→Prop} {w:World} {u:U} {x:aJ u} {v:Value} (av:mQ u=true) (h:kS I w u x v):dI ρ I w (.d (eW u x 0)) v:=by
 obtain⟨aa,af,aA⟩:=h
 have hc:=af.1 av
 have oM:0 < aM u:=by rw[←aa,hc];simp
 obtain⟨v',ai,aq⟩:=cg.cell u x _ 0 aA oM
 rw[hc] at ai
 simp at ai
 subst ai
 exact aq
theorem KF {ρ:Nat→bn} {I:Nat→Prop} {w:World} {u:U} {x:aJ u} {v:Value} (av:mQ u=false) (h:kS I w u x v):fS ρ I w (.agg (fE u x 0 (aM u))) v:=by
 obtain⟨aa,af,aA⟩:=h
 obtain⟨cs,e⟩:=af.2 av
 subst e
 obtain⟨vs,g1,g2⟩:=CI (ρ:=ρ) aA (aM u) 0 (by omega)
 have aB:=bZ.length _ _ g1
 rw[q8] at aB
 have e:vs=cs.toList:=by
  apply List.ext_getElem?
  intro j
  by_cases ak:j < vs.length
  ·obtain⟨v,hv⟩: ∃v,vs[j]? =some v:=⟨_,List.getElem?_eq_getElem ak⟩
   have:=g2 j v hv
   rw[hv,←this]
   simp[Value.cells]
  ·rw[List.getElem?_eq_none (by omega),List.getElem?_eq_none (by simp[Value.cells] at aa;simp;omega)]
 subst e
 exact⟨_,by simp,g1⟩
theorem KG {ρ:Nat→bn} {I:Nat→Prop} {w:World} {u:U} {x:aJ u} {v:Value} (h:kS I w u x v):fS ρ I w (Fu u x) v:=by
 cases u with
 |pr u v=>exact KF rfl h
 |arr n u=>exact KF rfl h
 |_=>exact KE (ρ:=ρ) rfl h
theorem Ru {ρ:Nat→bn} {I:Nat→Prop} {w:World} {u:U} {s:aN} {y:aJ u} {p:Option Prop} (h:Fw u s=some (y,p)) (hp:tJ p) {v:Value} (hv:cj ρ I w s v):kS I w u y v:=by
 unfold Fw at h
 split at h
 ·rename_i v' y'
  split at h
  ·rename_i heq _ av
   subst heq
   injection h with h
   injection h with aa af
   subst aa af
   obtain⟨vs,e,aa,af⟩:=hv
   subst e
   exact⟨by simpa[Value.cells] using aa,⟨fun e=>(by rw[av] at e;cases e),fun _=>⟨_,rfl⟩⟩,by simpa[Value.cells,E6] using af⟩
  ·cases h
 ·rename_i s'
  split at h
  ·rename_i y' jW av hd
   injection h with h
   injection h with aa af
   subst aa af
   obtain⟨nF,sx,ai,aq,bk,cX,eR⟩:=yy u ρ I w _ _ _ _ hd hp [v] ⟨v,[],rfl,hv,rfl⟩
   rw[show sx=[] from cX,List.append_nil] at ai
   subst ai
   have hc:v.cells= #[v]:=by
    have:=eR v (by simp)
    cases v <;>first |rfl |(simp[Value.oneCell'] at this)
   refine⟨by rw[hc,←aq];rfl,⟨fun _=>hc,fun e=>(by rw[av] at e;cases e)⟩,by rw[hc];exact bk⟩
  ·cases h
 ·rename_i l
  split at h
  ·rename_i y' jW av hd
   injection h with h
   injection h with aa af
   subst aa af
   obtain⟨vs,e,hv⟩:=hv
   subst e
   obtain⟨nF,sx,ai,aq,bk,cX,eR⟩:=yy u ρ I w _ _ _ _ hd hp vs hv
   rw[show sx=[] from cX,List.append_nil] at ai
   subst ai
   exact⟨by simpa[Value.cells] using aq,⟨fun e=>(by rw[av] at e;cases e),fun _=>⟨_,rfl⟩⟩,by simpa[Value.cells] using bk⟩
  ·cases h
 ·cases h
theorem CP {ρ:Nat→bn} {I:Nat→Prop} {w:World} {aO:U} {s:aN} {key:aJ aO} (h:yg aO s=some key) {v:Value} (hv:cj ρ I w s v):v=iE aO key:=by
 unfold yg at h
 split at h
 ·split at h
  ·rename_i e
   have:=nD e
   injection h with h
   subst this h
   exact hv
  ·cases h
 ·injection h with h
  subst h
  exact hv
 ·cases h
theorem ei.mp {K':aQ} {ρ:Nat→bn} {I:Nat→Prop} {a:Act} {w:World} {x:Operand} (hS:ei K' ρ I a w) {c:Nat} (h:aU K' x= .c (.one (.mp c))):a.eval x= .map (some (ρ c).bO):=hS.ev h
theorem Rv (aX:dP P tt) {T:TypeId} {x i:Operand} {ok:Bool} (av:o.op= .lookup T x i ok) (h:Fv tt T (aU K x) (aU K i) ok B k):cw P N ids o K B k:=by
 have bw:x∈o.op.operands:=by rw[av];simp[Op.operands]
 have bX:i∈o.op.operands:=by rw[av];simp[Op.operands]
 unfold Fv at h
 split at h
 ·rename_i c hx
  split at h
  ·rename_i aO aV es aB
   split at h
   ·rename_i kt et key cu au
    have main: ∀(v:aN),(wE tt kt aO&&Cz tt et aV)=true→(∀(ρ:Nat→bn) (I:Nat→Prop) (w:World) (u:Value),kS I w aV ((cz es key).getD (dflt aV)) u→cj ρ I w v (if ok then .tuple #[u,.bool (cz es key).isSome] else u))→bI P N ids o K B v ⟨[c],[],[]⟩:=by
     intro v bD hv
     simp only[Bool.and_eq_true] at bD
     obtain⟨d,oN,jk⟩:=FU aX bD.1
     refine bI.val fun K' B' g1 g2 C ρ F a w az hS=>?_
     obtain⟨hF,dM,clock,ag,hm,eA⟩:=az.holds c _ ((g2 c (by simp)).trans aB)
     obtain⟨z,aS,ya⟩:=Rt aX bD.2 (I:=bS C B' F w) (w:=w)
     obtain⟨u,hr,hu⟩:=JZ (P:=P) (CN aX cu) oN jk ag hm aS ya key ok
     have ai:=hS.mp ((g1 x bw).trans hx)
     have aq:a.eval i=iE aO key:=CP au (hS.ev (g1 i bX))
     exact⟨_,by simp only[execOp,av,Sem.run_bind,ai,aq,hr,Result.andThen_ok,Sem.run_pure],hv ρ _ w u hu⟩
    split at h
    ·rename_i bD
     rw[Cn] at h
     refine cw.of h (main _ bD fun ρ I w u hu=>?_)
     exact⟨[u,.bool (cz es key).isSome],rfl,u,_,rfl,KG hu,_,_,rfl,rfl,rfl⟩
    ·rename_i bD
     rw[Cn] at h
     exact cw.of h (main _ bD fun ρ I w u hu=>KG hu)
    ·exact h.elim
   ·exact h.elim
  ·exact h.elim
 ·exact h.elim
theorem Au {w:World} {b:Nat} {Rw:Obj} {S:Nat→Prop} (hS:S b):Fr S w {w with heap:=w.heap.setIfInBounds b Rw}:=
 ⟨rfl,rfl,rfl,by simp,fun j _ hn=>by simp only[];rw[Array.getElem?_setIfInBounds_ne (fun e=>hn (by rw[←e];exact hS))]⟩
theorem Rx (aX:dP P tt) {T:TypeId} {x i v:Operand} (av:o.op= .mapUpdate T x i v) (h:Fx tt T (aU K x) (aU K i) (aU K v) B k):cw P N ids o K B k:=by
 have bw:x∈o.op.operands:=by rw[av];simp[Op.operands]
 have bX:i∈o.op.operands:=by rw[av];simp[Op.operands]
 have fT:v∈o.op.operands:=by rw[av];simp[Op.operands]
 unfold Fx at h
 split at h
 ·rename_i c hx
  split at h
  ·rename_i aO aV es aB
   split at h
   ·rename_i kt et key cu au
    have main: ∀y:aJ aV,wE tt kt aO=true→(∀(ρ:Nat→bn) (I:Nat→Prop) (w:World) (u:Value),cj ρ I w (aU K v) u→kS I w aV y u)→bI P N ids o K B .undef ⟨[c],[],[(c,some (.map aO aV (gI es key y)))]⟩:=fun y bD hv=>by
     obtain⟨d,oN,jk⟩:=FU aX bD
     refine bI.jV aB fun K' B' g1 C ρ F a w az hS gC=>?_
     obtain⟨hF,dM,clock,ag,hm,eA⟩:=az.holds c _ gC
     have ai:=hS.mp ((g1 x bw).trans hx)
     have aq:a.eval i=iE aO key:=CP au (hS.ev (g1 i bX))
     have bk:kS _ _ aV y (a.eval v):=hv _ _ _ _ (hS.ev (g1 v fT))
     obtain⟨iF,nw,hr,gL,tO⟩:=E3 (P:=P) (CN aX cu) oN jk ag hm eA key bk
     have bH:=(Array.getElem?_eq_some_iff.1 ag).1
     refine⟨{w with heap:=w.heap.setIfInBounds (ρ c).bO (.map (List.toArray iF) nw)},by simp only[execOp,av,Sem.run_bind,ai,aq,hr,Result.andThen_ok,Sem.run_pure],Au ((hF _).2 rfl),fun I bA=>⟨hF,iF,nw,by simp[bH],gL.mono bA,tO⟩⟩
    split at h
    ·rename_i y p bD hv
     exact cw.of h.2 (main y bD fun ρ I w u hu=>Ru hv h.1 hu)
    ·rename_i bD _
     split at h
     ·rename_i l hv q7
      obtain⟨y,⟨hw,gC⟩,h⟩:=h
      refine cw.of h (main y bD fun ρ I w u hu=>?_)
      rw[hv] at hu
      obtain⟨vs,e,hd⟩:=hu
      subst e gC
      exact⟨by simpa[Value.cells,q8] using bZ.length _ _ hd,⟨fun e=>(by rw[q7] at e;cases e),fun _=>⟨_,rfl⟩⟩,by simpa[Value.cells] using yx hw hd⟩
     ·exact h.elim
    ·exact h.elim
   ·exact h.elim
  ·exact h.elim
 ·exact h.elim
theorem bI.Ry {c:Nat} {cr ch:bF} (hc:ax B c=some cr)
  (h: ∀(K':aQ) (B':aG),(∀x,x∈o.op.operands→aU K' x=aU K x)→ ∀(C:Ctx) (ρ:Nat→bn) (F:Nat→Nat→Prop) (a:Act) (w:World),Mem ids C B' ρ F w→ei K' ρ (bS C B' F w) a w→ax B' c=some cr→ ∃w',(execOp a.eval o).run P w= .ok (.value (.tuple #[])) w'∧Fr (F c) w w'∧
   (∀I,Ext (bS C B' F w) w I w'→Holds ρ I (F c) w' (ρ c) ch)):
  bI P N ids o K B (.c8 []) ⟨[c],[],[(c,some ch)]⟩:=by
 rintro K' B' aa af - C a w ⟨hn,hd,ρ,F,az,hS⟩ bH fl Q hK
 have dw:ax B' c=some cr:=(af c (by simp)).trans hc
 obtain⟨w',hx,cv,eo⟩:=h K' B' aa C ρ F a w az hS dw
 obtain⟨bT,he⟩:=az.jV dw cv eo
 unfold Oper.wp
 rw[hx,Oper.upon_value]
 exact hK _ _ ⟨lz.trans hn,put_defers.trans hd,ρ,F,bT,(hS.mono he fun _ _ _=>rfl).lB (fun e he=>by rw[hn];exact bH e he) ⟨[],rfl,rfl⟩⟩
theorem Rz (aX:dP P tt) {T eG:TypeId} {x i:Operand} {c:Call} (av:o.op= .call c) (fF:c.callee= .builtin .delete) (dz:c.args.toList=[x,i]) (jX:c.argTypes.toList=[T,eG]) (h:Fy tt T (aU K x) (aU K i) B k):cw P N ids o K B k:=by
 have fL:c.args= #[x,i]:=Array.toList_inj.1 dz
 have iG:c.argTypes= #[T,eG]:=Array.toList_inj.1 jX
 obtain⟨sB,args,ts⟩:=c
 simp only at fF fL iG
 subst fF fL iG
 have bw:x∈o.op.operands:=by rw[av];simp[Op.operands,Call.operands]
 have bX:i∈o.op.operands:=by rw[av];simp[Op.operands,Call.operands]
 unfold Fy at h
 split at h
 ·rename_i c hx
  split at h
  ·rename_i aO aV es aB
   split at h
   ·rename_i kt et key cu au
    split at h
    ·rename_i bD
     obtain⟨d,oN,jk⟩:=FU aX bD
     refine cw.of h <| bI.Ry aB fun K' B' g1 C ρ F a w az hS gC=>?_
     obtain⟨hF,dM,clock,ag,hm,eA⟩:=az.holds c _ gC
     have ai:=hS.mp ((g1 x bw).trans hx)
     have aq:a.eval i=iE aO key:=CP au (hS.ev (g1 i bX))
     obtain⟨iF,hr,gL,tO⟩:=J4 (P:=P) (ty:=o.type) (CN aX cu) oN jk ag hm eA key eG
     have bH:=(Array.getElem?_eq_some_iff.1 ag).1
     refine⟨{w with heap:=w.heap.setIfInBounds (ρ c).bO (.map (List.toArray iF) clock)},?_,Au ((hF _).2 rfl),fun I bA=>⟨hF,iF,clock,by simp[bH],gL.mono bA,tO⟩⟩
     simp[execOp,av,resolve,invoke,builtin,ai,aq,hr]
    ·exact h.elim
   ·exact h.elim
  ·exact h.elim
 ·exact h.elim
theorem lD.arr {T:Nat} {ti:cD} {i:TypeInfo} {d:TypeDesc} (h:lD P T ti i d) {n e:Nat} (au:ti.eu= .arr n e):P.underlying T=some (.array n e):=by
 have:=h.eu
 rw[au] at this
 rw[h.und]
 cases d <;>simp[su] at this⊢
 exact this
theorem RA (aX:dP P tt) {T:TypeId} {x:Operand} (av:o.op= .sliceToArrayPointer T x) (h:FB tt T (aU K x) k):cw P N ids o K B k:=by
 have bw:x∈o.op.operands:=by rw[av];simp[Op.operands]
 unfold FB at h
 split at h
 ·rename_i ti v xs gK hx
  obtain⟨i,d,bD⟩:=aX.at_ gK
  split at h
  ·rename_i n e au
   obtain⟨⟨aC,hle⟩,h⟩:=h
   have hu:=bD.arr au
   refine cw.of h <| bI.one hx bw fun K' ρ I a w hS ai=>?_
   obtain⟨A,cap,bk,cX,eR,gW⟩:=hS.cW ai
   injection bk with bk
   obtain⟨b,q,rfl,bC,hd⟩:=gW (by omega)
   refine⟨.pointer (some ⟨b,q,none⟩),?_,b,q,rfl,bC,by simp;omega,fun i z aS=>?_⟩
   ·have: ¬List.length xs < n:=by omega
    simp[execOp,av,bk,Instr.arrayAt,run_underlying hu,this]
   ·have lH:ff (α:=aJ v) xs i=some z:=by
     unfold ff at aS⊢
     rw[List.getElem?_take] at aS
     split at aS
     ·exact aS
     ·cases aS
    exact hd i z lH
  ·exact h.elim
 ·exact h.elim
theorem RB (aX:dP P tt) {T:TypeId} {x:Operand} {c:Nat} (av:o.op= .slice T x none none none) (hx:aU K x= .c (.one (.ptr c 0))) (h:FA tt T c B k):cw P N ids o K B k:=by
 have bw:x∈o.op.operands:=by rw[av];simp[Op.operands]
 unfold FA at h
 split at h
 ·rename_i ti gK
  obtain⟨i,d,bD⟩:=aX.at_ gK
  split at h
  ·rename_i n e m v au _
   have hu:=bD.arr au
   split at h
   ·rename_i te l hn uW aB
    simp only[Bool.and_eq_true,Nat.beq_eq,Nat.ble_eq,Nat.blt_eq] at hn
    obtain⟨⟨_,uX⟩,wL⟩:=hn
    obtain⟨sr,tP,RC⟩:=aX.at_ uW
    obtain⟨ys,⟨hw,gC⟩,h⟩:=h
    refine cw.of h ?_
    rintro K' B' aa af - C a w ⟨pR,hdd,ρ,F,az,hS⟩ bH fl Q hK
    have FV:ax B' c=some (.cells l):=(af c (by simp)).trans aB
    obtain⟨hF,vs,eG,ag,hd⟩:=az.holds c _ FV
    have ai:=hS.ptr ((aa x bw).trans hx)
    subst gC
    have RD:=yx hw hd
    have bf:n≠0:=by omega
    have ef:(execOp a.eval o).run P w= .ok (.value (.slice (some ⟨(ρ c).bO,0,none⟩) n n)) w:=by
     simp[execOp,av,ai,Instr.sliceAt,run_underlying hu,Instr.sureAddr,Instr.sliceBounds,sizeOf,typeInfo,RC.info,bf,ql]
    obtain⟨bT,bA⟩:=az.step (B':=g8 B' c) (ρ':=ρ) (F':=F) (w':=w) (fun d=>d=c) (fun _=>False) (Fr.refl _ w) (fun d ch hd bf=>by
      rw[jR,if_neg (fun e=>bf e.symm)] at hd
      exact hd) (fun _ _=>rfl) (fun _ _=>rfl) (fun _ _ h=>h) (fun _ h=>h.elim) (fun _ _ _ _ _ _ h=>h)
     (fun d ch hd az _=>by subst az;rw[jR,if_pos rfl] at hd;cases hd)
     (fun d ch hd az=>by subst az;rw[jR,if_pos rfl] at hd;cases hd)
     (fun d d' ch bg b hd _ az=>by subst az;rw[jR,if_pos rfl] at hd;cases hd)
    have oO:=(hF (ρ c).bO).2 rfl
    have bC:bS C (g8 B' c) F w (ρ c).bO:=by
     obtain⟨cK,c5⟩:=az.own c _ FV _ oO
     refine⟨cK,?_,fun d ch hd dm=>?_⟩
     ·rcases c5 with c5 |c5
      ·exact .inr (.inl c5)
      ·exact .inr (.inr c5)
     ·rw[jR] at hd
      split at hd
      ·cases hd
      ·rename_i bf
       exact az.e4 c d _ ch _ FV hd bf oO dm
    unfold Oper.wp
    rw[ef,Oper.upon_value]
    refine hK _ _ ⟨lz.trans pR,put_defers.trans hdd,ρ,F,bT,(hS.mono bA fun _ _ _=>rfl).lB (fun e he=>by rw[pR];exact bH e he) ?_⟩
    have hlen:List.length ys=n:=hw.1
    refine⟨_,n,by rw[hlen],by omega,by simp only[maxLen];omega,fun _=>⟨_,0,rfl,bC,fun j z aS=>?_⟩⟩
    refine cg.mono bA v z _ _ (fun q y bh=>?_) (RD.2 j z aS)
    rw[Nat.zero_add]
    exact cell_of ag bh
   ·exact h.elim
  ·exact h.elim
 ·exact h.elim
theorem RE (aX:dP P tt) {T:TypeId} (av:o.op= .makeMap T none) (h:Fz tt T o.dst ids K B k):cw P N ids o K B k:=by
 unfold Fz at h
 split at h
 ·rename_i kt et d cu hd
  split at h
  ·rename_i J7 sr aa4 aa5
   split at h
   ·rename_i aO aV _ _
    refine cw.bu h.2 h.1 <| bI.make (fun d h=>Rr h) fun K' B' g1 g2 C ρ F a w az hS hn=>?_
    refine⟨.map (some w.heap.size),w.alloc (.map #[] 0),⟨w.heap.size,none,0,0⟩,fun b=>b=w.heap.size,by simp only[execOp,av,Option.map_none,Sem.run_bind,Qq,Result.andThen_ok,Sem.run_pure],tE w _,fun b ag=>by subst ag;exact⟨Nat.le_refl _,by simp⟩,fun I he ag=>⟨⟨fun b=>Iff.rfl,[],0,EV _ rfl,rfl,⟨by simp,fun e he=>by cases he⟩⟩,?_⟩⟩
    simp only[cj,fS,dI,dN]
   ·exact h.elim
  ·exact h.elim
 ·exact h.elim
end
end Go.Proofs.YteoamepgonpdlaaGreat
