/-
Part 15 of the proof that stands in YteoamepgonpdlaaGreatPbRow, with what it needs from the parts ahead; the parts of this text: Rx, Qf, Lz, Qg, Rr, Qh.
-/
import Derived.Test.YteoamepgonpdlaaGreatPb14
namespace Go.Proofs.YteoamepgonpdlaaGreat
set_option linter.unusedVariables false
set_option linter.unusedSimpArgs false
set_option maxRecDepth 10000
open Go.RowKit Go.Proofs
section
variable {P:Program} {ids:List Nat} {K:aQ} {B:aG}
theorem X7 {o:Oper} {T:TypeId} {x v:Operand} {c i off:Nat} {e:TypeId} {u:U} {xs:List (aJ u)} {y y':aJ u} {Eu:D} {inf:TypeInfo} (av:o.op= .store T x v) (ay:P.info? T=some inf) (aS:inf.size=1) (hx:aU K x= .c (.one (.fh c (aM u) i off)))
  (hv:aU K v= .c (.one (.d Eu))) (eA:ax B c=some (.row e u xs)) (aF:ff xs i=some y) (xE:off < aM u) (Ba:nt u y') (hc: ∀j,j < aM u→eW u y' j=if j=off then Eu else eW u y j)
  (aa: ∀{I:Nat→Prop} {w:World} {z:Value},Den I w Eu z→z.cells=List.toArray [z]∧z.oneCell'=true) (N:Nat):
  bI P N ids o K B .undef ⟨[c],[],[(c,some (.row e u (xs.set i y')))]⟩:=by
 have bw:x∈o.op.operands:=by rw[av];simp[Op.operands]
 have bX:v∈o.op.operands:=by rw[av];simp[Op.operands]
 have BL:i < xs.length:=z8 aF
 refine bI.jV eA fun K' B' g1 C ρ F a w az hS gC=>?_
 obtain⟨hF,jb,cs,dF,kU⟩:=az.holds c _ gC
 have Ap:=hS.fh ((g1 x bw).trans hx)
 have aq:Den (bS C B' F w) w Eu (a.eval v):=hS.ev ((g1 v bX).trans hv)
 obtain⟨d1,d2⟩:=aa aq
 obtain⟨q4,dF⟩:=dF
 rcases dF with⟨_,aC⟩ |⟨g,cap,cur,mT,_,bl,wI,hm,ek,cl⟩
 ·omega
 ·have Aq:g=(ρ c).bO:=jb g (by rw[mT];rfl)
  subst Aq
  have hmul:i*aM u+off < xs.length*aM u:=by
   have:=Nat.mul_le_mul_right (aM u) BL
   rw[Nat.succ_mul] at this
   omega
  have XG:xs.length*aM u≤cap*aM u:=Nat.mul_le_mul_right _ wI
  have tN:w.heap[(ρ c).bO]? =some (.cells (List.toArray cur.toList) e (0,0)):=by simpa using bl
  have nE:i*aM u+off+ [a.eval v].length≤cur.toList.length:=by simp;omega
  have hex:=yu (P:=P) (ev:=a.eval) (w:=w) av Ap d1 ay aS tN nE (by simpa using d2)
  refine⟨_,hex,Am ((hF _).2 (by rw[mT];rfl)),fun I he=>?_⟩
  have j7:=setRow_heap w (ρ c).bO cur (List.take (i*aM u+off) cur.toList++[a.eval v]++List.drop (i*aM u+off+ [a.eval v].length) cur.toList).toArray e (0,0) bl
  have iM:(List.take (i*aM u+off) cur.toList++[a.eval v]++List.drop (i*aM u+off+ [a.eval v].length) cur.toList)=cur.toList.set (i*aM u+off) (a.eval v):=by
   rw[List.set_eq_take_append_cons_drop,if_pos (by simp;omega)]
   simp
  rw[iM] at j7
  refine⟨hF,jb,cs.set (i*aM u+off) (a.eval v),⟨by simp[q4],.inr ⟨(ρ c).bO,cap,_,by rw[mT];simp,Nat.zero_le _,by rw[iM];exact j7,by simpa using wI,hm,by simp[ek],?_⟩⟩,fun j z aS=>?_⟩
  ·rw[←cl]
   simp[List.take_set]
  ·by_cases l8:i=j
   ·subst l8
    rw[List.getElem?_set_self BL] at aS
    injection aS with aS
    subst aS
    have hd:=kU i y aF
    refine cg.mk u y' _ Ba fun q bh=>?_
    rw[hc q bh]
    by_cases AS:q=off
    ·rw[if_pos AS]
     subst AS
     exact⟨a.eval v,by rw[List.getElem?_set_self (by omega)],Den.mono he _ _ aq⟩
    ·rw[if_neg AS]
     obtain⟨x,hx,wJ⟩:=cg.cell u y _ q hd bh
     exact⟨x,by rw[List.getElem?_set_ne (by omega)];exact hx,Den.mono he _ _ wJ⟩
   ·rw[List.getElem?_set_ne l8] at aS
    have hd:=kU j z aS
    refine cg.mk u z _ (cg.wf u z _ hd) fun q bh=>?_
    obtain⟨x,hx,wJ⟩:=cg.cell u z _ q hd bh
    refine⟨x,?_,Den.mono he _ _ wJ⟩
    rw[List.getElem?_set_ne ?_]
    ·exact hx
    ·intro e
     have aa:(i*aM u+off)/aM u=i:=by rw[Nat.mul_comm,Nat.mul_add_div (by omega),Nat.div_eq_of_lt xE,Nat.add_zero]
     have af:(j*aM u+q)/aM u=j:=by rw[Nat.mul_comm,Nat.mul_add_div (by omega),Nat.div_eq_of_lt bh,Nat.add_zero]
     rw[e,af] at aa
     exact l8 aa.symm
end
theorem X8 {I:Nat→Prop} {w:World} {n:Int} {z:Value} (h:Den I w (.int .i64 n) z):z.cells=List.toArray [z]∧z.oneCell'=true:=by
 have h:z= .int .i64 n:=h
 subst h
 exact⟨rfl,rfl⟩
theorem X9:(Tryz.prog.info? 3).map (·.size)=some 1:=by kernel_rfl
@[reducible] def iY:U:=.pr c7 (.pr c7 c7)
abbrev gQ:=Int×Int×Int
def nh (l:List gQ):Int:=match l.getLast? with
 |none=>0
 |some x=>x.1+x.2.1
def nZ (l:List gQ) (n k:Int):List gQ:=if n < 1 then l else match l.getLast? with
 |some x=>if x.2.2=k then l.set (l.length - 1) (x.1,x.2.1+n,x.2.2) else l++[(nh l,n,k)]
 |none=>l++[(nh l,n,k)]
theorem Ev {α:Type} {l:List α} {x:α} (h:l.getLast? =some x):0 < l.length∧ff l (l.length - 1)=some x:=by
 rw[List.getLast?_eq_getElem?] at h
 exact⟨by have:=(List.getElem?_eq_some_iff.1 h).1;omega,h⟩
theorem Ou {α:Type} {l:List α} (h:l.getLast? =none):l=[]:=by simpa using h
theorem Ya (l:List gQ) (ag: ∀x,l.getLast? =some x→ -4611686018427387904≤x.1∧x.1≤4611686018427387903∧ -4611686018427387904≤x.2.1∧x.2.1≤4611686018427387903) (aB:l.length≤4294967296):
  Fn Tryz.prog 131 [iL 1001] [(1001,.row 114 iY l)] [] (aD (nh l)) [(1001,.row 114 iY l)]:=by
 refine Fn.of aj [] _ _ _ _ _ Tryz.func131 rfl rfl (by kernel_rfl) (by kernel_rfl) rfl (aK aj) rfl ?_
 refine⟨fun h=>?_,fun h=>?_⟩
 ·have h:((l.length:Nat):Int)=0:=of_decide_eq_true h
  have aC:l=[]:=List.length_eq_zero_iff.1 (by omega)
  subst aC
  exact⟨_,_,_,ah.refl _ _,rfl,rfl,⟨rfl,trivial⟩,rfl⟩
 ·have h: ¬((l.length:Nat):Int)=0:=of_decide_eq_false h
  cases hx:l.getLast? with
  |none=>rw[Ou hx] at h;exact absurd rfl h
  |some x=>
   have ag:=ag x hx
   obtain⟨aC,bl⟩:=Ev hx
   have e:(((l.length:Nat):Int) - 1).toNat=l.length - 1:=by omega
   have m:(-9223372036854775808:Int)≤((l.length:Nat):Int) - 1∧((l.length:Nat):Int) - 1≤9223372036854775807:=by omega
   have bX:(0:Int)≤((l.length:Nat):Int) - 1∧(((l.length:Nat):Int) - 1).toNat < l.length:=by omega
   have fT:(-9223372036854775808:Int)≤x.1+x.2.1∧x.1+x.2.1≤9223372036854775807:=by omega
   have um:ff l (((l.length:Nat):Int) - 1).toNat=some x:=by rw[e];exact bl
   refine⟨m,⟨bX.1,by omega⟩,x,um,m,⟨bX.1,by omega⟩,x,um,fT,rfl,?_⟩
   exact⟨_,_,_,ah.refl _ _,rfl,(show x.1+x.2.1=nh l by unfold nh;rw[hx]),⟨rfl,trivial⟩,rfl⟩
theorem Yb (l:List gQ) (n k:Int) (ag: ∀x,l.getLast? =some x→ -4611686018427387904≤x.1∧x.1≤4611686018427387903∧ -4611686018427387904≤x.2.1∧x.2.1≤4611686018427387903) (hn:n≤4611686018427387903) (aB:l.length≤1000000000):
  Fn Tryz.prog 106 [iL 1001,aD n,aD k] [(1001,.row 114 iY l)] [1002] (iL 1002) [(1002,.row 114 iY (nZ l n k))]:=by
 obtain⟨ii,Yc,Yd⟩:=m0 X9
 have pE:=Ya l ag (by omega)
 refine Fn.of aj [] _ _ _ _ _ Tryz.func106 rfl rfl (by kernel_rfl) (by kernel_rfl) rfl (aK aj) rfl ?_
 refine⟨fun h=>?_,fun h=>?_⟩
 ·have h:n < 1:=of_decide_eq_true h
  have e:nZ l n k=l:=if_pos h
  exact⟨_,_,_,ah.ren 1001 1002 rfl,rfl,rfl,⟨congrArg (fun z:List gQ=>some (bF.row 114 iY z)) e.symm,trivial⟩,rfl⟩
 have h: ¬n < 1:=of_decide_eq_false h
 have m:(-9223372036854775808:Int)≤((l.length:Nat):Int) - 1∧((l.length:Nat):Int) - 1≤9223372036854775807:=by omega
 refine⟨m,?_⟩
 cases hx:l.getLast? with
 |none=>
  have aC:=Ou hx
  subst aC
  refine⟨fun af=>absurd af (by decide),fun _=>?_⟩
  refine⟨_,_,_,_,pE,⟨rfl,trivial⟩,rfl,?_⟩
  refine⟨(show(0+1:Nat)≤4294967296 from by decide),rfl,?_⟩
  have e:nZ [] n k=[(nh [],n,k)]:=by unfold nZ;rw[if_neg h];rfl
  exact⟨_,_,_,ah.ren 42 1002 rfl,rfl,rfl,⟨congrArg (fun z:List gQ=>some (bF.row 114 iY z)) e.symm,trivial⟩,rfl⟩
 |some x=>
  have ag:=ag x hx
  obtain⟨aC,bl⟩:=Ev hx
  have e:(((l.length:Nat):Int) - 1).toNat=l.length - 1:=by omega
  have um:ff l (((l.length:Nat):Int) - 1).toNat=some x:=by rw[e];exact bl
  have bX:(0:Int)≤((l.length:Nat):Int) - 1∧((l.length:Nat):Int) - 1 < l.length:=by omega
  refine⟨fun _=>?_,fun af=>?_⟩
  ·refine⟨bX,x,um,?_⟩
   refine⟨fun au=>?_,fun au=>?_⟩
   ·have au:x.2.2=k:=of_decide_eq_true au
    have fT:(-9223372036854775808:Int)≤x.2.1+n∧x.2.1+n≤9223372036854775807:=by omega
    refine⟨bX,x,um,fT,bX,?_⟩
    refine⟨_,_,fun N=>X7 (u:=iY) (y:=x) (y':=((x.1,x.2.1+n,x.2.2):gQ)) (off:=1) rfl Yc Yd rfl rfl rfl um (by decide) ⟨trivial,trivial,trivial⟩ (fun j ak=>?_) X8 N,rfl,?_⟩
    ·match j,ak with
     |0,_=>rfl
     |1,_=>rfl
     |2,_=>rfl
    have aq:nZ l n k=l.set (((l.length:Nat):Int) - 1).toNat (x.1,x.2.1+n,x.2.2):=by
     unfold nZ
     rw[if_neg h,hx,e]
     show(if x.2.2=k then _ else _)=_
     rw[if_pos au]
    exact⟨_,_,_,ah.ren 1001 1002 rfl,rfl,rfl,⟨congrArg (fun z:List gQ=>some (bF.row 114 iY z)) aq.symm,trivial⟩,rfl⟩
   ·have au: ¬x.2.2=k:=of_decide_eq_false au
    refine⟨_,_,_,_,pE,⟨rfl,trivial⟩,rfl,?_⟩
    have kK:List.length (α:=gQ) l+1≤4294967296:=by omega
    refine⟨kK,rfl,?_⟩
    have aq:nZ l n k=l++[(nh l,n,k)]:=by
     unfold nZ
     rw[if_neg h,hx]
     show(if x.2.2=k then _ else _)=_
     rw[if_neg au]
    exact⟨_,_,_,ah.ren 42 1002 rfl,rfl,rfl,⟨congrArg (fun z:List gQ=>some (bF.row 114 iY z)) aq.symm,trivial⟩,rfl⟩
  ·have af: ¬((l.length:Nat):Int) - 1≥0:=of_decide_eq_false af
   omega
def ig (ks:List Int):List gQ:=ks.foldl (fun l k=>nZ l 1 k) []
structure xX (ks:List Int) (l:List gQ):Prop where
 end_:nh l=(ks.length:Int)
 each: ∀x,x∈l→0≤x.1∧1≤x.2.1∧x.1+x.2.1≤(ks.length:Int)∧ ∀k:Nat,x.1≤(k:Int)→(k:Int) < x.1+x.2.1→ks[k]? =some x.2.2
 len:l.length≤ks.length
theorem Ov (l:List gQ) (x:gQ):nh (l++[x])=x.1+x.2.1:=by
 unfold nh
 rw[List.getLast?_concat]
theorem xX.add {ks:List Int} {l:List gQ} (h:xX ks l) (k:Int):xX (ks++[k]) (nZ l 1 k):=by
 have hold: ∀x,x∈l→0≤x.1∧1≤x.2.1∧x.1+x.2.1≤((ks++[k]).length:Int)∧ ∀j:Nat,x.1≤(j:Int)→(j:Int) < x.1+x.2.1→(ks++[k])[j]? =some x.2.2:=fun x hx=>by
  obtain⟨aa,af,aA,bE⟩:=h.each x hx
  refine⟨aa,af,by rw[List.length_append];simp;omega,fun j ju fJ=>?_⟩
  rw[List.getElem?_append_left (by omega)]
  exact bE j ju fJ
 have j7:xX (ks++[k]) (l++[(nh l,1,k)]):=by
  refine⟨?_,fun x hx=>?_,by simp;exact h.len⟩
  ·rw[Ov,h.end_,List.length_append]
   simp
  ·rcases List.mem_append.1 hx with hx |hx
   ·exact hold x hx
   ·rw[List.mem_singleton] at hx
    subst hx
    refine⟨by show 0≤nh l;rw[h.end_];omega,(show(1:Int)≤1 from by decide),by show nh l+1≤_;rw[h.end_,List.length_append];simp,fun j ju fJ=>?_⟩
    have ju:nh l≤(j:Int):=ju
    have fJ:(j:Int) < nh l+1:=fJ
    rw[h.end_] at ju fJ
    have:j=ks.length:=by omega
    subst this
    rw[List.getElem?_append_right (Nat.le_refl _)]
    simp
 unfold nZ
 rw[if_neg (by decide)]
 cases hx:l.getLast? with
 |none=>exact j7
 |some x=>
  simp only
  split
  ·rename_i au
   obtain⟨aC,bl⟩:=Ev hx
   have Ye:x∈l:=List.mem_of_getElem? bl
   have pE:x.1+x.2.1=(ks.length:Int):=by have:=h.end_;unfold nh at this;rw[hx] at this;exact this
   obtain⟨aa,af,aA,bE⟩:=h.each x Ye
   refine⟨?_,fun y aF=>?_,by rw[List.length_set,List.length_append];have:=h.len;omega⟩
   ·unfold nh
    rw[List.getLast?_eq_getElem?,List.length_set,List.getElem?_set_self (by omega)]
    show x.1+(x.2.1+1)=_
    rw[List.length_append]
    simp
    omega
   ·rcases List.mem_or_eq_of_mem_set aF with aF |rfl
    ·exact hold y aF
    ·refine⟨aa,by show 1≤x.2.1+1;omega,by show x.1+(x.2.1+1)≤_;rw[List.length_append];simp;omega,fun j ju fJ=>?_⟩
     have ju:x.1≤(j:Int):=ju
     have fJ:(j:Int) < x.1+(x.2.1+1):=fJ
     show(ks++[k])[j]? =some x.2.2
     by_cases ak:(j:Int) < x.1+x.2.1
     ·rw[List.getElem?_append_left (by omega)]
      exact bE j ju ak
     ·have:j=ks.length:=by omega
      subst this
      rw[List.getElem?_append_right (Nat.le_refl _),au]
      simp
  ·exact j7
theorem I2 (ks:List Int) (k:Int):ig (ks++[k])=nZ (ig ks) 1 k:=by
 unfold ig
 rw[List.foldl_append]
 rfl
theorem I3 (ks:List Int):xX ks (ig ks):=by
 have key: ∀n,n≤ks.length→xX (ks.take n) (ig (ks.take n)):=fun n=>by
  induction n with
  |zero=>intro _;exact⟨rfl,(fun _ h=>by cases h),Nat.le_refl _⟩
  |succ n aY=>
   intro hn
   rw[List.take_add_one,List.getElem?_eq_getElem (by omega)]
   show xX (ks.take n++[ks[n]]) (ig (ks.take n++[ks[n]]))
   rw[I2]
   exact(aY (by omega)).add _
 have:=key ks.length (Nat.le_refl _)
 rwa[List.take_length] at this
@[reducible] def Yf (ks:List Int) (j:Nat):aQ:=[(3,iL 5002),(9,cJ c7 ks),(10,aD (ks.length:Nat)),(11,aD (j:Nat))]
theorem Yg (ks:List Int) (au:ks.length≤65536):Fn Tryz.prog 71 [cJ c7 ks] [] [] (cJ iY (ig ks)) []:=by
 refine Fn.of aj [] _ _ _ _ _ Tryz.func71 rfl rfl (by kernel_rfl) (by kernel_rfl) rfl (aK aj) rfl ?_
 refine⟨fun h=>?_,fun _=>?_⟩
 ·exfalso
  have h:(65536:Int) < ((ks.length:Nat):Int):=of_decide_eq_true h
  omega
 show aE _ _ _ _ _ _ _
 refine aE.loop aj (aK aj) [] (by kernel_rfl) (X:=Nat) (Yf ks) (fun j=>[(5002,.row 114 iY (ig (ks.take j)))]) (fun j=>j≤ks.length) (fun j=>ks.length - j) 0 (Nat.zero_le _) ?_ ?_
 ·exact(ah.nil 3 5002 114 iY rfl rfl).trans (ah.sub ⟨rfl,rfl,rfl,rfl,trivial⟩ ⟨rfl,trivial⟩)
 intro j ak
 refine⟨fun hc=>?_,fun hc=>?_⟩
 ·have hc:decide ((j:Int) < ((ks.length:Nat):Int))=true:=hc
  have ju:j < ks.length:=by have:=of_decide_eq_true hc;omega
  have bD:=I3 (ks.take j)
  have bH:(ks.take j).length=j:=by rw[List.length_take];omega
  have r4:ig (ks.take (j+1))=nZ (ig (ks.take j)) 1 ks[j]:=by
   rw[List.take_add_one,List.getElem?_eq_getElem ju]
   exact I2 _ _
  refine⟨by omega,ks[j],eY (n:=j) ju,?_⟩
  refine⟨_,_,_,_,Fn.ren [(1001,5002)] (Yb (ig (ks.take j)) 1 ks[j] (fun x hx=>?_) (by decide) (by have:=bD.len;omega)),⟨rfl,trivial⟩,rfl,?_⟩
  ·have:=bD.each x (List.mem_of_getElem? (Ev hx).2)
   omega
  exact⟨by omega,j+1,ju,by omega,ah.trans (ah.sub (K':=[(3,iL 1002),(9,cJ c7 ks),(10,aD (ks.length:Nat)),(11,aD ((j+1:Nat):Int))]) (B':=[(1002,.row 114 iY (ig (ks.take (j+1))))]) ⟨rfl,rfl,rfl,rfl,trivial⟩ ⟨congrArg (fun z:List gQ=>some (bF.row 114 iY z)) r4.symm,trivial⟩) ((ah.ren 1002 5002 rfl).trans (ah.sub ⟨rfl,rfl,rfl,rfl,trivial⟩ ⟨rfl,trivial⟩))⟩
 ·have hc:decide ((j:Int) < ((ks.length:Nat):Int))=false:=hc
  have fJ:j=ks.length:=by have:=of_decide_eq_false hc;omega
  subst fJ
  exact⟨_,_,_,ah.dV 5002 rfl,rfl,(show ig (ks.take ks.length)=ig ks by rw[List.take_length]),trivial,rfl⟩
section
variable {bits room:Nat} {L:List aH}
def BN (bits:Nat) (L:List aH) (nm:List UInt8):List gQ×Int:=match dk L nm with
 |none=>([],140)
 |some d=>(ig (mK bits L nm d.im.t.length),0)
@[reducible] def Yh (nm:List UInt8) (n j:Nat):aQ:=[(0,aI 1001),(1,bN nm),(7,iL 5002),(23,aD (n:Int)),(24,aD (j:Int))]
@[reducible] def Yi (bits room:Int) (L:List aH) (x:List Int):aG:=bP bits room L++[(5002,.row 3 c7 x)]
@[reducible] def Yj (nm:List UInt8) (n j:Nat):aQ:=[(0,aI 1001),(1,bN nm),(7,iL 37),(23,aD (n:Int)),(24,aD (j:Int))]
@[reducible] def Yk (bits room:Int) (L:List aH) (x:List Int):aG:=bP bits room L++[(37,.row 3 c7 x)]
theorem Yl (h:bV bits room L) (nm:List UInt8):Fn Tryz.prog 14 [aI 1001,bN nm] (bP bits room L) [] (.c8 [.one (.d (.cW iY (BN bits L nm).1)),fO (BN bits L nm).2]) (bP bits room L):=by
 unfold BN
 cases aC:dk L nm with
 |none=>
  have hx:(cz (aO:=.str) (aV:=.aW) (cq L) nm).getD (dflt .aW)=none:=by rw[iA,aC];rfl
  simp only
  refine Fn.of aj [] _ _ _ _ _ Tryz.func14 rfl rfl (by kernel_rfl) (by kernel_rfl) rfl (aK aj) rfl ?_
  refine⟨fun eX ag=>absurd (show(cz (aO:=.str) (aV:=.aW) (cq L) nm).getD (dflt .aW)=some eX from ag) (by rw[hx];intro h;cases h),fun _=>?_⟩
  exact⟨_,_,_,ah.refl _ _,rfl,⟨rfl,rfl,trivial⟩,⟨rfl,rfl,rfl,rfl,trivial⟩,rfl⟩
 |some d0=>
  obtain⟨rU,iJ,iK⟩:=m0 vG
  obtain⟨fG,iy,p8⟩:=h.iU d0 (cT aC).1
  have o3:=fG.tl
  have hd:=h.dep nm
  have mE:=h.togF.D (cT aC).1
  have gG:=h.togF.M (cT aC).1
  have hx:(cz (aO:=.str) (aV:=.aW) (cq L) nm).getD (dflt .aW)=some d0.ad:=by rw[iA,aC];rfl
  have Ym:=Yg (mK bits L nm d0.im.t.length) (by rw[I1];omega)
  simp only
  refine Fn.of aj [] _ _ _ _ _ Tryz.func14 rfl rfl (by kernel_rfl) (by kernel_rfl) rfl (aK aj) rfl ?_
  refine⟨fun eX ag=>?_,fun ag=>absurd (show(cz (aO:=.str) (aV:=.aW) (cq L) nm).getD (dflt .aW)=none from ag) (by rw[hx];intro h;cases h)⟩
  refine⟨_,_,fun N=>nS (b:=d0.ad) rfl (by exact oC hx) N,rfl,?_⟩
  refine⟨_,_,fun N=>nT rfl Tryz.underlying130 rfl rfl iJ (by rw[iK];decide) rfl N,rfl,?_⟩
  refine⟨_,_,fun N=>o4 (q:=1003) rfl Tryz.underlying49 rfl rfl rfl mE rfl N,rfl,?_⟩
  refine⟨_,_,_,_,o5 (vv d0.im) gG rfl rfl rfl rfl,⟨rfl,trivial⟩,rfl,?_⟩
  show aE _ _ _ _ _ _ _
  refine aE.loop aj (aK aj) [] (by kernel_rfl) (X:=Nat) (Yh nm d0.im.t.length) (fun j=>Yi bits room L (mK bits L nm j)) (fun j=>j≤d0.im.t.length) (fun j=>d0.im.t.length - j) 0 (Nat.zero_le _) ?_ ?_
  ·exact(ah.nil 7 5002 3 c7 rfl rfl).trans (ah.sub ⟨rfl,rfl,rfl,rfl,rfl,trivial⟩ ⟨rfl,rfl,rfl,rfl,rfl,trivial⟩)
  intro j ak
  refine⟨fun hc=>?_,fun hc=>?_⟩
  ·have hc:decide ((j:Int) < ((d0.im.t.length:Nat):Int))=true:=hc
   have ju:j < d0.im.t.length:=by have:=of_decide_eq_true hc;omega
   refine⟨_,_,_,_,Nc bits room L h.tom8 nm d0 aC (cm L nm) hd.1 (by omega) j (by omega),⟨rfl,rfl,rfl,rfl,trivial⟩,rfl,?_⟩
   have m:List.length (α:=Int) (mK bits L nm j)+1≤4294967296:=by rw[I1];omega
   refine⟨m,rfl,?_⟩
   refine⟨by omega,j+1,ju,by omega,?_⟩
   have e:=X6 bits L nm j
   refine ah.trans (ah.sub (K':=Yj nm d0.im.t.length (j+1)) (B':=Yk bits room L (mK bits L nm (j+1))) ⟨rfl,rfl,rfl,rfl,rfl,trivial⟩ ⟨rfl,rfl,rfl,rfl,congrArg (fun z:List Int=>some (bF.row 3 c7 z)) e.symm,trivial⟩) ?_
   exact(ah.ren 37 5002 rfl).trans (ah.sub ⟨rfl,rfl,rfl,rfl,rfl,trivial⟩ ⟨rfl,rfl,rfl,rfl,rfl,trivial⟩)
  ·have hc:decide ((j:Int) < ((d0.im.t.length:Nat):Int))=false:=hc
   have fJ:j=d0.im.t.length:=by have:=of_decide_eq_false hc;omega
   subst fJ
   refine⟨_,_,_,_,(Fn.own (d:=5002) (e:=3) (u:=c7) (xs:=mK bits L nm d0.im.t.length) (args:=[iL 5002]) Ym rfl),⟨rfl,trivial⟩,rfl,?_⟩
   exact⟨_,_,_,ah.refl _ _,rfl,⟨rfl,rfl,trivial⟩,⟨rfl,rfl,rfl,rfl,trivial⟩,rfl⟩
end
end Go.Proofs.YteoamepgonpdlaaGreat
namespace Go.Proofs.YteoamepgonpdlaaGreat
set_option linter.unusedVariables false
set_option linter.unusedSimpArgs false
set_option maxRecDepth 10000
open Go.RowKit Go.Proofs
theorem Yn (l:List gQ) (x:gQ) (k:Int):nZ (l++[x]) 1 k=if x.2.2=k then l++[(x.1,x.2.1+1,x.2.2)] else l++[x]++[(x.1+x.2.1,1,k)]:=by
 unfold nZ
 rw[if_neg (by decide),List.getLast?_concat]
 simp only
 split
 ·rw[List.length_append,List.length_singleton,Nat.add_sub_cancel,List.set_append_right _ _ (Nat.le_refl _),Nat.sub_self]
  rfl
 ·rw[Ov]
@[reducible] def zJ (f n k:Int):gQ:=(f,n,k)
structure zK (ks:List Int) (k:Nat) (out:List gQ) (f:Nat):Prop where
 lt:f < k
 le:k≤ks.length
 ol:out.length≤f
 eq:ig (ks.take k)=out++[zJ (f:Nat) ((k:Int) - (f:Int)) (ks.getD f 0)]
@[reducible] def I4 (ks:List Int) (o f k:Nat):aQ:=[(0,cJ c7 ks),(3,iL o),(4,aD (f:Nat)),(5,aD (k:Nat))]
@[reducible] def I5 (o:Nat) (x:List gQ):aG:=[(o,.row 114 iY x)]
theorem Yo (ks:List Int) (au:ks.length≤65536):Fn Tryz.prog 78 [cJ c7 ks] [] [] (cJ iY (ig ks)) []:=by
 refine Fn.of aj [9] _ _ _ _ _ Tryz.func78 rfl rfl (by kernel_rfl) (by kernel_rfl) rfl (aK aj) rfl ?_
 show aE _ _ _ _ _ _ _
 refine aE.loop aj (aK aj) [9] (by kernel_rfl) (X:=Nat×List gQ×Nat) (fun x=>I4 ks 2003 x.2.2 x.1) (fun x=>I5 2003 x.2.1) (fun x=>(x.1=1∧x.2.1=[]∧x.2.2=0∧ks=[])∨(zK ks x.1 x.2.1 x.2.2)∨(x.1=ks.length+1∧x.2.1=ig ks)) (fun x=>ks.length+1 - x.1) (1,[],0) ?_ ?_ ?_
 ·cases ks with
  |nil=>exact .inl ⟨rfl,rfl,rfl,rfl⟩
  |cons a ks=>exact .inr (.inl ⟨Nat.zero_lt_one,Nat.succ_le_succ (Nat.zero_le _),Nat.le_refl _,rfl⟩)
 ·exact ah.trans (ah.nil 3 2003 114 iY rfl rfl) (ah.sub ⟨rfl,rfl,rfl,rfl,trivial⟩ ⟨rfl,trivial⟩)
 rintro⟨k,out,f⟩ bC
 have fin:(k=1∧out=[]∧ks=[])∨(k=ks.length+1∧out=ig ks)→out=ig ks:=fun h=>by
  rcases h with⟨_,h,e⟩ |⟨_,h⟩
  ·rw[h,e];rfl
  ·exact h
 refine⟨fun aa=>?_,fun aa=>?_⟩
 ·have aa:((k:Nat):Int)≤((ks.length:Nat):Int):=of_decide_eq_true aa
  rcases bC with⟨ai,aq,bk,cX⟩ |bC |⟨ai,aq⟩
  ·exfalso
   have ai:k=1:=ai
   subst ai cX
   exact absurd aa (by decide)
  ·have bC:zK ks k out f:=bC
   obtain⟨g1,g2,bL,gU⟩:=bC
   have hf:f < ks.length:=by omega
   have vk:ks.getD f 0=ks[f]:=by rw[List.getD_eq_getElem?_getD,List.getElem?_eq_getElem hf];rfl
   rw[vk] at gU
   refine⟨fun _=>?_,fun af=>absurd (show decide (((ks.length:Nat):Int)≤65536)=false from af) (by rw[decide_eq_true (by omega)];decide)⟩
   have bQ:(-9223372036854775808:Int)≤((k:Nat):Int) - ((f:Nat):Int)∧((k:Nat):Int) - ((f:Nat):Int)≤9223372036854775807:=by omega
   have cn:List.length (α:=gQ) out+1≤4294967296:=by
    have:List.length (α:=gQ) out≤f:=bL
    omega
   have tail: ∀(f':Nat) (out':List gQ),((zK ks (k+1) out' f')∨(k+1=ks.length+1∧out'=ig ks))→(k+1=1∧out'=[]∧f'=0∧ks=[])∨(zK ks (k+1) out' f')∨(k+1=ks.length+1∧out'=ig ks):=fun f' out' h=>.inr h
   refine⟨fun af=>?_,fun af=>?_⟩
   ·have af:((k:Nat):Int)=((ks.length:Nat):Int):=of_decide_eq_true af
    have af:k=ks.length:=by omega
    refine⟨rfl,?_⟩
    refine⟨bQ,?_⟩
    refine⟨by omega,ks[f],eY (n:=f) hf,?_⟩
    refine⟨cn,rfl,?_⟩
    have eR:ig ks=out++[zJ (f:Nat) ((k:Int) - (f:Int)) ks[f]]:=by rw[←gU,af,List.take_length]
    refine⟨by omega,(k+1,ig ks,k),.inr (.inr ⟨by show k+1=ks.length+1;omega,rfl⟩),by show ks.length+1 - (k+1) < ks.length+1 - k;omega,ah.trans (ah.sub (K':=I4 ks 43 k (k+1)) (B':=I5 43 (ig ks)) ⟨rfl,rfl,rfl,rfl,trivial⟩ ⟨?_,trivial⟩) (ah.ren 43 2003 rfl)⟩
    rw[eR]
    rfl
   ·have af: ¬((k:Nat):Int)=((ks.length:Nat):Int):=of_decide_eq_false af
    have bU:k < ks.length:=by omega
    have HT:ks.getD k 0=ks[k]:=by rw[List.getD_eq_getElem?_getD,List.getElem?_eq_getElem bU];rfl
    have hs:ig (ks.take (k+1))=nZ (out++[zJ (f:Nat) ((k:Int) - (f:Int)) ks[f]]) 1 ks[k]:=by
     rw[List.take_succ_eq_append_getElem bU,I2,gU]
    rw[Yn] at hs
    refine⟨by omega,ks[k],eY (n:=k) bU,?_⟩
    refine⟨by omega,ks[f],eY (n:=f) hf,?_⟩
    refine⟨rfl,fun aA=>?_,fun aA=>?_⟩
    ·have aA:(!decide (ks[k]=ks[f]))=true:=aA
     have aA: ¬ks[k]=ks[f]:=by simpa using aA
     rw[if_neg (fun e=>aA e.symm)] at hs
     refine⟨bQ,?_⟩
     refine⟨by omega,ks[f],eY (n:=f) hf,?_⟩
     refine⟨cn,rfl,?_⟩
     have ov:zK ks (k+1) (out++[zJ (f:Nat) ((k:Int) - (f:Int)) ks[f]]) k:=by
      refine⟨Nat.lt_succ_self _,bU,?_,?_⟩
      ·rw[List.length_append]
       show List.length (α:=gQ) out+1≤k
       have:List.length (α:=gQ) out≤f:=bL
       omega
      ·rw[hs,HT]
       have ct:((f:Nat):Int)+(((k:Nat):Int) - ((f:Nat):Int))=((k:Nat):Int):=by omega
       have cB:(((k+1:Nat):Nat):Int) - ((k:Nat):Int)=1:=by omega
       show _++[((((f:Nat):Int)+(((k:Nat):Int) - ((f:Nat):Int)),1,ks[k]):gQ)]=_
       rw[ct,cB]
     exact⟨by omega,(k+1,out++[zJ (f:Nat) ((k:Int) - (f:Int)) ks[f]],k),.inr (.inl ov),by show ks.length+1 - (k+1) < ks.length+1 - k;omega,ah.trans (ah.sub (K':=I4 ks 43 k (k+1)) (B':=I5 43 (out++[zJ (f:Nat) ((k:Int) - (f:Int)) ks[f]])) ⟨rfl,rfl,rfl,rfl,trivial⟩ ⟨rfl,trivial⟩) (ah.ren 43 2003 rfl)⟩
    ·have aA:(!decide (ks[k]=ks[f]))=false:=aA
     have aA:ks[k]=ks[f]:=by simpa using aA
     rw[if_pos aA.symm] at hs
     have ov:zK ks (k+1) out f:=by
      refine⟨by omega,bU,bL,?_⟩
      rw[hs,vk]
      have cB:(((k+1:Nat):Nat):Int) - ((f:Nat):Int)=((k:Nat):Int) - ((f:Nat):Int)+1:=by omega
      rw[cB]
     exact⟨by omega,(k+1,out,f),.inr (.inl ov),by show ks.length+1 - (k+1) < ks.length+1 - k;omega,ah.sub ⟨rfl,rfl,rfl,rfl,trivial⟩ ⟨rfl,trivial⟩⟩
  ·exfalso
   have ai:k=ks.length+1:=ai
   omega
 ·have aa: ¬((k:Nat):Int)≤((ks.length:Nat):Int):=of_decide_eq_false aa
  have e:out=ig ks:=by
   rcases bC with⟨ai,aq,bk,cX⟩ |bC |⟨ai,aq⟩
   ·exact fin (.inl ⟨ai,aq,cX⟩)
   ·exfalso
    have:=bC.le
    have:k≤ks.length:=this
    omega
   ·exact aq
  subst e
  show aE _ _ _ _ _ _ _
  refine aE.go aj (aK aj) [] (by kernel_rfl) (ah.dV 2003 rfl) ?_
  exact⟨_,_,_,ah.refl _ _,rfl,rfl,trivial,rfl⟩
def kP (l:List bJ):Nat→List UInt8→Prop
 |0,n=>cI l n=none
 |f+1,n=>match cI l n with
  |none=>True
  |some d=>kP l f (er d)
def ij (l:List bJ) (k:Nat):Nat→List UInt8→Option (Nat×List UInt8)
 |0,_=>none
 |f+1,n=>match cI l n with
  |none=>none
  |some d=>if k < (aL (bB d)).length∧eV (bB d) k≠0 then some (1,n) else match ij l k f (er d) with
   |some (m,x)=>some (m+1,x)
   |none=>none
theorem Ew (l:List bJ) (k:Nat): ∀f n m x,ij l k f n=some (m,x)→m≤f∧ ∃d,cI l x=some d∧k < (aL (bB d)).length∧eV (bB d) k≠0
 |0,n,m,x,h=>by cases h
 |f+1,n,m,x,h=>by
  unfold ij at h
  split at h
  ·cases h
  ·rename_i d hd
   split at h
   ·rename_i aa
    injection h with h
    injection h with af aA
    subst af aA
    exact⟨Nat.succ_le_succ (Nat.zero_le _),d,hd,aa⟩
   ·split at h
    ·rename_i m' p0 af
     injection h with h
     injection h with aA bE
     subst aA bE
     obtain⟨g1,g2⟩:=Ew l k f _ _ _ af
     exact⟨Nat.succ_le_succ g1,g2⟩
    ·cases h
def ni (l:List bJ) (k:Nat) (n:List UInt8):Int:=match ij l k 20 n with
 |some (m,_)=>(m:Nat)
 |none=>0
def zL (l:List bJ) (k:Nat) (n:List UInt8):Int:=match ij l k 20 n with
 |some (_,x)=>cc l x
 |none=> -1
@[reducible] def Yp (l:List bJ) (k j:Nat) (n:List UInt8):aQ:=[(2,aD (k:Int)),(3,aI 3),(8,aD (cc l n)),(9,aD ((j:Nat)+1:Int))]
set_option maxHeartbeats 1000000 in
theorem I6 (bits room:Int) (l:List bJ) (n:List UInt8) (k:Nat) (aB:l.length≤1073741824) (he:kP l 19 n):Fn Tryz.prog 77 [k8 bits room l,bN n,aD (k:Int)] [] [] (.c8 [.one (.d (.int .i64 (ni l k n))),.one (.d (.int .i64 (zL l k n)))]) []:=by
 refine Fn.of aj [] _ _ _ _ _ Tryz.func77 rfl rfl (by kernel_rfl) (by kernel_rfl) rfl (aK aj) rfl ?_
 refine⟨rfl,?_⟩
 refine⟨_,_,_,_,lR bits room l n aB,trivial,rfl,?_⟩
 show aE _ _ _ _ _ _ _
 refine aE.loop aj (aK aj) [] (by kernel_rfl) (X:=Nat×List UInt8) (fun x=>Yp l k x.1 x.2) (fun _=>[(3,.cells (kA bits room l))]) (fun x=>x.1≤19∧kP l (19 - x.1) x.2∧ij l k 20 n=match ij l k (20 - x.1) x.2 with |some (m,y)=>some (m+x.1,y) |none=>none) (fun x=>20 - x.1) (0,n) ⟨Nat.zero_le _,he,?_⟩ ?_ ?_
 ·show ij l k 20 n=match ij l k 20 n with |some (m,y)=>some (m+0,y) |none=>none
  cases ij l k 20 n with
  |none=>rfl
  |some p=>rfl
 ·exact ah.sub ⟨rfl,rfl,rfl,rfl,trivial⟩ ⟨rfl,trivial⟩
 rintro⟨j,nm⟩ ⟨ak,pF,heq⟩
 have ak:j≤19:=ak
 have pF:kP l (19 - j) nm:=pF
 have heq:ij l k 20 n=match ij l k (20 - j) nm with |some (m,y)=>some (m+j,y) |none=>none:=heq
 have hf:20 - j=(19 - j)+1:=by omega
 have nI:ij l k (20 - j) nm=match cI l nm with
  |none=>none
  |some d=>if k < (aL (bB d)).length∧eV (bB d) k≠0 then some (1,nm) else match ij l k (19 - j) (er d) with
   |some (m,x)=>some (m+1,x)
   |none=>none:=by rw[hf];rfl
 refine⟨fun aa=>?_,fun aa=>?_⟩
 ·have aa:0≤cc l nm:=of_decide_eq_true aa
  obtain⟨i,ay,ai,aq,bk⟩:=zI (l:=l) (n:=nm) (by omega)
  have eP:ff l (cc l nm).toNat=some l[i]:=by rw[show(cc l nm).toNat=i by omega];exact eY (n:=i) ay
  have dU:(0:Int)≤cc l nm∧cc l nm < ((l.length:Nat):Int):=by omega
  rw[aq] at nI
  simp only at nI
  rw[nI] at heq
  have next: ¬(k < (aL (bB l[i])).length∧eV (bB l[i]) k≠0)→(19 - j=(19 - (j+1))+1∧kP l (19 - (j+1)) (er l[i])∨cI l (er l[i])=none∧j=19)∧(ij l k 20 n=match ij l k (20 - (j+1)) (er l[i]) with |some (m,y)=>some (m+(j+1),y) |none=>none):=fun eS=>by
   rw[if_neg eS] at heq
   refine⟨?_,?_⟩
   ·rcases Nat.lt_or_ge j 19 with h |h
    ·left
     have Ow:19 - j=(19 - (j+1))+1:=by omega
     refine⟨Ow,?_⟩
     rw[Ow,kP,aq] at pF
     exact pF
    ·right
     have Yq:j=19:=by omega
     subst Yq
     exfalso
     have pF:cI l nm=none:=pF
     rw[pF] at aq
     cases aq
   ·rw[show 20 - (j+1)=19 - j by omega,heq]
    cases ij l k (19 - j) (er l[i]) with
    |none=>rfl
    |some p=>show some (p.1+1+j,p.2)=some (p.1+(j+1),p.2);rw[Nat.add_assoc,Nat.add_comm 1 j]
  refine⟨dU.1,l[i],eP,?_⟩
  have go: ¬(k < (aL (bB l[i])).length∧eV (bB l[i]) k≠0)→j+1≤19∧kP l (19 - (j+1)) (er l[i])∧(ij l k 20 n=match ij l k (20 - (j+1)) (er l[i]) with |some (m,y)=>some (m+(j+1),y) |none=>none):=fun eS=>by
   obtain⟨g1,g2⟩:=next eS
   rcases g1 with⟨g1,bL⟩ |⟨g1,bL⟩
   ·exact⟨by omega,bL,g2⟩
   ·exfalso
    subst bL
    have pF:cI l nm=none:=pF
    rw[pF] at aq
    cases aq
  refine⟨fun af=>?_,fun af=>?_⟩
  ·have af:((k:Nat):Int) < (((aL (bB l[i])).length:Nat):Int):=of_decide_eq_true af
   have af:k < (aL (bB l[i])).length:=by omega
   have gm:=th af
   refine⟨dU.1,l[i],eP,?_⟩
   refine⟨by omega,(aL (bB l[i]))[k],eY (n:=k) af,?_⟩
   refine⟨fun aA=>?_,fun aA=>?_⟩
   ·have aA:(!decide (gq (aL (bB l[i]))[k]=0))=true:=aA
    have aA: ¬gq (aL (bB l[i]))[k]=0:=by simpa using aA
    rw[if_pos ⟨af,by rw[gm];exact aA⟩] at heq
    have heq:ij l k 20 n=some (1+j,nm):=heq
    refine⟨_,_,_,ah.refl _ _,rfl,⟨?_,?_,trivial⟩,trivial,rfl⟩
    ·show((j:Nat):Int)+1=ni l k n
     unfold ni
     rw[heq]
     show((j:Nat):Int)+1=((1+j:Nat):Int)
     omega
    ·show cc l nm=zL l k n
     unfold zL
     rw[heq]
   ·have aA:(!decide (gq (aL (bB l[i]))[k]=0))=false:=aA
    have aA:gq (aL (bB l[i]))[k]=0:=by simpa using aA
    obtain⟨cx,cM,w3⟩:=go (fun q=>q.2 (by rw[gm];exact aA))
    refine⟨dU.1,l[i],eP,?_⟩
    refine⟨_,_,_,_,lR bits room l (er l[i]) aB,trivial,rfl,?_⟩
    refine⟨rfl,?_⟩
    exact⟨by omega,(j+1,er l[i]),⟨cx,cM,w3⟩,by show 20 - (j+1) < 20 - j;omega,ah.sub ⟨rfl,rfl,rfl,rfl,trivial⟩ ⟨rfl,trivial⟩⟩
  ·have af: ¬((k:Nat):Int) < (((aL (bB l[i])).length:Nat):Int):=of_decide_eq_false af
   obtain⟨cx,cM,w3⟩:=go (fun q=>by have:=q.1;omega)
   refine⟨dU.1,l[i],eP,?_⟩
   refine⟨_,_,_,_,lR bits room l (er l[i]) aB,trivial,rfl,?_⟩
   refine⟨rfl,?_⟩
   exact⟨by omega,(j+1,er l[i]),⟨cx,cM,w3⟩,by show 20 - (j+1) < 20 - j;omega,ah.sub ⟨rfl,rfl,rfl,rfl,trivial⟩ ⟨rfl,trivial⟩⟩
 ·have aa: ¬0≤cc l nm:=of_decide_eq_false aa
  have e:=zH (l:=l) (n:=nm) (by omega)
  rw[e] at nI
  rw[nI] at heq
  have heq:ij l k 20 n=none:=heq
  refine⟨_,_,_,ah.refl _ _,rfl,⟨?_,?_,trivial⟩,trivial,rfl⟩
  ·show(0:Int)=ni l k n
   unfold ni
   rw[heq]
  ·show(-1:Int)=zL l k n
   unfold zL
   rw[heq]
structure uE (n:Nat) (l:List bJ):Prop where
 len:l.length≤16
 ok: ∀d,d∈l→gH n (bB d)
 vX: ∀x,kP l 19 x
theorem tj {l:List bJ} {x:List UInt8} {d:bJ} (h:cI l x=some d):d∈l:=by
 obtain⟨i,ay,_,e,_⟩:=qh h
 rw[←e]
 exact List.getElem_mem ay
def mL (n:Nat) (l:List bJ) (x:List UInt8) (k:Nat):List UInt8:=match ij l k 20 x with
 |some (_,y)=>(match cI l y with
  |some d=>(zD n (bB d) ((k*n:Nat):Int) (n:Nat)).1
  |none=>[])
 |none=>List.replicate (16*n) 0
theorem Ox {n:Nat} {m:c6} (h:gH n m) {k:Nat} (au:k < (aL m).length):fQ n (aL m).length ((k*n:Nat):Int) (n:Nat)=0∧(zD n m ((k*n:Nat):Int) (n:Nat)).1=qg n m (k*n) n∧(qg n m (k*n) n).length=16*n:=by
 have hm:(k+1)*n≤(aL m).length*n:=Nat.mul_le_mul_right n au
 rw[Nat.succ_mul,Nat.mul_comm (aL m).length n] at hm
 have he:fQ n (aL m).length ((k*n:Nat):Int) (n:Nat)=0:=by
  unfold fQ
  generalize dn:n*(aL m).length=N at*
  generalize tX:k*n=Q at*
  rw[if_neg (by omega),if_neg (by omega),if_neg (by omega),if_neg (by omega)]
 refine⟨he,?_,IQ h n hm⟩
 unfold zD
 rw[if_pos he]
 simp only[Int.toNat_natCast]
theorem Ex {n:Nat} {l:List bJ} (h:uE n l) (x:List UInt8) (k:Nat):(mL n l x k).length=16*n:=by
 unfold mL
 split
 ·rename_i m y e
  obtain⟨_,d,ai,aq,_⟩:=Ew l k 20 x m y e
  rw[ai]
  simp only
  obtain⟨_,g2,bL⟩:=Ox (h.ok d (tj ai)) aq
  rw[g2,bL]
 ·exact List.length_replicate
set_option maxHeartbeats 1000000 in
theorem I7 {n:Nat} {l:List bJ} (h:uE n l) (bits room:Int) (x:List UInt8) (k:Nat) {d:bJ} (hd:cI l x=some d) (au:k < (aL (bB d)).length):Fn Tryz.prog 74 [k8 bits room l,bN x,aD (k:Int)] [] [] (bN (mL n l x k)) []:=by
 have aB:=h.len
 obtain⟨i,ay,ai,aq,bk⟩:=qh hd
 have eP:ff l (cc l x).toNat=some d:=by rw[show(cc l x).toNat=i by omega,←aq];exact eY (n:=i) ay
 have dU:(0:Int)≤cc l x∧cc l x < ((l.length:Nat):Int):=by omega
 have az:=h.ok d (tj hd)
 have xS:=az.nm
 have xY:=az.n8
 have cQ:=az.jr
 have vS: -9223372036854775808≤16*dy (bB d)∧16*dy (bB d)≤9223372036854775807:=by omega
 have o7:(16*dy (bB d)).toNat=16*n:=by omega
 have Yr:0≤16*dy (bB d)∧16*dy (bB d)≤4294967296:=by omega
 unfold mL
 refine Fn.of aj [] _ _ _ _ _ Tryz.func74 rfl rfl (by kernel_rfl) (by kernel_rfl) rfl (aK aj) rfl ?_
 refine⟨rfl,?_⟩
 refine⟨_,_,_,_,lR bits room l x (by omega),trivial,rfl,?_⟩
 refine⟨fun aa=>absurd (show decide (cc l x < 0)=true from aa) (by rw[decide_eq_false (by omega)];decide),fun _=>?_⟩
 refine⟨fun aa=>absurd (show decide ((k:Int) < 0)=true from aa) (by rw[decide_eq_false (by omega)];decide),fun _=>?_⟩
 refine⟨dU.1,d,eP,?_⟩
 refine⟨fun aa=>absurd (show decide ((((aL (bB d)).length:Nat):Int)≤(k:Int))=true from aa) (by rw[decide_eq_false (by omega)];decide),fun _=>?_⟩
 refine⟨dU.1,d,eP,?_⟩
 refine⟨_,_,_,_,I6 bits room l x k (by omega) (h.vX x),trivial,rfl,?_⟩
 unfold zL
 cases Bv:ij l k 20 x with
 |none=>
  refine⟨fun _=>?_,fun aa=>absurd (show decide ((-1:Int) < 0)=false from aa) (by decide)⟩
  refine⟨vS,?_⟩
  refine⟨⟨rfl,Yr⟩,rfl,?_⟩
  rw[←o7]
  exact⟨_,_,_,ah.refl _ _,rfl,rfl,trivial,rfl⟩
 |some p=>
  obtain⟨m,y⟩:=p
  obtain⟨_,d2,f1,f2,_⟩:=Ew l k 20 x m y Bv
  obtain⟨i2,nc,f3,f4,f5⟩:=qh f1
  have jB:=h.ok d2 (tj f1)
  simp only
  rw[f1]
  simp only
  refine⟨fun aa=>absurd (show decide (cc l y < 0)=true from aa) (by rw[decide_eq_false (by omega)];decide),fun _=>?_⟩
  refine⟨by omega,d2,(by rw[show(cc l y).toNat=i2 by omega,←f4];exact eY (n:=i2) nc),?_⟩
  have vq:(k:Int)*dy (bB d)=((k*n:Nat):Int):=by rw[xS,Int.natCast_mul]
  have gP:k*n≤256*8:=Nat.mul_le_mul (by omega) xY
  have Ys: -9223372036854775808≤(k:Int)*dy (bB d)∧(k:Int)*dy (bB d)≤9223372036854775807:=by rw[vq];omega
  refine⟨Ys,?_⟩
  refine⟨_,_,_,_,Fn.arg (args:=[nX (bB d2),aD ((k:Int)*dy (bB d)),aD (dy (bB d))]) (XN jB ((k*n:Nat):Int) (n:Nat)) ⟨⟨rfl,rfl,rfl,rfl,rfl,trivial⟩,vq,xS,trivial⟩,trivial,rfl,?_⟩
  exact⟨_,_,_,ah.refl _ _,rfl,rfl,trivial,rfl⟩
def qU (n:Nat) (l:List bJ) (x:List UInt8):Nat→List UInt8
 |0=>[]
 |k+1=>qU n l x k++mL n l x k
theorem I8 {n:Nat} {l:List bJ} (h:uE n l) (x:List UInt8): ∀k,(qU n l x k).length=16*n*k
 |0=>rfl
 |k+1=>by rw[qU,List.length_append,I8 h x k,Ex h,Nat.mul_succ]
@[reducible] def Yt (x:List UInt8) (i:Int) (a:List UInt8) (k:Nat):aQ:=[(1,bN x),(2,aI 2),(5,bN a),(6,aD i),(7,aD (k:Nat))]
theorem Oy {n:Nat} {l:List bJ} (h:uE n l) (bits room:Int) (x:List UInt8) {d:bJ} (hd:cI l x=some d):Fn Tryz.prog 29 [k8 bits room l,bN x] [] [] (bN (qU n l x (aL (bB d)).length)) []:=by
 have aB:=h.len
 obtain⟨i,ay,ai,aq,bk⟩:=qh hd
 have eP:ff l (cc l x).toNat=some d:=by rw[show(cc l x).toNat=i by omega,←aq];exact eY (n:=i) ay
 have dU:(0:Int)≤cc l x∧cc l x < ((l.length:Nat):Int):=by omega
 have az:=h.ok d (tj hd)
 have xY:=az.n8
 have cQ:=az.jr
 refine Fn.of aj [] _ _ _ _ _ Tryz.func29 rfl rfl (by kernel_rfl) (by kernel_rfl) rfl (aK aj) rfl ?_
 refine⟨rfl,?_⟩
 refine⟨_,_,_,_,lR bits room l x (by omega),trivial,rfl,?_⟩
 show aE _ _ _ _ _ _ _
 refine aE.loop aj (aK aj) [] (by kernel_rfl) (X:=Nat) (fun k=>Yt x (cc l x) (qU n l x k) k) (fun _=>[(2,.cells (kA bits room l))]) (fun k=>k≤(aL (bB d)).length) (fun k=>(aL (bB d)).length - k) 0 (Nat.zero_le _) ?_ ?_
 ·exact ah.sub ⟨rfl,rfl,rfl,rfl,rfl,trivial⟩ ⟨rfl,trivial⟩
 intro k au
 refine⟨fun _=>?_,fun aa=>absurd (show decide (0≤cc l x)=false from aa) (by rw[decide_eq_true (by omega)];decide)⟩
 refine⟨dU.1,d,eP,?_⟩
 refine⟨fun aa=>?_,fun aa=>?_⟩
 ·have aa:((k:Nat):Int) < (((aL (bB d)).length:Nat):Int):=of_decide_eq_true aa
  refine⟨_,_,_,_,I7 h bits room x k hd (by omega),trivial,rfl,?_⟩
  have g1:=I8 h x k
  have g2:=Ex h x k
  have bL:16*n*k≤16*8*256:=Nat.mul_le_mul (Nat.mul_le_mul_left 16 xY) (by omega)
  have gU:(qU n l x k).length+(mL n l x k).length≤4294967296:=by omega
  refine⟨gU,?_⟩
  exact⟨by omega,k+1,by omega,by omega,ah.sub ⟨rfl,rfl,rfl,rfl,rfl,trivial⟩ ⟨rfl,trivial⟩⟩
 ·have aa: ¬((k:Nat):Int) < (((aL (bB d)).length:Nat):Int):=of_decide_eq_false aa
  have bU:k=(aL (bB d)).length:=by omega
  subst bU
  exact⟨_,_,_,ah.refl _ _,rfl,rfl,trivial,rfl⟩
def pG (l:List bJ) (x:List UInt8) (k:Nat):List Int:=(List.range k).map fun c=>ni l c x
theorem Yu (l:List bJ) (x:List UInt8) (k:Nat):pG l x (k+1)=pG l x k++[ni l k x]:=by
 unfold pG
 rw[List.range_succ,List.map_append]
 rfl
theorem Oz (l:List bJ) (x:List UInt8) (k:Nat):(pG l x k).length=k:=by unfold pG;rw[List.length_map,List.length_range]
@[reducible] def OA (x:List UInt8) (i:Int) (o k:Nat):aQ:=[(1,bN x),(2,aI 2),(5,iL o),(6,aD i),(7,aD (k:Nat))]
@[reducible] def OB (bits room:Int) (l:List bJ) (o:Nat) (y:List Int):aG:=[(2,.cells (kA bits room l)),(o,.row 3 c7 y)]
theorem Yv {n:Nat} {l:List bJ} (h:uE n l) (bits room:Int) (x:List UInt8) {d:bJ} (hd:cI l x=some d):Fn Tryz.prog 31 [k8 bits room l,bN x] [] [] (cJ iY (ig (pG l x (aL (bB d)).length))) []:=by
 have aB:=h.len
 obtain⟨i,ay,ai,aq,bk⟩:=qh hd
 have eP:ff l (cc l x).toNat=some d:=by rw[show(cc l x).toNat=i by omega,←aq];exact eY (n:=i) ay
 have dU:(0:Int)≤cc l x∧cc l x < ((l.length:Nat):Int):=by omega
 have az:=h.ok d (tj hd)
 have cQ:=az.jr
 refine Fn.of aj [8] _ _ _ _ _ Tryz.func31 rfl rfl (by kernel_rfl) (by kernel_rfl) rfl (aK aj) rfl ?_
 refine⟨rfl,?_⟩
 refine⟨_,_,_,_,lR bits room l x (by omega),trivial,rfl,?_⟩
 show aE _ _ _ _ _ _ _
 refine aE.loop aj (aK aj) [8] (by kernel_rfl) (X:=Nat) (fun k=>OA x (cc l x) 2003 k) (fun k=>OB bits room l 2003 (pG l x k)) (fun k=>k≤(aL (bB d)).length) (fun k=>(aL (bB d)).length - k) 0 (Nat.zero_le _) ?_ ?_
 ·exact ah.trans (ah.nil 5 2003 3 c7 rfl rfl) (ah.sub ⟨rfl,rfl,rfl,rfl,rfl,trivial⟩ ⟨rfl,rfl,trivial⟩)
 intro k au
 refine⟨fun _=>?_,fun aa=>absurd (show decide (0≤cc l x)=false from aa) (by rw[decide_eq_true (by omega)];decide)⟩
 refine⟨dU.1,d,eP,?_⟩
 refine⟨fun aa=>?_,fun aa=>?_⟩
 ·have aa:((k:Nat):Int) < (((aL (bB d)).length:Nat):Int):=of_decide_eq_true aa
  refine⟨_,_,_,_,I6 bits room l x k (by omega) (h.vX x),trivial,rfl,?_⟩
  have bQ:List.length (α:=Int) (pG l x k)+1≤4294967296:=by
   have:List.length (α:=Int) (pG l x k)=k:=Oz l x k
   omega
  refine⟨bQ,rfl,?_⟩
  refine⟨by omega,k+1,by omega,by omega,ah.trans (ah.sub (K':=OA x (cc l x) 39 (k+1)) (B':=OB bits room l 39 (pG l x (k+1))) ⟨rfl,rfl,rfl,rfl,rfl,trivial⟩ ⟨rfl,?_,trivial⟩) (ah.ren 39 2003 rfl)⟩
  rw[Yu]
  rfl
 ·have aa: ¬((k:Nat):Int) < (((aL (bB d)).length:Nat):Int):=of_decide_eq_false aa
  have bU:k=(aL (bB d)).length:=by omega
  subst bU
  show aE _ _ _ _ _ _ _
  refine aE.go aj (aK aj) [] (by kernel_rfl) (ah.dV 2003 rfl) ?_
  refine⟨_,_,_,_,Yo (pG l x (aL (bB d)).length) (by have:List.length (α:=Int) (pG l x (aL (bB d)).length)=(aL (bB d)).length:=Oz l x _;omega),trivial,rfl,?_⟩
  exact⟨_,_,_,ah.refl _ _,rfl,rfl,trivial,rfl⟩
end Go.Proofs.YteoamepgonpdlaaGreat
namespace Go.Proofs.YteoamepgonpdlaaGreat
set_option linter.unusedVariables false
set_option linter.unusedSimpArgs false
set_option maxRecDepth 10000
open Go.RowKit Go.Proofs
@[reducible] def OC:U:=.pr c7 (.pr c7 (.pr c7 (.pr (.sl .u8) .str)))
@[reducible] def oF:U:=.pr c7 (.pr c7 (.pr .str (.pr .str OC)))
abbrev kB:=Int×Int×Int×List UInt8×List UInt8
abbrev fC:=Int×Int×List UInt8×List UInt8×kB
@[reducible] def fX (o:fC):Int:=o.1
@[reducible] def jM (o:fC):Int:=o.2.1
@[reducible] def ck (o:fC):List UInt8:=o.2.2.1
@[reducible] def eF (o:fC):List UInt8:=o.2.2.2.1
@[reducible] def cN (o:fC):kB:=o.2.2.2.2
@[reducible] def ew (q:kB):Int:=q.1
@[reducible] def dc (q:kB):Int:=q.2.1
@[reducible] def dX (q:kB):Int:=q.2.2.1
@[reducible] def fe (q:kB):List UInt8:=q.2.2.2.1
@[reducible] def zM (q:kB):List UInt8:=q.2.2.2.2
@[reducible] def OD (q:kB):List bx:=[.d (.int .i64 (ew q)),.d (.int .i64 (dc q)),.d (.int .i64 (dX q)),.d (.cW .u8 (fe q)),.d (.str (zM q))]
@[reducible] def BO (o:fC):List bx:=[.d (.int .i64 (fX o)),.d (.int .i64 (jM o)),.d (.str (ck o)),.d (.str (eF o)),.d (.int .i64 (ew (cN o))),.d (.int .i64 (dc (cN o))),.d (.int .i64 (dX (cN o))),.d (.cW .u8 (fe (cN o))),.d (.str (zM (cN o)))]
@[reducible] def BP (o:fC):aN:=.c (.agg (BO o))
def lT (o:fC):Nat:=(fe (cN o)).length+(ck o).length+(eF o).length
def vY (o:fC):Bool:=decide (12 < jM o)&&decide (jM o≤256)
def mM (l:List fC) (k:Nat):Nat:=((l.take k).map lT).sum
theorem I9: ∀(l:List Nat) (k:Nat),(l.take k).sum≤l.sum
 | [],k=>by simp
 |x::l,0=>by simp
 |x::l,k+1=>by
  have:=I9 l k
  simp
  omega
theorem OE (l:List fC) (k:Nat):mM l k≤(l.map lT).sum:=by
 unfold mM
 rw[List.map_take]
 exact I9 _ _
theorem Yw (l:List fC) {k:Nat} (h:k < l.length):mM l (k+1)=mM l k+lT l[k]:=by
 unfold mM
 rw[List.take_add_one,List.getElem?_eq_getElem h,List.map_append,List.sum_append]
 rfl
theorem Yx {l:List fC} {o:fC} (h:o∈l):lT o≤(l.map lT).sum:=by
 induction l with
 |nil=>cases h
 |cons x l aY=>
  rw[List.map_cons,List.sum_cons]
  rcases List.mem_cons.1 h with rfl |h
  ·omega
  ·have:=aY h
   omega
def Ey (l:List fC) (k:Nat):Prop:= ∀(i:Nat) (o:fC),i < k→l[i]? =some o→vY o=false
theorem Ey.succ {l:List fC} {k:Nat} (h:Ey l k) (au:k < l.length) (ag:vY l[k]=false):Ey l (k+1):=fun i o ay av=>by
 by_cases e:i=k
 ·subst e
  rw[List.getElem?_eq_getElem au] at av
  injection av with av
  rw[←av]
  exact ag
 ·exact h i o (by omega) av
structure Ja where
 x:List UInt8
 e:Int
 L:List aH
def jq.zN (r:jq):Ja:=⟨[],r.e,r.L⟩
def pH (bits:Nat) (L:List aH) (nm:List UInt8) (q:kB):Ja:=
 if ew q=0 then⟨(s7 bits L nm (dc q) (dX q)).1,(s7 bits L nm (dc q) (dX q)).2,L⟩ else if ew q=1 then(iV bits L nm (dc q) (fe q)).zN
 else if ew q=2 then(rX bits L nm (dc q) (dX q)).zN else if ew q=3 then(rY L nm (dc q) (dX q)).zN else⟨[],0,L⟩
def vZ (bits room:Nat) (L:List aH) (o:fC) (p:Nat×Nat):Ja:=
 if fX o=0 then(mH bits room L (ck o) (jM o) (eF o) p).zN else if fX o=1 then(r0 L (ck o)).zN else if fX o=2 then(gx L (ck o) (eF o)).zN
 else if fX o=3 then pH bits L (ck o) (cN o) else⟨[],0,L⟩
theorem Yy {bits room:Nat} {L:List aH} (h:bV bits room L) (nm:List UInt8) (q:kB):bV bits room (pH bits L nm q).L:=by
 unfold pH
 split
 ·exact h
 ·split
  ·exact zA h _ _ _
  ·split
   ·exact NT h _ _ _
   ·split
    ·exact NU h _ _ _
    ·exact h
theorem Jb: ∀s:List UInt8,fM (.sl .u8) s=1+s.length
 | []=>rfl
 |b::s=>by
  have aY:=Jb s
  have aq:fM (.sl .u8) s=1+(List.map (fM .u8) s).sum:=rfl
  show 1+(1+(List.map (fM .u8) s).sum)=1+(s.length+1)
  omega
theorem Yz (o:fC):fM oF o=9+lT o+(zM (cN o)).length:=by
 have aa:=Jb (fe (cN o))
 have e:fM oF o=1+(1+((1+(ck o).length)+((1+(eF o).length)+(1+(1+(1+(fM (.sl .u8) (fe (cN o))+(1+(zM (cN o)).length)))))))):=rfl
 rw[e,aa]
 unfold lT
 omega
theorem OG: ∀l:List fC,1+l.length+(l.map lT).sum≤fM (.sl oF) l
 | []=>Nat.le_refl _
 |o::l=>by
  have aa:=OG l
  have aq:fM (.sl oF) l=1+(List.map (fM oF) l).sum:=rfl
  have bk:=Yz o
  show 1+(l.length+1)+(lT o+(l.map lT).sum)≤1+(fM oF o+(List.map (fM oF) l).sum)
  omega
end Go.Proofs.YteoamepgonpdlaaGreat
namespace Go.Proofs.YteoamepgonpdlaaGreat
set_option linter.unusedVariables false
set_option linter.unusedSimpArgs false
set_option maxRecDepth 10000
open Go.RowKit Go.Proofs
section
variable {P:Program} {ids:List Nat} {K:aQ} {B:aG}
theorem YA {o:Oper} {T e d:Nat} {x y:Operand} {inf:TypeInfo} {n:Int} (av:o.op= .makeSlice T x y) (cu:P.underlying T=some (.slice e)) (ay:P.info? e=some inf) (aS:inf.zero=some (.agg #[.int .i64 0,.int .i64 0])) (hs:inf.size=2) (ag:inf.bytes=16)
  (hx:aU K x= .c (.one (.d (.int .i64 n)))) (aF:aU K y= .c (.one (.d (.int .i64 n)))) (aC:0≤n) (aa:n≤1000000) (N:Nat):bI P N ids o K B (.c (.one (.own d))) ⟨[],[d],[(d,some (.row e vR (List.replicate n.toNat (hO 0 0))))]⟩:=by
 have bw:x∈o.op.operands:=by rw[av];simp[Op.operands]
 have bX:y∈o.op.operands:=by rw[av];simp[Op.operands]
 refine bI.make (fun d h=>yA h) fun K' B' g1 g2 C ρ F a w az hS hn=>?_
 have eB:=hS.int ((g1 x bw).trans hx)
 have eL:=hS.int ((g1 y bX).trans aF)
 have ef:=run_make (P:=P) w T e inf _ cu ay aS .i64 .i64 n n aC (Int.le_refl _) (by rw[ag];omega) (by omega)
 have wj:madeCells (Value.agg #[.int .i64 0,.int .i64 0]).cells (n.toNat*inf.size)=(List.replicate (n.toNat*2) (Value.int .i64 0)).toArray:=by
  rw[hs]
  simp[madeCells,Value.cells]
  apply Array.ext
  ·simp
  ·intro i aa af
   have:i % 2=0∨i % 2=1:=by omega
   rcases this with h |h <;>simp[h]
 rw[wj] at ef
 refine⟨.slice (some ⟨w.heap.size,0,none⟩) n.toNat n.toNat,w.alloc (.cells (List.replicate (n.toNat*2) (.int .i64 0)).toArray e),⟨w.heap.size,some ⟨w.heap.size,0,none⟩,n.toNat,n.toNat⟩,fun b=>b=w.heap.size,?_,tE w _,fun b ag=>?_,fun I bA bC=>⟨⟨?_,?_,List.replicate (n.toNat*2) (.int .i64 0),?_,?_⟩,?_⟩⟩
 ·simp only[execOp,av,Sem.run_bind,eB,eL,ef,Result.andThen_ok,Sem.run_pure]
 ·subst ag;simp
 ·intro b
  simp[bn.hdr,Value.ownBlock,eq_comm]
 ·intro b ag
  simp[bn.hdr,Value.ownBlock] at ag
  exact ag.symm
 ·have:=Ar w e 2 n.toNat (List.replicate (n.toNat*2) (.int .i64 0)) (by simp) (by simp only[maxLen];omega)
  have ai:List.length (α:=aJ vR) (List.replicate n.toNat (hO 0 0))=n.toNat:=List.length_replicate
  rw[ai]
  exact this
 ·intro i z aS
  obtain⟨ay,lH⟩:=List.getElem?_eq_some_iff.1 aS
  have qz:z=hO 0 0:=by rw[←lH];exact List.getElem_replicate ..
  subst qz
  have ay:i < n.toNat:=by
   have aa:i < List.length (α:=Cell) (List.replicate n.toNat (hO 0 0)):=ay
   rw[List.length_replicate] at aa
   exact aa
  have g: ∀j,j < 2→(List.replicate (n.toNat*2) (Value.int .i64 0))[i*2+j]? =some (.int .i64 0):=fun j ak=>by
   rw[List.getElem?_replicate,if_pos (by omega)]
  exact⟨g 0 (by decide),g 1 (by decide)⟩
 ·simp only[cj,fS,dI,dN]
  rfl
end
theorem OH:(Tryz.prog.info? 148).map (fun i=>(i.zero,i.bytes,i.size))=some (some (.agg #[.int .i64 0,.int .i64 0]),16,2):=by kernel_rfl
theorem YB: ∃i,Tryz.prog.info? 148=some i∧i.zero=some (.agg #[.int .i64 0,.int .i64 0])∧i.bytes=16∧i.size=2:=by
 cases e:Tryz.prog.info? 148 with
 |none=>have h:=OH;rw[e] at h;cases h
 |some i=>
  have h:=OH
  rw[e] at h
  simp only[Option.map_some,Option.some.injEq,Prod.mk.injEq] at h
  exact⟨i,rfl,h.1,h.2.1,h.2.2⟩
@[reducible] def YC (b s r:Int) (k:Nat):aQ:=[(0,aD b),(1,aD s),(2,aD r),(6,aI 6),(8,aD ((2 ^k:Nat):Int)),(9,aD (k:Nat))]
@[reducible] def YD:aG:=[(6,.cells tY.t104.zero)]
theorem YE {bits size room:Int} (h:iR bits size room=true):Fn Tryz.prog 48 [aD bits,aD size,aD room] [] [2001] (.c8 [.agg [.d (.int .i64 ((2 ^bits.toNat:Nat):Int)),.d (.int .i64 room),.own 2001,.d (.cW BJ []),.d (.cW .str [])],.one (.d (.bool true))])
  ([]++[(2001,.row 148 vR (List.replicate size.toNat (hO 0 0)))]):=by
 obtain⟨⟨ct,cB⟩,⟨a3,a4⟩,a5,gT⟩:=Ei h
 refine Fn.of aj [] _ _ _ _ _ Tryz.func48 rfl rfl (by kernel_rfl) (by kernel_rfl) rfl (aK aj) rfl ?_
 refine⟨rfl,?_⟩
 refine⟨fun c=>absurd (of_decide_eq_true c) (by omega),fun _=>?_⟩
 refine⟨fun c=>absurd (of_decide_eq_true c) (by omega),fun _=>?_⟩
 refine⟨fun c=>absurd (of_decide_eq_true c) (by omega),fun _=>?_⟩
 refine⟨fun c=>absurd (of_decide_eq_true c) (by omega),fun _=>?_⟩
 refine⟨fun c=>absurd (of_decide_eq_true c) (by omega),fun _=>?_⟩
 refine⟨fun c=>absurd (of_decide_eq_true c) (by omega),fun _=>?_⟩
 show aE _ _ _ _ _ _ _
 refine aE.loop aj (aK aj) [] (by kernel_rfl) (X:=Nat) (YC bits size room) (fun _=>YD) (fun k=>(k:Int)≤bits) (fun k=>bits.toNat - k) 0 a5 ?_ ?_
 ·exact ah.sub ⟨rfl,rfl,rfl,rfl,rfl,rfl,trivial⟩ ⟨rfl,trivial⟩
 intro k au
 have j6:2 ^k≤2 ^3:=Nat.pow_le_pow_right (by omega) (by omega)
 refine⟨fun aa=>?_,fun aa=>?_⟩
 ·have aa:((k:Nat):Int) < bits:=of_decide_eq_true aa
  have e:((2 ^k:Nat):Int)+((2 ^k:Nat):Int)=((2 ^(k+1):Nat):Int):=by rw[Nat.pow_succ];generalize 2 ^k=P at*;omega
  have bQ:(-9223372036854775808:Int)≤((2 ^k:Nat):Int)+((2 ^k:Nat):Int)∧((2 ^k:Nat):Int)+((2 ^k:Nat):Int)≤9223372036854775807:=by generalize 2 ^k=P at*;omega
  refine⟨bQ,?_⟩
  exact⟨by omega,k+1,by omega,by omega,ah.sub ⟨rfl,rfl,rfl,rfl,e,rfl,trivial⟩ ⟨rfl,trivial⟩⟩
 ·have aa: ¬((k:Nat):Int) < bits:=of_decide_eq_false aa
  have bU:k=bits.toNat:=by omega
  subst bU
  obtain⟨ii,i1,i2,i3,i4⟩:=YB
  refine⟨_,_,fun N=>YA (d:=44) rfl Tryz.underlying100 i1 i2 i4 i3 rfl rfl ct (by omega) N,rfl,?_⟩
  exact⟨_,_,_,ah.ren 44 2001 rfl,rfl,⟨⟨rfl,rfl,rfl,rfl,rfl,trivial⟩,rfl,trivial⟩,⟨rfl,trivial⟩,rfl⟩
theorem OI (bits size room:Int):Fn Tryz.prog 48 [aD bits,aD size,aD room] [] [] (.c8 [.agg (lQ (nY bits size room)),.one (.d (.bool (iR bits size room)))]) []:=by
 cases h:iR bits size room with
 |true=>
  have e:nY bits size room=nW ((2 ^bits.toNat:Nat):Int) room (List.replicate size.toNat (hO 0 0)) [] []:=by unfold nY;rw[h]
  rw[e]
  exact Fn.MD (d:=2001) (YE h) rfl rfl rfl
 |false=>
  have e:nY bits size room=nW 0 0 [] [] []:=by unfold nY;rw[h]
  rw[e]
  have no: ¬((0≤size∧size≤256)∧(0≤room∧room≤512)∧0≤bits∧bits≤3):=fun⟨⟨ct,cB⟩,⟨a3,a4⟩,a5,gT⟩=>by
   unfold iR at h
   rw[decide_eq_true ct,decide_eq_true cB,decide_eq_true a3,decide_eq_true a4,decide_eq_true a5,decide_eq_true gT] at h
   exact absurd h (by decide)
  refine Fn.of aj [] _ _ _ _ _ Tryz.func48 rfl rfl (by kernel_rfl) (by kernel_rfl) rfl (aK aj) rfl ?_
  refine⟨rfl,?_⟩
  refine⟨fun bp=>?_,fun bp=>?_⟩
  ·exact⟨_,_,_,ah.refl _ _,rfl,⟨⟨rfl,rfl,rfl,rfl,rfl,trivial⟩,rfl,trivial⟩,trivial,rfl⟩
  have bp:=of_decide_eq_false bp
  refine⟨fun bq=>?_,fun bq=>?_⟩
  ·exact⟨_,_,_,ah.refl _ _,rfl,⟨⟨rfl,rfl,rfl,rfl,rfl,trivial⟩,rfl,trivial⟩,trivial,rfl⟩
  have bq:=of_decide_eq_false bq
  refine⟨fun b8=>?_,fun b8=>?_⟩
  ·exact⟨_,_,_,ah.refl _ _,rfl,⟨⟨rfl,rfl,rfl,rfl,rfl,trivial⟩,rfl,trivial⟩,trivial,rfl⟩
  have b8:=of_decide_eq_false b8
  refine⟨fun fB=>?_,fun fB=>?_⟩
  ·exact⟨_,_,_,ah.refl _ _,rfl,⟨⟨rfl,rfl,rfl,rfl,rfl,trivial⟩,rfl,trivial⟩,trivial,rfl⟩
  have fB:=of_decide_eq_false fB
  refine⟨fun gp=>?_,fun gp=>?_⟩
  ·exact⟨_,_,_,ah.refl _ _,rfl,⟨⟨rfl,rfl,rfl,rfl,rfl,trivial⟩,rfl,trivial⟩,trivial,rfl⟩
  have gp:=of_decide_eq_false gp
  refine⟨fun ld=>?_,fun ld=>?_⟩
  ·exact⟨_,_,_,ah.refl _ _,rfl,⟨⟨rfl,rfl,rfl,rfl,rfl,trivial⟩,rfl,trivial⟩,trivial,rfl⟩
  have ld:=of_decide_eq_false ld
  exact absurd ⟨⟨by omega,by omega⟩,⟨by omega,by omega⟩,by omega,by omega⟩ no
@[reducible] def YF (q:kB):aN:=.c (.agg (OD q))
def uF (n:Nat) (m:c6) (q:kB) (b9:List (List UInt8)):c6×Int:=
 if ew q=1 then uC n m (dc q) (fe q) b9 false
 else if ew q=2 then(if fQ n (aL m).length (dc q) (dX q)=0 then uC n m (dc q) (List.replicate (16*dX q).toNat 0) b9 true else(m,fQ n (aL m).length (dc q) (dX q)))
 else zE n m (dc q) (dX q)
set_option maxHeartbeats 2000000 in
theorem YG {n:Nat} {m:c6} (h:gH n m) (q:kB) (b9:List (List UInt8)) (bh:ew q=1∨ew q=2∨ew q=3) (ag:(fe q).length≤1000000) (eC:b9.length≤1000000) (hd:(cU m).length+256≤100000):
  Fn Tryz.prog 98 [nX m,YF q,cJ .str b9] [] [] (.c8 [.agg (lQ (uF n m q b9).1),.one (.d (.str [])),fO (uF n m q b9).2]) []:=by
 have hn:=h.n8
 have hc:=h.jr
 have z2:n*(aL m).length≤8*256:=Nat.mul_le_mul hn hc
 unfold uF
 refine Fn.of aj [] _ _ _ _ _ Tryz.func98 rfl rfl (by kernel_rfl) (by kernel_rfl) rfl (aK aj) rfl ?_
 refine⟨rfl,?_⟩
 refine⟨rfl,?_⟩
 refine⟨rfl,?_⟩
 refine⟨fun c=>absurd (of_decide_eq_true c) (by omega),fun _=>?_⟩
 refine⟨fun bp=>?_,fun bp=>?_⟩
 ·have bp:ew q=1:=of_decide_eq_true bp
  rw[if_pos bp]
  refine⟨_,_,_,_,Fn.arg (Ol h (dc q) (fe q) b9 false ag eC hd) ⟨⟨rfl,rfl,rfl,rfl,rfl,trivial⟩,rfl,rfl,rfl,rfl,trivial⟩,trivial,rfl,?_⟩
  exact⟨_,_,_,ah.refl _ _,rfl,⟨⟨rfl,rfl,rfl,rfl,rfl,trivial⟩,rfl,rfl,trivial⟩,trivial,rfl⟩
 have bp: ¬ew q=1:=of_decide_eq_false bp
 rw[if_neg bp]
 refine⟨fun bq=>?_,fun bq=>?_⟩
 ·have bq:ew q=2:=of_decide_eq_true bq
  rw[if_pos bq]
  refine⟨_,_,_,_,BK h (dc q) (dX q),trivial,rfl,?_⟩
  refine⟨fun b8=>?_,fun b8=>?_⟩
  ·have b8:fQ n (aL m).length (dc q) (dX q)=0:=of_decide_eq_true b8
   rw[if_pos b8]
   obtain⟨bQ,cn,eT⟩:=uB b8
   have vS: -9223372036854775808≤16*dX q∧16*dX q≤9223372036854775807:=by omega
   refine⟨vS,?_⟩
   refine⟨by omega,rfl,?_⟩
   refine⟨_,_,_,_,Fn.arg (Ol h (dc q) (List.replicate (16*dX q).toNat 0) b9 true (by rw[List.length_replicate];omega) eC hd) ⟨⟨rfl,rfl,rfl,rfl,rfl,trivial⟩,rfl,rfl,rfl,rfl,trivial⟩,trivial,rfl,?_⟩
   refine⟨rfl,?_⟩
   exact⟨_,_,_,ah.refl _ _,rfl,⟨⟨rfl,rfl,rfl,rfl,rfl,trivial⟩,rfl,rfl,trivial⟩,trivial,rfl⟩
  ·have b8: ¬fQ n (aL m).length (dc q) (dX q)=0:=of_decide_eq_false b8
   rw[if_neg b8]
   exact⟨_,_,_,ah.refl _ _,rfl,⟨⟨rfl,rfl,rfl,rfl,rfl,trivial⟩,rfl,rfl,trivial⟩,trivial,rfl⟩
 have bq: ¬ew q=2:=of_decide_eq_false bq
 rw[if_neg bq]
 refine⟨fun _=>?_,fun b8=>absurd (of_decide_eq_false b8) (by omega)⟩
 refine⟨_,_,_,_,XO h (dc q) (dX q),trivial,rfl,?_⟩
 exact⟨_,_,_,ah.refl _ _,rfl,⟨⟨rfl,rfl,rfl,rfl,rfl,trivial⟩,rfl,rfl,trivial⟩,trivial,rfl⟩
end Go.Proofs.YteoamepgonpdlaaGreat
namespace Go.Proofs.YteoamepgonpdlaaGreat
set_option linter.unusedVariables false
set_option linter.unusedSimpArgs false
set_option maxRecDepth 10000
open Go.RowKit Go.Proofs
def lf:List UInt8:=[97,98,99,100,101,102,103,104,105,106,107,108,109,110,111,112,113,114,115,116,117,118,119,120,121,122,48,49,50,51,52,53,54,55,56,57,46,45]
theorem YH (c:UInt8):lf.any (fun x=>decide (x=c))=k5 c:=by
 have h: ∀n:Fin 256,lf.any (fun x=>decide (x=UInt8.ofNat n.val))=k5 (UInt8.ofNat n.val):=by decide
 have:=h ⟨c.toNat,c.toNat_lt⟩
 simpa using this
theorem YI (s:List UInt8) (hs:s.length≤4294967296):Fn Tryz.prog 94 [bN s] [] [] (g9 (iB s)) []:=by
 refine Fn.of aj [] _ _ _ _ _ Tryz.func94 rfl rfl (by kernel_rfl) (by kernel_rfl) rfl (aK aj) rfl ?_
 show aE _ _ _ _ _ _ _
 refine aE.loop aj (aK aj) [] (by kernel_rfl) (X:=Nat) (fun k=>[(0,bN s),(3,bN lf),(4,aD (k:Nat))]) (fun _=>[]) (fun k=>k≤s.length∧ ∀(i:Nat) c,i < k→s[i]? =some c→k5 c=true) (fun k=>s.length - k) 0 ⟨Nat.zero_le _,fun i c h=>absurd h (Nat.not_lt_zero _)⟩ ?_ ?_
 ·exact ah.sub ⟨rfl,rfl,rfl,trivial⟩ trivial
 intro k ⟨au,hp⟩
 refine⟨fun h=>?_,fun h=>?_⟩
 ·have bU:k < s.length:=by
   have h:decide ((k:Int) < (s.length:Int))=true:=h
   simpa using h
  show aE _ _ _ _ _ _ _
  refine aE.loop aj (aK aj) [] (by kernel_rfl) (X:=Nat×Bool) (fun x=>[(0,bN s),(3,bN lf),(4,aD (k:Nat)),(5,g9 x.2),(6,aD (x.1:Nat))]) (fun _=>[]) (fun x=>x.1≤lf.length∧x.2=(lf.take x.1).any fun y=>decide (y=s[k])) (fun x=>lf.length - x.1) (0,false) ⟨Nat.zero_le _,rfl⟩ ?_ ?_
  ·exact ah.sub ⟨rfl,rfl,rfl,rfl,rfl,trivial⟩ trivial
  rintro⟨j,fd⟩ ⟨ak,oJ⟩
  simp only at ak oJ
  refine⟨fun af=>?_,fun af=>?_⟩
  ·have ju:j < lf.length:=by
    have af:decide ((j:Int) < (lf.length:Int))=true:=af
    simpa using af
   have pS:lf.length=38:=rfl
   have cl:lf.take (j+1)=lf.take j++[lf[j]]:=by simp
   refine⟨by omega,lf[j],LZ (n:=j) ju,?_⟩
   refine⟨by omega,s[k],LZ (n:=k) bU,?_⟩
   refine⟨rfl,fun aA=>?_,fun aA=>?_⟩
   ·refine⟨by omega,(j+1,true),⟨by omega,?_⟩,by omega,ah.sub ⟨rfl,rfl,rfl,rfl,rfl,trivial⟩ trivial⟩
    have aA:decide ((UInt8.toNat lf[j]:Int)=(UInt8.toNat s[k]:Int))=true:=aA
    have bE:lf[j]=s[k]:=UInt8.toNat_inj.1 (by have:=of_decide_eq_true aA;omega)
    show true=_
    rw[cl,List.any_append]
    simp[bE]
   ·refine⟨by omega,(j+1,fd),⟨by omega,?_⟩,by omega,ah.sub ⟨rfl,rfl,rfl,rfl,rfl,trivial⟩ trivial⟩
    have aA:decide ((UInt8.toNat lf[j]:Int)=(UInt8.toNat s[k]:Int))=false:=aA
    have bE:lf[j]≠s[k]:=fun e=>by rw[e] at aA;simp at aA
    show fd=_
    rw[cl,List.any_append,oJ]
    simp[bE]
  ·have ju:j=lf.length:=by
    have af:decide ((j:Int) < (lf.length:Int))=false:=af
    simp at af;omega
   rw[ju,List.take_length,YH] at oJ
   subst oJ
   refine⟨fun aA=>?_,fun aA=>?_⟩
   ·have aA:(!k5 s[k])=true:=aA
    refine⟨_,_,_,ah.refl _ _,rfl,(show false=iB s from ?_),trivial,rfl⟩
    have:s.all k5=false:=by
     rw[Bool.eq_false_iff]
     intro bE
     have:=List.all_eq_true.1 bE s[k] (List.getElem_mem _)
     rw[this] at aA
     cases aA
    simp[iB,this]
   ·have aA:(!k5 s[k])=false:=aA
    refine⟨by omega,k+1,⟨by omega,fun i c ay hc=>?_⟩,by omega,ah.sub ⟨rfl,rfl,rfl,trivial⟩ trivial⟩
    rcases Nat.lt_or_ge i k with bE |bE
    ·exact hp i c bE hc
    ·have:i=k:=by omega
     subst this
     rw[List.getElem?_eq_getElem bU] at hc
     injection hc with hc
     subst hc
     simpa using aA
 ·have e8:k=s.length:=by
   have h:decide ((k:Int) < (s.length:Int))=false:=h
   simp at h;omega
  have c9:s.all k5=true:=List.all_eq_true.2 fun c hc=>by
   obtain⟨i,ay,rfl⟩:=List.getElem_of_mem hc
   exact hp i _ (by omega) (List.getElem?_eq_getElem ay)
  refine⟨fun aa=>?_,fun aa=>?_⟩
  ·have aa:decide ((0:Int) < (s.length:Int))=true:=aa
   refine⟨_,_,_,ah.refl _ _,rfl,(show decide ((s.length:Int) < 16)=iB s from ?_),trivial,rfl⟩
   simp at aa
   have cK:decide (1≤s.length)=true:=by simp;omega
   have c5:decide ((s.length:Int) < 16)=decide (s.length≤15):=by
    by_cases q6:s.length≤15
    ·rw[decide_eq_true q6,decide_eq_true (by omega)]
    ·rw[decide_eq_false q6,decide_eq_false (by omega)]
   rw[iB,c9,cK,c5]
   simp
  ·have aa:decide ((0:Int) < (s.length:Int))=false:=aa
   refine⟨_,_,_,ah.refl _ _,rfl,(show false=iB s from ?_),trivial,rfl⟩
   simp at aa
   simp[iB,aa]
end Go.Proofs.YteoamepgonpdlaaGreat
namespace Go.Proofs.YteoamepgonpdlaaGreat
set_option linter.unusedVariables false
set_option linter.unusedSimpArgs false
set_option maxRecDepth 10000
open Go.RowKit Go.Proofs
theorem YJ (bits room:Int):Fn Tryz.prog 7 [aD bits,aD room] [] [] (.c8 [.agg (kA bits room []),.one (.d (.bool (iR bits 0 room)))]) []:=by
 refine Fn.of aj [] _ _ _ _ _ Tryz.func7 rfl rfl (by kernel_rfl) (by kernel_rfl) rfl (aK aj) rfl ?_
 refine⟨rfl,?_⟩
 refine⟨_,_,_,_,OI bits 0 room,trivial,rfl,?_⟩
 refine⟨rfl,?_⟩
 exact⟨_,_,_,ah.refl _ _,rfl,⟨⟨rfl,rfl,rfl,trivial⟩,rfl,trivial⟩,trivial,rfl⟩
def uG (bits room:Int) (l:List bJ) (nm:List UInt8) (size:Int) (cP:List UInt8):List bJ×Int:=
 if iR bits size room=false then(l,1)
 else if iB nm=false then(l,1)
 else if 0≤cc l nm then(l,143)
 else if 16≤l.length then(l,143)
 else if cP≠[]∧cc l cP < 0 then(l,140)
 else if cP≠[]∧8≤jL l cP then(l,142)
 else(vV l (iX nm cP (nY bits size room)),0)
set_option maxHeartbeats 1000000 in
theorem YK (bits room:Int) (l:List bJ) (o:fC) (aB:l.length≤1073741824) (hn:(ck o).length≤4294967296):Fn Tryz.prog 54 [k8 bits room l,BP o] [] [] (.c8 [.agg (kA bits room (uG bits room l (ck o) (jM o) (eF o)).1),fO (uG bits room l (ck o) (jM o) (eF o)).2]) []:=by
 unfold uG
 refine Fn.of aj [] _ _ _ _ _ Tryz.func54 rfl rfl (by kernel_rfl) (by kernel_rfl) rfl (aK aj) rfl ?_
 refine⟨rfl,?_⟩
 refine⟨rfl,?_⟩
 refine⟨rfl,?_⟩
 refine⟨_,_,_,_,OI bits (jM o) room,trivial,rfl,?_⟩
 refine⟨rfl,?_⟩
 refine⟨fun bp=>?_,fun bp=>?_⟩
 ·have bp:(!iR bits (jM o) room)=true:=bp
  have bp:iR bits (jM o) room=false:=by simpa using bp
  rw[if_pos bp]
  exact⟨_,_,_,ah.refl _ _,rfl,⟨⟨rfl,rfl,rfl,trivial⟩,rfl,trivial⟩,trivial,rfl⟩
 have bp:(!iR bits (jM o) room)=false:=bp
 have bp:iR bits (jM o) room=true:=by simpa using bp
 rw[if_neg (by rw[bp];decide)]
 refine⟨_,_,_,_,YI (ck o) hn,trivial,rfl,?_⟩
 refine⟨fun bq=>?_,fun bq=>?_⟩
 ·have bq:(!iB (ck o))=true:=bq
  have bq:iB (ck o)=false:=by simpa using bq
  rw[if_pos bq]
  exact⟨_,_,_,ah.refl _ _,rfl,⟨⟨rfl,rfl,rfl,trivial⟩,rfl,trivial⟩,trivial,rfl⟩
 have bq:(!iB (ck o))=false:=bq
 have bq:iB (ck o)=true:=by simpa using bq
 rw[if_neg (by rw[bq];decide)]
 refine⟨_,_,_,_,lR bits room l (ck o) aB,trivial,rfl,?_⟩
 refine⟨fun b8=>?_,fun b8=>?_⟩
 ·have b8:0≤cc l (ck o):=of_decide_eq_true b8
  rw[if_pos b8]
  exact⟨_,_,_,ah.refl _ _,rfl,⟨⟨rfl,rfl,rfl,trivial⟩,rfl,trivial⟩,trivial,rfl⟩
 have b8: ¬0≤cc l (ck o):=of_decide_eq_false b8
 rw[if_neg b8]
 refine⟨fun fB=>?_,fun fB=>?_⟩
 ·have fB:(16:Int)≤((l.length:Nat):Int):=of_decide_eq_true fB
  rw[if_pos (by omega)]
  exact⟨_,_,_,ah.refl _ _,rfl,⟨⟨rfl,rfl,rfl,trivial⟩,rfl,trivial⟩,trivial,rfl⟩
 have fB: ¬(16:Int)≤((l.length:Nat):Int):=of_decide_eq_false fB
 rw[if_neg (by omega)]
 refine⟨fun gp=>?_,fun gp=>?_⟩
 ·have gp:(!decide (eF o=[]))=true:=gp
  have gp:eF o≠[]:=by simpa using gp
  refine⟨_,_,_,_,lR bits room l (eF o) aB,trivial,rfl,?_⟩
  refine⟨fun ld=>?_,fun ld=>?_⟩
  ·have ld:cc l (eF o) < 0:=of_decide_eq_true ld
   rw[if_pos ⟨gp,ld⟩]
   exact⟨_,_,_,ah.refl _ _,rfl,⟨⟨rfl,rfl,rfl,trivial⟩,rfl,trivial⟩,trivial,rfl⟩
  have ld: ¬cc l (eF o) < 0:=of_decide_eq_false ld
  rw[if_neg (fun q=>ld q.2)]
  refine⟨fun _=>?_,fun Jc=>absurd (show(!decide (eF o=[]))=false from Jc) (by rw[decide_eq_false gp];decide)⟩
  refine⟨_,_,_,_,Er bits room l (eF o) aB,trivial,rfl,?_⟩
  refine⟨fun zO=>?_,fun zO=>?_⟩
  ·have zO:(8:Int)≤((jL l (eF o):Nat):Int):=of_decide_eq_true zO
   rw[if_pos ⟨gp,by omega⟩]
   exact⟨_,_,_,ah.refl _ _,rfl,⟨⟨rfl,rfl,rfl,trivial⟩,rfl,trivial⟩,trivial,rfl⟩
  have zO: ¬(8:Int)≤((jL l (eF o):Nat):Int):=of_decide_eq_false zO
  rw[if_neg (fun q=>zO (by have:=q.2;omega))]
  refine⟨_,_,_,_,Ot l (iX (ck o) (eF o) (nY bits (jM o) room)) aB,trivial,rfl,?_⟩
  exact⟨_,_,_,ah.refl _ _,rfl,⟨⟨rfl,rfl,rfl,trivial⟩,rfl,trivial⟩,trivial,rfl⟩
 ·have gp:(!decide (eF o=[]))=false:=gp
  have gp:eF o=[]:=by simpa using gp
  rw[if_neg (fun q=>q.1 gp),if_neg (fun q=>q.1 gp)]
  refine⟨fun Jc=>absurd (show(!decide (eF o=[]))=true from Jc) (by rw[decide_eq_true gp];decide),fun _=>?_⟩
  refine⟨_,_,_,_,Ot l (iX (ck o) (eF o) (nY bits (jM o) room)) aB,trivial,rfl,?_⟩
  exact⟨_,_,_,ah.refl _ _,rfl,⟨⟨rfl,rfl,rfl,trivial⟩,rfl,trivial⟩,trivial,rfl⟩
def jv (l:List bJ) (nm:List UInt8) (d:bJ):List bJ:=l.set (cc l nm).toNat d
def uH (l:List bJ) (nm cP:List UInt8):List bJ×Int:=match cI l nm with
 |none=>(l,140)
 |some d=>if cP≠[]∧cc l cP < 0 then(l,140)
  else if jL (jv l nm (iX (b7 d) cP (bB d))) nm=99 then(l,141)
  else if(jv l nm (iX (b7 d) cP (bB d))).all (fun x=>decide (jL (jv l nm (iX (b7 d) cP (bB d))) (b7 x)≤8)) then(jv l nm (iX (b7 d) cP (bB d)),0)
  else(l,142)
@[reducible] def YL (k:Nat):aQ:=[(2,aI 2),(3,aI 3),(4,aI 4),(8,aI 8),(9,aD (k:Nat))]
@[reducible] def YM (bits room:Int) (l:List bJ) (o:fC) (N:List bJ):aG:=[(2,.cells (kA bits room l)),(3,.cells (BO o)),(4,.cells tY.t29.zero),(8,.cells (kA bits room N))]
set_option maxHeartbeats 1000000 in
theorem YN (bits room:Int) (l:List bJ) (o:fC) (aB:l.length≤1073741824):Fn Tryz.prog 57 [k8 bits room l,BP o] [] [] (.c8 [.agg (kA bits room (uH l (ck o) (eF o)).1),fO (uH l (ck o) (eF o)).2]) []:=by
 unfold uH
 refine Fn.of aj [] _ _ _ _ _ Tryz.func57 rfl rfl (by kernel_rfl) (by kernel_rfl) rfl (aK aj) rfl ?_
 refine⟨rfl,?_⟩
 refine⟨rfl,?_⟩
 refine⟨rfl,?_⟩
 refine⟨_,_,_,_,lR bits room l (ck o) aB,trivial,rfl,?_⟩
 refine⟨fun bp=>?_,fun bp=>?_⟩
 ·have bp:cc l (ck o) < 0:=of_decide_eq_true bp
  rw[zH bp]
  exact⟨_,_,_,ah.refl _ _,rfl,⟨⟨rfl,rfl,rfl,trivial⟩,rfl,trivial⟩,trivial,rfl⟩
 have bp: ¬cc l (ck o) < 0:=of_decide_eq_false bp
 obtain⟨i,ay,ai,aq,bk⟩:=zI bp
 rw[aq]
 simp only
 have eP:ff l (cc l (ck o)).toNat=some l[i]:=by rw[show(cc l (ck o)).toNat=i by omega];exact eY (n:=i) ay
 have iq: ∀d,jv l (ck o) d=l.set i d:=fun d=>by unfold jv;rw[show(cc l (ck o)).toNat=i by omega]
 have dU:(0:Int)≤cc l (ck o)∧cc l (ck o) < ((l.length:Nat):Int):=by omega
 rw[iq]
 refine⟨fun bq=>?_,fun bq=>?_⟩
 focus
  have bq:(!decide (eF o=[]))=true:=bq
  have bq:eF o≠[]:=by simpa using bq
  refine⟨_,_,_,_,lR bits room l (eF o) aB,trivial,rfl,?_⟩
  refine⟨fun b8=>?_,fun b8=>?_⟩
  ·have b8:cc l (eF o) < 0:=of_decide_eq_true b8
   rw[if_pos ⟨bq,b8⟩]
   exact⟨_,_,_,ah.refl _ _,rfl,⟨⟨rfl,rfl,rfl,trivial⟩,rfl,trivial⟩,trivial,rfl⟩
  have b8: ¬cc l (eF o) < 0:=of_decide_eq_false b8
  rw[if_neg (fun q=>b8 q.2)]
 rotate_left
 focus
  have bq:(!decide (eF o=[]))=false:=bq
  have bq:eF o=[]:=by simpa using bq
  rw[if_neg (fun q=>q.1 bq)]
 all_goals
  refine⟨dU.1,l[i],eP,?_⟩
  refine⟨rfl,?_⟩
  refine⟨_,_,_,_,Fn.arg (Oo bits room l (k:=i) aB ay (iX (b7 l[i]) (eF o) (bB l[i]))) ⟨⟨rfl,rfl,rfl,trivial⟩,ai,⟨rfl,rfl,rfl,rfl,rfl,rfl,rfl,trivial⟩,trivial⟩,trivial,rfl,?_⟩
  refine⟨rfl,?_⟩
  generalize dn:l.set i (iX (b7 l[i]) (eF o) (bB l[i]))=N at*
  have abw:N.length=l.length:=by rw[←dn,List.length_set]
  refine⟨_,_,_,_,Er bits room N (ck o) (by omega),trivial,rfl,?_⟩
  refine⟨fun fB=>?_,fun fB=>?_⟩
  ·have fB:((jL N (ck o):Nat):Int)=99:=of_decide_eq_true fB
   rw[if_pos (by omega)]
   exact⟨_,_,_,ah.refl _ _,rfl,⟨⟨rfl,rfl,rfl,trivial⟩,rfl,trivial⟩,trivial,rfl⟩
  have fB: ¬((jL N (ck o):Nat):Int)=99:=of_decide_eq_false fB
  rw[if_neg (by omega)]
  show aE _ _ _ _ _ _ _
  refine aE.loop aj (aK aj) [] (by kernel_rfl) (X:=Nat) YL (fun _=>YM bits room l o N) (fun k=>k≤N.length∧ ∀(j:Nat) x,j < k→N[j]? =some x→jL N (b7 x)≤8) (fun k=>N.length - k) 0 ⟨Nat.zero_le _,fun j x h=>absurd h (Nat.not_lt_zero _)⟩ ?_ ?_
  ·exact ah.sub ⟨rfl,rfl,rfl,rfl,rfl,trivial⟩ ⟨rfl,rfl,rfl,rfl,trivial⟩
  rintro k ⟨au,hp⟩
  refine⟨fun aa=>?_,fun aa=>?_⟩
  ·have aa:((k:Nat):Int) < ((N.length:Nat):Int):=of_decide_eq_true aa
   have bU:k < N.length:=by omega
   refine⟨by omega,N[k],eY (n:=k) bU,?_⟩
   refine⟨_,_,_,_,Er bits room N (b7 N[k]) (by omega),trivial,rfl,?_⟩
   refine⟨rfl,fun af=>?_,fun af=>?_⟩
   ·have af:(8:Int) < ((jL N (b7 N[k]):Nat):Int):=of_decide_eq_true af
    rw[if_neg (fun q=>by
     have:=of_decide_eq_true (List.all_eq_true.1 q _ (List.getElem_mem bU))
     omega)]
    exact⟨_,_,_,ah.refl _ _,rfl,⟨⟨rfl,rfl,rfl,trivial⟩,rfl,trivial⟩,trivial,rfl⟩
   ·have af: ¬(8:Int) < ((jL N (b7 N[k]):Nat):Int):=of_decide_eq_false af
    refine⟨by omega,k+1,⟨by omega,fun j x ak hx=>?_⟩,by omega,ah.sub ⟨rfl,rfl,rfl,rfl,rfl,trivial⟩ ⟨rfl,rfl,rfl,rfl,trivial⟩⟩
    rcases Nat.lt_or_ge j k with bE |bE
    ·exact hp j x bE hx
    ·have:j=k:=by omega
     subst this
     rw[List.getElem?_eq_getElem bU] at hx
     injection hx with hx
     rw[←hx]
     omega
  ·have aa: ¬((k:Nat):Int) < ((N.length:Nat):Int):=of_decide_eq_false aa
   have bU:k=N.length:=by omega
   rw[if_pos (List.all_eq_true.2 fun x hx=>by
    obtain⟨j,ak,rfl⟩:=List.getElem_of_mem hx
    exact decide_eq_true (hp j _ (by omega) (List.getElem?_eq_getElem ak)))]
   exact⟨_,_,_,ah.refl _ _,rfl,⟨⟨rfl,rfl,rfl,trivial⟩,rfl,trivial⟩,trivial,rfl⟩
def lU (n:Nat) (l:List bJ) (x:List UInt8) (k:Nat):List (List UInt8):=(List.range k).map (mL n l x)
theorem YO (n:Nat) (l:List bJ) (x:List UInt8) (k:Nat):lU n l x (k+1)=lU n l x k++[mL n l x k]:=by
 unfold lU
 rw[List.range_succ,List.map_append]
 rfl
theorem OJ (n:Nat) (l:List bJ) (x:List UInt8) (k:Nat):(lU n l x k).length=k:=by unfold lU;rw[List.length_map,List.length_range]
structure Jd where
 l:List bJ
 x:List UInt8
 e:Int
def tq (n:Nat) (l:List bJ) (nm:List UInt8) (q:kB):Jd:=match cI l nm with
 |none=>⟨l,[],140⟩
 |some d=>if ew q=0 then(if fQ n (aL (bB d)).length (dc q) (dX q)=0 then⟨l,((qU n l nm (aL (bB d)).length).take (16*(dc q+dX q)).toNat).drop (16*dc q).toNat,0⟩ else⟨l,[],fQ n (aL (bB d)).length (dc q) (dX q)⟩)
  else⟨jv l nm (iX (b7 d) (er d) (uF n (bB d) q (lU n l nm (aL (bB d)).length)).1),[],(uF n (bB d) q (lU n l nm (aL (bB d)).length)).2⟩
@[reducible] def OK (i:Int) (b k:Nat):aQ:=[(2,aI 2),(3,aI 3),(4,aI 4),(7,aD i),(8,aI 8),(10,iL b),(11,aD (k:Nat))]
@[reducible] def OL (bits room:Int) (l:List bJ) (o:fC) (d:bJ) (b:Nat) (x:List (List UInt8)):aG:=[(2,.cells (kA bits room l)),(3,.cells (BO o)),(4,.cells tY.t29.zero),(8,.cells (IY d)),(b,.row 9 .str x)]
set_option maxHeartbeats 2000000 in
theorem YP {n:Nat} {l:List bJ} (h:uE n l) (bits room:Int) (o:fC) (bh:ew (cN o)=0∨ew (cN o)=1∨ew (cN o)=2∨ew (cN o)=3) (ag:(fe (cN o)).length≤1000000) (hd: ∀d,d∈l→(cU (bB d)).length+256≤100000):
  Fn Tryz.prog 58 [k8 bits room l,BP o] [] [] (.c8 [.agg (kA bits room (tq n l (ck o) (cN o)).l),.one (.d (.str (tq n l (ck o) (cN o)).x)),fO (tq n l (ck o) (cN o)).e]) []:=by
 have aB:=h.len
 unfold tq
 refine Fn.of aj [15] _ _ _ _ _ Tryz.func58 rfl rfl (by kernel_rfl) (by kernel_rfl) rfl (aK aj) rfl ?_
 refine⟨rfl,?_⟩
 refine⟨rfl,?_⟩
 refine⟨rfl,?_⟩
 refine⟨_,_,_,_,lR bits room l (ck o) (by omega),trivial,rfl,?_⟩
 refine⟨fun bp=>?_,fun bp=>?_⟩
 ·have bp:cc l (ck o) < 0:=of_decide_eq_true bp
  rw[zH bp]
  exact⟨_,_,_,ah.refl _ _,rfl,⟨⟨rfl,rfl,rfl,trivial⟩,rfl,rfl,trivial⟩,trivial,rfl⟩
 have bp: ¬cc l (ck o) < 0:=of_decide_eq_false bp
 obtain⟨i,ay,ai,aq,bk⟩:=zI bp
 rw[aq]
 simp only
 have eP:ff l (cc l (ck o)).toNat=some l[i]:=by rw[show(cc l (ck o)).toNat=i by omega];exact eY (n:=i) ay
 have iq: ∀d,jv l (ck o) d=l.set i d:=fun d=>by unfold jv;rw[show(cc l (ck o)).toNat=i by omega]
 have dU:(0:Int)≤cc l (ck o)∧cc l (ck o) < ((l.length:Nat):Int):=by omega
 have az:=h.ok _ (List.getElem_mem ay)
 have hdd:=hd _ (List.getElem_mem ay)
 rw[iq]
 generalize hx:l[i]=d at*
 have cQ:=az.jr
 have xY:=az.n8
 have z2:n*(aL (bB d)).length≤8*256:=Nat.mul_le_mul xY cQ
 refine⟨dU.1,d,eP,?_⟩
 refine⟨rfl,?_⟩
 refine⟨fun bq=>?_,fun bq=>?_⟩
 ·have bq:ew (cN o)=0:=of_decide_eq_true bq
  rw[if_pos bq]
  refine⟨_,_,_,_,BK az (dc (cN o)) (dX (cN o)),trivial,rfl,?_⟩
  refine⟨fun b8=>?_,fun b8=>?_⟩
  ·have b8:(!decide (fQ n (aL (bB d)).length (dc (cN o)) (dX (cN o))=0))=true:=b8
   have b8: ¬fQ n (aL (bB d)).length (dc (cN o)) (dX (cN o))=0:=by simpa using b8
   rw[if_neg b8]
   exact⟨_,_,_,ah.refl _ _,rfl,⟨⟨rfl,rfl,rfl,trivial⟩,rfl,rfl,trivial⟩,trivial,rfl⟩
  have b8:(!decide (fQ n (aL (bB d)).length (dc (cN o)) (dX (cN o))=0))=false:=b8
  have b8:fQ n (aL (bB d)).length (dc (cN o)) (dX (cN o))=0:=by simpa using b8
  rw[if_pos b8]
  obtain⟨bQ,cn,eT⟩:=uB b8
  refine⟨_,_,_,_,Oy h bits room (ck o) aq,trivial,rfl,?_⟩
  have al:=I8 h (ck o) (aL (bB d)).length
  have cK: -9223372036854775808≤16*dc (cN o)∧16*dc (cN o)≤9223372036854775807:=by omega
  have c5: -9223372036854775808≤dc (cN o)+dX (cN o)∧dc (cN o)+dX (cN o)≤9223372036854775807:=by omega
  have fU: -9223372036854775808≤16*(dc (cN o)+dX (cN o))∧16*(dc (cN o)+dX (cN o))≤9223372036854775807:=by omega
  have iw:0≤16*dc (cN o)∧16*dc (cN o)≤16*(dc (cN o)+dX (cN o))∧16*(dc (cN o)+dX (cN o))≤((qU n l (ck o) (aL (bB d)).length).length:Nat):=by
   rw[al,Nat.mul_assoc]
   generalize n*(aL (bB d)).length=N at*
   omega
  refine⟨cK,c5,fU,iw,?_⟩
  refine⟨rfl,?_⟩
  exact⟨_,_,_,ah.refl _ _,rfl,⟨⟨rfl,rfl,rfl,trivial⟩,rfl,rfl,trivial⟩,trivial,rfl⟩
 have bq: ¬ew (cN o)=0:=of_decide_eq_false bq
 rw[if_neg bq]
 show aE _ _ _ _ _ _ _
 refine aE.loop aj (aK aj) [15] (by kernel_rfl) (X:=Nat) (fun k=>OK (cc l (ck o)) 2003 k) (fun k=>OL bits room l o d 2003 (lU n l (ck o) k)) (fun k=>k≤(aL (bB d)).length) (fun k=>(aL (bB d)).length - k) 0 (Nat.zero_le _) ?_ ?_
 ·exact ah.trans (ah.nil 10 2003 9 .str rfl rfl) (ah.sub ⟨rfl,rfl,rfl,rfl,rfl,rfl,rfl,trivial⟩ ⟨rfl,rfl,rfl,rfl,rfl,trivial⟩)
 intro k au
 refine⟨fun aa=>?_,fun aa=>?_⟩
 ·have aa:((k:Nat):Int) < (((aL (bB d)).length:Nat):Int):=of_decide_eq_true aa
  refine⟨_,_,_,_,I7 h bits room (ck o) k aq (by omega),trivial,rfl,?_⟩
  have bQ:(lU n l (ck o) k).length+1≤4294967296:=by rw[OJ];omega
  refine⟨bQ,rfl,?_⟩
  refine⟨by omega,k+1,by omega,by omega,ah.trans (ah.sub (K':=OK (cc l (ck o)) 77 (k+1)) (B':=OL bits room l o d 77 (lU n l (ck o) (k+1))) ⟨rfl,rfl,rfl,rfl,rfl,rfl,rfl,trivial⟩ ⟨rfl,rfl,rfl,rfl,?_,trivial⟩) (ah.ren 77 2003 rfl)⟩
  rw[YO]
  rfl
 ·have aa: ¬((k:Nat):Int) < (((aL (bB d)).length:Nat):Int):=of_decide_eq_false aa
  have bU:k=(aL (bB d)).length:=by omega
  subst bU
  show aE _ _ _ _ _ _ _
  refine aE.go aj (aK aj) [] (by kernel_rfl) (ah.dV 2003 rfl) ?_
  refine⟨_,_,_,_,YG az (cN o) (lU n l (ck o) (aL (bB d)).length) (by omega) ag (by rw[OJ];omega) hdd,trivial,rfl,?_⟩
  refine⟨rfl,?_⟩
  refine⟨_,_,_,_,Fn.arg (Oo bits room l (k:=i) (by omega) ay (iX (b7 d) (er d) (uF n (bB d) (cN o) (lU n l (ck o) (aL (bB d)).length)).1)) ⟨⟨rfl,rfl,rfl,trivial⟩,ai,⟨rfl,rfl,rfl,rfl,rfl,rfl,rfl,trivial⟩,trivial⟩,trivial,rfl,?_⟩
  exact⟨_,_,_,ah.refl _ _,rfl,⟨⟨rfl,rfl,rfl,trivial⟩,rfl,rfl,trivial⟩,trivial,rfl⟩
def xZ (l:List bJ) (nm:List UInt8):Jd:=match cI l nm with
 |none=>⟨l,[],140⟩
 |some _=>if 0 < (ng l nm).length then⟨l,[],143⟩ else⟨l.take (cc l nm).toNat++l.drop ((cc l nm).toNat+1),[],0⟩
def ji (n:Nat) (bits room:Int) (l:List bJ) (o:fC):Jd:=
 if fX o=0 then⟨(uG bits room l (ck o) (jM o) (eF o)).1,[],(uG bits room l (ck o) (jM o) (eF o)).2⟩
 else if fX o=1 then xZ l (ck o)
 else if fX o=2 then⟨(uH l (ck o) (eF o)).1,[],(uH l (ck o) (eF o)).2⟩
 else if fX o=3∧0≤ew (cN o)∧ew (cN o)≤3 then tq n l (ck o) (cN o)
 else⟨l,[],0⟩
set_option maxHeartbeats 2000000 in
theorem Ez {n:Nat} {l:List bJ} (h:uE n l) (bits room:Int) (o:fC) (hn:(ck o).length≤4294967296) (ag:(fe (cN o)).length≤1000000) (hd: ∀d,d∈l→(cU (bB d)).length+256≤100000):
  Fn Tryz.prog 10 [k8 bits room l,BP o] [] [] (.c8 [.agg (kA bits room (ji n bits room l o).l),.one (.d (.str (ji n bits room l o).x)),fO (ji n bits room l o).e]) []:=by
 have aB:=h.len
 unfold ji
 refine Fn.of aj [17] _ _ _ _ _ Tryz.func10 rfl rfl (by kernel_rfl) (by kernel_rfl) rfl (aK aj) rfl ?_
 refine⟨rfl,?_⟩
 refine⟨rfl,?_⟩
 refine⟨rfl,?_⟩
 refine⟨fun cy=>?_,fun cy=>?_⟩
 ·have cy:fX o=0:=of_decide_eq_true cy
  rw[if_pos cy]
  refine⟨_,_,_,_,YK bits room l o (by omega) hn,trivial,rfl,?_⟩
  show aE _ _ _ _ _ _ _
  refine aE.go aj (aK aj) [] (by kernel_rfl) (ah.refl _ _) ?_
  exact⟨_,_,_,ah.refl _ _,rfl,⟨⟨rfl,rfl,rfl,trivial⟩,rfl,rfl,trivial⟩,trivial,rfl⟩
 have cy: ¬fX o=0:=of_decide_eq_false cy
 rw[if_neg cy]
 refine⟨fun bp=>?_,fun bp=>?_⟩
 ·have bp:fX o=1:=of_decide_eq_true bp
  rw[if_pos bp]
  unfold xZ
  refine⟨_,_,_,_,lR bits room l (ck o) (by omega),trivial,rfl,?_⟩
  refine⟨fun bq=>?_,fun bq=>?_⟩
  ·have bq:cc l (ck o) < 0:=of_decide_eq_true bq
   rw[zH bq]
   exact⟨_,_,_,ah.refl _ _,rfl,⟨⟨rfl,rfl,rfl,trivial⟩,rfl,rfl,trivial⟩,trivial,rfl⟩
  have bq: ¬cc l (ck o) < 0:=of_decide_eq_false bq
  obtain⟨i,ay,ai,aq,bk⟩:=zI bq
  rw[aq]
  simp only
  refine⟨_,_,_,_,X0 bits room l (ck o) (by omega),trivial,rfl,?_⟩
  refine⟨fun b8=>?_,fun b8=>?_⟩
  ·have b8:(0:Int) < (((ng l (ck o)).length:Nat):Int):=of_decide_eq_true b8
   rw[if_pos (by omega)]
   exact⟨_,_,_,ah.refl _ _,rfl,⟨⟨rfl,rfl,rfl,trivial⟩,rfl,rfl,trivial⟩,trivial,rfl⟩
  have b8: ¬(0:Int) < (((ng l (ck o)).length:Nat):Int):=of_decide_eq_false b8
  rw[if_neg (by omega)]
  have cK:0≤cc l (ck o)∧cc l (ck o)≤((l.length:Nat):Int):=by omega
  refine⟨rfl,cK,?_⟩
  have bQ:(0:Nat)+(l.take (cc l (ck o)).toNat).length≤4294967296:=by rw[List.length_take];omega
  refine⟨bQ,rfl,?_⟩
  have c5: -9223372036854775808≤cc l (ck o)+1∧cc l (ck o)+1≤9223372036854775807:=by omega
  refine⟨c5,?_⟩
  have fU:0≤cc l (ck o)+1∧cc l (ck o)+1≤((l.length:Nat):Int):=by omega
  refine⟨fU,?_⟩
  have cn:(l.take (cc l (ck o)).toNat).length+((l.take l.length).drop (cc l (ck o)+1).toNat).length≤4294967296:=by rw[List.length_take,List.length_drop,List.length_take];omega
  refine⟨cn,rfl,rfl,?_⟩
  show aE _ _ _ _ _ _ _
  refine aE.go aj (aK aj) [] (by kernel_rfl) (ah.dV 46 rfl) ?_
  have eR:(cc l (ck o)+1).toNat=(cc l (ck o)).toNat+1:=by omega
  have gW:(l.take l.length).drop (cc l (ck o)+1).toNat=l.drop ((cc l (ck o)).toNat+1):=by rw[List.take_length,eR]
  exact⟨_,_,_,ah.refl _ _,rfl,⟨⟨rfl,rfl,congrArg (fun z:List bJ=>l.take (cc l (ck o)).toNat++z) gW,trivial⟩,rfl,rfl,trivial⟩,trivial,rfl⟩
 have bp: ¬fX o=1:=of_decide_eq_false bp
 rw[if_neg bp]
 refine⟨fun bq=>?_,fun bq=>?_⟩
 ·have bq:fX o=2:=of_decide_eq_true bq
  rw[if_pos bq]
  refine⟨_,_,_,_,YN bits room l o (by omega),trivial,rfl,?_⟩
  show aE _ _ _ _ _ _ _
  refine aE.go aj (aK aj) [] (by kernel_rfl) (ah.refl _ _) ?_
  exact⟨_,_,_,ah.refl _ _,rfl,⟨⟨rfl,rfl,rfl,trivial⟩,rfl,rfl,trivial⟩,trivial,rfl⟩
 have bq: ¬fX o=2:=of_decide_eq_false bq
 rw[if_neg bq]
 refine⟨fun b8=>?_,fun b8=>?_⟩
 ·have b8:fX o=3:=of_decide_eq_true b8
  refine⟨fun fB=>?_,fun fB=>?_⟩
  ·have fB:0≤ew (cN o):=of_decide_eq_true fB
   refine⟨fun gp=>?_,fun gp=>?_⟩
   ·have gp:ew (cN o)≤3:=of_decide_eq_true gp
    rw[if_pos ⟨b8,fB,gp⟩]
    refine⟨_,_,_,_,YP h bits room o (by omega) ag hd,trivial,rfl,?_⟩
    exact⟨_,_,_,ah.refl _ _,rfl,⟨⟨rfl,rfl,rfl,trivial⟩,rfl,rfl,trivial⟩,trivial,rfl⟩
   ·have gp: ¬ew (cN o)≤3:=of_decide_eq_false gp
    rw[if_neg (fun q=>gp q.2.2)]
    show aE _ _ _ _ _ _ _
    refine aE.go aj (aK aj) [] (by kernel_rfl) (ah.refl _ _) ?_
    exact⟨_,_,_,ah.refl _ _,rfl,⟨⟨rfl,rfl,rfl,trivial⟩,rfl,rfl,trivial⟩,trivial,rfl⟩
  ·have fB: ¬0≤ew (cN o):=of_decide_eq_false fB
   rw[if_neg (fun q=>fB q.2.1)]
   show aE _ _ _ _ _ _ _
   refine aE.go aj (aK aj) [] (by kernel_rfl) (ah.refl _ _) ?_
   exact⟨_,_,_,ah.refl _ _,rfl,⟨⟨rfl,rfl,rfl,trivial⟩,rfl,rfl,trivial⟩,trivial,rfl⟩
 ·have b8: ¬fX o=3:=of_decide_eq_false b8
  rw[if_neg (fun q=>b8 q.1)]
  show aE _ _ _ _ _ _ _
  refine aE.go aj (aK aj) [] (by kernel_rfl) (ah.refl _ _) ?_
  exact⟨_,_,_,ah.refl _ _,rfl,⟨⟨rfl,rfl,rfl,trivial⟩,rfl,rfl,trivial⟩,trivial,rfl⟩
end Go.Proofs.YteoamepgonpdlaaGreat
