/-
Part 15 of the proof that stands in YteoamepgonpdlaaGreatPcRow, with what it needs from the parts ahead; the parts of this text: Rx, Qf, Lz, Qg, Rr, Qh, Rp, Ib.
-/
import Derived.Test.YteoamepgonpdlaaGreatPc14
set_option linter.unusedVariables false
set_option linter.unusedSimpArgs false
set_option maxRecDepth 10000
namespace Go.Proofs.YteoamepgonpdlaaGreat
open Go.RowKit Go.Proofs
section
variable {P:Program} {ids:List Nat} {K:aQ} {B:aG}
theorem Y3 {o:Oper} {T:TypeId} {x v:Operand} {c i off:Nat} {e:TypeId} {u:U} {xs:List (aI u)} {y y':aI u} {EY:D} {inf:TypeInfo} (az:o.op= .store T x v) (aD:P.info? T=some inf) (aS:inf.size=1) (hx:aU K x= .c (.one (.fk c (aM u) i off)))
  (hv:aU K v= .c (.one (.d EY))) (dy:ax B c=some (.row e u xs)) (aF:eT xs i=some y) (BW:off < aM u) (BF:nO u y') (hc: ∀j,j < aM u→e4 u y' j=if j=off then EY else e4 u y j)
  (aa: ∀{I:Nat→Prop} {w:World} {z:Value},Den I w EY z→z.cells=List.toArray [z]∧z.oneCell'=true) (N:Nat):
  bH P N ids o K B .undef ⟨[c],[],[(c,some (.row e u (xs.set i y')))]⟩:=by
 have m1:x∈o.op.operands:=by rw[az];simp[Op.operands]
 have m2:v∈o.op.operands:=by rw[az];simp[Op.operands]
 have Cd:i < xs.length:=AH aF
 refine bH.jP dy fun K' B' g1 C ρ F a w aA hS gj=>?_
 obtain⟨hF,jq,cs,dD,lH⟩:=aA.holds c _ gj
 have AW:=hS.fk ((g1 x m1).trans hx)
 have ak:Den (bO C B' F w) w EY (a.eval v):=hS.ev ((g1 v m2).trans hv)
 obtain⟨d1,d2⟩:=aa ak
 obtain⟨rV,dD⟩:=dD
 rcases dD with⟨_,aE⟩ |⟨g,cap,cur,nt,_,bk,xm,hm,dH,cc⟩
 ·omega
 ·have AX:g=(ρ c).bI:=jq g (by rw[nt];rfl)
  subst AX
  have hmul:i*aM u+off < xs.length*aM u:=by
   have:=Nat.mul_le_mul_right (aM u) Cd
   rw[Nat.succ_mul] at this
   omega
  have YG:xs.length*aM u≤cap*aM u:=Nat.mul_le_mul_right _ xm
  have uC:w.heap[(ρ c).bI]? =some (.cells (List.toArray cur.toList) e (0,0)):=by simpa using bk
  have nX:i*aM u+off+ [a.eval v].length≤cur.toList.length:=by simp;omega
  have hex:=y3 (P:=P) (ev:=a.eval) (w:=w) az AW d1 aD aS uC nX (by simpa using d2)
  refine⟨_,hex,AU ((hF _).2 (by rw[nt];rfl)),fun I he=>?_⟩
  have kz:=setRow_heap w (ρ c).bI cur (List.take (i*aM u+off) cur.toList++[a.eval v]++List.drop (i*aM u+off+ [a.eval v].length) cur.toList).toArray e (0,0) bk
  have iY:(List.take (i*aM u+off) cur.toList++[a.eval v]++List.drop (i*aM u+off+ [a.eval v].length) cur.toList)=cur.toList.set (i*aM u+off) (a.eval v):=by
   rw[List.set_eq_take_append_cons_drop,if_pos (by simp;omega)]
   simp
  rw[iY] at kz
  refine⟨hF,jq,cs.set (i*aM u+off) (a.eval v),⟨by simp[rV],.inr ⟨(ρ c).bI,cap,_,by rw[nt];simp,Nat.zero_le _,by rw[iY];exact kz,by simpa using xm,hm,by simp[dH],?_⟩⟩,fun j z aS=>?_⟩
  ·rw[←cc]
   simp[List.take_set]
  ·by_cases mO:i=j
   ·subst mO
    rw[List.getElem?_set_self Cd] at aS
    injection aS with aS
    subst aS
    have hd:=lH i y aF
    refine b7.mk u y' _ BF fun q bp=>?_
    rw[hc q bp]
    by_cases Bo:q=off
    ·rw[if_pos Bo]
     subst Bo
     exact⟨a.eval v,by rw[List.getElem?_set_self (by omega)],Den.mono he _ _ ak⟩
    ·rw[if_neg Bo]
     obtain⟨x,hx,s9⟩:=b7.cell u y _ q hd bp
     exact⟨x,by rw[List.getElem?_set_ne (by omega)];exact hx,Den.mono he _ _ s9⟩
   ·rw[List.getElem?_set_ne mO] at aS
    have hd:=lH j z aS
    refine b7.mk u z _ (b7.wf u z _ hd) fun q bp=>?_
    obtain⟨x,hx,s9⟩:=b7.cell u z _ q hd bp
    refine⟨x,?_,Den.mono he _ _ s9⟩
    rw[List.getElem?_set_ne ?_]
    ·exact hx
    ·intro e
     have aa:(i*aM u+off)/aM u=i:=by rw[Nat.mul_comm,Nat.mul_add_div (by omega),Nat.div_eq_of_lt BW,Nat.add_zero]
     have af:(j*aM u+q)/aM u=j:=by rw[Nat.mul_comm,Nat.mul_add_div (by omega),Nat.div_eq_of_lt bp,Nat.add_zero]
     rw[e,af] at aa
     exact mO aa.symm
end
theorem Y4 {I:Nat→Prop} {w:World} {n:Int} {z:Value} (h:Den I w (.int .i64 n) z):z.cells=List.toArray [z]∧z.oneCell'=true:=by
 have h:z= .int .i64 n:=h
 subst h
 exact⟨rfl,rfl⟩
theorem Y5:(Tryz.prog.info? 3).map (·.size)=some 1:=by kernel_rfl
@[reducible] def jm:U:=.pr bt (.pr bt bt)
abbrev gX:=Int×Int×Int
def nJ (l:List gX):Int:=match l.getLast? with
 |none=>0
 |some x=>x.1+x.2.1
def oF (l:List gX) (n k:Int):List gX:=if n < 1 then l else match l.getLast? with
 |some x=>if x.2.2=k then l.set (l.length - 1) (x.1,x.2.1+n,x.2.2) else l++[(nJ l,n,k)]
 |none=>l++[(nJ l,n,k)]
theorem EZ {α:Type} {l:List α} {x:α} (h:l.getLast? =some x):0 < l.length∧eT l (l.length - 1)=some x:=by
 rw[List.getLast?_eq_getElem?] at h
 exact⟨by have:=(List.getElem?_eq_some_iff.1 h).1;omega,h⟩
theorem Pj {α:Type} {l:List α} (h:l.getLast? =none):l=[]:=by simpa using h
theorem Y6 (l:List gX) (ag: ∀x,l.getLast? =some x→ -4611686018427387904≤x.1∧x.1≤4611686018427387903∧ -4611686018427387904≤x.2.1∧x.2.1≤4611686018427387903) (aB:l.length≤4294967296):
  Fn Tryz.prog 131 [iO 1001] [(1001,.row 114 jm l)] [] (aC (nJ l)) [(1001,.row 114 jm l)]:=by
 refine Fn.of ai [] _ _ _ _ _ Tryz.func131 rfl rfl (by kernel_rfl) (by kernel_rfl) rfl (aJ ai) rfl ?_
 refine⟨fun h=>?_,fun h=>?_⟩
 ·have h:((l.length:Nat):Int)=0:=of_decide_eq_true h
  have aE:l=[]:=List.length_eq_zero_iff.1 (by omega)
  subst aE
  exact⟨_,_,_,ah.refl _ _,rfl,rfl,⟨rfl,trivial⟩,rfl⟩
 ·have h: ¬((l.length:Nat):Int)=0:=of_decide_eq_false h
  cases hx:l.getLast? with
  |none=>rw[Pj hx] at h;exact absurd rfl h
  |some x=>
   have ag:=ag x hx
   obtain⟨aE,bk⟩:=EZ hx
   have e:(((l.length:Nat):Int) - 1).toNat=l.length - 1:=by omega
   have m:(-9223372036854775808:Int)≤((l.length:Nat):Int) - 1∧((l.length:Nat):Int) - 1≤9223372036854775807:=by omega
   have m2:(0:Int)≤((l.length:Nat):Int) - 1∧(((l.length:Nat):Int) - 1).toNat < l.length:=by omega
   have m3:(-9223372036854775808:Int)≤x.1+x.2.1∧x.1+x.2.1≤9223372036854775807:=by omega
   have uY:eT l (((l.length:Nat):Int) - 1).toNat=some x:=by rw[e];exact bk
   refine⟨m,⟨m2.1,by omega⟩,x,uY,m,⟨m2.1,by omega⟩,x,uY,m3,rfl,?_⟩
   exact⟨_,_,_,ah.refl _ _,rfl,(show x.1+x.2.1=nJ l by unfold nJ;rw[hx]),⟨rfl,trivial⟩,rfl⟩
theorem Y7 (l:List gX) (n k:Int) (ag: ∀x,l.getLast? =some x→ -4611686018427387904≤x.1∧x.1≤4611686018427387903∧ -4611686018427387904≤x.2.1∧x.2.1≤4611686018427387903) (hn:n≤4611686018427387903) (aB:l.length≤1000000000):
  Fn Tryz.prog 106 [iO 1001,aC n,aC k] [(1001,.row 114 jm l)] [1002] (iO 1002) [(1002,.row 114 jm (oF l n k))]:=by
 obtain⟨ii,Y8,Y9⟩:=nC Y5
 have JJ:=Y6 l ag (by omega)
 refine Fn.of ai [] _ _ _ _ _ Tryz.func106 rfl rfl (by kernel_rfl) (by kernel_rfl) rfl (aJ ai) rfl ?_
 refine⟨fun h=>?_,fun h=>?_⟩
 ·have h:n < 1:=of_decide_eq_true h
  have e:oF l n k=l:=if_pos h
  exact⟨_,_,_,ah.ren 1001 1002 rfl,rfl,rfl,⟨congrArg (fun z:List gX=>some (bw.row 114 jm z)) e.symm,trivial⟩,rfl⟩
 have h: ¬n < 1:=of_decide_eq_false h
 have m:(-9223372036854775808:Int)≤((l.length:Nat):Int) - 1∧((l.length:Nat):Int) - 1≤9223372036854775807:=by omega
 refine⟨m,?_⟩
 cases hx:l.getLast? with
 |none=>
  have aE:=Pj hx
  subst aE
  refine⟨fun af=>absurd af (by decide),fun _=>?_⟩
  refine⟨_,_,_,_,JJ,⟨rfl,trivial⟩,rfl,?_⟩
  refine⟨(show(0+1:Nat)≤4294967296 from by decide),rfl,?_⟩
  have e:oF [] n k=[(nJ [],n,k)]:=by unfold oF;rw[if_neg h];rfl
  exact⟨_,_,_,ah.ren 42 1002 rfl,rfl,rfl,⟨congrArg (fun z:List gX=>some (bw.row 114 jm z)) e.symm,trivial⟩,rfl⟩
 |some x=>
  have ag:=ag x hx
  obtain⟨aE,bk⟩:=EZ hx
  have e:(((l.length:Nat):Int) - 1).toNat=l.length - 1:=by omega
  have uY:eT l (((l.length:Nat):Int) - 1).toNat=some x:=by rw[e];exact bk
  have m2:(0:Int)≤((l.length:Nat):Int) - 1∧((l.length:Nat):Int) - 1 < l.length:=by omega
  refine⟨fun _=>?_,fun af=>?_⟩
  ·refine⟨m2,x,uY,?_⟩
   refine⟨fun aq=>?_,fun aq=>?_⟩
   ·have aq:x.2.2=k:=of_decide_eq_true aq
    have m3:(-9223372036854775808:Int)≤x.2.1+n∧x.2.1+n≤9223372036854775807:=by omega
    refine⟨m2,x,uY,m3,m2,?_⟩
    refine⟨_,_,fun N=>Y3 (u:=jm) (y:=x) (y':=((x.1,x.2.1+n,x.2.2):gX)) (off:=1) rfl Y8 Y9 rfl rfl rfl uY (by decide) ⟨trivial,trivial,trivial⟩ (fun j au=>?_) Y4 N,rfl,?_⟩
    ·match j,au with
     |0,_=>rfl
     |1,_=>rfl
     |2,_=>rfl
    have ak:oF l n k=l.set (((l.length:Nat):Int) - 1).toNat (x.1,x.2.1+n,x.2.2):=by
     unfold oF
     rw[if_neg h,hx,e]
     show(if x.2.2=k then _ else _)=_
     rw[if_pos aq]
    exact⟨_,_,_,ah.ren 1001 1002 rfl,rfl,rfl,⟨congrArg (fun z:List gX=>some (bw.row 114 jm z)) ak.symm,trivial⟩,rfl⟩
   ·have aq: ¬x.2.2=k:=of_decide_eq_false aq
    refine⟨_,_,_,_,JJ,⟨rfl,trivial⟩,rfl,?_⟩
    have je:List.length (α:=gX) l+1≤4294967296:=by omega
    refine⟨je,rfl,?_⟩
    have ak:oF l n k=l++[(nJ l,n,k)]:=by
     unfold oF
     rw[if_neg h,hx]
     show(if x.2.2=k then _ else _)=_
     rw[if_neg aq]
    exact⟨_,_,_,ah.ren 42 1002 rfl,rfl,rfl,⟨congrArg (fun z:List gX=>some (bw.row 114 jm z)) ak.symm,trivial⟩,rfl⟩
  ·have af: ¬((l.length:Nat):Int) - 1≥0:=of_decide_eq_false af
   omega
def iC (ks:List Int):List gX:=ks.foldl (fun l k=>oF l 1 k) []
structure yz (ks:List Int) (l:List gX):Prop where
 end_:nJ l=(ks.length:Int)
 each: ∀x,x∈l→0≤x.1∧1≤x.2.1∧x.1+x.2.1≤(ks.length:Int)∧ ∀k:Nat,x.1≤(k:Int)→(k:Int) < x.1+x.2.1→ks[k]? =some x.2.2
 len:l.length≤ks.length
theorem Pk (l:List gX) (x:gX):nJ (l++[x])=x.1+x.2.1:=by
 unfold nJ
 rw[List.getLast?_concat]
theorem yz.add {ks:List Int} {l:List gX} (h:yz ks l) (k:Int):yz (ks++[k]) (oF l 1 k):=by
 have hold: ∀x,x∈l→0≤x.1∧1≤x.2.1∧x.1+x.2.1≤((ks++[k]).length:Int)∧ ∀j:Nat,x.1≤(j:Int)→(j:Int) < x.1+x.2.1→(ks++[k])[j]? =some x.2.2:=fun x hx=>by
  obtain⟨aa,af,ay,bu⟩:=h.each x hx
  refine⟨aa,af,by rw[List.length_append];simp;omega,fun j iD fQ=>?_⟩
  rw[List.getElem?_append_left (by omega)]
  exact bu j iD fQ
 have kz:yz (ks++[k]) (l++[(nJ l,1,k)]):=by
  refine⟨?_,fun x hx=>?_,by simp;exact h.len⟩
  ·rw[Pk,h.end_,List.length_append]
   simp
  ·rcases List.mem_append.1 hx with hx |hx
   ·exact hold x hx
   ·rw[List.mem_singleton] at hx
    subst hx
    refine⟨by show 0≤nJ l;rw[h.end_];omega,(show(1:Int)≤1 from by decide),by show nJ l+1≤_;rw[h.end_,List.length_append];simp,fun j iD fQ=>?_⟩
    have iD:nJ l≤(j:Int):=iD
    have fQ:(j:Int) < nJ l+1:=fQ
    rw[h.end_] at iD fQ
    have:j=ks.length:=by omega
    subst this
    rw[List.getElem?_append_right (Nat.le_refl _)]
    simp
 unfold oF
 rw[if_neg (by decide)]
 cases hx:l.getLast? with
 |none=>exact kz
 |some x=>
  simp only
  split
  ·rename_i aq
   obtain⟨aE,bk⟩:=EZ hx
   have Za:x∈l:=List.mem_of_getElem? bk
   have JJ:x.1+x.2.1=(ks.length:Int):=by have:=h.end_;unfold nJ at this;rw[hx] at this;exact this
   obtain⟨aa,af,ay,bu⟩:=h.each x Za
   refine⟨?_,fun y aF=>?_,by rw[List.length_set,List.length_append];have:=h.len;omega⟩
   ·unfold nJ
    rw[List.getLast?_eq_getElem?,List.length_set,List.getElem?_set_self (by omega)]
    show x.1+(x.2.1+1)=_
    rw[List.length_append]
    simp
    omega
   ·rcases List.mem_or_eq_of_mem_set aF with aF |rfl
    ·exact hold y aF
    ·refine⟨aa,by show 1≤x.2.1+1;omega,by show x.1+(x.2.1+1)≤_;rw[List.length_append];simp;omega,fun j iD fQ=>?_⟩
     have iD:x.1≤(j:Int):=iD
     have fQ:(j:Int) < x.1+(x.2.1+1):=fQ
     show(ks++[k])[j]? =some x.2.2
     by_cases au:(j:Int) < x.1+x.2.1
     ·rw[List.getElem?_append_left (by omega)]
      exact bu j iD au
     ·have:j=ks.length:=by omega
      subst this
      rw[List.getElem?_append_right (Nat.le_refl _),aq]
      simp
  ·exact kz
theorem JK (ks:List Int) (k:Int):iC (ks++[k])=oF (iC ks) 1 k:=by
 unfold iC
 rw[List.foldl_append]
 rfl
theorem JL (ks:List Int):yz ks (iC ks):=by
 have key: ∀n,n≤ks.length→yz (ks.take n) (iC (ks.take n)):=fun n=>by
  induction n with
  |zero=>intro _;exact⟨rfl,(fun _ h=>by cases h),Nat.le_refl _⟩
  |succ n aZ=>
   intro hn
   rw[List.take_add_one,List.getElem?_eq_getElem (by omega)]
   show yz (ks.take n++[ks[n]]) (iC (ks.take n++[ks[n]]))
   rw[JK]
   exact(aZ (by omega)).add _
 have:=key ks.length (Nat.le_refl _)
 rwa[List.take_length] at this
@[reducible] def Zb (ks:List Int) (j:Nat):aQ:=[(3,iO 5002),(9,cI bt ks),(10,aC (ks.length:Nat)),(11,aC (j:Nat))]
theorem Zc (ks:List Int) (aq:ks.length≤65536):Fn Tryz.prog 71 [cI bt ks] [] [] (cI jm (iC ks)) []:=by
 refine Fn.of ai [] _ _ _ _ _ Tryz.func71 rfl rfl (by kernel_rfl) (by kernel_rfl) rfl (aJ ai) rfl ?_
 refine⟨fun h=>?_,fun _=>?_⟩
 ·exfalso
  have h:(65536:Int) < ((ks.length:Nat):Int):=of_decide_eq_true h
  omega
 show av _ _ _ _ _ _ _
 refine av.loop ai (aJ ai) [] (by kernel_rfl) (X:=Nat) (Zb ks) (fun j=>[(5002,.row 114 jm (iC (ks.take j)))]) (fun j=>j≤ks.length) (fun j=>ks.length - j) 0 (Nat.zero_le _) ?_ ?_
 ·exact(ah.nil 3 5002 114 jm rfl rfl).trans (ah.sub ⟨rfl,rfl,rfl,rfl,trivial⟩ ⟨rfl,trivial⟩)
 intro j au
 refine⟨fun hc=>?_,fun hc=>?_⟩
 ·have hc:decide ((j:Int) < ((ks.length:Nat):Int))=true:=hc
  have iD:j < ks.length:=by have:=of_decide_eq_true hc;omega
  have bB:=JL (ks.take j)
  have bF:(ks.take j).length=j:=by rw[List.length_take];omega
  have E0:iC (ks.take (j+1))=oF (iC (ks.take j)) 1 ks[j]:=by
   rw[List.take_add_one,List.getElem?_eq_getElem iD]
   exact JK _ _
  refine⟨by omega,ks[j],eA (n:=j) iD,?_⟩
  refine⟨_,_,_,_,Fn.ren [(1001,5002)] (Y7 (iC (ks.take j)) 1 ks[j] (fun x hx=>?_) (by decide) (by have:=bB.len;omega)),⟨rfl,trivial⟩,rfl,?_⟩
  ·have:=bB.each x (List.mem_of_getElem? (EZ hx).2)
   omega
  exact⟨by omega,j+1,iD,by omega,ah.trans (ah.sub (K':=[(3,iO 1002),(9,cI bt ks),(10,aC (ks.length:Nat)),(11,aC ((j+1:Nat):Int))]) (B':=[(1002,.row 114 jm (iC (ks.take (j+1))))]) ⟨rfl,rfl,rfl,rfl,trivial⟩ ⟨congrArg (fun z:List gX=>some (bw.row 114 jm z)) E0.symm,trivial⟩) ((ah.ren 1002 5002 rfl).trans (ah.sub ⟨rfl,rfl,rfl,rfl,trivial⟩ ⟨rfl,trivial⟩))⟩
 ·have hc:decide ((j:Int) < ((ks.length:Nat):Int))=false:=hc
  have fQ:j=ks.length:=by have:=of_decide_eq_false hc;omega
  subst fQ
  exact⟨_,_,_,ah.dU 5002 rfl,rfl,(show iC (ks.take ks.length)=iC ks by rw[List.take_length]),trivial,rfl⟩
section
variable {bits room:Nat} {L:List aK}
def Ch (bits:Nat) (L:List aK) (nm:List UInt8):List gX×Int:=match dk L nm with
 |none=>([],140)
 |some d=>(iC (m7 bits L nm d.im.t.length),0)
@[reducible] def Zd (nm:List UInt8) (n j:Nat):aQ:=[(0,aH 1001),(1,bG nm),(7,iO 5002),(23,aC (n:Int)),(24,aC (j:Int))]
@[reducible] def Ze (bits room:Int) (L:List aK) (x:List Int):aG:=bM bits room L++[(5002,.row 3 bt x)]
@[reducible] def Zf (nm:List UInt8) (n j:Nat):aQ:=[(0,aH 1001),(1,bG nm),(7,iO 37),(23,aC (n:Int)),(24,aC (j:Int))]
@[reducible] def Zg (bits room:Int) (L:List aK) (x:List Int):aG:=bM bits room L++[(37,.row 3 bt x)]
theorem Zh (h:bX bits room L) (nm:List UInt8):Fn Tryz.prog 14 [aH 1001,bG nm] (bM bits room L) [] (.c6 [.one (.d (.cT jm (Ch bits L nm).1)),fh (Ch bits L nm).2]) (bM bits room L):=by
 unfold Ch
 cases aE:dk L nm with
 |none=>
  have hx:(ct (aN:=.str) (aP:=.aY) (cl L) nm).getD (dflt .aY)=none:=by rw[iK,aE];rfl
  simp only
  refine Fn.of ai [] _ _ _ _ _ Tryz.func14 rfl rfl (by kernel_rfl) (by kernel_rfl) rfl (aJ ai) rfl ?_
  refine⟨fun e5 ag=>absurd (show(ct (aN:=.str) (aP:=.aY) (cl L) nm).getD (dflt .aY)=some e5 from ag) (by rw[hx];intro h;cases h),fun _=>?_⟩
  exact⟨_,_,_,ah.refl _ _,rfl,⟨rfl,rfl,trivial⟩,⟨rfl,rfl,rfl,rfl,trivial⟩,rfl⟩
 |some d0=>
  obtain⟨sI,iU,iV⟩:=nC wD
  obtain⟨fJ,iJ,qF⟩:=h.hM d0 (cA aE).1
  have lT:=fJ.tl
  have hd:=h.dep nm
  have ki:=h.togK.D (cA aE).1
  have fR:=h.togK.M (cA aE).1
  have hx:(ct (aN:=.str) (aP:=.aY) (cl L) nm).getD (dflt .aY)=some d0.ad:=by rw[iK,aE];rfl
  have Zi:=Zc (m7 bits L nm d0.im.t.length) (by rw[JI];omega)
  simp only
  refine Fn.of ai [] _ _ _ _ _ Tryz.func14 rfl rfl (by kernel_rfl) (by kernel_rfl) rfl (aJ ai) rfl ?_
  refine⟨fun e5 ag=>?_,fun ag=>absurd (show(ct (aN:=.str) (aP:=.aY) (cl L) nm).getD (dflt .aY)=none from ag) (by rw[hx];intro h;cases h)⟩
  refine⟨_,_,fun N=>ov (b:=d0.ad) rfl (by exact o6 hx) N,rfl,?_⟩
  refine⟨_,_,fun N=>ow rfl Tryz.underlying130 rfl rfl iU (by rw[iV];decide) rfl N,rfl,?_⟩
  refine⟨_,_,fun N=>p4 (q:=1003) rfl Tryz.underlying49 rfl rfl rfl ki rfl N,rfl,?_⟩
  refine⟨_,_,_,_,jC (qD d0.im) fR rfl rfl rfl rfl,⟨rfl,trivial⟩,rfl,?_⟩
  show av _ _ _ _ _ _ _
  refine av.loop ai (aJ ai) [] (by kernel_rfl) (X:=Nat) (Zd nm d0.im.t.length) (fun j=>Ze bits room L (m7 bits L nm j)) (fun j=>j≤d0.im.t.length) (fun j=>d0.im.t.length - j) 0 (Nat.zero_le _) ?_ ?_
  ·exact(ah.nil 7 5002 3 bt rfl rfl).trans (ah.sub ⟨rfl,rfl,rfl,rfl,rfl,trivial⟩ ⟨rfl,rfl,rfl,rfl,rfl,trivial⟩)
  intro j au
  refine⟨fun hc=>?_,fun hc=>?_⟩
  ·have hc:decide ((j:Int) < ((d0.im.t.length:Nat):Int))=true:=hc
   have iD:j < d0.im.t.length:=by have:=of_decide_eq_true hc;omega
   refine⟨_,_,_,_,N3 bits room L h.tonF nm d0 aE (c7 L nm) hd.1 (by omega) j (by omega),⟨rfl,rfl,rfl,rfl,trivial⟩,rfl,?_⟩
   have m:List.length (α:=Int) (m7 bits L nm j)+1≤4294967296:=by rw[JI];omega
   refine⟨m,rfl,?_⟩
   refine⟨by omega,j+1,iD,by omega,?_⟩
   have e:=Y2 bits L nm j
   refine ah.trans (ah.sub (K':=Zf nm d0.im.t.length (j+1)) (B':=Zg bits room L (m7 bits L nm (j+1))) ⟨rfl,rfl,rfl,rfl,rfl,trivial⟩ ⟨rfl,rfl,rfl,rfl,congrArg (fun z:List Int=>some (bw.row 3 bt z)) e.symm,trivial⟩) ?_
   exact(ah.ren 37 5002 rfl).trans (ah.sub ⟨rfl,rfl,rfl,rfl,rfl,trivial⟩ ⟨rfl,rfl,rfl,rfl,rfl,trivial⟩)
  ·have hc:decide ((j:Int) < ((d0.im.t.length:Nat):Int))=false:=hc
   have fQ:j=d0.im.t.length:=by have:=of_decide_eq_false hc;omega
   subst fQ
   refine⟨_,_,_,_,(Fn.own (d:=5002) (e:=3) (u:=bt) (xs:=m7 bits L nm d0.im.t.length) (args:=[iO 5002]) Zi rfl),⟨rfl,trivial⟩,rfl,?_⟩
   exact⟨_,_,_,ah.refl _ _,rfl,⟨rfl,rfl,trivial⟩,⟨rfl,rfl,rfl,rfl,trivial⟩,rfl⟩
end
end Go.Proofs.YteoamepgonpdlaaGreat
namespace Go.Proofs.YteoamepgonpdlaaGreat
open Go.RowKit Go.Proofs
theorem Zj (l:List gX) (x:gX) (k:Int):oF (l++[x]) 1 k=if x.2.2=k then l++[(x.1,x.2.1+1,x.2.2)] else l++[x]++[(x.1+x.2.1,1,k)]:=by
 unfold oF
 rw[if_neg (by decide),List.getLast?_concat]
 simp only
 split
 ·rw[List.length_append,List.length_singleton,Nat.add_sub_cancel,List.set_append_right _ _ (Nat.le_refl _),Nat.sub_self]
  rfl
 ·rw[Pk]
@[reducible] def An (f n k:Int):gX:=(f,n,k)
structure Ao (ks:List Int) (k:Nat) (out:List gX) (f:Nat):Prop where
 lt:f < k
 le:k≤ks.length
 ol:out.length≤f
 eq:iC (ks.take k)=out++[An (f:Nat) ((k:Int) - (f:Int)) (ks.getD f 0)]
@[reducible] def JM (ks:List Int) (o f k:Nat):aQ:=[(0,cI bt ks),(3,iO o),(4,aC (f:Nat)),(5,aC (k:Nat))]
@[reducible] def JN (o:Nat) (x:List gX):aG:=[(o,.row 114 jm x)]
theorem Zk (ks:List Int) (aq:ks.length≤65536):Fn Tryz.prog 78 [cI bt ks] [] [] (cI jm (iC ks)) []:=by
 refine Fn.of ai [9] _ _ _ _ _ Tryz.func78 rfl rfl (by kernel_rfl) (by kernel_rfl) rfl (aJ ai) rfl ?_
 show av _ _ _ _ _ _ _
 refine av.loop ai (aJ ai) [9] (by kernel_rfl) (X:=Nat×List gX×Nat) (fun x=>JM ks 2003 x.2.2 x.1) (fun x=>JN 2003 x.2.1) (fun x=>(x.1=1∧x.2.1=[]∧x.2.2=0∧ks=[])∨(Ao ks x.1 x.2.1 x.2.2)∨(x.1=ks.length+1∧x.2.1=iC ks)) (fun x=>ks.length+1 - x.1) (1,[],0) ?_ ?_ ?_
 ·cases ks with
  |nil=>exact .inl ⟨rfl,rfl,rfl,rfl⟩
  |cons a ks=>exact .inr (.inl ⟨Nat.zero_lt_one,Nat.succ_le_succ (Nat.zero_le _),Nat.le_refl _,rfl⟩)
 ·exact ah.trans (ah.nil 3 2003 114 jm rfl rfl) (ah.sub ⟨rfl,rfl,rfl,rfl,trivial⟩ ⟨rfl,trivial⟩)
 rintro⟨k,out,f⟩ bC
 have fin:(k=1∧out=[]∧ks=[])∨(k=ks.length+1∧out=iC ks)→out=iC ks:=fun h=>by
  rcases h with⟨_,h,e⟩ |⟨_,h⟩
  ·rw[h,e];rfl
  ·exact h
 refine⟨fun aa=>?_,fun aa=>?_⟩
 ·have aa:((k:Nat):Int)≤((ks.length:Nat):Int):=of_decide_eq_true aa
  rcases bC with⟨aj,ak,bf,cF⟩ |bC |⟨aj,ak⟩
  ·exfalso
   have aj:k=1:=aj
   subst aj cF
   exact absurd aa (by decide)
  ·have bC:Ao ks k out f:=bC
   obtain⟨g1,g2,bL,gH⟩:=bC
   have hf:f < ks.length:=by omega
   have v7:ks.getD f 0=ks[f]:=by rw[List.getD_eq_getElem?_getD,List.getElem?_eq_getElem hf];rfl
   rw[v7] at gH
   refine⟨fun _=>?_,fun af=>absurd (show decide (((ks.length:Nat):Int)≤65536)=false from af) (by rw[decide_eq_true (by omega)];decide)⟩
   have b1:(-9223372036854775808:Int)≤((k:Nat):Int) - ((f:Nat):Int)∧((k:Nat):Int) - ((f:Nat):Int)≤9223372036854775807:=by omega
   have b2:List.length (α:=gX) out+1≤4294967296:=by
    have:List.length (α:=gX) out≤f:=bL
    omega
   have tail: ∀(f':Nat) (out':List gX),((Ao ks (k+1) out' f')∨(k+1=ks.length+1∧out'=iC ks))→(k+1=1∧out'=[]∧f'=0∧ks=[])∨(Ao ks (k+1) out' f')∨(k+1=ks.length+1∧out'=iC ks):=fun f' out' h=>.inr h
   refine⟨fun af=>?_,fun af=>?_⟩
   ·have af:((k:Nat):Int)=((ks.length:Nat):Int):=of_decide_eq_true af
    have af:k=ks.length:=by omega
    refine⟨rfl,?_⟩
    refine⟨b1,?_⟩
    refine⟨by omega,ks[f],eA (n:=f) hf,?_⟩
    refine⟨b2,rfl,?_⟩
    have eY:iC ks=out++[An (f:Nat) ((k:Int) - (f:Int)) ks[f]]:=by rw[←gH,af,List.take_length]
    refine⟨by omega,(k+1,iC ks,k),.inr (.inr ⟨by show k+1=ks.length+1;omega,rfl⟩),by show ks.length+1 - (k+1) < ks.length+1 - k;omega,ah.trans (ah.sub (K':=JM ks 43 k (k+1)) (B':=JN 43 (iC ks)) ⟨rfl,rfl,rfl,rfl,trivial⟩ ⟨?_,trivial⟩) (ah.ren 43 2003 rfl)⟩
    rw[eY]
    rfl
   ·have af: ¬((k:Nat):Int)=((ks.length:Nat):Int):=of_decide_eq_false af
    have bP:k < ks.length:=by omega
    have ID:ks.getD k 0=ks[k]:=by rw[List.getD_eq_getElem?_getD,List.getElem?_eq_getElem bP];rfl
    have hs:iC (ks.take (k+1))=oF (out++[An (f:Nat) ((k:Int) - (f:Int)) ks[f]]) 1 ks[k]:=by
     rw[List.take_succ_eq_append_getElem bP,JK,gH]
    rw[Zj] at hs
    refine⟨by omega,ks[k],eA (n:=k) bP,?_⟩
    refine⟨by omega,ks[f],eA (n:=f) hf,?_⟩
    refine⟨rfl,fun ay=>?_,fun ay=>?_⟩
    ·have ay:(!decide (ks[k]=ks[f]))=true:=ay
     have ay: ¬ks[k]=ks[f]:=by simpa using ay
     rw[if_neg (fun e=>ay e.symm)] at hs
     refine⟨b1,?_⟩
     refine⟨by omega,ks[f],eA (n:=f) hf,?_⟩
     refine⟨b2,rfl,?_⟩
     have oV:Ao ks (k+1) (out++[An (f:Nat) ((k:Int) - (f:Int)) ks[f]]) k:=by
      refine⟨Nat.lt_succ_self _,bP,?_,?_⟩
      ·rw[List.length_append]
       show List.length (α:=gX) out+1≤k
       have:List.length (α:=gX) out≤f:=bL
       omega
      ·rw[hs,ID]
       have cj:((f:Nat):Int)+(((k:Nat):Int) - ((f:Nat):Int))=((k:Nat):Int):=by omega
       have cu:(((k+1:Nat):Nat):Int) - ((k:Nat):Int)=1:=by omega
       show _++[((((f:Nat):Int)+(((k:Nat):Int) - ((f:Nat):Int)),1,ks[k]):gX)]=_
       rw[cj,cu]
     exact⟨by omega,(k+1,out++[An (f:Nat) ((k:Int) - (f:Int)) ks[f]],k),.inr (.inl oV),by show ks.length+1 - (k+1) < ks.length+1 - k;omega,ah.trans (ah.sub (K':=JM ks 43 k (k+1)) (B':=JN 43 (out++[An (f:Nat) ((k:Int) - (f:Int)) ks[f]])) ⟨rfl,rfl,rfl,rfl,trivial⟩ ⟨rfl,trivial⟩) (ah.ren 43 2003 rfl)⟩
    ·have ay:(!decide (ks[k]=ks[f]))=false:=ay
     have ay:ks[k]=ks[f]:=by simpa using ay
     rw[if_pos ay.symm] at hs
     have oV:Ao ks (k+1) out f:=by
      refine⟨by omega,bP,bL,?_⟩
      rw[hs,v7]
      have cu:(((k+1:Nat):Nat):Int) - ((f:Nat):Int)=((k:Nat):Int) - ((f:Nat):Int)+1:=by omega
      rw[cu]
     exact⟨by omega,(k+1,out,f),.inr (.inl oV),by show ks.length+1 - (k+1) < ks.length+1 - k;omega,ah.sub ⟨rfl,rfl,rfl,rfl,trivial⟩ ⟨rfl,trivial⟩⟩
  ·exfalso
   have aj:k=ks.length+1:=aj
   omega
 ·have aa: ¬((k:Nat):Int)≤((ks.length:Nat):Int):=of_decide_eq_false aa
  have e:out=iC ks:=by
   rcases bC with⟨aj,ak,bf,cF⟩ |bC |⟨aj,ak⟩
   ·exact fin (.inl ⟨aj,ak,cF⟩)
   ·exfalso
    have:=bC.le
    have:k≤ks.length:=this
    omega
   ·exact ak
  subst e
  show av _ _ _ _ _ _ _
  refine av.go ai (aJ ai) [] (by kernel_rfl) (ah.dU 2003 rfl) ?_
  exact⟨_,_,_,ah.refl _ _,rfl,rfl,trivial,rfl⟩
def qN (l:List bK):Nat→List UInt8→Prop
 |0,n=>cw l n=none
 |f+1,n=>match cw l n with
  |none=>True
  |some d=>qN l f (c8 d)
def iE (l:List bK) (k:Nat):Nat→List UInt8→Option (Nat×List UInt8)
 |0,_=>none
 |f+1,n=>match cw l n with
  |none=>none
  |some d=>if k < (aL (bn d)).length∧ez (bn d) k≠0 then some (1,n) else match iE l k f (c8 d) with
   |some (m,x)=>some (m+1,x)
   |none=>none
theorem E1 (l:List bK) (k:Nat): ∀f n m x,iE l k f n=some (m,x)→m≤f∧ ∃d,cw l x=some d∧k < (aL (bn d)).length∧ez (bn d) k≠0
 |0,n,m,x,h=>by cases h
 |f+1,n,m,x,h=>by
  unfold iE at h
  split at h
  ·cases h
  ·rename_i d hd
   split at h
   ·rename_i aa
    injection h with h
    injection h with af ay
    subst af ay
    exact⟨Nat.succ_le_succ (Nat.zero_le _),d,hd,aa⟩
   ·split at h
    ·rename_i m' qy af
     injection h with h
     injection h with ay bu
     subst ay bu
     obtain⟨g1,g2⟩:=E1 l k f _ _ _ af
     exact⟨Nat.succ_le_succ g1,g2⟩
    ·cases h
def vv (l:List bK) (k:Nat) (n:List UInt8):Int:=match iE l k 20 n with
 |some (m,_)=>(m:Nat)
 |none=>0
def Ap (l:List bK) (k:Nat) (n:List UInt8):Int:=match iE l k 20 n with
 |some (_,x)=>bY l x
 |none=> -1
@[reducible] def Zl (l:List bK) (k j:Nat) (n:List UInt8):aQ:=[(2,aC (k:Int)),(3,aH 3),(8,aC (bY l n)),(9,aC ((j:Nat)+1:Int))]
set_option maxHeartbeats 1000000 in
theorem Pm (bits room:Int) (l:List bK) (n:List UInt8) (k:Nat) (aB:l.length≤1073741824) (he:qN l 19 n):Fn Tryz.prog 77 [kT bits room l,bG n,aC (k:Int)] [] [] (.c6 [.one (.d (.int .i64 (vv l k n))),.one (.d (.int .i64 (Ap l k n)))]) []:=by
 refine Fn.of ai [] _ _ _ _ _ Tryz.func77 rfl rfl (by kernel_rfl) (by kernel_rfl) rfl (aJ ai) rfl ?_
 refine⟨rfl,?_⟩
 refine⟨_,_,_,_,lY bits room l n aB,trivial,rfl,?_⟩
 show av _ _ _ _ _ _ _
 refine av.loop ai (aJ ai) [] (by kernel_rfl) (X:=Nat×List UInt8) (fun x=>Zl l k x.1 x.2) (fun _=>[(3,.cells (jJ bits room l))]) (fun x=>x.1≤19∧qN l (19 - x.1) x.2∧iE l k 20 n=match iE l k (20 - x.1) x.2 with |some (m,y)=>some (m+x.1,y) |none=>none) (fun x=>20 - x.1) (0,n) ⟨Nat.zero_le _,he,?_⟩ ?_ ?_
 ·show iE l k 20 n=match iE l k 20 n with |some (m,y)=>some (m+0,y) |none=>none
  cases iE l k 20 n with
  |none=>rfl
  |some p=>rfl
 ·exact ah.sub ⟨rfl,rfl,rfl,rfl,trivial⟩ ⟨rfl,trivial⟩
 rintro⟨j,nm⟩ ⟨au,tW,heq⟩
 have au:j≤19:=au
 have tW:qN l (19 - j) nm:=tW
 have heq:iE l k 20 n=match iE l k (20 - j) nm with |some (m,y)=>some (m+j,y) |none=>none:=heq
 have hf:20 - j=(19 - j)+1:=by omega
 have xq:iE l k (20 - j) nm=match cw l nm with
  |none=>none
  |some d=>if k < (aL (bn d)).length∧ez (bn d) k≠0 then some (1,nm) else match iE l k (19 - j) (c8 d) with
   |some (m,x)=>some (m+1,x)
   |none=>none:=by rw[hf];rfl
 refine⟨fun aa=>?_,fun aa=>?_⟩
 ·have aa:0≤bY l nm:=of_decide_eq_true aa
  obtain⟨i,aD,aj,ak,bf⟩:=Cg (l:=l) (n:=nm) (by omega)
  have eB:eT l (bY l nm).toNat=some l[i]:=by rw[show(bY l nm).toNat=i by omega];exact eA (n:=i) aD
  have dz:(0:Int)≤bY l nm∧bY l nm < ((l.length:Nat):Int):=by omega
  rw[ak] at xq
  simp only at xq
  rw[xq] at heq
  have next: ¬(k < (aL (bn l[i])).length∧ez (bn l[i]) k≠0)→(19 - j=(19 - (j+1))+1∧qN l (19 - (j+1)) (c8 l[i])∨cw l (c8 l[i])=none∧j=19)∧(iE l k 20 n=match iE l k (20 - (j+1)) (c8 l[i]) with |some (m,y)=>some (m+(j+1),y) |none=>none):=fun gR=>by
   rw[if_neg gR] at heq
   refine⟨?_,?_⟩
   ·rcases Nat.lt_or_ge j 19 with h |h
    ·left
     have Pn:19 - j=(19 - (j+1))+1:=by omega
     refine⟨Pn,?_⟩
     rw[Pn,qN,ak] at tW
     exact tW
    ·right
     have Zm:j=19:=by omega
     subst Zm
     exfalso
     have tW:cw l nm=none:=tW
     rw[tW] at ak
     cases ak
   ·rw[show 20 - (j+1)=19 - j by omega,heq]
    cases iE l k (19 - j) (c8 l[i]) with
    |none=>rfl
    |some p=>show some (p.1+1+j,p.2)=some (p.1+(j+1),p.2);rw[Nat.add_assoc,Nat.add_comm 1 j]
  refine⟨dz.1,l[i],eB,?_⟩
  have go: ¬(k < (aL (bn l[i])).length∧ez (bn l[i]) k≠0)→j+1≤19∧qN l (19 - (j+1)) (c8 l[i])∧(iE l k 20 n=match iE l k (20 - (j+1)) (c8 l[i]) with |some (m,y)=>some (m+(j+1),y) |none=>none):=fun gR=>by
   obtain⟨g1,g2⟩:=next gR
   rcases g1 with⟨g1,bL⟩ |⟨g1,bL⟩
   ·exact⟨by omega,bL,g2⟩
   ·exfalso
    subst bL
    have tW:cw l nm=none:=tW
    rw[tW] at ak
    cases ak
  refine⟨fun af=>?_,fun af=>?_⟩
  ·have af:((k:Nat):Int) < (((aL (bn l[i])).length:Nat):Int):=of_decide_eq_true af
   have af:k < (aL (bn l[i])).length:=by omega
   have fL:=rO af
   refine⟨dz.1,l[i],eB,?_⟩
   refine⟨by omega,(aL (bn l[i]))[k],eA (n:=k) af,?_⟩
   refine⟨fun ay=>?_,fun ay=>?_⟩
   ·have ay:(!decide (dV (aL (bn l[i]))[k]=0))=true:=ay
    have ay: ¬dV (aL (bn l[i]))[k]=0:=by simpa using ay
    rw[if_pos ⟨af,by rw[fL];exact ay⟩] at heq
    have heq:iE l k 20 n=some (1+j,nm):=heq
    refine⟨_,_,_,ah.refl _ _,rfl,⟨?_,?_,trivial⟩,trivial,rfl⟩
    ·show((j:Nat):Int)+1=vv l k n
     unfold vv
     rw[heq]
     show((j:Nat):Int)+1=((1+j:Nat):Int)
     omega
    ·show bY l nm=Ap l k n
     unfold Ap
     rw[heq]
   ·have ay:(!decide (dV (aL (bn l[i]))[k]=0))=false:=ay
    have ay:dV (aL (bn l[i]))[k]=0:=by simpa using ay
    obtain⟨b9,ck,w3⟩:=go (fun q=>q.2 (by rw[fL];exact ay))
    refine⟨dz.1,l[i],eB,?_⟩
    refine⟨_,_,_,_,lY bits room l (c8 l[i]) aB,trivial,rfl,?_⟩
    refine⟨rfl,?_⟩
    exact⟨by omega,(j+1,c8 l[i]),⟨b9,ck,w3⟩,by show 20 - (j+1) < 20 - j;omega,ah.sub ⟨rfl,rfl,rfl,rfl,trivial⟩ ⟨rfl,trivial⟩⟩
  ·have af: ¬((k:Nat):Int) < (((aL (bn l[i])).length:Nat):Int):=of_decide_eq_false af
   obtain⟨b9,ck,w3⟩:=go (fun q=>by have:=q.1;omega)
   refine⟨dz.1,l[i],eB,?_⟩
   refine⟨_,_,_,_,lY bits room l (c8 l[i]) aB,trivial,rfl,?_⟩
   refine⟨rfl,?_⟩
   exact⟨by omega,(j+1,c8 l[i]),⟨b9,ck,w3⟩,by show 20 - (j+1) < 20 - j;omega,ah.sub ⟨rfl,rfl,rfl,rfl,trivial⟩ ⟨rfl,trivial⟩⟩
 ·have aa: ¬0≤bY l nm:=of_decide_eq_false aa
  have e:=Cf (l:=l) (n:=nm) (by omega)
  rw[e] at xq
  rw[xq] at heq
  have heq:iE l k 20 n=none:=heq
  refine⟨_,_,_,ah.refl _ _,rfl,⟨?_,?_,trivial⟩,trivial,rfl⟩
  ·show(0:Int)=vv l k n
   unfold vv
   rw[heq]
  ·show(-1:Int)=Ap l k n
   unfold Ap
   rw[heq]
structure vw (n:Nat) (l:List bK):Prop where
 len:l.length≤16
 ok: ∀d,d∈l→gM n (bn d)
 Ci: ∀x,qN l 19 x
theorem tX {l:List bK} {x:List UInt8} {d:bK} (h:cw l x=some d):d∈l:=by
 obtain⟨i,aD,_,e,_⟩:=oE h
 rw[←e]
 exact List.getElem_mem aD
def lf (n:Nat) (l:List bK) (x:List UInt8) (k:Nat):List UInt8:=match iE l k 20 x with
 |some (_,y)=>(match cw l y with
  |some d=>(Ai n (bn d) ((k*n:Nat):Int) (n:Nat)).1
  |none=>[])
 |none=>List.replicate (16*n) 0
theorem Po {n:Nat} {m:c5} (h:gM n m) {k:Nat} (aq:k < (aL m).length):fY n (aL m).length ((k*n:Nat):Int) (n:Nat)=0∧(Ai n m ((k*n:Nat):Int) (n:Nat)).1=qM n m (k*n) n∧(qM n m (k*n) n).length=16*n:=by
 have hm:(k+1)*n≤(aL m).length*n:=Nat.mul_le_mul_right n aq
 rw[Nat.succ_mul,Nat.mul_comm (aL m).length n] at hm
 have he:fY n (aL m).length ((k*n:Nat):Int) (n:Nat)=0:=by
  unfold fY
  generalize c4:n*(aL m).length=N at*
  generalize uN:k*n=Q at*
  rw[if_neg (by omega),if_neg (by omega),if_neg (by omega),if_neg (by omega)]
 refine⟨he,?_,Jx h n hm⟩
 unfold Ai
 rw[if_pos he]
 simp only[Int.toNat_natCast]
theorem Cj {n:Nat} {l:List bK} (h:vw n l) (x:List UInt8) (k:Nat):(lf n l x k).length=16*n:=by
 unfold lf
 split
 ·rename_i m y e
  obtain⟨_,d,aj,ak,_⟩:=E1 l k 20 x m y e
  rw[aj]
  simp only
  obtain⟨_,g2,bL⟩:=Po (h.ok d (tX aj)) ak
  rw[g2,bL]
 ·exact List.length_replicate
set_option maxHeartbeats 1000000 in
theorem JO {n:Nat} {l:List bK} (h:vw n l) (bits room:Int) (x:List UInt8) (k:Nat) {d:bK} (hd:cw l x=some d) (aq:k < (aL (bn d)).length):Fn Tryz.prog 74 [kT bits room l,bG x,aC (k:Int)] [] [] (bG (lf n l x k)) []:=by
 have aB:=h.len
 obtain⟨i,aD,aj,ak,bf⟩:=oE hd
 have eB:eT l (bY l x).toNat=some d:=by rw[show(bY l x).toNat=i by omega,←ak];exact eA (n:=i) aD
 have dz:(0:Int)≤bY l x∧bY l x < ((l.length:Nat):Int):=by omega
 have aA:=h.ok d (tX hd)
 have wH:=aA.nm
 have wM:=aA.n8
 have cP:=aA.jF
 have wI: -9223372036854775808≤16*dr (bn d)∧16*dr (bn d)≤9223372036854775807:=by omega
 have p6:(16*dr (bn d)).toNat=16*n:=by omega
 have Zn:0≤16*dr (bn d)∧16*dr (bn d)≤4294967296:=by omega
 unfold lf
 refine Fn.of ai [] _ _ _ _ _ Tryz.func74 rfl rfl (by kernel_rfl) (by kernel_rfl) rfl (aJ ai) rfl ?_
 refine⟨rfl,?_⟩
 refine⟨_,_,_,_,lY bits room l x (by omega),trivial,rfl,?_⟩
 refine⟨fun aa=>absurd (show decide (bY l x < 0)=true from aa) (by rw[decide_eq_false (by omega)];decide),fun _=>?_⟩
 refine⟨fun aa=>absurd (show decide ((k:Int) < 0)=true from aa) (by rw[decide_eq_false (by omega)];decide),fun _=>?_⟩
 refine⟨dz.1,d,eB,?_⟩
 refine⟨fun aa=>absurd (show decide ((((aL (bn d)).length:Nat):Int)≤(k:Int))=true from aa) (by rw[decide_eq_false (by omega)];decide),fun _=>?_⟩
 refine⟨dz.1,d,eB,?_⟩
 refine⟨_,_,_,_,Pm bits room l x k (by omega) (h.Ci x),trivial,rfl,?_⟩
 unfold Ap
 cases BZ:iE l k 20 x with
 |none=>
  refine⟨fun _=>?_,fun aa=>absurd (show decide ((-1:Int) < 0)=false from aa) (by decide)⟩
  refine⟨wI,?_⟩
  refine⟨⟨rfl,Zn⟩,rfl,?_⟩
  rw[←p6]
  exact⟨_,_,_,ah.refl _ _,rfl,rfl,trivial,rfl⟩
 |some p=>
  obtain⟨m,y⟩:=p
  obtain⟨_,d2,f1,f2,_⟩:=E1 l k 20 x m y BZ
  obtain⟨i2,jH,f3,f4,f5⟩:=oE f1
  have jR:=h.ok d2 (tX f1)
  simp only
  rw[f1]
  simp only
  refine⟨fun aa=>absurd (show decide (bY l y < 0)=true from aa) (by rw[decide_eq_false (by omega)];decide),fun _=>?_⟩
  refine⟨by omega,d2,(by rw[show(bY l y).toNat=i2 by omega,←f4];exact eA (n:=i2) jH),?_⟩
  have wh:(k:Int)*dr (bn d)=((k*n:Nat):Int):=by rw[wH,Int.natCast_mul]
  have iA:k*n≤256*8:=Nat.mul_le_mul (by omega) wM
  have Zo: -9223372036854775808≤(k:Int)*dr (bn d)∧(k:Int)*dr (bn d)≤9223372036854775807:=by rw[wh];omega
  refine⟨Zo,?_⟩
  refine⟨_,_,_,_,Fn.arg (args:=[oC (bn d2),aC ((k:Int)*dr (bn d)),aC (dr (bn d))]) (YO jR ((k*n:Nat):Int) (n:Nat)) ⟨⟨rfl,rfl,rfl,rfl,rfl,trivial⟩,wh,wH,trivial⟩,trivial,rfl,?_⟩
  exact⟨_,_,_,ah.refl _ _,rfl,rfl,trivial,rfl⟩
def rP (n:Nat) (l:List bK) (x:List UInt8):Nat→List UInt8
 |0=>[]
 |k+1=>rP n l x k++lf n l x k
theorem JP {n:Nat} {l:List bK} (h:vw n l) (x:List UInt8): ∀k,(rP n l x k).length=16*n*k
 |0=>rfl
 |k+1=>by rw[rP,List.length_append,JP h x k,Cj h,Nat.mul_succ]
@[reducible] def Zp (x:List UInt8) (i:Int) (a:List UInt8) (k:Nat):aQ:=[(1,bG x),(2,aH 2),(5,bG a),(6,aC i),(7,aC (k:Nat))]
theorem JQ {n:Nat} {l:List bK} (h:vw n l) (bits room:Int) (x:List UInt8) {d:bK} (hd:cw l x=some d):Fn Tryz.prog 29 [kT bits room l,bG x] [] [] (bG (rP n l x (aL (bn d)).length)) []:=by
 have aB:=h.len
 obtain⟨i,aD,aj,ak,bf⟩:=oE hd
 have eB:eT l (bY l x).toNat=some d:=by rw[show(bY l x).toNat=i by omega,←ak];exact eA (n:=i) aD
 have dz:(0:Int)≤bY l x∧bY l x < ((l.length:Nat):Int):=by omega
 have aA:=h.ok d (tX hd)
 have wM:=aA.n8
 have cP:=aA.jF
 refine Fn.of ai [] _ _ _ _ _ Tryz.func29 rfl rfl (by kernel_rfl) (by kernel_rfl) rfl (aJ ai) rfl ?_
 refine⟨rfl,?_⟩
 refine⟨_,_,_,_,lY bits room l x (by omega),trivial,rfl,?_⟩
 show av _ _ _ _ _ _ _
 refine av.loop ai (aJ ai) [] (by kernel_rfl) (X:=Nat) (fun k=>Zp x (bY l x) (rP n l x k) k) (fun _=>[(2,.cells (jJ bits room l))]) (fun k=>k≤(aL (bn d)).length) (fun k=>(aL (bn d)).length - k) 0 (Nat.zero_le _) ?_ ?_
 ·exact ah.sub ⟨rfl,rfl,rfl,rfl,rfl,trivial⟩ ⟨rfl,trivial⟩
 intro k aq
 refine⟨fun _=>?_,fun aa=>absurd (show decide (0≤bY l x)=false from aa) (by rw[decide_eq_true (by omega)];decide)⟩
 refine⟨dz.1,d,eB,?_⟩
 refine⟨fun aa=>?_,fun aa=>?_⟩
 ·have aa:((k:Nat):Int) < (((aL (bn d)).length:Nat):Int):=of_decide_eq_true aa
  refine⟨_,_,_,_,JO h bits room x k hd (by omega),trivial,rfl,?_⟩
  have g1:=JP h x k
  have g2:=Cj h x k
  have bL:16*n*k≤16*8*256:=Nat.mul_le_mul (Nat.mul_le_mul_left 16 wM) (by omega)
  have gH:(rP n l x k).length+(lf n l x k).length≤4294967296:=by omega
  refine⟨gH,?_⟩
  exact⟨by omega,k+1,by omega,by omega,ah.sub ⟨rfl,rfl,rfl,rfl,rfl,trivial⟩ ⟨rfl,trivial⟩⟩
 ·have aa: ¬((k:Nat):Int) < (((aL (bn d)).length:Nat):Int):=of_decide_eq_false aa
  have bP:k=(aL (bn d)).length:=by omega
  subst bP
  exact⟨_,_,_,ah.refl _ _,rfl,rfl,trivial,rfl⟩
def qd (l:List bK) (x:List UInt8) (k:Nat):List Int:=(List.range k).map fun c=>vv l c x
theorem Zq (l:List bK) (x:List UInt8) (k:Nat):qd l x (k+1)=qd l x k++[vv l k x]:=by
 unfold qd
 rw[List.range_succ,List.map_append]
 rfl
theorem Pp (l:List bK) (x:List UInt8) (k:Nat):(qd l x k).length=k:=by unfold qd;rw[List.length_map,List.length_range]
@[reducible] def Pq (x:List UInt8) (i:Int) (o k:Nat):aQ:=[(1,bG x),(2,aH 2),(5,iO o),(6,aC i),(7,aC (k:Nat))]
@[reducible] def Pr (bits room:Int) (l:List bK) (o:Nat) (y:List Int):aG:=[(2,.cells (jJ bits room l)),(o,.row 3 bt y)]
theorem Zr {n:Nat} {l:List bK} (h:vw n l) (bits room:Int) (x:List UInt8) {d:bK} (hd:cw l x=some d):Fn Tryz.prog 31 [kT bits room l,bG x] [] [] (cI jm (iC (qd l x (aL (bn d)).length))) []:=by
 have aB:=h.len
 obtain⟨i,aD,aj,ak,bf⟩:=oE hd
 have eB:eT l (bY l x).toNat=some d:=by rw[show(bY l x).toNat=i by omega,←ak];exact eA (n:=i) aD
 have dz:(0:Int)≤bY l x∧bY l x < ((l.length:Nat):Int):=by omega
 have aA:=h.ok d (tX hd)
 have cP:=aA.jF
 refine Fn.of ai [8] _ _ _ _ _ Tryz.func31 rfl rfl (by kernel_rfl) (by kernel_rfl) rfl (aJ ai) rfl ?_
 refine⟨rfl,?_⟩
 refine⟨_,_,_,_,lY bits room l x (by omega),trivial,rfl,?_⟩
 show av _ _ _ _ _ _ _
 refine av.loop ai (aJ ai) [8] (by kernel_rfl) (X:=Nat) (fun k=>Pq x (bY l x) 2003 k) (fun k=>Pr bits room l 2003 (qd l x k)) (fun k=>k≤(aL (bn d)).length) (fun k=>(aL (bn d)).length - k) 0 (Nat.zero_le _) ?_ ?_
 ·exact ah.trans (ah.nil 5 2003 3 bt rfl rfl) (ah.sub ⟨rfl,rfl,rfl,rfl,rfl,trivial⟩ ⟨rfl,rfl,trivial⟩)
 intro k aq
 refine⟨fun _=>?_,fun aa=>absurd (show decide (0≤bY l x)=false from aa) (by rw[decide_eq_true (by omega)];decide)⟩
 refine⟨dz.1,d,eB,?_⟩
 refine⟨fun aa=>?_,fun aa=>?_⟩
 ·have aa:((k:Nat):Int) < (((aL (bn d)).length:Nat):Int):=of_decide_eq_true aa
  refine⟨_,_,_,_,Pm bits room l x k (by omega) (h.Ci x),trivial,rfl,?_⟩
  have b1:List.length (α:=Int) (qd l x k)+1≤4294967296:=by
   have:List.length (α:=Int) (qd l x k)=k:=Pp l x k
   omega
  refine⟨b1,rfl,?_⟩
  refine⟨by omega,k+1,by omega,by omega,ah.trans (ah.sub (K':=Pq x (bY l x) 39 (k+1)) (B':=Pr bits room l 39 (qd l x (k+1))) ⟨rfl,rfl,rfl,rfl,rfl,trivial⟩ ⟨rfl,?_,trivial⟩) (ah.ren 39 2003 rfl)⟩
  rw[Zq]
  rfl
 ·have aa: ¬((k:Nat):Int) < (((aL (bn d)).length:Nat):Int):=of_decide_eq_false aa
  have bP:k=(aL (bn d)).length:=by omega
  subst bP
  show av _ _ _ _ _ _ _
  refine av.go ai (aJ ai) [] (by kernel_rfl) (ah.dU 2003 rfl) ?_
  refine⟨_,_,_,_,Zk (qd l x (aL (bn d)).length) (by have:List.length (α:=Int) (qd l x (aL (bn d)).length)=(aL (bn d)).length:=Pp l x _;omega),trivial,rfl,?_⟩
  exact⟨_,_,_,ah.refl _ _,rfl,rfl,trivial,rfl⟩
end Go.Proofs.YteoamepgonpdlaaGreat
namespace Go.Proofs.YteoamepgonpdlaaGreat
open Go.RowKit Go.Proofs
@[reducible] def Pt:U:=.pr bt (.pr bt (.pr bt (.pr (.sl .u8) .str)))
@[reducible] def pg:U:=.pr bt (.pr bt (.pr .str (.pr .str Pt)))
abbrev lg:=Int×Int×Int×List UInt8×List UInt8
abbrev fy:=Int×Int×List UInt8×List UInt8×lg
@[reducible] def gh (o:fy):Int:=o.1
@[reducible] def j3 (o:fy):Int:=o.2.1
@[reducible] def cg (o:fy):List UInt8:=o.2.2.1
@[reducible] def eL (o:fy):List UInt8:=o.2.2.2.1
@[reducible] def cK (o:fy):lg:=o.2.2.2.2
@[reducible] def dg (q:lg):Int:=q.1
@[reducible] def cJ (q:lg):Int:=q.2.1
@[reducible] def dx (q:lg):Int:=q.2.2.1
@[reducible] def dX (q:lg):List UInt8:=q.2.2.2.1
@[reducible] def Aq (q:lg):List UInt8:=q.2.2.2.2
@[reducible] def Pu (q:lg):List bD:=[.d (.int .i64 (dg q)),.d (.int .i64 (cJ q)),.d (.int .i64 (dx q)),.d (.cT .u8 (dX q)),.d (.str (Aq q))]
@[reducible] def tY (o:fy):List bD:=[.d (.int .i64 (gh o)),.d (.int .i64 (j3 o)),.d (.str (cg o)),.d (.str (eL o)),.d (.int .i64 (dg (cK o))),.d (.int .i64 (cJ (cK o))),.d (.int .i64 (dx (cK o))),.d (.cT .u8 (dX (cK o))),.d (.str (Aq (cK o)))]
@[reducible] def Ck (o:fy):aO:=.c (.agg (tY o))
def mH (o:fy):Nat:=(dX (cK o)).length+(cg o).length+(eL o).length
def wN (o:fy):Bool:=decide (12 < j3 o)&&decide (j3 o≤256)
def m8 (l:List fy) (k:Nat):Nat:=((l.take k).map mH).sum
theorem JR: ∀(l:List Nat) (k:Nat),(l.take k).sum≤l.sum
 | [],k=>by simp
 |x::l,0=>by simp
 |x::l,k+1=>by
  have:=JR l k
  simp
  omega
theorem Pv (l:List fy) (k:Nat):m8 l k≤(l.map mH).sum:=by
 unfold m8
 rw[List.map_take]
 exact JR _ _
theorem Zs (l:List fy) {k:Nat} (h:k < l.length):m8 l (k+1)=m8 l k+mH l[k]:=by
 unfold m8
 rw[List.take_add_one,List.getElem?_eq_getElem h,List.map_append,List.sum_append]
 rfl
theorem Zt {l:List fy} {o:fy} (h:o∈l):mH o≤(l.map mH).sum:=by
 induction l with
 |nil=>cases h
 |cons x l aZ=>
  rw[List.map_cons,List.sum_cons]
  rcases List.mem_cons.1 h with rfl |h
  ·omega
  ·have:=aZ h
   omega
def E3 (l:List fy) (k:Nat):Prop:= ∀(i:Nat) (o:fy),i < k→l[i]? =some o→wN o=false
theorem E3.succ {l:List fy} {k:Nat} (h:E3 l k) (aq:k < l.length) (ag:wN l[k]=false):E3 l (k+1):=fun i o aD az=>by
 by_cases e:i=k
 ·subst e
  rw[List.getElem?_eq_getElem aq] at az
  injection az with az
  rw[←az]
  exact ag
 ·exact h i o (by omega) az
structure JS where
 x:List UInt8
 e:Int
 L:List aK
def iW.sP (r:iW):JS:=⟨[],r.e,r.L⟩
def qf (bits:Nat) (L:List aK) (nm:List UInt8) (q:lg):JS:=
 if dg q=0 then⟨(tU bits L nm (cJ q) (dx q)).1,(tU bits L nm (cJ q) (dx q)).2,L⟩ else if dg q=1 then(jh bits L nm (cJ q) (dX q)).sP
 else if dg q=2 then(ji bits L nm (cJ q) (dx q)).sP else if dg q=3 then(mF L nm (cJ q) (dx q)).sP else⟨[],0,L⟩
def wO (bits room:Nat) (L:List aK) (o:fy) (p:Nat×Nat):JS:=
 if gh o=0 then(nH bits room L (cg o) (j3 o) (eL o) p).sP else if gh o=1 then(sN L (cg o)).sP else if gh o=2 then(qa L (cg o) (eL o)).sP
 else if gh o=3 then qf bits L (cg o) (cK o) else⟨[],0,L⟩
theorem Zu {bits room:Nat} {L:List aK} (h:bX bits room L) (nm:List UInt8) (q:lg):bX bits room (qf bits L nm q).L:=by
 unfold qf
 split
 ·exact h
 ·split
  ·exact Jl h _ _ _
  ·split
   ·exact OJ h _ _ _
   ·split
    ·exact EM h _ _ _
    ·exact h
theorem JT: ∀s:List UInt8,fV (.sl .u8) s=1+s.length
 | []=>rfl
 |b::s=>by
  have aZ:=JT s
  have ak:fV (.sl .u8) s=1+(List.map (fV .u8) s).sum:=rfl
  show 1+(1+(List.map (fV .u8) s).sum)=1+(s.length+1)
  omega
theorem Zv (o:fy):fV pg o=9+mH o+(Aq (cK o)).length:=by
 have aa:=JT (dX (cK o))
 have e:fV pg o=1+(1+((1+(cg o).length)+((1+(eL o).length)+(1+(1+(1+(fV (.sl .u8) (dX (cK o))+(1+(Aq (cK o)).length)))))))):=rfl
 rw[e,aa]
 unfold mH
 omega
theorem Pw: ∀l:List fy,1+l.length+(l.map mH).sum≤fV (.sl pg) l
 | []=>Nat.le_refl _
 |o::l=>by
  have aa:=Pw l
  have ak:fV (.sl pg) l=1+(List.map (fV pg) l).sum:=rfl
  have bf:=Zv o
  show 1+(l.length+1)+(mH o+(l.map mH).sum)≤1+(fV pg o+(List.map (fV pg) l).sum)
  omega
end Go.Proofs.YteoamepgonpdlaaGreat
namespace Go.Proofs.YteoamepgonpdlaaGreat
open Go.RowKit Go.Proofs
section
variable {P:Program} {ids:List Nat} {K:aQ} {B:aG}
theorem Zw {o:Oper} {T e d:Nat} {x y:Operand} {inf:TypeInfo} {n:Int} (az:o.op= .makeSlice T x y) (cn:P.underlying T=some (.slice e)) (aD:P.info? e=some inf) (aS:inf.zero=some (.agg #[.int .i64 0,.int .i64 0])) (hs:inf.size=2) (ag:inf.bytes=16)
  (hx:aU K x= .c (.one (.d (.int .i64 n)))) (aF:aU K y= .c (.one (.d (.int .i64 n)))) (aE:0≤n) (aa:n≤1000000) (N:Nat):bH P N ids o K B (.c (.one (.own d))) ⟨[],[d],[(d,some (.row e wG (List.replicate n.toNat (ij 0 0))))]⟩:=by
 have m1:x∈o.op.operands:=by rw[az];simp[Op.operands]
 have m2:y∈o.op.operands:=by rw[az];simp[Op.operands]
 refine bH.make (fun d h=>y7 h) fun K' B' g1 g2 C ρ F a w aA hS hn=>?_
 have eF:=hS.int ((g1 x m1).trans hx)
 have eP:=hS.int ((g1 y m2).trans aF)
 have ep:=run_make (P:=P) w T e inf _ cn aD aS .i64 .i64 n n aE (Int.le_refl _) (by rw[ag];omega) (by omega)
 have wW:madeCells (Value.agg #[.int .i64 0,.int .i64 0]).cells (n.toNat*inf.size)=(List.replicate (n.toNat*2) (Value.int .i64 0)).toArray:=by
  rw[hs]
  simp[madeCells,Value.cells]
  apply Array.ext
  ·simp
  ·intro i aa af
   have:i % 2=0∨i % 2=1:=by omega
   rcases this with h |h <;>simp[h]
 rw[wW] at ep
 refine⟨.slice (some ⟨w.heap.size,0,none⟩) n.toNat n.toNat,w.alloc (.cells (List.replicate (n.toNat*2) (.int .i64 0)).toArray e),⟨w.heap.size,some ⟨w.heap.size,0,none⟩,n.toNat,n.toNat⟩,fun b=>b=w.heap.size,?_,uq w _,fun b ag=>?_,fun I bz bC=>⟨⟨?_,?_,List.replicate (n.toNat*2) (.int .i64 0),?_,?_⟩,?_⟩⟩
 ·simp only[execOp,az,Sem.run_bind,eF,eP,ep,Result.andThen_ok,Sem.run_pure]
 ·subst ag;simp
 ·intro b
  simp[bq.hdr,Value.ownBlock,eq_comm]
 ·intro b ag
  simp[bq.hdr,Value.ownBlock] at ag
  exact ag.symm
 ·have:=AY w e 2 n.toNat (List.replicate (n.toNat*2) (.int .i64 0)) (by simp) (by simp only[maxLen];omega)
  have aj:List.length (α:=aI wG) (List.replicate n.toNat (ij 0 0))=n.toNat:=List.length_replicate
  rw[aj]
  exact this
 ·intro i z aS
  obtain⟨aD,mm⟩:=List.getElem?_eq_some_iff.1 aS
  have q8:z=ij 0 0:=by rw[←mm];exact List.getElem_replicate ..
  subst q8
  have aD:i < n.toNat:=by
   have aa:i < List.length (α:=Cell) (List.replicate n.toNat (ij 0 0)):=aD
   rw[List.length_replicate] at aa
   exact aa
  have g: ∀j,j < 2→(List.replicate (n.toNat*2) (Value.int .i64 0))[i*2+j]? =some (.int .i64 0):=fun j au=>by
   rw[List.getElem?_replicate,if_pos (by omega)]
  exact⟨g 0 (by decide),g 1 (by decide)⟩
 ·simp only[b8,fZ,dN,dR]
  rfl
end
theorem Px:(Tryz.prog.info? 148).map (fun i=>(i.zero,i.bytes,i.size))=some (some (.agg #[.int .i64 0,.int .i64 0]),16,2):=by kernel_rfl
theorem Zx: ∃i,Tryz.prog.info? 148=some i∧i.zero=some (.agg #[.int .i64 0,.int .i64 0])∧i.bytes=16∧i.size=2:=by
 cases e:Tryz.prog.info? 148 with
 |none=>have h:=Px;rw[e] at h;cases h
 |some i=>
  have h:=Px
  rw[e] at h
  simp only[Option.map_some,Option.some.injEq,Prod.mk.injEq] at h
  exact⟨i,rfl,h.1,h.2.1,h.2.2⟩
@[reducible] def Zy (b s r:Int) (k:Nat):aQ:=[(0,aC b),(1,aC s),(2,aC r),(6,aH 6),(8,aC ((2 ^k:Nat):Int)),(9,aC (k:Nat))]
@[reducible] def Zz:aG:=[(6,.cells oe.t104.zero)]
theorem ZA {bits size room:Int} (h:jf bits size room=true):Fn Tryz.prog 48 [aC bits,aC size,aC room] [] [2001] (.c6 [.agg [.d (.int .i64 ((2 ^bits.toNat:Nat):Int)),.d (.int .i64 room),.own 2001,.d (.cT Cb []),.d (.cT .str [])],.one (.d (.bool true))])
  ([]++[(2001,.row 148 wG (List.replicate size.toNat (ij 0 0)))]):=by
 obtain⟨⟨cj,cu⟩,⟨a3,a4⟩,a5,g5⟩:=EO h
 refine Fn.of ai [] _ _ _ _ _ Tryz.func48 rfl rfl (by kernel_rfl) (by kernel_rfl) rfl (aJ ai) rfl ?_
 refine⟨rfl,?_⟩
 refine⟨fun c=>absurd (of_decide_eq_true c) (by omega),fun _=>?_⟩
 refine⟨fun c=>absurd (of_decide_eq_true c) (by omega),fun _=>?_⟩
 refine⟨fun c=>absurd (of_decide_eq_true c) (by omega),fun _=>?_⟩
 refine⟨fun c=>absurd (of_decide_eq_true c) (by omega),fun _=>?_⟩
 refine⟨fun c=>absurd (of_decide_eq_true c) (by omega),fun _=>?_⟩
 refine⟨fun c=>absurd (of_decide_eq_true c) (by omega),fun _=>?_⟩
 show av _ _ _ _ _ _ _
 refine av.loop ai (aJ ai) [] (by kernel_rfl) (X:=Nat) (Zy bits size room) (fun _=>Zz) (fun k=>(k:Int)≤bits) (fun k=>bits.toNat - k) 0 a5 ?_ ?_
 ·exact ah.sub ⟨rfl,rfl,rfl,rfl,rfl,rfl,trivial⟩ ⟨rfl,trivial⟩
 intro k aq
 have kL:2 ^k≤2 ^3:=Nat.pow_le_pow_right (by omega) (by omega)
 refine⟨fun aa=>?_,fun aa=>?_⟩
 ·have aa:((k:Nat):Int) < bits:=of_decide_eq_true aa
  have e:((2 ^k:Nat):Int)+((2 ^k:Nat):Int)=((2 ^(k+1):Nat):Int):=by rw[Nat.pow_succ];generalize 2 ^k=P at*;omega
  have b1:(-9223372036854775808:Int)≤((2 ^k:Nat):Int)+((2 ^k:Nat):Int)∧((2 ^k:Nat):Int)+((2 ^k:Nat):Int)≤9223372036854775807:=by generalize 2 ^k=P at*;omega
  refine⟨b1,?_⟩
  exact⟨by omega,k+1,by omega,by omega,ah.sub ⟨rfl,rfl,rfl,rfl,e,rfl,trivial⟩ ⟨rfl,trivial⟩⟩
 ·have aa: ¬((k:Nat):Int) < bits:=of_decide_eq_false aa
  have bP:k=bits.toNat:=by omega
  subst bP
  obtain⟨ii,i1,i2,i3,i4⟩:=Zx
  refine⟨_,_,fun N=>Zw (d:=44) rfl Tryz.underlying100 i1 i2 i4 i3 rfl rfl cj (by omega) N,rfl,?_⟩
  exact⟨_,_,_,ah.ren 44 2001 rfl,rfl,⟨⟨rfl,rfl,rfl,rfl,rfl,trivial⟩,rfl,trivial⟩,⟨rfl,trivial⟩,rfl⟩
theorem Py (bits size room:Int):Fn Tryz.prog 48 [aC bits,aC size,aC room] [] [] (.c6 [.agg (k9 (oD bits size room)),.one (.d (.bool (jf bits size room)))]) []:=by
 cases h:jf bits size room with
 |true=>
  have e:oD bits size room=oB ((2 ^bits.toNat:Nat):Int) room (List.replicate size.toNat (ij 0 0)) [] []:=by unfold oD;rw[h]
  rw[e]
  exact Fn.Nw (d:=2001) (ZA h) rfl rfl rfl
 |false=>
  have e:oD bits size room=oB 0 0 [] [] []:=by unfold oD;rw[h]
  rw[e]
  have no: ¬((0≤size∧size≤256)∧(0≤room∧room≤512)∧0≤bits∧bits≤3):=fun⟨⟨cj,cu⟩,⟨a3,a4⟩,a5,g5⟩=>by
   unfold jf at h
   rw[decide_eq_true cj,decide_eq_true cu,decide_eq_true a3,decide_eq_true a4,decide_eq_true a5,decide_eq_true g5] at h
   exact absurd h (by decide)
  refine Fn.of ai [] _ _ _ _ _ Tryz.func48 rfl rfl (by kernel_rfl) (by kernel_rfl) rfl (aJ ai) rfl ?_
  refine⟨rfl,?_⟩
  refine⟨fun aW=>?_,fun aW=>?_⟩
  ·exact⟨_,_,_,ah.refl _ _,rfl,⟨⟨rfl,rfl,rfl,rfl,rfl,trivial⟩,rfl,trivial⟩,trivial,rfl⟩
  have aW:=of_decide_eq_false aW
  refine⟨fun aX=>?_,fun aX=>?_⟩
  ·exact⟨_,_,_,ah.refl _ _,rfl,⟨⟨rfl,rfl,rfl,rfl,rfl,trivial⟩,rfl,trivial⟩,trivial,rfl⟩
  have aX:=of_decide_eq_false aX
  refine⟨fun bT=>?_,fun bT=>?_⟩
  ·exact⟨_,_,_,ah.refl _ _,rfl,⟨⟨rfl,rfl,rfl,rfl,rfl,trivial⟩,rfl,trivial⟩,trivial,rfl⟩
  have bT:=of_decide_eq_false bT
  refine⟨fun gl=>?_,fun gl=>?_⟩
  ·exact⟨_,_,_,ah.refl _ _,rfl,⟨⟨rfl,rfl,rfl,rfl,rfl,trivial⟩,rfl,trivial⟩,trivial,rfl⟩
  have gl:=of_decide_eq_false gl
  refine⟨fun hU=>?_,fun hU=>?_⟩
  ·exact⟨_,_,_,ah.refl _ _,rfl,⟨⟨rfl,rfl,rfl,rfl,rfl,trivial⟩,rfl,trivial⟩,trivial,rfl⟩
  have hU:=of_decide_eq_false hU
  refine⟨fun oG=>?_,fun oG=>?_⟩
  ·exact⟨_,_,_,ah.refl _ _,rfl,⟨⟨rfl,rfl,rfl,rfl,rfl,trivial⟩,rfl,trivial⟩,trivial,rfl⟩
  have oG:=of_decide_eq_false oG
  exact absurd ⟨⟨by omega,by omega⟩,⟨by omega,by omega⟩,by omega,by omega⟩ no
@[reducible] def ZB (q:lg):aO:=.c (.agg (Pu q))
def vz (n:Nat) (m:c5) (q:lg) (b6:List (List UInt8)):c5×Int:=
 if dg q=1 then vt n m (cJ q) (dX q) b6 false
 else if dg q=2 then(if fY n (aL m).length (cJ q) (dx q)=0 then vt n m (cJ q) (List.replicate (16*dx q).toNat 0) b6 true else(m,fY n (aL m).length (cJ q) (dx q)))
 else Aj n m (cJ q) (dx q)
set_option maxHeartbeats 2000000 in
theorem ZC {n:Nat} {m:c5} (h:gM n m) (q:lg) (b6:List (List UInt8)) (bp:dg q=1∨dg q=2∨dg q=3) (ag:(dX q).length≤1000000) (e6:b6.length≤1000000) (hd:(cS m).length+256≤100000):
  Fn Tryz.prog 98 [oC m,ZB q,cI .str b6] [] [] (.c6 [.agg (k9 (vz n m q b6).1),.one (.d (.str [])),fh (vz n m q b6).2]) []:=by
 have hn:=h.n8
 have hc:=h.jF
 have AE:n*(aL m).length≤8*256:=Nat.mul_le_mul hn hc
 unfold vz
 refine Fn.of ai [] _ _ _ _ _ Tryz.func98 rfl rfl (by kernel_rfl) (by kernel_rfl) rfl (aJ ai) rfl ?_
 refine⟨rfl,?_⟩
 refine⟨rfl,?_⟩
 refine⟨rfl,?_⟩
 refine⟨fun c=>absurd (of_decide_eq_true c) (by omega),fun _=>?_⟩
 refine⟨fun aW=>?_,fun aW=>?_⟩
 ·have aW:dg q=1:=of_decide_eq_true aW
  rw[if_pos aW]
  refine⟨_,_,_,_,Fn.arg (Pc h (cJ q) (dX q) b6 false ag e6 hd) ⟨⟨rfl,rfl,rfl,rfl,rfl,trivial⟩,rfl,rfl,rfl,rfl,trivial⟩,trivial,rfl,?_⟩
  exact⟨_,_,_,ah.refl _ _,rfl,⟨⟨rfl,rfl,rfl,rfl,rfl,trivial⟩,rfl,rfl,trivial⟩,trivial,rfl⟩
 have aW: ¬dg q=1:=of_decide_eq_false aW
 rw[if_neg aW]
 refine⟨fun aX=>?_,fun aX=>?_⟩
 ·have aX:dg q=2:=of_decide_eq_true aX
  rw[if_pos aX]
  refine⟨_,_,_,_,Cc h (cJ q) (dx q),trivial,rfl,?_⟩
  refine⟨fun bT=>?_,fun bT=>?_⟩
  ·have bT:fY n (aL m).length (cJ q) (dx q)=0:=of_decide_eq_true bT
   rw[if_pos bT]
   obtain⟨b1,b2,b3⟩:=vr bT
   have wI: -9223372036854775808≤16*dx q∧16*dx q≤9223372036854775807:=by omega
   refine⟨wI,?_⟩
   refine⟨by omega,rfl,?_⟩
   refine⟨_,_,_,_,Fn.arg (Pc h (cJ q) (List.replicate (16*dx q).toNat 0) b6 true (by rw[List.length_replicate];omega) e6 hd) ⟨⟨rfl,rfl,rfl,rfl,rfl,trivial⟩,rfl,rfl,rfl,rfl,trivial⟩,trivial,rfl,?_⟩
   refine⟨rfl,?_⟩
   exact⟨_,_,_,ah.refl _ _,rfl,⟨⟨rfl,rfl,rfl,rfl,rfl,trivial⟩,rfl,rfl,trivial⟩,trivial,rfl⟩
  ·have bT: ¬fY n (aL m).length (cJ q) (dx q)=0:=of_decide_eq_false bT
   rw[if_neg bT]
   exact⟨_,_,_,ah.refl _ _,rfl,⟨⟨rfl,rfl,rfl,rfl,rfl,trivial⟩,rfl,rfl,trivial⟩,trivial,rfl⟩
 have aX: ¬dg q=2:=of_decide_eq_false aX
 rw[if_neg aX]
 refine⟨fun _=>?_,fun bT=>absurd (of_decide_eq_false bT) (by omega)⟩
 refine⟨_,_,_,_,YP h (cJ q) (dx q),trivial,rfl,?_⟩
 exact⟨_,_,_,ah.refl _ _,rfl,⟨⟨rfl,rfl,rfl,rfl,rfl,trivial⟩,rfl,rfl,trivial⟩,trivial,rfl⟩
end Go.Proofs.YteoamepgonpdlaaGreat
namespace Go.Proofs.YteoamepgonpdlaaGreat
open Go.RowKit Go.Proofs
def lZ:List UInt8:=[97,98,99,100,101,102,103,104,105,106,107,108,109,110,111,112,113,114,115,116,117,118,119,120,121,122,48,49,50,51,52,53,54,55,56,57,46,45]
theorem ZD (c:UInt8):lZ.any (fun x=>decide (x=c))=lV c:=by
 have h: ∀n:Fin 256,lZ.any (fun x=>decide (x=UInt8.ofNat n.val))=lV (UInt8.ofNat n.val):=by decide
 have:=h ⟨c.toNat,c.toNat_lt⟩
 simpa using this
theorem ZE (s:List UInt8) (hs:s.length≤4294967296):Fn Tryz.prog 94 [bG s] [] [] (iw (iL s)) []:=by
 refine Fn.of ai [] _ _ _ _ _ Tryz.func94 rfl rfl (by kernel_rfl) (by kernel_rfl) rfl (aJ ai) rfl ?_
 show av _ _ _ _ _ _ _
 refine av.loop ai (aJ ai) [] (by kernel_rfl) (X:=Nat) (fun k=>[(0,bG s),(3,bG lZ),(4,aC (k:Nat))]) (fun _=>[]) (fun k=>k≤s.length∧ ∀(i:Nat) c,i < k→s[i]? =some c→lV c=true) (fun k=>s.length - k) 0 ⟨Nat.zero_le _,fun i c h=>absurd h (Nat.not_lt_zero _)⟩ ?_ ?_
 ·exact ah.sub ⟨rfl,rfl,rfl,trivial⟩ trivial
 intro k ⟨aq,hp⟩
 refine⟨fun h=>?_,fun h=>?_⟩
 ·have bP:k < s.length:=by
   have h:decide ((k:Int) < (s.length:Int))=true:=h
   simpa using h
  show av _ _ _ _ _ _ _
  refine av.loop ai (aJ ai) [] (by kernel_rfl) (X:=Nat×Bool) (fun x=>[(0,bG s),(3,bG lZ),(4,aC (k:Nat)),(5,iw x.2),(6,aC (x.1:Nat))]) (fun _=>[]) (fun x=>x.1≤lZ.length∧x.2=(lZ.take x.1).any fun y=>decide (y=s[k])) (fun x=>lZ.length - x.1) (0,false) ⟨Nat.zero_le _,rfl⟩ ?_ ?_
  ·exact ah.sub ⟨rfl,rfl,rfl,rfl,rfl,trivial⟩ trivial
  rintro⟨j,fd⟩ ⟨au,pI⟩
  simp only at au pI
  refine⟨fun af=>?_,fun af=>?_⟩
  ·have iD:j < lZ.length:=by
    have af:decide ((j:Int) < (lZ.length:Int))=true:=af
    simpa using af
   have nv:lZ.length=38:=rfl
   have cc:lZ.take (j+1)=lZ.take j++[lZ[j]]:=by simp
   refine⟨by omega,lZ[j],MR (n:=j) iD,?_⟩
   refine⟨by omega,s[k],MR (n:=k) bP,?_⟩
   refine⟨rfl,fun ay=>?_,fun ay=>?_⟩
   ·refine⟨by omega,(j+1,true),⟨by omega,?_⟩,by omega,ah.sub ⟨rfl,rfl,rfl,rfl,rfl,trivial⟩ trivial⟩
    have ay:decide ((UInt8.toNat lZ[j]:Int)=(UInt8.toNat s[k]:Int))=true:=ay
    have bu:lZ[j]=s[k]:=UInt8.toNat_inj.1 (by have:=of_decide_eq_true ay;omega)
    show true=_
    rw[cc,List.any_append]
    simp[bu]
   ·refine⟨by omega,(j+1,fd),⟨by omega,?_⟩,by omega,ah.sub ⟨rfl,rfl,rfl,rfl,rfl,trivial⟩ trivial⟩
    have ay:decide ((UInt8.toNat lZ[j]:Int)=(UInt8.toNat s[k]:Int))=false:=ay
    have bu:lZ[j]≠s[k]:=fun e=>by rw[e] at ay;simp at ay
    show fd=_
    rw[cc,List.any_append,pI]
    simp[bu]
  ·have iD:j=lZ.length:=by
    have af:decide ((j:Int) < (lZ.length:Int))=false:=af
    simp at af;omega
   rw[iD,List.take_length,ZD] at pI
   subst pI
   refine⟨fun ay=>?_,fun ay=>?_⟩
   ·have ay:(!lV s[k])=true:=ay
    refine⟨_,_,_,ah.refl _ _,rfl,(show false=iL s from ?_),trivial,rfl⟩
    have:s.all lV=false:=by
     rw[Bool.eq_false_iff]
     intro bu
     have:=List.all_eq_true.1 bu s[k] (List.getElem_mem _)
     rw[this] at ay
     cases ay
    simp[iL,this]
   ·have ay:(!lV s[k])=false:=ay
    refine⟨by omega,k+1,⟨by omega,fun i c aD hc=>?_⟩,by omega,ah.sub ⟨rfl,rfl,rfl,trivial⟩ trivial⟩
    rcases Nat.lt_or_ge i k with bu |bu
    ·exact hp i c bu hc
    ·have:i=k:=by omega
     subst this
     rw[List.getElem?_eq_getElem bP] at hc
     injection hc with hc
     subst hc
     simpa using ay
 ·have gx:k=s.length:=by
   have h:decide ((k:Int) < (s.length:Int))=false:=h
   simp at h;omega
  have dh:s.all lV=true:=List.all_eq_true.2 fun c hc=>by
   obtain⟨i,aD,rfl⟩:=List.getElem_of_mem hc
   exact hp i _ (by omega) (List.getElem?_eq_getElem aD)
  refine⟨fun aa=>?_,fun aa=>?_⟩
  ·have aa:decide ((0:Int) < (s.length:Int))=true:=aa
   refine⟨_,_,_,ah.refl _ _,rfl,(show decide ((s.length:Int) < 16)=iL s from ?_),trivial,rfl⟩
   simp at aa
   have cC:decide (1≤s.length)=true:=by simp;omega
   have cR:decide ((s.length:Int) < 16)=decide (s.length≤15):=by
    by_cases rX:s.length≤15
    ·rw[decide_eq_true rX,decide_eq_true (by omega)]
    ·rw[decide_eq_false rX,decide_eq_false (by omega)]
   rw[iL,dh,cC,cR]
   simp
  ·have aa:decide ((0:Int) < (s.length:Int))=false:=aa
   refine⟨_,_,_,ah.refl _ _,rfl,(show false=iL s from ?_),trivial,rfl⟩
   simp at aa
   simp[iL,aa]
end Go.Proofs.YteoamepgonpdlaaGreat
namespace Go.Proofs.YteoamepgonpdlaaGreat
open Go.RowKit Go.Proofs
theorem ZF (bits room:Int):Fn Tryz.prog 7 [aC bits,aC room] [] [] (.c6 [.agg (jJ bits room []),.one (.d (.bool (jf bits 0 room)))]) []:=by
 refine Fn.of ai [] _ _ _ _ _ Tryz.func7 rfl rfl (by kernel_rfl) (by kernel_rfl) rfl (aJ ai) rfl ?_
 refine⟨rfl,?_⟩
 refine⟨_,_,_,_,Py bits 0 room,trivial,rfl,?_⟩
 refine⟨rfl,?_⟩
 exact⟨_,_,_,ah.refl _ _,rfl,⟨⟨rfl,rfl,rfl,trivial⟩,rfl,trivial⟩,trivial,rfl⟩
def vA (bits room:Int) (l:List bK) (nm:List UInt8) (size:Int) (cO:List UInt8):List bK×Int:=
 if jf bits size room=false then(l,1)
 else if iL nm=false then(l,1)
 else if 0≤bY l nm then(l,143)
 else if 16≤l.length then(l,143)
 else if cO≠[]∧bY l cO < 0 then(l,140)
 else if cO≠[]∧8≤ld l cO then(l,142)
 else(wL l (jl nm cO (oD bits size room)),0)
set_option maxHeartbeats 1000000 in
theorem ZG (bits room:Int) (l:List bK) (o:fy) (aB:l.length≤1073741824) (hn:(cg o).length≤4294967296):Fn Tryz.prog 54 [kT bits room l,Ck o] [] [] (.c6 [.agg (jJ bits room (vA bits room l (cg o) (j3 o) (eL o)).1),fh (vA bits room l (cg o) (j3 o) (eL o)).2]) []:=by
 unfold vA
 refine Fn.of ai [] _ _ _ _ _ Tryz.func54 rfl rfl (by kernel_rfl) (by kernel_rfl) rfl (aJ ai) rfl ?_
 refine⟨rfl,?_⟩
 refine⟨rfl,?_⟩
 refine⟨rfl,?_⟩
 refine⟨_,_,_,_,Py bits (j3 o) room,trivial,rfl,?_⟩
 refine⟨rfl,?_⟩
 refine⟨fun aW=>?_,fun aW=>?_⟩
 ·have aW:(!jf bits (j3 o) room)=true:=aW
  have aW:jf bits (j3 o) room=false:=by simpa using aW
  rw[if_pos aW]
  exact⟨_,_,_,ah.refl _ _,rfl,⟨⟨rfl,rfl,rfl,trivial⟩,rfl,trivial⟩,trivial,rfl⟩
 have aW:(!jf bits (j3 o) room)=false:=aW
 have aW:jf bits (j3 o) room=true:=by simpa using aW
 rw[if_neg (by rw[aW];decide)]
 refine⟨_,_,_,_,ZE (cg o) hn,trivial,rfl,?_⟩
 refine⟨fun aX=>?_,fun aX=>?_⟩
 ·have aX:(!iL (cg o))=true:=aX
  have aX:iL (cg o)=false:=by simpa using aX
  rw[if_pos aX]
  exact⟨_,_,_,ah.refl _ _,rfl,⟨⟨rfl,rfl,rfl,trivial⟩,rfl,trivial⟩,trivial,rfl⟩
 have aX:(!iL (cg o))=false:=aX
 have aX:iL (cg o)=true:=by simpa using aX
 rw[if_neg (by rw[aX];decide)]
 refine⟨_,_,_,_,lY bits room l (cg o) aB,trivial,rfl,?_⟩
 refine⟨fun bT=>?_,fun bT=>?_⟩
 ·have bT:0≤bY l (cg o):=of_decide_eq_true bT
  rw[if_pos bT]
  exact⟨_,_,_,ah.refl _ _,rfl,⟨⟨rfl,rfl,rfl,trivial⟩,rfl,trivial⟩,trivial,rfl⟩
 have bT: ¬0≤bY l (cg o):=of_decide_eq_false bT
 rw[if_neg bT]
 refine⟨fun gl=>?_,fun gl=>?_⟩
 ·have gl:(16:Int)≤((l.length:Nat):Int):=of_decide_eq_true gl
  rw[if_pos (by omega)]
  exact⟨_,_,_,ah.refl _ _,rfl,⟨⟨rfl,rfl,rfl,trivial⟩,rfl,trivial⟩,trivial,rfl⟩
 have gl: ¬(16:Int)≤((l.length:Nat):Int):=of_decide_eq_false gl
 rw[if_neg (by omega)]
 refine⟨fun hU=>?_,fun hU=>?_⟩
 ·have hU:(!decide (eL o=[]))=true:=hU
  have hU:eL o≠[]:=by simpa using hU
  refine⟨_,_,_,_,lY bits room l (eL o) aB,trivial,rfl,?_⟩
  refine⟨fun oG=>?_,fun oG=>?_⟩
  ·have oG:bY l (eL o) < 0:=of_decide_eq_true oG
   rw[if_pos ⟨hU,oG⟩]
   exact⟨_,_,_,ah.refl _ _,rfl,⟨⟨rfl,rfl,rfl,trivial⟩,rfl,trivial⟩,trivial,rfl⟩
  have oG: ¬bY l (eL o) < 0:=of_decide_eq_false oG
  rw[if_neg (fun q=>oG q.2)]
  refine⟨fun _=>?_,fun JU=>absurd (show(!decide (eL o=[]))=false from JU) (by rw[decide_eq_false hU];decide)⟩
  refine⟨_,_,_,_,JD bits room l (eL o) aB,trivial,rfl,?_⟩
  refine⟨fun Ar=>?_,fun Ar=>?_⟩
  ·have Ar:(8:Int)≤((ld l (eL o):Nat):Int):=of_decide_eq_true Ar
   rw[if_pos ⟨hU,by omega⟩]
   exact⟨_,_,_,ah.refl _ _,rfl,⟨⟨rfl,rfl,rfl,trivial⟩,rfl,trivial⟩,trivial,rfl⟩
  have Ar: ¬(8:Int)≤((ld l (eL o):Nat):Int):=of_decide_eq_false Ar
  rw[if_neg (fun q=>Ar (by have:=q.2;omega))]
  refine⟨_,_,_,_,Ph l (jl (cg o) (eL o) (oD bits (j3 o) room)) aB,trivial,rfl,?_⟩
  exact⟨_,_,_,ah.refl _ _,rfl,⟨⟨rfl,rfl,rfl,trivial⟩,rfl,trivial⟩,trivial,rfl⟩
 ·have hU:(!decide (eL o=[]))=false:=hU
  have hU:eL o=[]:=by simpa using hU
  rw[if_neg (fun q=>q.1 hU),if_neg (fun q=>q.1 hU)]
  refine⟨fun JU=>absurd (show(!decide (eL o=[]))=true from JU) (by rw[decide_eq_true hU];decide),fun _=>?_⟩
  refine⟨_,_,_,_,Ph l (jl (cg o) (eL o) (oD bits (j3 o) room)) aB,trivial,rfl,?_⟩
  exact⟨_,_,_,ah.refl _ _,rfl,⟨⟨rfl,rfl,rfl,trivial⟩,rfl,trivial⟩,trivial,rfl⟩
def jK (l:List bK) (nm:List UInt8) (d:bK):List bK:=l.set (bY l nm).toNat d
def vB (l:List bK) (nm cO:List UInt8):List bK×Int:=match cw l nm with
 |none=>(l,140)
 |some d=>if cO≠[]∧bY l cO < 0 then(l,140)
  else if ld (jK l nm (jl (b5 d) cO (bn d))) nm=99 then(l,141)
  else if(jK l nm (jl (b5 d) cO (bn d))).all (fun x=>decide (ld (jK l nm (jl (b5 d) cO (bn d))) (b5 x)≤8)) then(jK l nm (jl (b5 d) cO (bn d)),0)
  else(l,142)
@[reducible] def ZH (k:Nat):aQ:=[(2,aH 2),(3,aH 3),(4,aH 4),(8,aH 8),(9,aC (k:Nat))]
@[reducible] def ZI (bits room:Int) (l:List bK) (o:fy) (N:List bK):aG:=[(2,.cells (jJ bits room l)),(3,.cells (tY o)),(4,.cells oe.t29.zero),(8,.cells (jJ bits room N))]
set_option maxHeartbeats 1000000 in
theorem ZJ (bits room:Int) (l:List bK) (o:fy) (aB:l.length≤1073741824):Fn Tryz.prog 57 [kT bits room l,Ck o] [] [] (.c6 [.agg (jJ bits room (vB l (cg o) (eL o)).1),fh (vB l (cg o) (eL o)).2]) []:=by
 unfold vB
 refine Fn.of ai [] _ _ _ _ _ Tryz.func57 rfl rfl (by kernel_rfl) (by kernel_rfl) rfl (aJ ai) rfl ?_
 refine⟨rfl,?_⟩
 refine⟨rfl,?_⟩
 refine⟨rfl,?_⟩
 refine⟨_,_,_,_,lY bits room l (cg o) aB,trivial,rfl,?_⟩
 refine⟨fun aW=>?_,fun aW=>?_⟩
 ·have aW:bY l (cg o) < 0:=of_decide_eq_true aW
  rw[Cf aW]
  exact⟨_,_,_,ah.refl _ _,rfl,⟨⟨rfl,rfl,rfl,trivial⟩,rfl,trivial⟩,trivial,rfl⟩
 have aW: ¬bY l (cg o) < 0:=of_decide_eq_false aW
 obtain⟨i,aD,aj,ak,bf⟩:=Cg aW
 rw[ak]
 simp only
 have eB:eT l (bY l (cg o)).toNat=some l[i]:=by rw[show(bY l (cg o)).toNat=i by omega];exact eA (n:=i) aD
 have gO: ∀d,jK l (cg o) d=l.set i d:=fun d=>by unfold jK;rw[show(bY l (cg o)).toNat=i by omega]
 have dz:(0:Int)≤bY l (cg o)∧bY l (cg o) < ((l.length:Nat):Int):=by omega
 rw[gO]
 refine⟨fun aX=>?_,fun aX=>?_⟩
 focus
  have aX:(!decide (eL o=[]))=true:=aX
  have aX:eL o≠[]:=by simpa using aX
  refine⟨_,_,_,_,lY bits room l (eL o) aB,trivial,rfl,?_⟩
  refine⟨fun bT=>?_,fun bT=>?_⟩
  ·have bT:bY l (eL o) < 0:=of_decide_eq_true bT
   rw[if_pos ⟨aX,bT⟩]
   exact⟨_,_,_,ah.refl _ _,rfl,⟨⟨rfl,rfl,rfl,trivial⟩,rfl,trivial⟩,trivial,rfl⟩
  have bT: ¬bY l (eL o) < 0:=of_decide_eq_false bT
  rw[if_neg (fun q=>bT q.2)]
 rotate_left
 focus
  have aX:(!decide (eL o=[]))=false:=aX
  have aX:eL o=[]:=by simpa using aX
  rw[if_neg (fun q=>q.1 aX)]
 all_goals
  refine⟨dz.1,l[i],eB,?_⟩
  refine⟨rfl,?_⟩
  refine⟨_,_,_,_,Fn.arg (Pf bits room l (k:=i) aB aD (jl (b5 l[i]) (eL o) (bn l[i]))) ⟨⟨rfl,rfl,rfl,trivial⟩,aj,⟨rfl,rfl,rfl,rfl,rfl,rfl,rfl,trivial⟩,trivial⟩,trivial,rfl,?_⟩
  refine⟨rfl,?_⟩
  generalize c4:l.set i (jl (b5 l[i]) (eL o) (bn l[i]))=N at*
  have adj:N.length=l.length:=by rw[←c4,List.length_set]
  refine⟨_,_,_,_,JD bits room N (cg o) (by omega),trivial,rfl,?_⟩
  refine⟨fun gl=>?_,fun gl=>?_⟩
  ·have gl:((ld N (cg o):Nat):Int)=99:=of_decide_eq_true gl
   rw[if_pos (by omega)]
   exact⟨_,_,_,ah.refl _ _,rfl,⟨⟨rfl,rfl,rfl,trivial⟩,rfl,trivial⟩,trivial,rfl⟩
  have gl: ¬((ld N (cg o):Nat):Int)=99:=of_decide_eq_false gl
  rw[if_neg (by omega)]
  show av _ _ _ _ _ _ _
  refine av.loop ai (aJ ai) [] (by kernel_rfl) (X:=Nat) ZH (fun _=>ZI bits room l o N) (fun k=>k≤N.length∧ ∀(j:Nat) x,j < k→N[j]? =some x→ld N (b5 x)≤8) (fun k=>N.length - k) 0 ⟨Nat.zero_le _,fun j x h=>absurd h (Nat.not_lt_zero _)⟩ ?_ ?_
  ·exact ah.sub ⟨rfl,rfl,rfl,rfl,rfl,trivial⟩ ⟨rfl,rfl,rfl,rfl,trivial⟩
  rintro k ⟨aq,hp⟩
  refine⟨fun aa=>?_,fun aa=>?_⟩
  ·have aa:((k:Nat):Int) < ((N.length:Nat):Int):=of_decide_eq_true aa
   have bP:k < N.length:=by omega
   refine⟨by omega,N[k],eA (n:=k) bP,?_⟩
   refine⟨_,_,_,_,JD bits room N (b5 N[k]) (by omega),trivial,rfl,?_⟩
   refine⟨rfl,fun af=>?_,fun af=>?_⟩
   ·have af:(8:Int) < ((ld N (b5 N[k]):Nat):Int):=of_decide_eq_true af
    rw[if_neg (fun q=>by
     have:=of_decide_eq_true (List.all_eq_true.1 q _ (List.getElem_mem bP))
     omega)]
    exact⟨_,_,_,ah.refl _ _,rfl,⟨⟨rfl,rfl,rfl,trivial⟩,rfl,trivial⟩,trivial,rfl⟩
   ·have af: ¬(8:Int) < ((ld N (b5 N[k]):Nat):Int):=of_decide_eq_false af
    refine⟨by omega,k+1,⟨by omega,fun j x au hx=>?_⟩,by omega,ah.sub ⟨rfl,rfl,rfl,rfl,rfl,trivial⟩ ⟨rfl,rfl,rfl,rfl,trivial⟩⟩
    rcases Nat.lt_or_ge j k with bu |bu
    ·exact hp j x bu hx
    ·have:j=k:=by omega
     subst this
     rw[List.getElem?_eq_getElem bP] at hx
     injection hx with hx
     rw[←hx]
     omega
  ·have aa: ¬((k:Nat):Int) < ((N.length:Nat):Int):=of_decide_eq_false aa
   have bP:k=N.length:=by omega
   rw[if_pos (List.all_eq_true.2 fun x hx=>by
    obtain⟨j,au,rfl⟩:=List.getElem_of_mem hx
    exact decide_eq_true (hp j _ (by omega) (List.getElem?_eq_getElem au)))]
   exact⟨_,_,_,ah.refl _ _,rfl,⟨⟨rfl,rfl,rfl,trivial⟩,rfl,trivial⟩,trivial,rfl⟩
def mI (n:Nat) (l:List bK) (x:List UInt8) (k:Nat):List (List UInt8):=(List.range k).map (lf n l x)
theorem ZK (n:Nat) (l:List bK) (x:List UInt8) (k:Nat):mI n l x (k+1)=mI n l x k++[lf n l x k]:=by
 unfold mI
 rw[List.range_succ,List.map_append]
 rfl
theorem Pz (n:Nat) (l:List bK) (x:List UInt8) (k:Nat):(mI n l x k).length=k:=by unfold mI;rw[List.length_map,List.length_range]
structure JV where
 l:List bK
 x:List UInt8
 e:Int
def tZ (n:Nat) (l:List bK) (nm:List UInt8) (q:lg):JV:=match cw l nm with
 |none=>⟨l,[],140⟩
 |some d=>if dg q=0 then(if fY n (aL (bn d)).length (cJ q) (dx q)=0 then⟨l,((rP n l nm (aL (bn d)).length).take (16*(cJ q+dx q)).toNat).drop (16*cJ q).toNat,0⟩ else⟨l,[],fY n (aL (bn d)).length (cJ q) (dx q)⟩)
  else⟨jK l nm (jl (b5 d) (c8 d) (vz n (bn d) q (mI n l nm (aL (bn d)).length)).1),[],(vz n (bn d) q (mI n l nm (aL (bn d)).length)).2⟩
@[reducible] def PA (i:Int) (b k:Nat):aQ:=[(2,aH 2),(3,aH 3),(4,aH 4),(7,aC i),(8,aH 8),(10,iO b),(11,aC (k:Nat))]
@[reducible] def PB (bits room:Int) (l:List bK) (o:fy) (d:bK) (b:Nat) (x:List (List UInt8)):aG:=[(2,.cells (jJ bits room l)),(3,.cells (tY o)),(4,.cells oe.t29.zero),(8,.cells (JC d)),(b,.row 9 .str x)]
set_option maxHeartbeats 2000000 in
theorem ZL {n:Nat} {l:List bK} (h:vw n l) (bits room:Int) (o:fy) (bp:dg (cK o)=0∨dg (cK o)=1∨dg (cK o)=2∨dg (cK o)=3) (ag:(dX (cK o)).length≤1000000) (hd: ∀d,d∈l→(cS (bn d)).length+256≤100000):
  Fn Tryz.prog 58 [kT bits room l,Ck o] [] [] (.c6 [.agg (jJ bits room (tZ n l (cg o) (cK o)).l),.one (.d (.str (tZ n l (cg o) (cK o)).x)),fh (tZ n l (cg o) (cK o)).e]) []:=by
 have aB:=h.len
 unfold tZ
 refine Fn.of ai [15] _ _ _ _ _ Tryz.func58 rfl rfl (by kernel_rfl) (by kernel_rfl) rfl (aJ ai) rfl ?_
 refine⟨rfl,?_⟩
 refine⟨rfl,?_⟩
 refine⟨rfl,?_⟩
 refine⟨_,_,_,_,lY bits room l (cg o) (by omega),trivial,rfl,?_⟩
 refine⟨fun aW=>?_,fun aW=>?_⟩
 ·have aW:bY l (cg o) < 0:=of_decide_eq_true aW
  rw[Cf aW]
  exact⟨_,_,_,ah.refl _ _,rfl,⟨⟨rfl,rfl,rfl,trivial⟩,rfl,rfl,trivial⟩,trivial,rfl⟩
 have aW: ¬bY l (cg o) < 0:=of_decide_eq_false aW
 obtain⟨i,aD,aj,ak,bf⟩:=Cg aW
 rw[ak]
 simp only
 have eB:eT l (bY l (cg o)).toNat=some l[i]:=by rw[show(bY l (cg o)).toNat=i by omega];exact eA (n:=i) aD
 have gO: ∀d,jK l (cg o) d=l.set i d:=fun d=>by unfold jK;rw[show(bY l (cg o)).toNat=i by omega]
 have dz:(0:Int)≤bY l (cg o)∧bY l (cg o) < ((l.length:Nat):Int):=by omega
 have aA:=h.ok _ (List.getElem_mem aD)
 have hdd:=hd _ (List.getElem_mem aD)
 rw[gO]
 generalize hx:l[i]=d at*
 have cP:=aA.jF
 have wM:=aA.n8
 have AE:n*(aL (bn d)).length≤8*256:=Nat.mul_le_mul wM cP
 refine⟨dz.1,d,eB,?_⟩
 refine⟨rfl,?_⟩
 refine⟨fun aX=>?_,fun aX=>?_⟩
 ·have aX:dg (cK o)=0:=of_decide_eq_true aX
  rw[if_pos aX]
  refine⟨_,_,_,_,Cc aA (cJ (cK o)) (dx (cK o)),trivial,rfl,?_⟩
  refine⟨fun bT=>?_,fun bT=>?_⟩
  ·have bT:(!decide (fY n (aL (bn d)).length (cJ (cK o)) (dx (cK o))=0))=true:=bT
   have bT: ¬fY n (aL (bn d)).length (cJ (cK o)) (dx (cK o))=0:=by simpa using bT
   rw[if_neg bT]
   exact⟨_,_,_,ah.refl _ _,rfl,⟨⟨rfl,rfl,rfl,trivial⟩,rfl,rfl,trivial⟩,trivial,rfl⟩
  have bT:(!decide (fY n (aL (bn d)).length (cJ (cK o)) (dx (cK o))=0))=false:=bT
  have bT:fY n (aL (bn d)).length (cJ (cK o)) (dx (cK o))=0:=by simpa using bT
  rw[if_pos bT]
  obtain⟨b1,b2,b3⟩:=vr bT
  refine⟨_,_,_,_,JQ h bits room (cg o) ak,trivial,rfl,?_⟩
  have al:=JP h (cg o) (aL (bn d)).length
  have cC: -9223372036854775808≤16*cJ (cK o)∧16*cJ (cK o)≤9223372036854775807:=by omega
  have cR: -9223372036854775808≤cJ (cK o)+dx (cK o)∧cJ (cK o)+dx (cK o)≤9223372036854775807:=by omega
  have fo: -9223372036854775808≤16*(cJ (cK o)+dx (cK o))∧16*(cJ (cK o)+dx (cK o))≤9223372036854775807:=by omega
  have gU:0≤16*cJ (cK o)∧16*cJ (cK o)≤16*(cJ (cK o)+dx (cK o))∧16*(cJ (cK o)+dx (cK o))≤((rP n l (cg o) (aL (bn d)).length).length:Nat):=by
   rw[al,Nat.mul_assoc]
   generalize n*(aL (bn d)).length=N at*
   omega
  refine⟨cC,cR,fo,gU,?_⟩
  refine⟨rfl,?_⟩
  exact⟨_,_,_,ah.refl _ _,rfl,⟨⟨rfl,rfl,rfl,trivial⟩,rfl,rfl,trivial⟩,trivial,rfl⟩
 have aX: ¬dg (cK o)=0:=of_decide_eq_false aX
 rw[if_neg aX]
 show av _ _ _ _ _ _ _
 refine av.loop ai (aJ ai) [15] (by kernel_rfl) (X:=Nat) (fun k=>PA (bY l (cg o)) 2003 k) (fun k=>PB bits room l o d 2003 (mI n l (cg o) k)) (fun k=>k≤(aL (bn d)).length) (fun k=>(aL (bn d)).length - k) 0 (Nat.zero_le _) ?_ ?_
 ·exact ah.trans (ah.nil 10 2003 9 .str rfl rfl) (ah.sub ⟨rfl,rfl,rfl,rfl,rfl,rfl,rfl,trivial⟩ ⟨rfl,rfl,rfl,rfl,rfl,trivial⟩)
 intro k aq
 refine⟨fun aa=>?_,fun aa=>?_⟩
 ·have aa:((k:Nat):Int) < (((aL (bn d)).length:Nat):Int):=of_decide_eq_true aa
  refine⟨_,_,_,_,JO h bits room (cg o) k ak (by omega),trivial,rfl,?_⟩
  have b1:(mI n l (cg o) k).length+1≤4294967296:=by rw[Pz];omega
  refine⟨b1,rfl,?_⟩
  refine⟨by omega,k+1,by omega,by omega,ah.trans (ah.sub (K':=PA (bY l (cg o)) 77 (k+1)) (B':=PB bits room l o d 77 (mI n l (cg o) (k+1))) ⟨rfl,rfl,rfl,rfl,rfl,rfl,rfl,trivial⟩ ⟨rfl,rfl,rfl,rfl,?_,trivial⟩) (ah.ren 77 2003 rfl)⟩
  rw[ZK]
  rfl
 ·have aa: ¬((k:Nat):Int) < (((aL (bn d)).length:Nat):Int):=of_decide_eq_false aa
  have bP:k=(aL (bn d)).length:=by omega
  subst bP
  show av _ _ _ _ _ _ _
  refine av.go ai (aJ ai) [] (by kernel_rfl) (ah.dU 2003 rfl) ?_
  refine⟨_,_,_,_,ZC aA (cK o) (mI n l (cg o) (aL (bn d)).length) (by omega) ag (by rw[Pz];omega) hdd,trivial,rfl,?_⟩
  refine⟨rfl,?_⟩
  refine⟨_,_,_,_,Fn.arg (Pf bits room l (k:=i) (by omega) aD (jl (b5 d) (c8 d) (vz n (bn d) (cK o) (mI n l (cg o) (aL (bn d)).length)).1)) ⟨⟨rfl,rfl,rfl,trivial⟩,aj,⟨rfl,rfl,rfl,rfl,rfl,rfl,rfl,trivial⟩,trivial⟩,trivial,rfl,?_⟩
  exact⟨_,_,_,ah.refl _ _,rfl,⟨⟨rfl,rfl,rfl,trivial⟩,rfl,rfl,trivial⟩,trivial,rfl⟩
def yA (l:List bK) (nm:List UInt8):JV:=match cw l nm with
 |none=>⟨l,[],140⟩
 |some _=>if 0 < (ko l nm).length then⟨l,[],143⟩ else⟨l.take (bY l nm).toNat++l.drop ((bY l nm).toNat+1),[],0⟩
def jv (n:Nat) (bits room:Int) (l:List bK) (o:fy):JV:=
 if gh o=0 then⟨(vA bits room l (cg o) (j3 o) (eL o)).1,[],(vA bits room l (cg o) (j3 o) (eL o)).2⟩
 else if gh o=1 then yA l (cg o)
 else if gh o=2 then⟨(vB l (cg o) (eL o)).1,[],(vB l (cg o) (eL o)).2⟩
 else if gh o=3∧0≤dg (cK o)∧dg (cK o)≤3 then tZ n l (cg o) (cK o)
 else⟨l,[],0⟩
set_option maxHeartbeats 2000000 in
theorem E4 {n:Nat} {l:List bK} (h:vw n l) (bits room:Int) (o:fy) (hn:(cg o).length≤4294967296) (ag:(dX (cK o)).length≤1000000) (hd: ∀d,d∈l→(cS (bn d)).length+256≤100000):
  Fn Tryz.prog 10 [kT bits room l,Ck o] [] [] (.c6 [.agg (jJ bits room (jv n bits room l o).l),.one (.d (.str (jv n bits room l o).x)),fh (jv n bits room l o).e]) []:=by
 have aB:=h.len
 unfold jv
 refine Fn.of ai [17] _ _ _ _ _ Tryz.func10 rfl rfl (by kernel_rfl) (by kernel_rfl) rfl (aJ ai) rfl ?_
 refine⟨rfl,?_⟩
 refine⟨rfl,?_⟩
 refine⟨rfl,?_⟩
 refine⟨fun cx=>?_,fun cx=>?_⟩
 ·have cx:gh o=0:=of_decide_eq_true cx
  rw[if_pos cx]
  refine⟨_,_,_,_,ZG bits room l o (by omega) hn,trivial,rfl,?_⟩
  show av _ _ _ _ _ _ _
  refine av.go ai (aJ ai) [] (by kernel_rfl) (ah.refl _ _) ?_
  exact⟨_,_,_,ah.refl _ _,rfl,⟨⟨rfl,rfl,rfl,trivial⟩,rfl,rfl,trivial⟩,trivial,rfl⟩
 have cx: ¬gh o=0:=of_decide_eq_false cx
 rw[if_neg cx]
 refine⟨fun aW=>?_,fun aW=>?_⟩
 ·have aW:gh o=1:=of_decide_eq_true aW
  rw[if_pos aW]
  unfold yA
  refine⟨_,_,_,_,lY bits room l (cg o) (by omega),trivial,rfl,?_⟩
  refine⟨fun aX=>?_,fun aX=>?_⟩
  ·have aX:bY l (cg o) < 0:=of_decide_eq_true aX
   rw[Cf aX]
   exact⟨_,_,_,ah.refl _ _,rfl,⟨⟨rfl,rfl,rfl,trivial⟩,rfl,rfl,trivial⟩,trivial,rfl⟩
  have aX: ¬bY l (cg o) < 0:=of_decide_eq_false aX
  obtain⟨i,aD,aj,ak,bf⟩:=Cg aX
  rw[ak]
  simp only
  refine⟨_,_,_,_,JH bits room l (cg o) (by omega),trivial,rfl,?_⟩
  refine⟨fun bT=>?_,fun bT=>?_⟩
  ·have bT:(0:Int) < (((ko l (cg o)).length:Nat):Int):=of_decide_eq_true bT
   rw[if_pos (by omega)]
   exact⟨_,_,_,ah.refl _ _,rfl,⟨⟨rfl,rfl,rfl,trivial⟩,rfl,rfl,trivial⟩,trivial,rfl⟩
  have bT: ¬(0:Int) < (((ko l (cg o)).length:Nat):Int):=of_decide_eq_false bT
  rw[if_neg (by omega)]
  have cC:0≤bY l (cg o)∧bY l (cg o)≤((l.length:Nat):Int):=by omega
  refine⟨rfl,cC,?_⟩
  have b1:(0:Nat)+(l.take (bY l (cg o)).toNat).length≤4294967296:=by rw[List.length_take];omega
  refine⟨b1,rfl,?_⟩
  have cR: -9223372036854775808≤bY l (cg o)+1∧bY l (cg o)+1≤9223372036854775807:=by omega
  refine⟨cR,?_⟩
  have fo:0≤bY l (cg o)+1∧bY l (cg o)+1≤((l.length:Nat):Int):=by omega
  refine⟨fo,?_⟩
  have b2:(l.take (bY l (cg o)).toNat).length+((l.take l.length).drop (bY l (cg o)+1).toNat).length≤4294967296:=by rw[List.length_take,List.length_drop,List.length_take];omega
  refine⟨b2,rfl,rfl,?_⟩
  show av _ _ _ _ _ _ _
  refine av.go ai (aJ ai) [] (by kernel_rfl) (ah.dU 46 rfl) ?_
  have eY:(bY l (cg o)+1).toNat=(bY l (cg o)).toNat+1:=by omega
  have iH:(l.take l.length).drop (bY l (cg o)+1).toNat=l.drop ((bY l (cg o)).toNat+1):=by rw[List.take_length,eY]
  exact⟨_,_,_,ah.refl _ _,rfl,⟨⟨rfl,rfl,congrArg (fun z:List bK=>l.take (bY l (cg o)).toNat++z) iH,trivial⟩,rfl,rfl,trivial⟩,trivial,rfl⟩
 have aW: ¬gh o=1:=of_decide_eq_false aW
 rw[if_neg aW]
 refine⟨fun aX=>?_,fun aX=>?_⟩
 ·have aX:gh o=2:=of_decide_eq_true aX
  rw[if_pos aX]
  refine⟨_,_,_,_,ZJ bits room l o (by omega),trivial,rfl,?_⟩
  show av _ _ _ _ _ _ _
  refine av.go ai (aJ ai) [] (by kernel_rfl) (ah.refl _ _) ?_
  exact⟨_,_,_,ah.refl _ _,rfl,⟨⟨rfl,rfl,rfl,trivial⟩,rfl,rfl,trivial⟩,trivial,rfl⟩
 have aX: ¬gh o=2:=of_decide_eq_false aX
 rw[if_neg aX]
 refine⟨fun bT=>?_,fun bT=>?_⟩
 ·have bT:gh o=3:=of_decide_eq_true bT
  refine⟨fun gl=>?_,fun gl=>?_⟩
  ·have gl:0≤dg (cK o):=of_decide_eq_true gl
   refine⟨fun hU=>?_,fun hU=>?_⟩
   ·have hU:dg (cK o)≤3:=of_decide_eq_true hU
    rw[if_pos ⟨bT,gl,hU⟩]
    refine⟨_,_,_,_,ZL h bits room o (by omega) ag hd,trivial,rfl,?_⟩
    exact⟨_,_,_,ah.refl _ _,rfl,⟨⟨rfl,rfl,rfl,trivial⟩,rfl,rfl,trivial⟩,trivial,rfl⟩
   ·have hU: ¬dg (cK o)≤3:=of_decide_eq_false hU
    rw[if_neg (fun q=>hU q.2.2)]
    show av _ _ _ _ _ _ _
    refine av.go ai (aJ ai) [] (by kernel_rfl) (ah.refl _ _) ?_
    exact⟨_,_,_,ah.refl _ _,rfl,⟨⟨rfl,rfl,rfl,trivial⟩,rfl,rfl,trivial⟩,trivial,rfl⟩
  ·have gl: ¬0≤dg (cK o):=of_decide_eq_false gl
   rw[if_neg (fun q=>gl q.2.1)]
   show av _ _ _ _ _ _ _
   refine av.go ai (aJ ai) [] (by kernel_rfl) (ah.refl _ _) ?_
   exact⟨_,_,_,ah.refl _ _,rfl,⟨⟨rfl,rfl,rfl,trivial⟩,rfl,rfl,trivial⟩,trivial,rfl⟩
 ·have bT: ¬gh o=3:=of_decide_eq_false bT
  rw[if_neg (fun q=>bT q.1)]
  show av _ _ _ _ _ _ _
  refine av.go ai (aJ ai) [] (by kernel_rfl) (ah.refl _ _) ?_
  exact⟨_,_,_,ah.refl _ _,rfl,⟨⟨rfl,rfl,rfl,trivial⟩,rfl,rfl,trivial⟩,trivial,rfl⟩
end Go.Proofs.YteoamepgonpdlaaGreat
namespace Go.Proofs.YteoamepgonpdlaaGreat
open Go.RowKit Go.Proofs
section
variable {bits room:Nat} {L:List aK}
theorem JW (h:bX bits room L) {nm:List UInt8} {k:Nat} (hd:ew L nm k) (aE: ∃d,dk L nm=some d): ∀j,j≤k→ ∃e,dk L (gL L j nm)=some e
 |0,_=>aE
 |j+1,au=>by
  obtain⟨e,he⟩:=JW h hd aE j (by omega)
  have vn:=IL hd j (by omega)
  rw[Eu,he]
  simp only
  generalize hm:k - j=m at vn
  cases vn with
  |gone bk=>rw[he] at bk;cases bk
  |base _ _=>omega
  |step aa af _=>
   rw[he] at aa
   injection aa with aa
   subst aa
   exact h.jD e (cA he).1 af
theorem PC (h:bX bits room L) {n:List UInt8} (hn: ∃e,dk L n=some e):n≠[]:=by
 obtain⟨e,he⟩:=hn
 rw[←(cA he).2]
 exact h.ne e (cA he).1
end
section
variable {bits:Nat} {L:List aK} {c:Nat}
theorem PD: ∀(ns:List (List UInt8)) (i:Nat),(∀n,n∈ns→ ∃e,dk L n=some e)→((ig bits L c ns i).2=0∧(ig bits L c ns i).1=List.replicate (16*2 ^bits) 0)∨(i < (ig bits L c ns i).2∧(ig bits L c ns i).2≤i+ns.length)
 | [],_,_=>.inl ⟨rfl,rfl⟩
 |n::ns,i,h=>by
  obtain⟨e,he⟩:=h n (List.mem_cons_self ..)
  have aZ:=PD ns (i+1) fun x hx=>h x (List.mem_cons_of_mem _ hx)
  unfold ig
  rw[he]
  simp only
  split
  ·right
   rw[List.length_cons]
   show i < i+1∧i+1≤i+(ns.length+1)
   omega
  ·rcases aZ with aZ |aZ
   ·exact .inl aZ
   ·right
    rw[List.length_cons]
    omega
theorem PE {n:List UInt8} {ns:List (List UInt8)} {i:Nat} {d:aK} (hd:dk L n=some d) (h:c < d.im.t.length∧(d.im.t.getD c s0).1≠0):ig bits L c (n::ns) i=(dZ d.im c none,i+1):=by
 unfold ig
 rw[hd]
 simp only
 rw[if_pos h]
theorem JX {n:List UInt8} {ns:List (List UInt8)} {i:Nat} {d:aK} (hd:dk L n=some d) (h: ¬(c < d.im.t.length∧(d.im.t.getD c s0).1≠0)):ig bits L c (n::ns) i=ig bits L c ns (i+1):=by
 conv=>lhs;unfold ig
 rw[hd]
 simp only
 rw[if_neg h]
theorem ZM {nm:List UInt8} {cN:Nat} {d:aK} (hd:dk L nm=some d) (h: ¬(c < d.im.t.length∧(d.im.t.getD c s0).1≠0)):nG bits L nm cN c=mE bits L nm cN c:=by
 unfold nG mE
 rw[JX hd h]
end
section
variable {bits room:Nat} {L:List aK}
theorem bX.PF (h:bX bits room L) {nm:List UInt8} (aE: ∃d,dk L nm=some d): ∀n,n∈nm::ef L (c7 L nm) nm→ ∃e,dk L n=some e:=fun n hn=>by
 rcases List.mem_cons.1 hn with rfl |hn
 ·exact aE
 ·exact IN h.tonF (h.dep nm).1 n hn
theorem ZN (h:bX bits room L) {nm:List UInt8} {d:aK} (hd:dk L nm=some d) {c:Nat}:Am bits L nm c≤c7 L nm+1:=by
 have af:Am bits L nm c=(ig bits L c (nm::ef L (c7 L nm) nm) 0).2:=rfl
 have ay:=sJ (h.dep nm).1
 rcases PD (bits:=bits) (c:=c) _ 0 (h.PF ⟨d,hd⟩) with aa |aa
 ·omega
 ·rw[List.length_cons] at aa
  omega
end
theorem ZO {s:bE} (aV:fP s) {n:Nat} (hn:n≤eV s):dK s 0 (n:Int)=0:=by
 unfold dK
 rw[if_neg (by omega),if_neg (by omega)]
theorem ZP {bits room:Nat} {L:List aK} (h:bX bits room L) {nm:List UInt8} {d:aK} (hd:dk L nm=some d) {n:Nat} (hn:n≤eV d.im):tU bits L nm 0 (n:Int)=(fS bits L nm (c7 L nm) 0 n,0):=by
 unfold tU
 rw[hd]
 simp only
 rw[if_pos (ZO (h.hM d (cA hd).1).1 hn)]
 rfl
theorem PG {bits room:Nat} {L:List aK} (h:bX bits room L) {nm:List UInt8} {d:aK} (hd:dk L nm=some d):eV d.im=d.im.t.length*2 ^bits:=by
 unfold eV
 rw[(h.hM d (cA hd).1).2.1]
def oH (L:List aK) (t:List UInt8) (eE:List aK):Prop:=eE=L∨ ∃d im,dk L t=some d∧ju d.im im∧eE=lim L t im none
section
variable {bits room:Nat} {L eE:List aK} {t n:List UInt8}
theorem PI (h:bX bits room L) (nm:List UInt8) (a:Int) (bs:List UInt8):oH L nm (jh bits L nm a bs).L:=by
 unfold jh
 cases aE:dk L nm with
 |none=>exact .inl rfl
 |some d=>
  simp only
  split
  ·exact .inl rfl
  ·rename_i aa
   split
   ·exact .inl rfl
   ·rename_i af
    have af:dK d.im a ((bs.length/16:Nat):Int)=0:=Decidable.byContradiction af
    have e:=(rN af).1
    rw[e] at af
    exact .inr ⟨d,_,aE,NP (h.hM d (cA aE).1).1 (by omega) af _,rfl⟩
theorem PJ (h:bX bits room L) (nm:List UInt8) (a l:Int):oH L nm (ji bits L nm a l).L:=by
 unfold ji
 cases aE:dk L nm with
 |none=>exact .inl rfl
 |some d=>
  simp only
  split
  ·exact .inl rfl
  ·rename_i af
   have af:dK d.im a l=0:=Decidable.byContradiction af
   obtain⟨aj,ak⟩:=rN af
   rw[aj,ak] at af
   exact .inr ⟨d,_,aE,NS (h.hM d (cA aE).1).1 af _,rfl⟩
theorem E5 (h:bX bits room L) (nm:List UInt8) (a l:Int):oH L nm (mF L nm a l).L:=by
 unfold mF
 cases aE:dk L nm with
 |none=>exact .inl rfl
 |some d=>
  simp only
  split
  ·exact .inl rfl
  ·rename_i af
   have af:dK d.im a l=0:=Decidable.byContradiction af
   obtain⟨aj,ak⟩:=rN af
   rw[aj,ak] at af
   exact .inr ⟨d,_,aE,(zU (h.hM d (cA aE).1).1 (rL af) _ (Nat.le_refl _)).eD,rfl⟩
theorem oH.cs (h:bX bits room L) (aB:oH L t eE):bX bits room eE:=by
 rcases aB with rfl |⟨d,im,aE,hs,rfl⟩
 ·exact h
 ·exact h.lim aE hs
end
end Go.Proofs.YteoamepgonpdlaaGreat
namespace Go.Proofs.YteoamepgonpdlaaGreat
open Go.RowKit Go.Proofs
theorem ah.E6 {ids:List Nat} {K:aQ} {B:aG} (c:Nat) {l l':List bD} (hc:ax B c=some (.cells l)) (aB:CX l l'):ah ids K B K ((c,.cells l')::B):=by
 rintro N C a w ⟨hn,hd,ρ,F,aA,hS⟩
 obtain⟨bR,bz⟩:=aA.jP (w':=w) (ch:=.cells l') hc (Fr.refl _ _) fun I bC=>by
  obtain⟨aa,vs,T,af,ay⟩:=aA.holds c _ hc
  exact⟨aa,vs,T,af,GM aB (bV.mono bC _ _ (fun _ _=>rfl) ay)⟩
 exact⟨hn,hd,ρ,F,bR,hS.mono bz fun _ _ _=>rfl⟩
theorem Cl (s:bE):Fn Tryz.prog 65 [aH 1001] (di s) [] (aC (s.bits:Nat)) (di s):=by
 refine Fn.of ai [] _ _ _ _ _ Tryz.func65 rfl rfl (by kernel_rfl) (by kernel_rfl) rfl (aJ ai) rfl ?_
 exact⟨_,_,_,ah.refl _ _,rfl,rfl,⟨rfl,rfl,rfl,rfl,trivial⟩,rfl⟩
end Go.Proofs.YteoamepgonpdlaaGreat
