/-
Part 14 of the proof that stands in YteoamepgonpdlaaGreatPbRow, with what it needs from the parts ahead; the parts of this text: Qa, Qb, Qc, Qd, Qe, Rw.
-/
import Derived.Test.YteoamepgonpdlaaGreatPb13
namespace Go.Proofs.YteoamepgonpdlaaGreat
set_option linter.unusedVariables false
set_option linter.unusedSimpArgs false
set_option maxRecDepth 10000
open Go.RowKit Go.Proofs
@[reducible] def vR:U:=.pr c7 c7
@[reducible] def BJ:U:=.pr .str (.sl vR)
@[reducible] def N1:U:=.pr c7 (.pr c7 (.pr (.sl vR) (.pr (.sl BJ) (.sl .str))))
abbrev Cell:=aJ vR
abbrev c6:=aJ N1
@[reducible] def gq (c:Cell):Int:=c.1
@[reducible] def jI (c:Cell):Int:=c.2
@[reducible] def hO (k i:Int):Cell:=(k,i)
@[reducible] def dy (m:c6):Int:=m.1
@[reducible] def j3 (m:c6):Int:=m.2.1
@[reducible] def aL (m:c6):List Cell:=m.2.2.1
@[reducible] def pn (m:c6):List (aJ BJ):=m.2.2.2.1
@[reducible] def cU (m:c6):List (List UInt8):=m.2.2.2.2
@[reducible] def nW (n r:Int) (cs:List Cell) (vI:List (aJ BJ)) (ds:List (List UInt8)):c6:=(n,r,cs,vI,ds)
@[reducible] def lQ (m:c6):List bx:=[.d (.int .i64 (dy m)),.d (.int .i64 (j3 m)),.d (.cW vR (aL m)),.d (.cW BJ (pn m)),.d (.cW .str (cU m))]
@[reducible] def nX (m:c6):aN:=.c (.agg (lQ m))
structure gH (n:Nat) (m:c6):Prop where
 nm:dy m=(n:Int)
 eM:1≤n
 n8:n≤8
 jr:(aL m).length≤256
 sn:pn m=[]
 dl:(cU m).length≤100000
 wd: ∀x,x∈cU m→x.length=16*n
 oE: ∀c,c∈aL m→gq c=1→ ∃i:Nat,jI c=(i:Int)∧i < (cU m).length
 zB:0≤j3 m
 r1:j3 m≤512
def js (cs:List Cell) (id:Int):Nat:=(cs.filter fun c=>decide (gq c=1)&&decide (jI c=id)).length
theorem N2 {cs:List Cell} {k:Nat} (h:k < cs.length) (id:Int):js (cs.take (k+1)) id=js (cs.take k) id+(if gq cs[k]=1∧jI cs[k]=id then 1 else 0):=by
 unfold js
 rw[List.take_succ_eq_append_getElem h,List.filter_append,List.length_append]
 congr 1
 by_cases aa:gq cs[k]=1 <;>by_cases af:jI cs[k]=id <;>simp[aa,af]
theorem Xu (cs:List Cell) (id:Int):js cs id≤cs.length:=List.length_filter_le _ _
@[reducible] def Xv (id:Int) (n k:Nat):aQ:=[(1,aD id),(2,aI 2),(5,aD (n:Nat)),(6,aD (k:Nat))]
theorem N3 (m:c6) (id:Int) (hc:(aL m).length≤1000000) (hs:pn m=[]):Fn Tryz.prog 150 [nX m,aD id] [] [] (aD (js (aL m) id:Nat)) []:=by
 refine Fn.of aj [] _ _ _ _ _ Tryz.func150 rfl rfl (by kernel_rfl) (by kernel_rfl) rfl (aK aj) rfl ?_
 refine⟨rfl,?_⟩
 show aE _ _ _ _ _ _ _
 refine aE.loop aj (aK aj) [] (by kernel_rfl) (X:=Nat) (fun k=>Xv id (js ((aL m).take k) id) k) (fun _=>[(2,.cells (lQ m))]) (fun k=>k≤(aL m).length) (fun k=>(aL m).length - k) 0 (Nat.zero_le _) ?_ ?_
 ·exact ah.sub ⟨rfl,rfl,rfl,rfl,trivial⟩ ⟨rfl,trivial⟩
 intro k au
 have hr:=Xu ((aL m).take k) id
 rw[List.length_take] at hr
 refine⟨fun h=>?_,fun h=>?_⟩
 ·have h:decide ((k:Int) < ((aL m).length:Nat))=true:=h
  have bU:k < (aL m).length:=by simpa using h
  have s9:=N2 bU id
  refine⟨by omega,(aL m)[k],eY (n:=k) bU,?_⟩
  refine⟨fun af=>?_,fun af=>?_⟩
  ·have af:gq (aL m)[k]=1:=of_decide_eq_true af
   refine⟨by omega,(aL m)[k],eY (n:=k) bU,?_⟩
   refine⟨fun aA=>?_,fun aA=>?_⟩
   ·have aA:jI (aL m)[k]=id:=of_decide_eq_true aA
    rw[if_pos ⟨af,aA⟩] at s9
    refine⟨by omega,?_⟩
    refine⟨by omega,k+1,by omega,by omega,ah.sub ⟨rfl,rfl,?_,rfl,trivial⟩ ⟨rfl,trivial⟩⟩
    show((js ((aL m).take k) id:Nat):Int)+1=((js ((aL m).take (k+1)) id:Nat):Int)
    omega
   ·have aA: ¬jI (aL m)[k]=id:=of_decide_eq_false aA
    rw[if_neg (fun e=>aA e.2)] at s9
    refine⟨by omega,k+1,by omega,by omega,ah.sub ⟨rfl,rfl,?_,rfl,trivial⟩ ⟨rfl,trivial⟩⟩
    show((js ((aL m).take k) id:Nat):Int)=((js ((aL m).take (k+1)) id:Nat):Int)
    omega
  ·have af: ¬gq (aL m)[k]=1:=of_decide_eq_false af
   rw[if_neg (fun e=>af e.1)] at s9
   refine⟨by omega,k+1,by omega,by omega,ah.sub ⟨rfl,rfl,?_,rfl,trivial⟩ ⟨rfl,trivial⟩⟩
   show((js ((aL m).take k) id:Nat):Int)=((js ((aL m).take (k+1)) id:Nat):Int)
   omega
 ·have h:decide ((k:Int) < ((aL m).length:Nat))=false:=h
  have bU:k=(aL m).length:=by simp at h;omega
  subst bU
  show aE _ _ _ _ _ _ _
  refine aE.loop aj (aK aj) [] (by kernel_rfl) (X:=Unit) (fun _=>[(5,aD (js (aL m) id:Nat)),(2,aI 2),(7,aD 0)]) (fun _=>[(2,.cells (lQ m))]) (fun _=>True) (fun _=>0) () trivial ?_ ?_
  ·exact ah.sub ⟨congrArg (fun l:List Cell=>((js l id:Nat):Int)) List.take_length,rfl,rfl,trivial⟩ ⟨rfl,trivial⟩
  rintro⟨⟩ -
  refine⟨fun h=>?_,fun _=>?_⟩
  ·exfalso
   have h:decide ((0:Int) < ((pn m).length:Nat))=true:=h
   rw[hs] at h
   exact absurd h (by decide)
  ·exact⟨_,_,_,ah.refl _ _,rfl,rfl,trivial,rfl⟩
def pq (m:c6):Nat→Nat
 |0=>0
 |k+1=>pq m k+(if js (aL m) (k:Nat) >0 then 1 else 0)
theorem N4 (m:c6): ∀k,pq m k≤k
 |0=>Nat.le_refl _
 |k+1=>by
  have:=N4 m k
  unfold pq
  split <;>omega
def zC (m:c6):Int:=j3 m - (pq m (cU m).length:Nat)
@[reducible] def Xw (n:Int) (k:Nat):aQ:=[(1,aI 1),(3,aD n),(4,aD (k:Nat))]
theorem Xx {n:Nat} {m:c6} (h:gH n m):Fn Tryz.prog 140 [nX m] [] [] (aD (zC m)) []:=by
 have hc:=h.jr
 have hd:=h.dl
 have zB:=h.zB
 have r1:=h.r1
 refine Fn.of aj [] _ _ _ _ _ Tryz.func140 rfl rfl (by kernel_rfl) (by kernel_rfl) rfl (aK aj) rfl ?_
 refine⟨rfl,?_⟩
 show aE _ _ _ _ _ _ _
 refine aE.loop aj (aK aj) [] (by kernel_rfl) (X:=Nat) (fun k=>Xw (j3 m - (pq m k:Nat)) k) (fun _=>[(1,.cells (lQ m))]) (fun k=>k≤(cU m).length) (fun k=>(cU m).length - k) 0 (Nat.zero_le _) ?_ ?_
 ·refine ah.sub ⟨rfl,?_,rfl,trivial⟩ ⟨rfl,trivial⟩
  show j3 m=j3 m - ((0:Nat):Int)
  omega
 intro k au
 have hu:=N4 m k
 refine⟨fun aa=>?_,fun aa=>?_⟩
 ·have aa:decide ((k:Int) < ((cU m).length:Nat))=true:=aa
  have bU:k < (cU m).length:=by simpa using aa
  refine⟨_,_,_,_,N3 m (k:Nat) (by omega) h.sn,trivial,rfl,?_⟩
  have e:pq m (k+1)=pq m k+(if js (aL m) (k:Nat) >0 then 1 else 0):=rfl
  refine⟨fun af=>?_,fun af=>?_⟩
  ·have af:(0:Int) < (js (aL m) (k:Nat):Nat):=of_decide_eq_true af
   rw[if_pos (by omega)] at e
   refine⟨by omega,?_⟩
   refine⟨by omega,k+1,by omega,by omega,ah.sub ⟨rfl,?_,rfl,trivial⟩ ⟨rfl,trivial⟩⟩
   show j3 m - (pq m k:Nat) - 1=j3 m - (pq m (k+1):Nat)
   omega
  ·have af: ¬(0:Int) < (js (aL m) (k:Nat):Nat):=of_decide_eq_false af
   rw[if_neg (by omega)] at e
   refine⟨by omega,k+1,by omega,by omega,ah.sub ⟨rfl,?_,rfl,trivial⟩ ⟨rfl,trivial⟩⟩
   show j3 m - (pq m k:Nat)=j3 m - (pq m (k+1):Nat)
   omega
 ·have aa:decide ((k:Int) < ((cU m).length:Nat))=false:=aa
  have bU:k=(cU m).length:=by simp at aa;omega
  subst bU
  exact⟨_,_,_,ah.refl _ _,rfl,rfl,trivial,rfl⟩
def fQ (n c:Nat) (a l:Int):Int:=if l < 0 then 1 else if a < 0 then 121 else if((n*c:Nat):Int) < a then 121 else if((n*c:Nat):Int) - a < l then 121 else 0
theorem BK {n:Nat} {m:c6} (h:gH n m) (a l:Int):Fn Tryz.prog 97 [nX m,aD a,aD l] [] [] (aD (fQ n (aL m).length a l)) []:=by
 have hc:=h.jr
 have hn:=h.n8
 have ag:n*(aL m).length≤8*256:=Nat.mul_le_mul hn hc
 have bt:dy m*((aL m).length:Nat)=((n*(aL m).length:Nat):Int):=by rw[h.nm,Int.natCast_mul]
 unfold fQ
 refine Fn.of aj [] _ _ _ _ _ Tryz.func97 rfl rfl (by kernel_rfl) (by kernel_rfl) rfl (aK aj) rfl ?_
 refine⟨rfl,?_⟩
 have cK: -9223372036854775808≤dy m*((aL m).length:Nat)∧dy m*((aL m).length:Nat)≤9223372036854775807:=by rw[bt];omega
 refine⟨cK,?_⟩
 generalize dy m*((aL m).length:Nat)=N at*
 subst bt
 refine⟨fun bp=>?_,fun bp=>?_⟩
 ·have bp:l < 0:=of_decide_eq_true bp
  rw[if_pos bp]
  exact⟨_,_,_,ah.refl _ _,rfl,rfl,trivial,rfl⟩
 have bp: ¬l < 0:=of_decide_eq_false bp
 rw[if_neg bp]
 refine⟨fun bq=>?_,fun bq=>?_⟩
 ·have bq:a < 0:=of_decide_eq_true bq
  rw[if_pos bq]
  exact⟨_,_,_,ah.refl _ _,rfl,rfl,trivial,rfl⟩
 have bq: ¬a < 0:=of_decide_eq_false bq
 rw[if_neg bq]
 refine⟨fun b8=>?_,fun b8=>?_⟩
 ·have b8:((n*(aL m).length:Nat):Int) < a:=of_decide_eq_true b8
  rw[if_pos b8]
  exact⟨_,_,_,ah.refl _ _,rfl,rfl,trivial,rfl⟩
 have b8: ¬((n*(aL m).length:Nat):Int) < a:=of_decide_eq_false b8
 rw[if_neg b8]
 refine⟨by omega,?_⟩
 refine⟨fun fB=>?_,fun fB=>?_⟩
 ·have fB:((n*(aL m).length:Nat):Int) - a < l:=of_decide_eq_true fB
  rw[if_pos fB]
  exact⟨_,_,_,ah.refl _ _,rfl,rfl,trivial,rfl⟩
 ·have fB: ¬((n*(aL m).length:Nat):Int) - a < l:=of_decide_eq_false fB
  rw[if_neg fB]
  exact⟨_,_,_,ah.refl _ _,rfl,rfl,trivial,rfl⟩
def qd (m:c6) (c:Nat):Bool:=match(aL m)[c]? with
 |some x=>decide (gq x=1)&&decide (((js (aL m) (jI x):Nat):Int)=1)
 |none=>false
theorem N5 {n:Nat} {m:c6} (h:gH n m) {c:Nat} (hc:c < (aL m).length):Fn Tryz.prog 139 [nX m,aD (c:Int)] [] [] (g9 (qd m c)) []:=by
 have aB:=h.jr
 have e:qd m c=(decide (gq (aL m)[c]=1)&&decide (((js (aL m) (jI (aL m)[c]):Nat):Int)=1)):=by
  unfold qd
  rw[List.getElem?_eq_getElem hc]
 rw[e]
 refine Fn.of aj [] _ _ _ _ _ Tryz.func139 rfl rfl (by kernel_rfl) (by kernel_rfl) rfl (aK aj) rfl ?_
 refine⟨rfl,?_⟩
 refine⟨by omega,(aL m)[c],eY (n:=c) hc,?_⟩
 refine⟨fun af=>?_,fun af=>?_⟩
 ·have af:decide (gq (aL m)[c]=1)=true:=af
  refine⟨by omega,(aL m)[c],eY (n:=c) hc,?_⟩
  refine⟨_,_,_,_,N3 m (jI (aL m)[c]) (by omega) h.sn,trivial,rfl,?_⟩
  rw[af,Bool.true_and]
  refine⟨rfl,?_⟩
  exact⟨_,_,_,ah.refl _ _,rfl,rfl,trivial,rfl⟩
 ·have af:decide (gq (aL m)[c]=1)=false:=af
  rw[af,Bool.false_and]
  refine⟨rfl,?_⟩
  exact⟨_,_,_,ah.refl _ _,rfl,rfl,trivial,rfl⟩
def dY (n c a l:Nat):Nat→Nat
 |0=>0
 |k+1=>dY n c a l k+(if a≤c*n+k∧c*n+k < a+l then 1 else 0)
theorem IJ (n c a l:Nat): ∀k,dY n c a l k≤k
 |0=>Nat.le_refl _
 |k+1=>by
  have:=IJ n c a l k
  unfold dY
  split <;>omega
@[reducible] def Xy (a l x s:Nat) (c:Nat):aQ:=[(1,aD (c:Int)),(2,aD (a:Int)),(3,aD (l:Int)),(4,aI 4),(9,aD (x:Nat)),(10,aD (s:Nat))]
theorem IK {n:Nat} {m:c6} (h:gH n m) {c a l:Nat} (hc:c≤256) (ha:a≤100000) (aB:l≤100000):Fn Tryz.prog 138 [nX m,aD (c:Int),aD (a:Int),aD (l:Int)] [] [] (aD (dY n c a l n:Nat)) []:=by
 have hn:=h.n8
 have ag:c*n≤256*8:=Nat.mul_le_mul hc hn
 have bt:(c:Int)*dy m=((c*n:Nat):Int):=by rw[h.nm,Int.natCast_mul]
 have cK: -9223372036854775808≤(c:Int)*dy m∧(c:Int)*dy m≤9223372036854775807:=by rw[bt];omega
 have c5: -9223372036854775808≤(c:Int)*dy m+dy m∧(c:Int)*dy m+dy m≤9223372036854775807:=by rw[bt,h.nm];omega
 refine Fn.of aj [] _ _ _ _ _ Tryz.func138 rfl rfl (by kernel_rfl) (by kernel_rfl) rfl (aK aj) rfl ?_
 refine⟨rfl,?_⟩
 refine⟨cK,?_⟩
 show aE _ _ _ _ _ _ _
 refine aE.loop aj (aK aj) [] (by kernel_rfl) (X:=Nat) (fun k=>Xy a l (dY n c a l k) (c*n+k) c) (fun _=>[(4,.cells (lQ m))]) (fun k=>k≤n) (fun k=>n - k) 0 (Nat.zero_le _) ?_ ?_
 ·exact ah.sub ⟨rfl,rfl,rfl,rfl,rfl,bt,trivial⟩ ⟨rfl,trivial⟩
 intro k au
 have ay:=IJ n c a l k
 refine⟨cK,c5,?_⟩
 refine⟨fun aa=>?_,fun aa=>?_⟩
 ·have aa:((c*n+k:Nat):Int) < (c:Int)*dy m+dy m:=of_decide_eq_true aa
  rw[bt,h.nm] at aa
  have e:dY n c a l (k+1)=dY n c a l k+(if a≤c*n+k∧c*n+k < a+l then 1 else 0):=rfl
  refine⟨fun af=>?_,fun af=>?_⟩
  ·have af:((a:Nat):Int)≤((c*n+k:Nat):Int):=of_decide_eq_true af
   refine⟨by omega,?_⟩
   refine⟨fun aA=>?_,fun aA=>?_⟩
   ·have aA:((c*n+k:Nat):Int) < ((a:Nat):Int)+((l:Nat):Int):=of_decide_eq_true aA
    rw[if_pos (by omega)] at e
    refine⟨by omega,?_⟩
    refine⟨by omega,k+1,by omega,by omega,ah.sub ⟨rfl,rfl,rfl,rfl,?_,?_,trivial⟩ ⟨rfl,trivial⟩⟩
    ·show((dY n c a l k:Nat):Int)+1=((dY n c a l (k+1):Nat):Int)
     omega
    ·show((c*n+k:Nat):Int)+1=((c*n+(k+1):Nat):Int)
     omega
   ·have aA: ¬((c*n+k:Nat):Int) < ((a:Nat):Int)+((l:Nat):Int):=of_decide_eq_false aA
    rw[if_neg (by omega)] at e
    refine⟨by omega,k+1,by omega,by omega,ah.sub ⟨rfl,rfl,rfl,rfl,?_,?_,trivial⟩ ⟨rfl,trivial⟩⟩
    ·show((dY n c a l k:Nat):Int)=((dY n c a l (k+1):Nat):Int)
     omega
    ·show((c*n+k:Nat):Int)+1=((c*n+(k+1):Nat):Int)
     omega
  ·have af: ¬((a:Nat):Int)≤((c*n+k:Nat):Int):=of_decide_eq_false af
   rw[if_neg (by omega)] at e
   refine⟨by omega,k+1,by omega,by omega,ah.sub ⟨rfl,rfl,rfl,rfl,?_,?_,trivial⟩ ⟨rfl,trivial⟩⟩
   ·show((dY n c a l k:Nat):Int)=((dY n c a l (k+1):Nat):Int)
    omega
   ·show((c*n+k:Nat):Int)+1=((c*n+(k+1):Nat):Int)
    omega
 ·have aa: ¬((c*n+k:Nat):Int) < (c:Int)*dy m+dy m:=of_decide_eq_false aa
  rw[bt,h.nm] at aa
  have bU:k=n:=by omega
  subst bU
  exact⟨_,_,_,ah.refl _ _,rfl,rfl,trivial,rfl⟩
def k7 (n:Nat) (m:c6) (c:Nat) (b9:List (List UInt8)):List UInt8:=match(aL m)[c]? with
 |some x=>if gq x=1 then(cU m).getD (jI x).toNat [] else if gq x=0 then(match b9[c]? with
  |some y=>if y.length=16*n then y else List.replicate (16*n) 0
  |none=>List.replicate (16*n) 0) else List.replicate (16*n) 0
 |none=>[]
theorem N6 {n:Nat} {m:c6} (h:gH n m) {c:Nat} (hc:c < (aL m).length) (b9:List (List UInt8)) (ag:b9.length≤1000000):Fn Tryz.prog 132 [nX m,aD (c:Int),cJ .str b9] [] [] (bN (k7 n m c b9)) []:=by
 have aB:=h.jr
 have hn:=h.n8
 have uX:=h.eM
 have xS:=h.nm
 have e:k7 n m c b9=if gq (aL m)[c]=1 then(cU m).getD (jI (aL m)[c]).toNat [] else if gq (aL m)[c]=0 then(match b9[c]? with
  |some y=>if y.length=16*n then y else List.replicate (16*n) 0
  |none=>List.replicate (16*n) 0) else List.replicate (16*n) 0:=by
  unfold k7
  rw[List.getElem?_eq_getElem hc]
 rw[e]
 have vS: -9223372036854775808≤16*dy m∧16*dy m≤9223372036854775807:=by omega
 have o7:(16*dy m).toNat=16*n:=by omega
 refine Fn.of aj [] _ _ _ _ _ Tryz.func132 rfl rfl (by kernel_rfl) (by kernel_rfl) rfl (aK aj) rfl ?_
 refine⟨rfl,?_⟩
 refine⟨by omega,(aL m)[c],eY (n:=c) hc,?_⟩
 refine⟨fun aa=>?_,fun aa=>?_⟩
 ·have aa:gq (aL m)[c]=1:=of_decide_eq_true aa
  rw[if_pos aa]
  obtain⟨i,ay,nc⟩:=h.oE _ (List.getElem_mem hc) aa
  have sr:(jI (aL m)[c]).toNat=i:=by omega
  refine⟨by omega,(aL m)[c],eY (n:=c) hc,?_⟩
  have Xz:(0:Int)≤(i:Int)∧(i:Int) < (((cU m).length:Nat):Int):=by omega
  refine⟨(show(0:Int)≤jI (aL m)[c] by rw[ay];exact Xz.1),(cU m)[i],(by rw[sr];exact eY (n:=i) nc),?_⟩
  rw[sr,List.getD_eq_getElem?_getD,List.getElem?_eq_getElem nc]
  refine⟨rfl,?_⟩
  exact⟨_,_,_,ah.refl _ _,rfl,rfl,trivial,rfl⟩
 have aa: ¬gq (aL m)[c]=1:=of_decide_eq_false aa
 rw[if_neg aa]
 refine⟨by omega,(aL m)[c],eY (n:=c) hc,?_⟩
 refine⟨fun af=>?_,fun af=>?_⟩
 ·have af:gq (aL m)[c]=0:=of_decide_eq_true af
  rw[if_pos af]
  refine⟨fun aA=>?_,fun aA=>?_⟩
  ·have aA:(c:Int) < ((b9.length:Nat):Int):=of_decide_eq_true aA
   have aA:c < b9.length:=by omega
   rw[List.getElem?_eq_getElem aA]
   simp only
   refine⟨by omega,b9[c],eY (n:=c) aA,?_⟩
   refine⟨vS,?_⟩
   refine⟨rfl,fun bE=>?_,fun bE=>?_⟩
   ·have bE:(((b9[c]).length:Nat):Int)=16*dy m:=of_decide_eq_true bE
    rw[if_pos (by omega)]
    refine⟨by omega,b9[c],eY (n:=c) aA,?_⟩
    exact⟨_,_,_,ah.refl _ _,rfl,rfl,trivial,rfl⟩
   ·have bE: ¬(((b9[c]).length:Nat):Int)=16*dy m:=of_decide_eq_false bE
    rw[if_neg (by omega)]
    refine⟨vS,?_⟩
    refine⟨by omega,rfl,?_⟩
    rw[←o7]
    exact⟨_,_,_,ah.refl _ _,rfl,rfl,trivial,rfl⟩
  ·have aA: ¬(c:Int) < ((b9.length:Nat):Int):=of_decide_eq_false aA
   rw[List.getElem?_eq_none (by omega)]
   simp only
   refine⟨rfl,?_⟩
   refine⟨vS,?_⟩
   refine⟨by omega,rfl,?_⟩
   rw[←o7]
   exact⟨_,_,_,ah.refl _ _,rfl,rfl,trivial,rfl⟩
 ·have af: ¬gq (aL m)[c]=0:=of_decide_eq_false af
  rw[if_neg af]
  refine⟨rfl,?_⟩
  refine⟨vS,?_⟩
  refine⟨by omega,rfl,?_⟩
  rw[←o7]
  exact⟨_,_,_,ah.refl _ _,rfl,rfl,trivial,rfl⟩
end Go.Proofs.YteoamepgonpdlaaGreat
namespace Go.Proofs.YteoamepgonpdlaaGreat
set_option linter.unusedVariables false
set_option linter.unusedSimpArgs false
set_option maxRecDepth 10000
open Go.RowKit Go.Proofs
def El (n:Nat) (q:bn):bK where
 R:=fun I F w p=>q.n=n∧ ∀x,¬F x
 cA:=fun _ _ _ _ _ _ h _ _ _=>h
section
variable {P:Program} {N:Nat} {ids:List Nat} {K:aQ} {B:aG} {o:Oper}
theorem ah.XA (d m:Nat) {e:Nat} {u:U} {xs:List (aJ u)} (hd:ax B d=some (.row e u xs)) (hm:gu ids K B m=true) (bf:d≠m):ah ids K B K ((m,.dep d (El xs.length))::B):=by
 rintro N C a w ⟨hn,oA,ρ,F,az,hS⟩
 have cv:=kT hm
 obtain⟨hF,jb,cs,dF,_⟩:=az.holds d _ hd
 obtain⟨_,A,cap,hv,_⟩:=fR.wk dF
 have aB:(ρ d).n=xs.length:=by
  unfold bn.hdr at hv
  injection hv
 obtain⟨bT,bA⟩:=az.make (ch:=.dep d (El xs.length)) (w':=w) hm (Below.refl _ _) ⟨0,none,0,0⟩ (fun _=>False) (fun _ h=>h.elim) (fun I _ _=>by
  show(El xs.length (dx ρ m _ d)).R I _ w _
  rw[dL _ _ bf]
  exact⟨aB,fun _ h=>h⟩)
 exact⟨hn,oA,_,_,bT,hS.mono bA fun s c hc=>dL _ _ (fun e=>by subst e;rw[cv.1 s] at hc;cases hc)⟩
theorem XB {tt:c4} (aX:dP P tt) {T e:TypeId} {te:cD} {x:Operand} {c:Call} {d m n:Nat} (av:o.op= .call c) (fF:c.callee= .builtin .len) (dz:c.args.toList=[x]) (jX:c.argTypes.toList=[T]) (he:elemOf tt T=some (e,te))
  (hx:aU K x= .c (.one (.own d))) (hm:ax B m=some (.dep d (El n))) (N:Nat):bI P N ids o K B (aD (n:Nat)) ⟨[m],[],[]⟩:=by
 have fL:c.args= #[x]:=Array.toList_inj.1 dz
 have iG:c.argTypes= #[T]:=Array.toList_inj.1 jX
 obtain⟨sB,args,ts⟩:=c
 simp only at fF fL iG
 subst fF fL iG
 have bw:x∈o.op.operands:=by rw[av];simp[Op.operands,Call.operands]
 obtain⟨cl,_⟩:=oL aX he
 refine bI.val fun K' B' g1 g2 C ρ F a w az hS=>?_
 have aB:(ρ d).n=n:=(az.holds m _ ((g2 m (by simp)).trans hm)).1
 have eB:a.eval x= .slice (ρ d).A (ρ d).n (ρ d).cap:=hS.own ((g1 x bw).trans hx)
 refine⟨.int .i64 (n:Int),?_,rfl⟩
 simp[execOp,av,eB,aB,resolve,invoke,builtin,Builtin.len_,run_underlying cl,goInt]
end
section
variable {P:Program} {tt:c4} {N:Nat} {ids:List Nat} {K:aQ} {B:aG}
def IL (P:Program) (tt:c4) (ids:List Nat) (j:Nat) (o:Oper) (K:aQ) (B:aG) (k:aN→fk→Prop):Prop:=match o.dst with
 |some d=>match Nat.beq d j with
  |true=>Ad P ids o K B k
  |false=>yh P tt ids o K B k
 |none=>yh P tt ids o K B k
def IM (P:Program) (tt:c4) (ids:List Nat) (j:Nat) (all:List Oper) (o:Oper) (l:List Oper) (aY:aQ→aG→Prop) (K:aQ) (B:aG):Prop:=
 match wants all K o.guard with
 |none=>False
 |some false=>match o.dst with
  |some d=>aY ((d,.undef)::K) B
  |none=>aY K B
 |some true=>IL P tt ids j o K B fun v e=>match o.dst with
  |none=>aY K (e5 e.wc B)
  |some d=>match Af (all.length - l.length - 1) l,v with
   |true,.c (.one (.d (.bool b)))=>(b=true→aY ((d,.c (.one (.d (.lit true))))::K) (e5 e.wc B))∧(b=false→aY ((d,.c (.one (.d (.lit false))))::K) (e5 e.wc B))
   |_,v=>aY ((d,v)::K) (e5 e.wc B)
noncomputable def Em (P:Program) (tt:c4) (ids:List Nat) (j:Nat) (all l:List Oper) (K:aQ) (B:aG) (k:aQ→aG→Prop):Prop:=
 List.rec (motive:=fun _=>aQ→aG→Prop) k (fun o l aY K B=>IM P tt ids j all o l aY K B) l K B
theorem XC {j:Nat} {all l:List Oper} {o:Oper} {k:aQ→aG→Prop}:Em P tt ids j all (o::l) K B k=IM P tt ids j all o l (fun K B=>Em P tt ids j all l K B k) K B:=rfl
theorem XD (aX:dP P tt) {j:Nat} {o:Oper} {k:aN→fk→Prop} (h:IL P tt ids j o K B k): ∃v e,k v e∧bI P N ids o K B v e∧ ∀c,c∈e.bu→gu ids K B c=true:=by
 unfold IL at h
 split at h
 ·split at h
  ·exact CW h
  ·exact Ay aX h
 ·exact Ay aX h
theorem xU (aX:dP P tt) (j:Nat) (all:List Oper): ∀(l:List Oper) (K:aQ) (B:aG) (k:aQ→aG→Prop),pT N l=true→Em P tt ids j all l K B k→ ∀(C:Ctx) (a:Act) (w:World),Sat N ids C K B a w→
  ∀(r:Option Nat) (Q:Exit→Act→World→Prop),(∀K' B',k K' B'→ ∀a' w',Sat N ids C K' B' a' w'→Q .normal a' w')→wpListIn (nC r) 0 P all.toArray Q l a w
 | [],K,B,k,_,h,C,a,w,hs,r,Q,au=>wpListIn_nil (au K B h a w hs)
 |o::l,K,B,k,hd,h,C,a,w,hs,r,Q,au=>by
  simp only[pT,Bool.and_eq_true] at hd
  obtain⟨⟨rA,dD⟩,dg⟩:=hd
  have dD:=CX dD
  have bH: ∀d,o.dst=some d→d < N:=fun d e=>by rw[e] at rA;simpa[Nat.blt_eq] using rA
  have dH:=hs
  obtain⟨_,_,ρ,F,az,hS⟩:=dH
  rw[XC] at h
  unfold IM at h
  refine wpListIn_step fun fl u5=>?_
  split at h
  ·exact h.elim
  ·rename_i hw
   rw[if_neg (by rw[u0 hw hS];simp)]
   refine⟨fun _ _=>trivial,u5 _ _ ?_⟩
   have hu:=hs.undef o.dst bH
   split at h
   ·rename_i d e
    rw[e] at hu⊢
    exact xU aX j all l _ _ k dg h C _ w hu r Q au
   ·rename_i e
    rw[e] at hu⊢
    exact xU aX j all l _ _ k dg h C _ w hu r Q au
  ·rename_i hw
   rw[if_pos (u0 hw hS)]
   obtain⟨v,e,h,aT,hf⟩:=XD aX h
   refine yG dD (aT K B (fun _ _=>rfl) (fun _ _=>rfl) hf C a w hs bH fl Q fun a' w' e6=>u5 _ _ ?_)
   split at h
   ·rename_i aq
    rw[aq] at e6
    exact xU aX j all l _ _ k dg h C _ w' e6 r Q au
   ·rename_i d aq
    rw[aq] at e6
    split at h
    ·rename_i b bl
     cases b with
     |true=>exact xU aX j all l _ _ k dg (h.1 rfl) C _ w' e6.lit r Q au
     |false=>exact xU aX j all l _ _ k dg (h.2 rfl) C _ w' e6.lit r Q au
    ·exact xU aX j all l _ _ k dg h C _ w' e6 r Q au
theorem aE.XE (aX:dP P tt) (j:Nat) {id:Nat} {ops:Array Oper} {Q:om→aQ→aG→Prop} (hd:pT N ops.toList=true) (h:Em P tt ids j ops.toList ops.toList K B (fun K B=>Q .gf K B)):aE P N ids (.region id ops false) K B Q:=by
 intro r hr C gJ bh a w hs
 refine wpIn_region_list ?_
 have:=xU aX j ops.toList ops.toList K B _ hd h C a w hs r gJ (fun K' B' au a' w' dH=>bh .gf K' B' C.ds (fun _=>rfl) au a' w' dH)
 simpa using this
end
theorem En {α:Type} {l us:List α} {p:Nat} (h:p+us.length≤l.length) (i:Nat):(l.take p++us++l.drop (p+us.length))[i]? =if p≤i∧i < p+us.length then us[i - p]? else l[i]? :=by
 have aa:(l.take p).length=p:=by rw[List.length_take];omega
 by_cases bp:i < p
 ·rw[if_neg (by omega),List.append_assoc,List.getElem?_append_left (by omega),List.getElem?_take,if_pos bp]
 ·by_cases bq:i < p+us.length
  ·rw[if_pos ⟨by omega,bq⟩,List.append_assoc,List.getElem?_append_right (by omega),aa,List.getElem?_append_left (by omega)]
  ·rw[if_neg (by omega),List.getElem?_append_right (by rw[List.length_append];omega),List.length_append,aa,List.getElem?_drop]
   congr 1
   omega
theorem XF {α:Type} {l us:List α} {p N:Nat} (h:p+us.length≤N) (dn:N≤l.length):(l.take p++us++l.drop (p+us.length)).take N=(l.take N).take p++us++(l.take N).drop (p+us.length):=by
 apply List.ext_getElem?
 intro i
 rw[List.getElem?_take,En (by omega),En (by rw[List.length_take];omega),List.getElem?_take]
 by_cases c:i < N
 ·rw[if_pos c,if_pos c]
 ·rw[if_neg c,if_neg c,if_neg (by omega)]
section
variable {P:Program} {ids:List Nat} {K:aQ} {B:aG}
theorem N7 {o:Oper} {T:TypeId} {x v:Operand} {c i:Nat} {e:TypeId} {u:U} {xs:List (aJ u)} {y:aJ u} {inf:TypeInfo} (av:o.op= .store T x v) (ay:P.info? T=some inf) (aS:inf.size=aM u) (hx:aU K x= .c (.one (.fh c (aM u) i 0)))
  (hv:aU K v= .c (.agg (fE u y 0 (aM u)))) (eA:ax B c=some (.row e u xs)) (BL:i < xs.length) (hw:nt u y) (N:Nat):
  bI P N ids o K B .undef ⟨[c],[],[(c,some (.row e u (xs.set i y)))]⟩:=by
 have bw:x∈o.op.operands:=by rw[av];simp[Op.operands]
 have bX:v∈o.op.operands:=by rw[av];simp[Op.operands]
 refine bI.jV eA fun K' B' g1 C ρ F a w az hS gC=>?_
 obtain⟨hF,jb,cs,dF,kU⟩:=az.holds c _ gC
 have Ap:=hS.fh ((g1 x bw).trans hx)
 obtain⟨us,aq,af⟩:=hS.ev ((g1 v bX).trans hv)
 have xo:us.length=aM u:=by rw[bZ.length _ _ af,q8]
 have Bb:=yx hw af
 have q7: ∀z,z∈us→z.oneCell'=true:=fun z aS=>by
  obtain⟨q,bh,rfl⟩:=List.getElem_of_mem aS
  obtain⟨z',lH,qq⟩:=cg.one u y _ Bb q (by omega)
  rw[List.getElem?_eq_getElem bh] at lH
  injection lH with lH
  rw[lH]
  exact qq
 obtain⟨q4,dF⟩:=dF
 rcases dF with⟨_,aC⟩ |⟨g,cap,cur,mT,_,bl,wI,hm,ek,cl⟩
 ·omega
 ·have Aq:g=(ρ c).bO:=jb g (by rw[mT];rfl)
  subst Aq
  have hmul:i*aM u+aM u≤xs.length*aM u:=by
   have:=Nat.mul_le_mul_right (aM u) BL
   rw[Nat.succ_mul] at this
   exact this
  have XG:xs.length*aM u≤cap*aM u:=Nat.mul_le_mul_right _ wI
  have cQ:cur.toList.length=cur.size:=by simp
  have tN:w.heap[(ρ c).bO]? =some (.cells (List.toArray cur.toList) e (0,0)):=by simpa using bl
  have nE:i*aM u+us.length≤cur.toList.length:=by simp;omega
  have hex:=yu (P:=P) (ev:=a.eval) (w:=w) (us:=us) av (by rw[Ap,Nat.add_zero]) (by rw[aq];rfl) ay (aS.trans xo.symm) tN nE q7
  refine⟨_,hex,Am ((hF _).2 (by rw[mT];rfl)),fun I he=>?_⟩
  have j7:=setRow_heap w (ρ c).bO cur (List.take (i*aM u) cur.toList++us++List.drop (i*aM u+us.length) cur.toList).toArray e (0,0) bl
  have N8:i*aM u+us.length≤cs.length:=by rw[q4,xo];exact hmul
  refine⟨hF,jb,cs.take (i*aM u)++us++cs.drop (i*aM u+us.length),⟨by rw[List.length_append,List.length_append,List.length_take,List.length_drop,List.length_set];omega,.inr ⟨(ρ c).bO,cap,_,by rw[mT];simp,Nat.zero_le _,j7,by simpa using wI,hm,by simp;omega,?_⟩⟩,fun j z aS=>?_⟩
  ·rw[List.length_set]
   have:=XF (l:=cur.toList) (us:=us) (p:=i*aM u) (N:=xs.length*aM u) (by omega) (by simp;omega)
   rw[←cl]
   simpa using this
  ·by_cases l8:i=j
   ·subst l8
    rw[List.getElem?_set_self BL] at aS
    injection aS with aS
    subst aS
    refine cg.mk u y _ hw fun q bh=>?_
    obtain⟨z,aS,qz⟩:=cg.cell u y _ q Bb bh
    refine⟨z,?_,Den.mono he _ _ qz⟩
    rw[En N8,if_pos ⟨by omega,by omega⟩,show i*aM u+q - i*aM u=q by omega]
    exact aS
   ·rw[List.getElem?_set_ne l8] at aS
    have hd:=kU j z aS
    refine cg.mk u z _ (cg.wf u z _ hd) fun q bh=>?_
    obtain⟨x,hx,wJ⟩:=cg.cell u z _ q hd bh
    refine⟨x,?_,Den.mono he _ _ wJ⟩
    rw[En N8,if_neg ?_]
    ·exact hx
    ·rintro⟨ct,cB⟩
     rw[xo] at cB
     rcases Nat.lt_or_gt_of_ne l8 with bH |tN
     ·have:=Nat.mul_le_mul_right (aM u) (show i+1≤j by omega)
      rw[Nat.succ_mul] at this
      omega
     ·have:=Nat.mul_le_mul_right (aM u) (show j+1≤i by omega)
      rw[Nat.succ_mul] at this
      omega
end
def qf (n c a:Nat) (x b:List UInt8) (k:Nat):List UInt8:=
 if a≤c*n+k∧16*(c*n+k - a)+16≤b.length then(b.take (16*(c*n+k - a)+16)).drop (16*(c*n+k - a)) else(x.take (16*k+16)).drop (16*k)
def mI (n c a:Nat) (x b:List UInt8):Nat→List UInt8
 |0=>[]
 |k+1=>mI n c a x b k++qf n c a x b k
theorem Eo {n c a:Nat} {x b:List UInt8} {k:Nat} (hx:16*k+16≤x.length):(qf n c a x b k).length=16:=by
 unfold qf
 split
 ·rw[List.length_drop,List.length_take];omega
 ·rw[List.length_drop,List.length_take];omega
theorem BM {n c a:Nat} {x b:List UInt8}: ∀k,16*k≤x.length→(mI n c a x b k).length=16*k
 |0,_=>rfl
 |k+1,h=>by
  rw[mI,List.length_append,BM k (by omega),Eo (by omega)]
  omega
@[reducible] def XH (c a:Nat) (x b acc:List UInt8) (k:Nat):aQ:=[(1,bN x),(2,aD (c:Int)),(3,aD (a:Int)),(4,bN b),(5,aI 5),(11,bN acc),(12,aD (k:Nat))]
theorem XI {n:Nat} {m:c6} (h:gH n m) {c a:Nat} {x b:List UInt8} (hc:c≤256) (ha:a≤100000) (hx:x.length=16*n) (ag:b.length≤1000000):Fn Tryz.prog 143 [nX m,bN x,aD (c:Int),aD (a:Int),bN b] [] [] (bN (mI n c a x b n)) []:=by
 have hn:=h.n8
 have xS:=h.nm
 have mU:c*n≤256*8:=Nat.mul_le_mul hc hn
 have bt:(c:Int)*dy m=((c*n:Nat):Int):=by rw[h.nm,Int.natCast_mul]
 have cK: -9223372036854775808≤(c:Int)*dy m∧(c:Int)*dy m≤9223372036854775807:=by rw[bt];omega
 refine Fn.of aj [] _ _ _ _ _ Tryz.func143 rfl rfl (by kernel_rfl) (by kernel_rfl) rfl (aK aj) rfl ?_
 refine⟨rfl,?_⟩
 show aE _ _ _ _ _ _ _
 refine aE.loop aj (aK aj) [] (by kernel_rfl) (X:=Nat) (fun k=>XH c a x b (mI n c a x b k) k) (fun _=>[(5,.cells (lQ m))]) (fun k=>k≤n) (fun k=>n - k) 0 (Nat.zero_le _) ?_ ?_
 ·exact ah.sub ⟨rfl,rfl,rfl,rfl,rfl,rfl,rfl,trivial⟩ ⟨rfl,trivial⟩
 intro k au
 refine⟨fun aa=>?_,fun aa=>?_⟩
 ·have aa:((k:Nat):Int) < dy m:=of_decide_eq_true aa
  have bU:k < n:=by omega
  have hlen:=BM (n:=n) (c:=c) (a:=a) (x:=x) (b:=b) k (by omega)
  have e:mI n c a x b (k+1)=mI n c a x b k++qf n c a x b k:=rfl
  have c5: -9223372036854775808≤(c:Int)*dy m+(k:Nat)∧(c:Int)*dy m+(k:Nat)≤9223372036854775807:=by rw[bt];omega
  have fU: -9223372036854775808≤(c:Int)*dy m+(k:Nat) - (a:Nat)∧(c:Int)*dy m+(k:Nat) - (a:Nat)≤9223372036854775807:=by rw[bt];omega
  refine⟨cK,c5,fU,?_⟩
  have bk:(c:Int)*dy m+(k:Nat) - (a:Nat)=((c*n+k:Nat):Int) - (a:Nat):=by rw[bt];omega
  rw[bk]
  refine⟨fun af=>?_,fun af=>?_⟩
  ·have af:0≤((c*n+k:Nat):Int) - (a:Nat):=of_decide_eq_true af
   obtain⟨s,hs⟩: ∃s:Nat,s=c*n+k - a:=⟨_,rfl⟩
   have es:((c*n+k:Nat):Int) - (a:Nat)=(s:Int):=by omega
   rw[es]
   refine⟨by omega,by omega,?_⟩
   refine⟨fun aA=>?_,fun aA=>?_⟩
   ·have aA:16*(s:Int)+16≤((b.length:Nat):Int):=of_decide_eq_true aA
    have xV:qf n c a x b k=(b.take (16*s+16)).drop (16*s):=by
     unfold qf
     rw[←hs,if_pos ⟨by omega,by omega⟩]
    have N9:qf n c a x b k=(b.take (16*(s:Int)+16).toNat).drop (16*(s:Int)).toNat:=by rw[xV,show(16*(s:Int)+16).toNat=16*s+16 by omega,show(16*(s:Int)).toNat=16*s by omega]
    have el:=Eo (n:=n) (c:=c) (a:=a) (x:=x) (b:=b) (k:=k) (by omega)
    rw[N9] at el
    refine⟨by omega,by omega,by omega,by omega,?_⟩
    have eR:(mI n c a x b k).length+((b.take (16*(s:Int)+16).toNat).drop (16*(s:Int)).toNat).length≤4294967296:=by omega
    refine⟨eR,?_⟩
    refine⟨by omega,k+1,by omega,by omega,ah.sub ⟨rfl,rfl,rfl,rfl,rfl,?_,rfl,trivial⟩ ⟨rfl,trivial⟩⟩
    rw[e,N9]
    rfl
   ·have aA: ¬16*(s:Int)+16≤((b.length:Nat):Int):=of_decide_eq_false aA
    have xV:qf n c a x b k=(x.take (16*(k:Int)+16).toNat).drop (16*(k:Int)).toNat:=by
     unfold qf
     rw[←hs,if_neg (by omega),show(16*(k:Int)+16).toNat=16*k+16 by omega,show(16*(k:Int)).toNat=16*k by omega]
    have el:=Eo (n:=n) (c:=c) (a:=a) (x:=x) (b:=b) (k:=k) (by omega)
    rw[xV] at el
    refine⟨by omega,by omega,by omega,by omega,?_⟩
    have eR:(mI n c a x b k).length+((x.take (16*(k:Int)+16).toNat).drop (16*(k:Int)).toNat).length≤4294967296:=by omega
    refine⟨eR,?_⟩
    refine⟨by omega,k+1,by omega,by omega,ah.sub ⟨rfl,rfl,rfl,rfl,rfl,?_,rfl,trivial⟩ ⟨rfl,trivial⟩⟩
    rw[e,xV]
    rfl
  ·have af: ¬0≤((c*n+k:Nat):Int) - (a:Nat):=of_decide_eq_false af
   have xV:qf n c a x b k=(x.take (16*(k:Int)+16).toNat).drop (16*(k:Int)).toNat:=by
    unfold qf
    rw[if_neg (by omega),show(16*(k:Int)+16).toNat=16*k+16 by omega,show(16*(k:Int)).toNat=16*k by omega]
   have el:=Eo (n:=n) (c:=c) (a:=a) (x:=x) (b:=b) (k:=k) (by omega)
   rw[xV] at el
   refine⟨by omega,by omega,by omega,by omega,?_⟩
   have eR:(mI n c a x b k).length+((x.take (16*(k:Int)+16).toNat).drop (16*(k:Int)).toNat).length≤4294967296:=by omega
   refine⟨eR,?_⟩
   refine⟨by omega,k+1,by omega,by omega,ah.sub ⟨rfl,rfl,rfl,rfl,rfl,?_,rfl,trivial⟩ ⟨rfl,trivial⟩⟩
   rw[e,xV]
   rfl
 ·have aa: ¬((k:Nat):Int) < dy m:=of_decide_eq_false aa
  have bU:k=n:=by omega
  subst bU
  exact⟨_,_,_,ah.refl _ _,rfl,rfl,trivial,rfl⟩
@[reducible] def pz (m:c6) (c:Nat) (x:Cell):c6:=nW (dy m) (j3 m) ((aL m).set c x) (pn m) (cU m)
theorem XJ:(Tryz.prog.info? 148).map (·.size)=some 2:=by kernel_rfl
theorem IN (m:c6) {c:Nat} (aB:(aL m).length≤1000000) (hc:c < (aL m).length) (x:Cell):Fn Tryz.prog 141 [nX m,aD (c:Int),.c (.agg [.d (.int .i64 (gq x)),.d (.int .i64 (jI x))])] [] [] (.c (.agg (lQ (pz m c x)))) []:=by
 refine Fn.of aj [3] _ _ _ _ _ Tryz.func141 rfl rfl (by kernel_rfl) (by kernel_rfl) rfl (aK aj) rfl ?_
 refine⟨rfl,?_⟩
 refine⟨rfl,?_⟩
 refine⟨rfl,?_⟩
 have aa:(0:Nat)+(aL m).length≤4294967296:=by omega
 refine⟨rfl,aa,rfl,?_⟩
 have af:0≤(c:Int)∧(c:Int) < (((aL m).length:Nat):Int):=by omega
 refine⟨af,?_⟩
 obtain⟨inf,pX,nc⟩:=m0 XJ
 refine⟨_,_,fun N=>N7 (u:=vR) (y:=x) rfl pX nc rfl rfl rfl (by show c < (aL m).length;exact hc) ⟨trivial,trivial⟩ N,rfl,?_⟩
 show aE _ _ _ _ _ _ _
 refine aE.go aj (aK aj) [] (by kernel_rfl) (ah.dV 11 rfl) ?_
 exact⟨_,_,_,ah.refl _ _,rfl,⟨rfl,rfl,rfl,rfl,rfl,trivial⟩,trivial,rfl⟩
def j4 (m:c6) (c:Nat) (x:List UInt8):c6:=match qd m c with
 |true=>nW (dy m) (j3 m) (aL m) (pn m) ((cU m).set (jI ((aL m).getD c (hO 0 0))).toNat x)
 |false=>pz (nW (dy m) (j3 m) (aL m) (pn m) (cU m++[x])) c (hO 1 ((cU m).length:Nat))
theorem XK {n:Nat} {m:c6} (h:gH n m) {c:Nat} (hc:c < (aL m).length) (x:List UInt8):Fn Tryz.prog 142 [nX m,aD (c:Int),bN x] [] [] (.c (.agg (lQ (j4 m c x)))) []:=by
 have aB:=h.jr
 have hd:=h.dl
 unfold j4
 refine Fn.of aj [4,6,7] _ _ _ _ _ Tryz.func142 rfl rfl (by kernel_rfl) (by kernel_rfl) rfl (aK aj) rfl ?_
 refine⟨rfl,?_⟩
 refine⟨rfl,?_⟩
 have aa:(0:Nat)+(cU m).length≤4294967296:=by omega
 refine⟨rfl,aa,rfl,?_⟩
 refine⟨_,_,_,_,N5 h hc,trivial,rfl,?_⟩
 cases ai:qd m c with
 |true=>
  refine⟨fun _=>?_,fun h=>absurd h (by decide)⟩
  have au:gq (aL m)[c]=1:=by
   unfold qd at ai
   rw[List.getElem?_eq_getElem hc] at ai
   simp only[Bool.and_eq_true,decide_eq_true_eq] at ai
   exact ai.1
  obtain⟨i,ay,nc⟩:=h.oE _ (List.getElem_mem hc) au
  refine⟨by omega,(aL m)[c],eY (n:=c) hc,?_⟩
  have td:(0:Int)≤jI (aL m)[c]∧jI (aL m)[c] < (((cU m).length:Nat):Int):=by rw[ay];omega
  refine⟨td,?_⟩
  refine⟨⟨trivial,(show(jI (aL m)[c]).toNat < (cU m).length by rw[ay,Int.toNat_natCast];exact nc)⟩,?_⟩
  have XL:(aL m).getD c (hO 0 0)=(aL m)[c]:=by rw[List.getD_eq_getElem?_getD,List.getElem?_eq_getElem hc];rfl
  rw[XL]
  show aE _ _ _ _ _ _ _
  refine aE.go aj (aK aj) [] (by kernel_rfl) (ah.dV 11 rfl) ?_
  exact⟨_,_,_,ah.refl _ _,rfl,⟨rfl,rfl,rfl,rfl,rfl,trivial⟩,trivial,rfl⟩
 |false=>
  refine⟨fun h=>absurd h (by decide),fun _=>?_⟩
  show aE _ _ _ _ _ _ _
  refine aE.go aj (aK aj) [7] (by kernel_rfl) (ah.XA 11 9001 rfl rfl (by decide)) ?_
  have af:(cU m).length+1≤4294967296:=by omega
  refine⟨af,rfl,?_⟩
  show aE _ _ _ _ _ _ _
  refine aE.le (ah.dV 30 rfl) ?_
  refine aE.XE aj 35 (by kernel_rfl) ?_
  refine⟨_,_,fun N=>XB (m:=9001) (n:=(cU m).length) aj rfl rfl rfl rfl rfl rfl rfl N,rfl,?_⟩
  refine⟨_,_,_,_,IN (nW (dy m) (j3 m) (aL m) (pn m) (cU m++[x])) (by show(aL m).length≤1000000;omega) hc (hO 1 ((cU m).length:Nat)),trivial,rfl,?_⟩
  exact⟨_,_,_,ah.refl _ _,rfl,⟨rfl,rfl,rfl,rfl,rfl,trivial⟩,trivial,rfl⟩
end Go.Proofs.YteoamepgonpdlaaGreat
namespace Go.Proofs.YteoamepgonpdlaaGreat
set_option linter.unusedVariables false
set_option linter.unusedSimpArgs false
set_option maxRecDepth 10000
open Go.RowKit Go.Proofs
theorem gH.set {n:Nat} {m:c6} (h:gH n m) (c:Nat) {k:Int} (au:k≠1):gH n (pz m c (hO k 0)) where
 nm:=h.nm
 eM:=h.eM
 n8:=h.n8
 jr:=by show((aL m).set c _).length≤256;rw[List.length_set];exact h.jr
 sn:=h.sn
 dl:=h.dl
 wd:=h.wd
 oE:=fun x hx yD=>by
  rcases List.mem_or_eq_of_mem_set hx with hx |hx
  ·exact h.oE x hx yD
  ·subst hx;exact absurd yD au
 zB:=h.zB
 r1:=h.r1
theorem IP (m:c6) (c:Nat) (x:List UInt8):(aL (j4 m c x)).length=(aL m).length:=by
 unfold j4
 split
 ·rfl
 ·show((aL m).set c _).length=_
  rw[List.length_set]
theorem Oa (m:c6) (c:Nat) (x:List UInt8):(cU (j4 m c x)).length≤(cU m).length+1:=by
 unfold j4
 split
 ·show((cU m).set _ _).length≤_
  rw[List.length_set];omega
 ·show(cU m++[x]).length≤_
  rw[List.length_append];exact Nat.le_refl _
theorem gH.put {n:Nat} {m:c6} (h:gH n m) (c:Nat) {x:List UInt8} (hx:x.length=16*n) (hd:(cU m).length+1≤100000):gH n (j4 m c x) where
 nm:=by unfold j4;split <;>exact h.nm
 eM:=h.eM
 n8:=h.n8
 jr:=by rw[IP];exact h.jr
 sn:=by unfold j4;split <;>exact h.sn
 dl:=Nat.le_trans (Oa m c x) hd
 wd:=fun y aF=>by
  unfold j4 at aF
  split at aF
  ·rcases List.mem_or_eq_of_mem_set (show y∈(cU m).set _ x from aF) with aF |aF
   ·exact h.wd y aF
   ·subst aF;exact hx
  ·rcases List.mem_append.1 (show y∈cU m++[x] from aF) with aF |aF
   ·exact h.wd y aF
   ·rw[List.mem_singleton] at aF;subst aF;exact hx
 oE:=fun y aF au=>by
  unfold j4 at aF⊢
  split at aF
  ·obtain⟨i,ai,aq⟩:=h.oE y aF au
   exact⟨i,ai,by show i < ((cU m).set _ x).length;rw[List.length_set];exact aq⟩
  ·have bk:(cU m++[x]).length=(cU m).length+1:=by rw[List.length_append];rfl
   rcases List.mem_or_eq_of_mem_set (show y∈(aL m).set c _ from aF) with aF |aF
   ·obtain⟨i,ai,aq⟩:=h.oE y aF au
    exact⟨i,ai,by show i < (cU m++[x]).length;omega⟩
   ·subst aF
    exact⟨(cU m).length,rfl,by show(cU m).length < (cU m++[x]).length;omega⟩
 zB:=by unfold j4;split <;>exact h.zB
 r1:=by unfold j4;split <;>exact h.r1
theorem xW {n:Nat} {m:c6} (h:gH n m) {c:Nat} (hc:c < (aL m).length) (b9:List (List UInt8)):(k7 n m c b9).length=16*n:=by
 unfold k7
 rw[List.getElem?_eq_getElem hc]
 simp only
 split
 ·rename_i aa
  obtain⟨i,ai,aq⟩:=h.oE _ (List.getElem_mem hc) aa
  rw[show(jI (aL m)[c]).toNat=i by omega,List.getD_eq_getElem?_getD,List.getElem?_eq_getElem aq]
  exact h.wd _ (List.getElem_mem aq)
 ·split
  ·split
   ·split
    ·assumption
    ·exact List.length_replicate
   ·exact List.length_replicate
  ·exact List.length_replicate
def nY (bits size room:Int):c6:=match iR bits size room with
 |true=>nW ((2 ^bits.toNat:Nat):Int) room (List.replicate size.toNat (hO 0 0)) [] []
 |false=>nW 0 0 [] [] []
theorem XM {bits size room:Int} (h:iR bits size room=true):gH (2 ^bits.toNat) (nY bits size room):=by
 obtain⟨⟨ct,cB⟩,⟨a3,a4⟩,a5,gT⟩:=Ei h
 have ag:bits.toNat≤3:=by omega
 have j6:2 ^bits.toNat≤2 ^3:=Nat.pow_le_pow_right (by omega) ag
 have aa:1≤2 ^bits.toNat:=Nat.one_le_two_pow
 unfold nY
 rw[h]
 exact⟨rfl,aa,j6,(by show(List.replicate _ _).length≤256;rw[List.length_replicate];omega),rfl,Nat.zero_le _,fun x hx=>absurd hx (List.not_mem_nil),fun x hx au=>by
  have:=(List.mem_replicate.1 (show x∈List.replicate size.toNat (hO 0 0) from hx)).2
  subst this
  exact absurd au (by decide),a3,a4⟩
def vT (n:Nat) (m:c6) (s:Nat):List UInt8:=((k7 n m (s/n) []).take (16*(s % n)+16)).drop (16*(s % n))
def qg (n:Nat) (m:c6) (a:Nat):Nat→List UInt8
 |0=>[]
 |k+1=>qg n m a k++vT n m (a+k)
theorem Ob {n:Nat} {m:c6} (h:gH n m) {s:Nat} (hs:s < n*(aL m).length):(vT n m s).length=16:=by
 have aa:=h.eM
 have hc:s/n < (aL m).length:=Nat.div_lt_of_lt_mul hs
 have hr:s % n < n:=Nat.mod_lt _ (by omega)
 unfold vT
 rw[List.length_drop,List.length_take,xW h hc]
 omega
theorem IQ {n:Nat} {m:c6} (h:gH n m) {a:Nat}: ∀k,a+k≤n*(aL m).length→(qg n m a k).length=16*k
 |0,_=>rfl
 |k+1,au=>by
  rw[qg,List.length_append,IQ h k (by omega),Ob h (by omega)]
  omega
def zD (n:Nat) (m:c6) (a l:Int):List UInt8×Int:=if fQ n (aL m).length a l=0 then(qg n m a.toNat l.toNat,0) else([],fQ n (aL m).length a l)
theorem uB {n c:Nat} {a l:Int} (h:fQ n c a l=0):0≤l∧0≤a∧a+l≤((n*c:Nat):Int):=by
 unfold fQ at h
 generalize((n*c:Nat):Int)=N at*
 split at h
 ·cases h
 ·split at h
  ·cases h
  ·split at h
   ·cases h
   ·split at h
    ·cases h
    ·omega
@[reducible] def Oc (a l e:Int) (x:List UInt8) (s:Int):aQ:=[(1,aD a),(2,aD l),(3,aI 3),(8,.c (fO e)),(9,bN x),(10,aD s)]
set_option maxHeartbeats 1000000 in
theorem XN {n:Nat} {m:c6} (h:gH n m) (a l:Int):Fn Tryz.prog 107 [nX m,aD a,aD l] [] [] (.c8 [.one (.d (.str (zD n m a l).1)),fO (zD n m a l).2]) []:=by
 have hn:=h.n8
 have uX:=h.eM
 have hc:=h.jr
 have ag:n*(aL m).length≤8*256:=Nat.mul_le_mul hn hc
 unfold zD
 refine Fn.of aj [] _ _ _ _ _ Tryz.func107 rfl rfl (by kernel_rfl) (by kernel_rfl) rfl (aK aj) rfl ?_
 refine⟨rfl,?_⟩
 refine⟨_,_,_,_,BK h a l,trivial,rfl,?_⟩
 show aE _ _ _ _ _ _ _
 by_cases he:fQ n (aL m).length a l=0
 ·rw[if_pos he]
  obtain⟨bQ,cn,eT⟩:=uB he
  refine aE.loop aj (aK aj) [] (by kernel_rfl) (X:=Nat) (fun k=>Oc a l (fQ n (aL m).length a l) (qg n m a.toNat k) (a+(k:Nat))) (fun _=>[(3,.cells (lQ m))]) (fun k=>(k:Int)≤l) (fun k=>l.toNat - k) 0 bQ ?_ ?_
  ·refine ah.sub ⟨rfl,rfl,rfl,rfl,rfl,?_,trivial⟩ ⟨rfl,trivial⟩
   show a=a+((0:Nat):Int)
   omega
  intro k au
  refine⟨fun _=>?_,fun aC=>absurd he (of_decide_eq_false aC)⟩
  refine⟨by omega,?_⟩
  refine⟨fun aa=>?_,fun aa=>?_⟩
  ·have aa:a+(k:Nat) < a+l:=of_decide_eq_true aa
   obtain⟨s,hs⟩: ∃s:Nat,a+(k:Nat)=(s:Int):=⟨(a+(k:Nat)).toNat,by omega⟩
   have GR:a.toNat+k=s:=by omega
   have e6:s < n*(aL m).length:=by omega
   have bh:((s:Nat):Int)/dy m=((s/n:Nat):Int):=by rw[h.nm];exact(Int.natCast_ediv _ _).symm
   have hr:((s:Nat):Int) % dy m=((s % n:Nat):Int):=by rw[h.nm];exact(Int.natCast_emod _ _).symm
   have Od:s/n < (aL m).length:=Nat.div_lt_of_lt_mul e6
   have tR:s % n < n:=Nat.mod_lt _ (by omega)
   have ai:=IQ h (a:=a.toNat) k (by omega)
   have aq:=Ob h e6
   have gW:qg n m a.toNat (k+1)=qg n m a.toNat k++vT n m s:=by rw[qg,GR]
   have xS:=h.nm
   unfold vT at aq gW
   generalize s/n=Q at*
   generalize s % n=R at*
   rw[hs]
   have fq:(0:Int)≤((s:Nat):Int)∧(0:Int) < dy m:=by omega
   have nG: -9223372036854775808≤((s:Nat):Int) % dy m∧((s:Nat):Int) % dy m≤9223372036854775807:=by rw[hr];omega
   have z3: -9223372036854775808≤((s:Nat):Int)/dy m∧((s:Nat):Int)/dy m≤9223372036854775807:=by rw[bh];omega
   refine⟨fq,nG,?_⟩
   refine⟨fq,z3,?_⟩
   rw[bh,hr]
   refine⟨_,_,_,_,Fn.arg (args:=[nX m,aD ((Q:Nat):Int),v1 .ee]) (N6 h Od [] (by decide)) ⟨⟨rfl,rfl,rfl,rfl,rfl,trivial⟩,rfl,rfl,trivial⟩,trivial,rfl,?_⟩
   have aB:=xW h Od []
   have cK: -9223372036854775808≤16*((R:Nat):Int)∧16*((R:Nat):Int)≤9223372036854775807:=by omega
   have c5: -9223372036854775808≤16*((R:Nat):Int)+16∧16*((R:Nat):Int)+16≤9223372036854775807:=by omega
   have iw:0≤16*((R:Nat):Int)∧16*((R:Nat):Int)≤16*((R:Nat):Int)+16∧16*((R:Nat):Int)+16≤(((k7 n m Q []).length:Nat):Int):=by omega
   refine⟨cK,cK,c5,iw,?_⟩
   have o9:(16*((R:Nat):Int)+16).toNat=16*R+16:=by omega
   have Oe:(16*((R:Nat):Int)).toNat=16*R:=by omega
   have eR:(qg n m a.toNat k).length+(((k7 n m Q []).take (16*((R:Nat):Int)+16).toNat).drop (16*((R:Nat):Int)).toNat).length≤4294967296:=by rw[o9,Oe];omega
   refine⟨eR,?_⟩
   refine⟨rfl,?_⟩
   refine⟨by omega,k+1,by omega,by omega,ah.sub ⟨rfl,rfl,rfl,rfl,?_,?_,trivial⟩ ⟨rfl,trivial⟩⟩
   ·rw[gW,o9,Oe]
    rfl
   ·show(s:Int)+1=a+((k+1:Nat):Int)
    omega
  ·have aa: ¬a+(k:Nat) < a+l:=of_decide_eq_false aa
   have bU:k=l.toNat:=by omega
   subst bU
   exact⟨_,_,_,ah.refl _ _,rfl,⟨rfl,he,trivial⟩,trivial,rfl⟩
 ·rw[if_neg he]
  refine aE.loop aj (aK aj) [] (by kernel_rfl) (X:=Unit) (fun _=>Oc a l (fQ n (aL m).length a l) [] a) (fun _=>[(3,.cells (lQ m))]) (fun _=>True) (fun _=>0) () trivial ?_ ?_
  ·exact ah.sub ⟨rfl,rfl,rfl,rfl,rfl,rfl,trivial⟩ ⟨rfl,trivial⟩
  rintro⟨⟩ -
  refine⟨fun aC=>absurd (of_decide_eq_true aC) he,fun _=>?_⟩
  exact⟨_,_,_,ah.refl _ _,rfl,⟨rfl,rfl,trivial⟩,trivial,rfl⟩
def jJ (n a l:Nat) (m:c6):Nat→c6
 |0=>m
 |k+1=>if dY n k a l n=n then pz (jJ n a l m k) k (hO 0 0) else jJ n a l m k
theorem Of (n a l:Nat) (m:c6): ∀k,(aL (jJ n a l m k)).length=(aL m).length
 |0=>rfl
 |k+1=>by
  have:=Of n a l m k
  unfold jJ
  split
  ·show((aL (jJ n a l m k)).set _ _).length=_
   rw[List.length_set,this]
  ·exact this
theorem gH.IU {n:Nat} {m:c6} (h:gH n m) (a l:Nat): ∀k,gH n (jJ n a l m k)
 |0=>h
 |k+1=>by
  unfold jJ
  split
  ·exact(gH.IU h a l k).set k (by decide)
  ·exact gH.IU h a l k
def zE (n:Nat) (m:c6) (a l:Int):c6×Int:=if fQ n (aL m).length a l=0 then(jJ n a.toNat l.toNat m (aL m).length,0) else(m,fQ n (aL m).length a l)
@[reducible] def Og (a l e:Int) (k:Nat):aQ:=[(1,aD a),(2,aD l),(3,aI 3),(6,aI 6),(8,.c (fO e)),(9,aD (k:Nat))]
@[reducible] def Oh (m:c6):aG:=[(3,.cells (lQ m)),(6,.cells tY.t104.zero)]
set_option maxHeartbeats 1000000 in
theorem XO {n:Nat} {m:c6} (h:gH n m) (a l:Int):Fn Tryz.prog 123 [nX m,aD a,aD l] [] [] (.c8 [.agg (lQ (zE n m a l).1),fO (zE n m a l).2]) []:=by
 have hn:=h.n8
 have uX:=h.eM
 have hc:=h.jr
 have ag:n*(aL m).length≤8*256:=Nat.mul_le_mul hn hc
 unfold zE
 refine Fn.of aj [] _ _ _ _ _ Tryz.func123 rfl rfl (by kernel_rfl) (by kernel_rfl) rfl (aK aj) rfl ?_
 refine⟨rfl,?_⟩
 refine⟨rfl,?_⟩
 refine⟨_,_,_,_,BK h a l,trivial,rfl,?_⟩
 show aE _ _ _ _ _ _ _
 by_cases he:fQ n (aL m).length a l=0
 ·rw[if_pos he]
  obtain⟨bQ,cn,eT⟩:=uB he
  refine aE.loop aj (aK aj) [] (by kernel_rfl) (X:=Nat) (fun k=>Og a l (fQ n (aL m).length a l) k) (fun k=>Oh (jJ n a.toNat l.toNat m k)) (fun k=>k≤(aL m).length) (fun k=>(aL m).length - k) 0 (Nat.zero_le _) ?_ ?_
  ·exact ah.sub ⟨rfl,rfl,rfl,rfl,rfl,rfl,trivial⟩ ⟨rfl,rfl,trivial⟩
  intro k au
  have cQ:=Of n a.toNat l.toNat m k
  have az:=h.IU a.toNat l.toNat k
  refine⟨fun aa=>?_,fun aa=>?_⟩
  ·have aa:((k:Nat):Int) < (((aL (jJ n a.toNat l.toNat m k)).length:Nat):Int):=of_decide_eq_true aa
   rw[cQ] at aa
   refine⟨fun _=>?_,fun aC=>absurd he (of_decide_eq_false aC)⟩
   refine⟨_,_,_,_,Fn.arg (args:=[nX (jJ n a.toNat l.toNat m k),aD (k:Int),aD a,aD l]) (IK az (c:=k) (a:=a.toNat) (l:=l.toNat) (by omega) (by omega) (by omega)) ⟨⟨rfl,rfl,rfl,rfl,rfl,trivial⟩,rfl,(Int.toNat_of_nonneg cn).symm,(Int.toNat_of_nonneg bQ).symm,trivial⟩,trivial,rfl,?_⟩
   refine⟨rfl,fun af=>?_,fun af=>?_⟩
   ·have af:((dY n k a.toNat l.toNat n:Nat):Int)=dy (jJ n a.toNat l.toNat m k):=of_decide_eq_true af
    rw[az.nm] at af
    have e:jJ n a.toNat l.toNat m (k+1)=pz (jJ n a.toNat l.toNat m k) k (hO 0 0):=if_pos (by omega)
    refine⟨_,_,_,_,IN (jJ n a.toNat l.toNat m k) (by omega) (by omega) (hO 0 0),trivial,rfl,?_⟩
    refine⟨by omega,k+1,by omega,by omega,ah.sub ⟨rfl,rfl,rfl,rfl,rfl,rfl,trivial⟩ ⟨?_,rfl,trivial⟩⟩
    rw[e]
    rfl
   ·have af: ¬((dY n k a.toNat l.toNat n:Nat):Int)=dy (jJ n a.toNat l.toNat m k):=of_decide_eq_false af
    rw[az.nm] at af
    have e:jJ n a.toNat l.toNat m (k+1)=jJ n a.toNat l.toNat m k:=if_neg (by omega)
    refine⟨by omega,k+1,by omega,by omega,ah.sub ⟨rfl,rfl,rfl,rfl,rfl,rfl,trivial⟩ ⟨?_,rfl,trivial⟩⟩
    rw[e]
    rfl
  ·have aa: ¬((k:Nat):Int) < (((aL (jJ n a.toNat l.toNat m k)).length:Nat):Int):=of_decide_eq_false aa
   rw[cQ] at aa
   have bU:k=(aL m).length:=by omega
   subst bU
   exact⟨_,_,_,ah.refl _ _,rfl,⟨⟨rfl,rfl,rfl,rfl,rfl,trivial⟩,he,trivial⟩,trivial,rfl⟩
 ·rw[if_neg he]
  refine aE.loop aj (aK aj) [] (by kernel_rfl) (X:=Unit) (fun _=>Og a l (fQ n (aL m).length a l) 0) (fun _=>Oh m) (fun _=>True) (fun _=>0) () trivial ?_ ?_
  ·exact ah.sub ⟨rfl,rfl,rfl,rfl,rfl,rfl,trivial⟩ ⟨rfl,rfl,trivial⟩
  rintro⟨⟩ -
  refine⟨fun aa=>?_,fun _=>?_⟩
  ·refine⟨fun aC=>absurd (of_decide_eq_true aC) he,fun _=>?_⟩
   exact⟨_,_,_,ah.refl _ _,rfl,⟨⟨rfl,rfl,rfl,rfl,rfl,trivial⟩,rfl,trivial⟩,trivial,rfl⟩
  ·exact⟨_,_,_,ah.refl _ _,rfl,⟨⟨rfl,rfl,rfl,rfl,rfl,trivial⟩,rfl,trivial⟩,trivial,rfl⟩
end Go.Proofs.YteoamepgonpdlaaGreat
namespace Go.Proofs.YteoamepgonpdlaaGreat
set_option linter.unusedVariables false
set_option linter.unusedSimpArgs false
set_option maxRecDepth 10000
open Go.RowKit Go.Proofs
def eV (m:c6) (c:Nat):Int:=gq ((aL m).getD c (hO 0 0))
theorem th {m:c6} {c:Nat} (hc:c < (aL m).length):eV m c=gq (aL m)[c]:=by
 unfold eV
 rw[List.getD_eq_getElem?_getD,List.getElem?_eq_getElem hc]
 rfl
def jt (n a l:Nat) (zero:Bool) (m:c6) (c:Nat):Bool:=
 decide (0 < dY n c a l n)&& !(zero&&(decide (dY n c a l n=n)||decide (eV m c=2)))&& !qd m c
def jK (n a l:Nat) (zero:Bool) (m:c6):Nat→Nat
 |0=>0
 |k+1=>match jt n a l zero m k with
  |true=>jK n a l zero m k+1
  |false=>jK n a l zero m k
theorem Oi (n a l:Nat) (zero:Bool) (m:c6): ∀k,jK n a l zero m k≤k
 |0=>Nat.le_refl _
 |k+1=>by
  have:=Oi n a l zero m k
  unfold jK
  split <;>omega
def mJ (n a l:Nat) (b:List UInt8) (b9:List (List UInt8)) (zero:Bool) (m:c6) (c:Nat):c6:=
 if dY n c a l n=0 then m
 else if zero=true∧dY n c a l n < n∧eV m c=2 then m
 else if zero=true∧dY n c a l n=n then pz m c (hO 2 0)
 else j4 m c (mI n c a (k7 n m c b9) b n)
def iW (n a l:Nat) (b:List UInt8) (b9:List (List UInt8)) (zero:Bool) (m:c6):Nat→c6
 |0=>m
 |k+1=>mJ n a l b b9 zero (iW n a l b b9 zero m k) k
theorem XP (n a l:Nat) (b:List UInt8) (b9:List (List UInt8)) (zero:Bool) (m:c6) (c:Nat):(aL (mJ n a l b b9 zero m c)).length=(aL m).length:=by
 unfold mJ
 split
 ·rfl
 ·split
  ·rfl
  ·split
   ·show((aL m).set _ _).length=_;rw[List.length_set]
   ·exact IP ..
theorem XQ (n a l:Nat) (b:List UInt8) (b9:List (List UInt8)) (zero:Bool) (m:c6) (c:Nat):(cU (mJ n a l b b9 zero m c)).length≤(cU m).length+1:=by
 unfold mJ
 split
 ·exact Nat.le_succ _
 ·split
  ·exact Nat.le_succ _
  ·split
   ·exact Nat.le_succ _
   ·exact Oa ..
theorem IV (n a l:Nat) (b:List UInt8) (b9:List (List UInt8)) (zero:Bool) (m:c6): ∀k,(aL (iW n a l b b9 zero m k)).length=(aL m).length
 |0=>rfl
 |k+1=>by rw[iW,XP,IV]
theorem zF (n a l:Nat) (b:List UInt8) (b9:List (List UInt8)) (zero:Bool) (m:c6): ∀k,(cU (iW n a l b b9 zero m k)).length≤(cU m).length+k
 |0=>Nat.le_refl _
 |k+1=>by
  have aa:=XQ n a l b b9 zero (iW n a l b b9 zero m k) k
  have af:=zF n a l b b9 zero m k
  rw[iW]
  omega
theorem gH.step {n:Nat} {m:c6} (h:gH n m) (a l:Nat) (b:List UInt8) (b9:List (List UInt8)) (zero:Bool) {c:Nat} (hc:c < (aL m).length) (hd:(cU m).length+1≤100000):gH n (mJ n a l b b9 zero m c):=by
 unfold mJ
 split
 ·exact h
 ·split
  ·exact h
  ·split
   ·exact h.set c (by decide)
   ·refine h.put c ?_ hd
    exact BM n (Nat.le_of_eq (xW h hc b9).symm)
theorem gH.wr {n:Nat} {m:c6} (h:gH n m) (a l:Nat) (b:List UInt8) (b9:List (List UInt8)) (zero:Bool) (hd:(cU m).length+256≤100000): ∀k,k≤(aL m).length→gH n (iW n a l b b9 zero m k)
 |0,_=>h
 |k+1,au=>by
  have aa:=h.wr a l b b9 zero hd k (by omega)
  have af:=zF n a l b b9 zero m k
  have aA:=h.jr
  exact aa.step a l b b9 zero (by rw[IV];omega) (by omega)
def uC (n:Nat) (m:c6) (a:Int) (b:List UInt8) (b9:List (List UInt8)) (zero:Bool):c6×Int:=
 if b.length % 16≠0 then(m,1)
 else if fQ n (aL m).length a (b.length/16:Nat)=0 then
  (if zC m < (jK n a.toNat (b.length/16) zero m (aL m).length:Nat) then(m,120) else(iW n a.toNat (b.length/16) b b9 zero m (aL m).length,0))
 else(m,fQ n (aL m).length a (b.length/16:Nat))
@[reducible] def XR (a:Int) (b:List UInt8) (b9:List (List UInt8)) (zero:Bool) (l:Nat) (x k:Nat):aQ:=[(1,aD a),(2,bN b),(3,cJ .str b9),(4,g9 zero),(5,aI 5),(10,aI 10),(12,aD (l:Nat)),(14,aD (x:Nat)),(15,aD (k:Nat))]
@[reducible] def XS (a:Int) (b:List UInt8) (b9:List (List UInt8)) (zero:Bool) (l:Nat) (k:Nat):aQ:=[(1,aD a),(2,bN b),(3,cJ .str b9),(4,g9 zero),(5,aI 5),(10,aI 10),(12,aD (l:Nat)),(18,aD (k:Nat))]
@[reducible] def Oj (m:c6):aG:=[(5,.cells (lQ m)),(10,.cells tY.t104.zero)]
set_option maxHeartbeats 4000000 in
theorem Ol {n:Nat} {m:c6} (h:gH n m) (a:Int) (b:List UInt8) (b9:List (List UInt8)) (zero:Bool) (ag:b.length≤1000000) (eC:b9.length≤1000000) (hd:(cU m).length+256≤100000):
  Fn Tryz.prog 122 [nX m,aD a,bN b,cJ .str b9,g9 zero] [] [] (.c8 [.agg (lQ (uC n m a b b9 zero).1),fO (uC n m a b b9 zero).2]) []:=by
 have hn:=h.n8
 have uX:=h.eM
 have hc:=h.jr
 have z2:n*(aL m).length≤8*256:=Nat.mul_le_mul hn hc
 have dg:=h.dl
 unfold uC
 refine Fn.of aj [] _ _ _ _ _ Tryz.func122 rfl rfl (by kernel_rfl) (by kernel_rfl) rfl (aK aj) rfl ?_
 refine⟨rfl,?_⟩
 refine⟨rfl,?_⟩
 have d1:(0:Int)≤((b.length:Nat):Int)∧(0:Int) < 16:=by omega
 have d2: -9223372036854775808≤((b.length:Nat):Int) % 16∧((b.length:Nat):Int) % 16≤9223372036854775807:=by omega
 have d3: -9223372036854775808≤((b.length:Nat):Int)/16∧((b.length:Nat):Int)/16≤9223372036854775807:=by omega
 refine⟨d1,d2,?_⟩
 refine⟨fun bp=>?_,fun bp=>?_⟩
 ·have bp:(!decide (((b.length:Nat):Int) % 16=0))=true:=bp
  have bp: ¬((b.length:Nat):Int) % 16=0:=by simpa using bp
  rw[if_pos (by omega)]
  exact⟨_,_,_,ah.refl _ _,rfl,⟨⟨rfl,rfl,rfl,rfl,rfl,trivial⟩,rfl,trivial⟩,trivial,rfl⟩
 have bp:(!decide (((b.length:Nat):Int) % 16=0))=false:=bp
 have bp:((b.length:Nat):Int) % 16=0:=by simpa using bp
 rw[if_neg (by omega)]
 refine⟨d1,d3,?_⟩
 have o7:((b.length:Nat):Int)/16=((b.length/16:Nat):Int):=by omega
 rw[o7]
 obtain⟨l,aB⟩: ∃l:Nat,l=b.length/16:=⟨_,rfl⟩
 rw[←aB] at*
 refine⟨_,_,_,_,BK h a (l:Nat),trivial,rfl,?_⟩
 refine⟨fun bq=>?_,fun bq=>?_⟩
 ·have bq:(!decide (fQ n (aL m).length a (l:Nat)=0))=true:=bq
  have bq: ¬fQ n (aL m).length a (l:Nat)=0:=by simpa using bq
  rw[if_neg bq]
  exact⟨_,_,_,ah.refl _ _,rfl,⟨⟨rfl,rfl,rfl,rfl,rfl,trivial⟩,rfl,trivial⟩,trivial,rfl⟩
 have bq:(!decide (fQ n (aL m).length a (l:Nat)=0))=false:=bq
 have bq:fQ n (aL m).length a (l:Nat)=0:=by simpa using bq
 rw[if_pos bq]
 obtain⟨bQ,cn,eT⟩:=uB bq
 obtain⟨A,hA⟩: ∃A:Nat,a=(A:Int):=⟨a.toNat,by omega⟩
 subst hA
 rw[Int.toNat_natCast]
 show aE _ _ _ _ _ _ _
 refine aE.loop aj (aK aj) [] (by kernel_rfl) (X:=Nat) (fun k=>XR A b b9 zero l (jK n A l zero m k) k) (fun _=>Oj m) (fun k=>k≤(aL m).length) (fun k=>(aL m).length - k) 0 (Nat.zero_le _) ?_ ?_
 ·exact ah.sub ⟨rfl,rfl,rfl,rfl,rfl,rfl,rfl,rfl,rfl,trivial⟩ ⟨rfl,rfl,trivial⟩
 ·intro k au
  have hu:=Oi n A l zero m k
  refine⟨fun aa=>?_,fun aa=>?_⟩
  ·have aa:((k:Nat):Int) < (((aL m).length:Nat):Int):=of_decide_eq_true aa
   have bU:k < (aL m).length:=by omega
   have gm:=th bU
   have e:jK n A l zero m (k+1)=match jt n A l zero m k with
    |true=>jK n A l zero m k+1
    |false=>jK n A l zero m k:=rfl
   have stay:jt n A l zero m k=false→((jK n A l zero m k:Nat):Int)=((jK n A l zero m (k+1):Nat):Int):=fun hw=>by rw[e,hw]
   have more:jt n A l zero m k=true→((jK n A l zero m k:Nat):Int)+1=((jK n A l zero m (k+1):Nat):Int):=fun hw=>by rw[e,hw];rfl
   have r1: -9223372036854775808≤((k:Nat):Int)+1∧((k:Nat):Int)+1≤9223372036854775807:=by omega
   have r2: -9223372036854775808≤((jK n A l zero m k:Nat):Int)+1∧((jK n A l zero m k:Nat):Int)+1≤9223372036854775807:=by omega
   have dF:=N5 h bU
   refine⟨_,_,_,_,IK h (c:=k) (a:=A) (l:=l) (by omega) (by omega) (by omega),trivial,rfl,?_⟩
   clear e
   refine⟨fun fq=>?_,fun fq=>?_⟩
   ·have fq:zero=true:=fq
    refine⟨fun f1=>?_,fun f1=>?_⟩
    ·have f1:((dY n k A l n:Nat):Int)=dy m:=of_decide_eq_true f1
     have f1:dY n k A l n=n:=by rw[h.nm] at f1;omega
     have hw:jt n A l zero m k=false:=by unfold jt;rw[fq,f1];simp
     refine⟨fun g1=>?_,fun g1=>?_⟩
     ·exact⟨r1,k+1,by omega,by omega,ah.sub ⟨rfl,rfl,rfl,rfl,rfl,rfl,rfl,stay hw,rfl,trivial⟩ ⟨rfl,rfl,trivial⟩⟩
     ·exact⟨r1,k+1,by omega,by omega,ah.sub ⟨rfl,rfl,rfl,rfl,rfl,rfl,rfl,stay hw,rfl,trivial⟩ ⟨rfl,rfl,trivial⟩⟩
    ·have f1: ¬((dY n k A l n:Nat):Int)=dy m:=of_decide_eq_false f1
     have f1: ¬dY n k A l n=n:=by rw[h.nm] at f1;omega
     refine⟨by omega,(aL m)[k],eY (n:=k) bU,?_⟩
     refine⟨fun g1=>?_,fun g1=>?_⟩
     ·have g1:(0:Int) < ((dY n k A l n:Nat):Int):=of_decide_eq_true g1
      refine⟨fun g2=>?_,fun g2=>?_⟩
      ·have g2:(!decide (gq (aL m)[k]=2))=true:=g2
       have g2: ¬eV m k=2:=by rw[gm];simpa using g2
       refine⟨_,_,_,_,dF,trivial,rfl,?_⟩
       refine⟨fun bL=>?_,fun bL=>?_⟩
       ·have bL:(!qd m k)=true:=bL
        have hw:jt n A l zero m k=true:=by unfold jt;rw[fq,bL,decide_eq_true (show 0 < dY n k A l n by omega),decide_eq_false f1,decide_eq_false g2];rfl
        exact⟨r2,r1,k+1,by omega,by omega,ah.sub ⟨rfl,rfl,rfl,rfl,rfl,rfl,rfl,more hw,rfl,trivial⟩ ⟨rfl,rfl,trivial⟩⟩
       ·have bL:(!qd m k)=false:=bL
        have hw:jt n A l zero m k=false:=by unfold jt;rw[bL,Bool.and_false]
        exact⟨r1,k+1,by omega,by omega,ah.sub ⟨rfl,rfl,rfl,rfl,rfl,rfl,rfl,stay hw,rfl,trivial⟩ ⟨rfl,rfl,trivial⟩⟩
      ·have g2:(!decide (gq (aL m)[k]=2))=false:=g2
       have g2:eV m k=2:=by rw[gm];simpa using g2
       have hw:jt n A l zero m k=false:=by unfold jt;rw[fq,decide_eq_true g2];simp
       exact⟨r1,k+1,by omega,by omega,ah.sub ⟨rfl,rfl,rfl,rfl,rfl,rfl,rfl,stay hw,rfl,trivial⟩ ⟨rfl,rfl,trivial⟩⟩
     ·have g1: ¬(0:Int) < ((dY n k A l n:Nat):Int):=of_decide_eq_false g1
      have hw:jt n A l zero m k=false:=by unfold jt;rw[decide_eq_false (show¬0 < dY n k A l n by omega)];simp
      exact⟨r1,k+1,by omega,by omega,ah.sub ⟨rfl,rfl,rfl,rfl,rfl,rfl,rfl,stay hw,rfl,trivial⟩ ⟨rfl,rfl,trivial⟩⟩
   ·have fq:zero=false:=fq
    refine⟨fun g1=>?_,fun g1=>?_⟩
    ·have g1:(0:Int) < ((dY n k A l n:Nat):Int):=of_decide_eq_true g1
     refine⟨_,_,_,_,dF,trivial,rfl,?_⟩
     refine⟨fun bL=>?_,fun bL=>?_⟩
     ·have bL:(!qd m k)=true:=bL
      have hw:jt n A l zero m k=true:=by unfold jt;rw[fq,bL,decide_eq_true (show 0 < dY n k A l n by omega)];rfl
      exact⟨r2,r1,k+1,by omega,by omega,ah.sub ⟨rfl,rfl,rfl,rfl,rfl,rfl,rfl,more hw,rfl,trivial⟩ ⟨rfl,rfl,trivial⟩⟩
     ·have bL:(!qd m k)=false:=bL
      have hw:jt n A l zero m k=false:=by unfold jt;rw[bL,Bool.and_false]
      exact⟨r1,k+1,by omega,by omega,ah.sub ⟨rfl,rfl,rfl,rfl,rfl,rfl,rfl,stay hw,rfl,trivial⟩ ⟨rfl,rfl,trivial⟩⟩
    ·have g1: ¬(0:Int) < ((dY n k A l n:Nat):Int):=of_decide_eq_false g1
     have hw:jt n A l zero m k=false:=by unfold jt;rw[decide_eq_false (show¬0 < dY n k A l n by omega)];simp
     exact⟨r1,k+1,by omega,by omega,ah.sub ⟨rfl,rfl,rfl,rfl,rfl,rfl,rfl,stay hw,rfl,trivial⟩ ⟨rfl,rfl,trivial⟩⟩
  ·have aa: ¬((k:Nat):Int) < (((aL m).length:Nat):Int):=of_decide_eq_false aa
   have bU:k=(aL m).length:=by omega
   subst bU
   refine⟨_,_,_,_,Xx h,trivial,rfl,?_⟩
   refine⟨fun b8=>?_,fun b8=>?_⟩
   ·have b8:zC m < ((jK n A l zero m (aL m).length:Nat):Int):=of_decide_eq_true b8
    rw[if_pos b8]
    exact⟨_,_,_,ah.refl _ _,rfl,⟨⟨rfl,rfl,rfl,rfl,rfl,trivial⟩,rfl,trivial⟩,trivial,rfl⟩
   have b8: ¬zC m < ((jK n A l zero m (aL m).length:Nat):Int):=of_decide_eq_false b8
   rw[if_neg b8]
   show aE _ _ _ _ _ _ _
   refine aE.loop aj (aK aj) [] (by kernel_rfl) (X:=Nat) (fun k=>XS A b b9 zero l k) (fun k=>Oj (iW n A l b b9 zero m k)) (fun k=>k≤(aL m).length) (fun k=>(aL m).length - k) 0 (Nat.zero_le _) ?_ ?_
   ·exact ah.sub ⟨rfl,rfl,rfl,rfl,rfl,rfl,rfl,rfl,trivial⟩ ⟨rfl,rfl,trivial⟩
   intro k au
   have cQ:=IV n A l b b9 zero m k
   have az:=h.wr A l b b9 zero hd k au
   have qM:=zF n A l b b9 zero m k
   have abv:=az.jr
   have e:iW n A l b b9 zero m (k+1)=mJ n A l b b9 zero (iW n A l b b9 zero m k) k:=rfl
   generalize zG:iW n A l b b9 zero m k=X at*
   refine⟨fun aa=>?_,fun aa=>?_⟩
   ·have aa:((k:Nat):Int) < (((aL X).length:Nat):Int):=of_decide_eq_true aa
    have bU:k < (aL X).length:=by omega
    have gm:=th bU
    have r1: -9223372036854775808≤((k:Nat):Int)+1∧((k:Nat):Int)+1≤9223372036854775807:=by omega
    have XT: ∀Y,mJ n A l b b9 zero X k=Y→iW n A l b b9 zero m (k+1)=Y:=fun Y A6=>e.trans A6
    have IW:=N6 az bU b9 eC
    have XU:=xW az bU b9
    have IX:=XI az (c:=k) (a:=A) (x:=k7 n X k b9) (b:=b) (by omega) (by omega) XU ag
    have m5:=XK az bU (mI n k A (k7 n X k b9) b n)
    have iM:=IN X (c:=k) (by omega) bU (hO 2 0)
    have done: ∀Y,mJ n A l b b9 zero X k=Y→some (bF.cells (lQ Y))=some (bF.cells (lQ (iW n A l b b9 zero m (k+1)))):=fun Y A6=>by rw[XT Y A6]
    clear e
    refine⟨_,_,_,_,IK az (c:=k) (a:=A) (l:=l) (by omega) (by omega) (by omega),trivial,rfl,?_⟩
    refine⟨fun f0=>?_,fun f0=>?_⟩
    ·have f0:((dY n k A l n:Nat):Int)=0:=of_decide_eq_true f0
     have hs:mJ n A l b b9 zero X k=X:=if_pos (by omega)
     exact⟨r1,k+1,by omega,by omega,ah.sub ⟨rfl,rfl,rfl,rfl,rfl,rfl,rfl,rfl,trivial⟩ ⟨done X hs,rfl,trivial⟩⟩
    have f0: ¬((dY n k A l n:Nat):Int)=0:=of_decide_eq_false f0
    have s0:mJ n A l b b9 zero X k=if zero=true∧dY n k A l n < n∧eV X k=2 then X else if zero=true∧dY n k A l n=n then pz X k (hO 2 0) else j4 X k (mI n k A (k7 n X k b9) b n):=if_neg (by omega)
    refine⟨fun fq=>?_,fun fq=>?_⟩
    ·have fq:zero=true:=fq
     refine⟨fun f1=>?_,fun f1=>?_⟩
     ·have f1:((dY n k A l n:Nat):Int) < dy X:=of_decide_eq_true f1
      rw[az.nm] at f1
      refine⟨by omega,(aL X)[k],eY (n:=k) bU,?_⟩
      refine⟨fun f2=>?_,fun f2=>?_⟩
      ·have f2:gq (aL X)[k]=2:=of_decide_eq_true f2
       have hs:mJ n A l b b9 zero X k=X:=by rw[s0,if_pos ⟨fq,by omega,by rw[gm];exact f2⟩]
       exact⟨r1,k+1,by omega,by omega,ah.sub ⟨rfl,rfl,rfl,rfl,rfl,rfl,rfl,rfl,trivial⟩ ⟨done X hs,rfl,trivial⟩⟩
      ·have f2: ¬gq (aL X)[k]=2:=of_decide_eq_false f2
       rw[if_neg (fun q=>f2 (by rw[←gm];exact q.2.2)),if_neg (by omega)] at s0
       refine⟨fun _=>?_,fun nG=>absurd (fq.symm.trans nG) (by decide)⟩
       refine⟨fun f3=>?_,fun _=>?_⟩
       ·exfalso
        have f3:((dY n k A l n:Nat):Int)=dy X:=of_decide_eq_true f3
        rw[az.nm] at f3
        omega
       refine⟨_,_,_,_,IW,trivial,rfl,?_⟩
       refine⟨_,_,_,_,IX,trivial,rfl,?_⟩
       refine⟨_,_,_,_,m5,trivial,rfl,?_⟩
       refine⟨rfl,?_⟩
       exact⟨r1,k+1,by omega,by omega,ah.sub ⟨rfl,rfl,rfl,rfl,rfl,rfl,rfl,rfl,trivial⟩ ⟨done _ s0,rfl,trivial⟩⟩
     ·have f1: ¬((dY n k A l n:Nat):Int) < dy X:=of_decide_eq_false f1
      rw[az.nm] at f1
      rw[if_neg (by omega)] at s0
      refine⟨fun _=>?_,fun nG=>absurd (fq.symm.trans nG) (by decide)⟩
      refine⟨fun f3=>?_,fun f3=>?_⟩
      ·have f3:((dY n k A l n:Nat):Int)=dy X:=of_decide_eq_true f3
       rw[az.nm] at f3
       rw[if_pos ⟨fq,by omega⟩] at s0
       refine⟨_,_,_,_,iM,trivial,rfl,?_⟩
       exact⟨r1,k+1,by omega,by omega,ah.sub ⟨rfl,rfl,rfl,rfl,rfl,rfl,rfl,rfl,trivial⟩ ⟨done _ s0,rfl,trivial⟩⟩
      ·have f3: ¬((dY n k A l n:Nat):Int)=dy X:=of_decide_eq_false f3
       rw[az.nm] at f3
       rw[if_neg (by omega)] at s0
       refine⟨_,_,_,_,IW,trivial,rfl,?_⟩
       refine⟨_,_,_,_,IX,trivial,rfl,?_⟩
       refine⟨_,_,_,_,m5,trivial,rfl,?_⟩
       refine⟨rfl,?_⟩
       exact⟨r1,k+1,by omega,by omega,ah.sub ⟨rfl,rfl,rfl,rfl,rfl,rfl,rfl,rfl,trivial⟩ ⟨done _ s0,rfl,trivial⟩⟩
    ·have fq:zero=false:=fq
     rw[if_neg (fun q=>absurd (fq.symm.trans q.1) (by decide)),if_neg (fun q=>absurd (fq.symm.trans q.1) (by decide))] at s0
     refine⟨fun nG=>absurd (fq.symm.trans nG) (by decide),fun _=>?_⟩
     refine⟨_,_,_,_,IW,trivial,rfl,?_⟩
     refine⟨_,_,_,_,IX,trivial,rfl,?_⟩
     refine⟨_,_,_,_,m5,trivial,rfl,?_⟩
     refine⟨rfl,?_⟩
     exact⟨r1,k+1,by omega,by omega,ah.sub ⟨rfl,rfl,rfl,rfl,rfl,rfl,rfl,rfl,trivial⟩ ⟨done _ s0,rfl,trivial⟩⟩
   ·have aa: ¬((k:Nat):Int) < (((aL X).length:Nat):Int):=of_decide_eq_false aa
    have bU:k=(aL m).length:=by omega
    subst bU
    rw[zG]
    exact⟨_,_,_,ah.refl _ _,rfl,⟨⟨rfl,rfl,rfl,rfl,rfl,trivial⟩,rfl,trivial⟩,trivial,rfl⟩
end Go.Proofs.YteoamepgonpdlaaGreat
namespace Go.Proofs.YteoamepgonpdlaaGreat
set_option linter.unusedVariables false
set_option linter.unusedSimpArgs false
set_option maxRecDepth 10000
open Go.RowKit Go.Proofs
@[reducible] def uD:U:=.pr .str (.pr .str N1)
abbrev bJ:=aJ uD
@[reducible] def b7 (d:bJ):List UInt8:=d.1
@[reducible] def er (d:bJ):List UInt8:=d.2.1
@[reducible] def bB (d:bJ):c6:=d.2.2
@[reducible] def iX (n b:List UInt8) (m:c6):bJ:=(n,b,m)
@[reducible] def IY (d:bJ):List bx:=.d (.str (b7 d)):: .d (.str (er d))::lQ (bB d)
@[reducible] def Om (d:bJ):aN:=.c (.agg (IY d))
@[reducible] def kA (bits room:Int) (l:List bJ):List bx:=[.d (.int .i64 bits),.d (.int .i64 room),.d (.cW uD l)]
@[reducible] def k8 (bits room:Int) (l:List bJ):aN:=.c (.agg (kA bits room l))
def vU (l:List bJ) (n:List UInt8):Option Nat:=l.findIdx? fun p=>decide (b7 p=n)
def cc (l:List bJ) (n:List UInt8):Int:=match vU l n with
 |some i=>(i:Nat)
 |none=> -1
def cI:List bJ→List UInt8→Option bJ
 | [],_=>none
 |p::l,n=>if b7 p=n then some p else cI l n
theorem Ep (l:List bJ) (n:List UInt8):(vU l n=none∧cI l n=none)∨ ∃(i:Nat) (ay:i < l.length),vU l n=some i∧cI l n=some l[i]∧b7 l[i]=n:=by
 induction l with
 |nil=>exact .inl ⟨rfl,rfl⟩
 |cons p l aY=>
  unfold vU at aY⊢
  rw[List.findIdx?_cons]
  by_cases h:b7 p=n
  ·rw[decide_eq_true h]
   exact .inr ⟨0,Nat.zero_lt_succ _,rfl,(by rw[cI,if_pos h];rfl),h⟩
  ·rw[decide_eq_false h,cI,if_neg h]
   rcases aY with⟨ai,aq⟩ |⟨i,ay,ai,aq,bk⟩
   ·rw[ai];exact .inl ⟨rfl,aq⟩
   ·rw[ai];exact .inr ⟨i+1,Nat.succ_lt_succ ay,rfl,aq,bk⟩
theorem zH {l:List bJ} {n:List UInt8} (h:cc l n < 0):cI l n=none:=by
 unfold cc at h
 rcases Ep l n with⟨_,aq⟩ |⟨i,ay,ai,_⟩
 ·exact aq
 ·rw[ai] at h;simp only at h;omega
theorem zI {l:List bJ} {n:List UInt8} (h: ¬cc l n < 0): ∃(i:Nat) (ay:i < l.length),cc l n=(i:Nat)∧cI l n=some l[i]∧b7 l[i]=n:=by
 unfold cc at h⊢
 rcases Ep l n with⟨ai,aq⟩ |⟨i,ay,ai,aq,bk⟩
 ·rw[ai] at h;simp only at h;omega
 ·exact⟨i,ay,(by rw[ai]),aq,bk⟩
theorem XV {l:List bJ} {n:List UInt8} (h:cI l n=none):cc l n= -1:=by
 unfold cc
 rcases Ep l n with⟨ai,aq⟩ |⟨i,ay,ai,aq,bk⟩
 ·rw[ai]
 ·rw[h] at aq;cases aq
theorem qh {l:List bJ} {n:List UInt8} {d:bJ} (h:cI l n=some d): ∃(i:Nat) (ay:i < l.length),cc l n=(i:Nat)∧l[i]=d∧b7 d=n:=by
 unfold cc
 rcases Ep l n with⟨ai,aq⟩ |⟨i,ay,ai,aq,bk⟩
 ·rw[h] at aq;cases aq
 ·rw[h] at aq
  injection aq with aq
  exact⟨i,ay,(by rw[ai]),aq.symm,aq▸bk⟩
@[reducible] def XW (n:List UInt8) (k:Nat):aQ:=[(1,bN n),(2,aI 2),(5,aD (k:Nat))]
theorem lR (bits room:Int) (l:List bJ) (n:List UInt8) (aB:l.length≤1073741824):Fn Tryz.prog 55 [k8 bits room l,bN n] [] [] (aD (cc l n)) []:=by
 refine Fn.of aj [] _ _ _ _ _ Tryz.func55 rfl rfl (by kernel_rfl) (by kernel_rfl) rfl (aK aj) rfl ?_
 refine⟨rfl,?_⟩
 show aE _ _ _ _ _ _ _
 refine aE.loop aj (aK aj) [] (by kernel_rfl) (X:=Nat) (XW n) (fun _=>[(2,.cells (kA bits room l))]) (fun k=>k≤l.length∧ ∀(i:Nat) x,i < k→l[i]? =some x→b7 x≠n) (fun k=>l.length - k) 0 ⟨Nat.zero_le _,fun i x h=>absurd h (Nat.not_lt_zero _)⟩ ?_ ?_
 ·exact ah.sub ⟨rfl,rfl,rfl,trivial⟩ ⟨rfl,trivial⟩
 rintro k ⟨au,hp⟩
 refine⟨fun h=>?_,fun h=>?_⟩
 ·have bU:k < l.length:=by
   have h:decide ((k:Int) < (l.length:Int))=true:=h
   simpa using h
  refine⟨by omega,l[k],eY (n:=k) bU,?_⟩
  refine⟨fun af=>?_,fun af=>?_⟩
  ·have af:b7 l[k]=n:=of_decide_eq_true af
   refine⟨_,_,_,ah.refl _ _,rfl,(show((k:Nat):Int)=cc l n from ?_),trivial,rfl⟩
   have:vU l n=some k:=by
    rw[vU,List.findIdx?_eq_some_iff_getElem]
    refine⟨bU,by simp[af],fun j ak=>?_⟩
    have:=hp j _ ak (List.getElem?_eq_getElem (by omega))
    simpa using this
   rw[cc,this]
  ·have af:b7 l[k]≠n:=of_decide_eq_false af
   refine⟨by omega,k+1,⟨by omega,fun i x ay hx=>?_⟩,by omega,ah.sub ⟨rfl,rfl,rfl,trivial⟩ ⟨rfl,trivial⟩⟩
   rcases Nat.lt_or_ge i k with bE |bE
   ·exact hp i x bE hx
   ·have:i=k:=by omega
    subst this
    rw[List.getElem?_eq_getElem bU] at hx
    injection hx with hx
    rw[←hx];exact af
 ·have e8:k=l.length:=by
   have h:decide ((k:Int) < (l.length:Int))=false:=h
   simp at h;omega
  refine⟨_,_,_,ah.refl _ _,rfl,(show(-1:Int)=cc l n from ?_),trivial,rfl⟩
  have:vU l n=none:=by
   rw[vU,List.findIdx?_eq_none_iff]
   intro x hx
   obtain⟨i,ay,rfl⟩:=List.getElem_of_mem hx
   have:=hp i _ (by omega) (List.getElem?_eq_getElem ay)
   simpa using this
  rw[cc,this]
def g6 (l:List bJ) (n:List UInt8):Option (List UInt8):=match cI l n with
 |some d=>if er d=[] then none else some (er d)
 |none=>none
def lS (l:List bJ):Nat→List UInt8→Nat
 |0,_=>0
 |f+1,n=>match g6 l n with
  |some b=>lS l f b+1
  |none=>0
def jL (l:List bJ) (n:List UInt8):Nat:=lS l 99 n
theorem On (l:List bJ): ∀f n,lS l f n≤f
 |0,_=>Nat.le_refl _
 |f+1,n=>by
  unfold lS
  split
  ·exact Nat.succ_le_succ (On l f _)
  ·exact Nat.zero_le _
@[reducible] def XX (l:List bJ) (j:Nat) (n:List UInt8):aQ:=[(2,aI 2),(5,aD (j:Nat)),(6,aD (cc l n))]
theorem Er (bits room:Int) (l:List bJ) (n:List UInt8) (aB:l.length≤1073741824):Fn Tryz.prog 67 [k8 bits room l,bN n] [] [] (aD (jL l n:Nat)) []:=by
 refine Fn.of aj [] _ _ _ _ _ Tryz.func67 rfl rfl (by kernel_rfl) (by kernel_rfl) rfl (aK aj) rfl ?_
 refine⟨rfl,?_⟩
 refine⟨_,_,_,_,lR bits room l n aB,trivial,rfl,?_⟩
 show aE _ _ _ _ _ _ _
 refine aE.loop aj (aK aj) [] (by kernel_rfl) (X:=Nat×List UInt8) (fun x=>XX l x.1 x.2) (fun _=>[(2,.cells (kA bits room l))]) (fun x=>x.1≤99∧x.1+lS l (99 - x.1) x.2=jL l n) (fun x=>99 - x.1) (0,n) ⟨Nat.zero_le _,Nat.zero_add _⟩ ?_ ?_
 ·exact ah.sub ⟨rfl,rfl,rfl,trivial⟩ ⟨rfl,trivial⟩
 rintro⟨j,nm⟩ ⟨ak,he⟩
 have ak:j≤99:=ak
 have he:j+lS l (99 - j) nm=jL l n:=he
 have stop:(j=99∨g6 l nm=none)→((j:Nat):Int)=((jL l n:Nat):Int):=fun h=>by
  have:lS l (99 - j) nm=0:=by
   rcases h with h |h
   ·rw[h];rfl
   ·cases e:99 - j with
    |zero=>rfl
    |succ f=>rw[lS,h]
  omega
 refine⟨fun aa=>?_,fun aa=>?_⟩
 ·have aa:0≤cc l nm:=of_decide_eq_true aa
  obtain⟨i,ay,ai,aq,bk⟩:=zI (l:=l) (n:=nm) (by omega)
  refine⟨by omega,l[i],(by rw[show(cc l nm).toNat=i by omega];exact eY (n:=i) ay),?_⟩
  refine⟨fun af=>?_,fun af=>?_⟩
  ·have af:(!decide (er l[i]=[]))=true:=af
   have af: ¬er l[i]=[]:=by simpa using af
   have av:g6 l nm=some (er l[i]):=by unfold g6;rw[aq];exact if_neg af
   refine⟨fun aA=>?_,fun aA=>?_⟩
   ·have aA:((j:Nat):Int) < 99:=of_decide_eq_true aA
    refine⟨by omega,?_⟩
    refine⟨by omega,l[i],(by rw[show(cc l nm).toNat=i by omega];exact eY (n:=i) ay),?_⟩
    refine⟨_,_,_,_,lR bits room l (er l[i]) aB,trivial,rfl,?_⟩
    have hf:99 - j=(99 - (j+1))+1:=by omega
    rw[hf,lS,av] at he
    have he:j+(lS l (99 - (j+1)) (er l[i])+1)=jL l n:=he
    refine⟨rfl,?_⟩
    exact⟨(j+1,er l[i]),⟨by show j+1≤99;omega,by show j+1+lS l (99 - (j+1)) (er l[i])=jL l n;omega⟩,by show 99 - (j+1) < 99 - j;omega,ah.sub ⟨rfl,rfl,rfl,trivial⟩ ⟨rfl,trivial⟩⟩
   ·have aA: ¬((j:Nat):Int) < 99:=of_decide_eq_false aA
    exact⟨_,_,_,ah.refl _ _,rfl,stop (.inl (by omega)),trivial,rfl⟩
  ·have af:(!decide (er l[i]=[]))=false:=af
   have af:er l[i]=[]:=by simpa using af
   have av:g6 l nm=none:=by unfold g6;rw[aq];exact if_pos af
   exact⟨_,_,_,ah.refl _ _,rfl,stop (.inr av),trivial,rfl⟩
 ·have aa: ¬0≤cc l nm:=of_decide_eq_false aa
  have e:=zH (l:=l) (n:=nm) (by omega)
  have av:g6 l nm=none:=by unfold g6;rw[e]
  exact⟨_,_,_,ah.refl _ _,rfl,stop (.inr av),trivial,rfl⟩
def ng (l:List bJ) (n:List UInt8):List (List UInt8):=(l.filter fun d=> !decide (n=[])&&decide (er d=n)).map b7
theorem XY {l:List bJ} {k:Nat} (h:k < l.length) (n:List UInt8):ng (l.take (k+1)) n=ng (l.take k) n++(match !decide (n=[])&&decide (er l[k]=n) with |true=>[b7 l[k]] |false=>[]):=by
 unfold ng
 rw[List.take_succ_eq_append_getElem h,List.filter_append,List.map_append]
 congr 1
 cases e:(!decide (n=[])&&decide (er l[k]=n)) with
 |true=>rw[List.filter_cons_of_pos (by exact e)];rfl
 |false=>rw[List.filter_cons_of_neg (by rw[e];decide)];rfl
theorem XZ (l:List bJ) (n:List UInt8):(ng l n).length≤l.length:=by
 unfold ng
 rw[List.length_map]
 exact List.length_filter_le _ _
@[reducible] def IZ (n:List UInt8) (d k:Nat):aQ:=[(1,bN n),(2,aI 2),(5,iL d),(6,aD (k:Nat))]
@[reducible] def I0 (bits room:Int) (l:List bJ) (d:Nat) (x:List (List UInt8)):aG:=[(2,.cells (kA bits room l)),(d,.row 9 .str x)]
theorem X0 (bits room:Int) (l:List bJ) (n:List UInt8) (aB:l.length≤1073741824):Fn Tryz.prog 56 [k8 bits room l,bN n] [] [] (cJ .str (ng l n)) []:=by
 refine Fn.of aj [7] _ _ _ _ _ Tryz.func56 rfl rfl (by kernel_rfl) (by kernel_rfl) rfl (aK aj) rfl ?_
 refine⟨rfl,?_⟩
 show aE _ _ _ _ _ _ _
 refine aE.loop aj (aK aj) [7] (by kernel_rfl) (X:=Nat) (fun k=>IZ n 2003 k) (fun k=>I0 bits room l 2003 (ng (l.take k) n)) (fun k=>k≤l.length) (fun k=>l.length - k) 0 (Nat.zero_le _) ?_ ?_
 ·exact ah.trans (ah.nil 5 2003 9 .str rfl rfl) (ah.sub ⟨rfl,rfl,rfl,rfl,trivial⟩ ⟨rfl,rfl,trivial⟩)
 intro k au
 refine⟨fun h=>?_,fun h=>?_⟩
 ·have h:decide ((k:Int) < (l.length:Int))=true:=h
  have bU:k < l.length:=by simpa using h
  have cQ:(ng (l.take k) n).length≤k:=Nat.le_trans (XZ _ _) (by rw[List.length_take];omega)
  have s9:=XY bU n
  refine⟨fun bp=>?_,fun bp=>?_⟩
  ·have bp:(!decide (n=[]))=true:=bp
   refine⟨by omega,l[k],eY (n:=k) bU,?_⟩
   refine⟨fun bq=>?_,fun bq=>?_⟩
   ·have bq:decide (er l[k]=n)=true:=bq
    rw[bp,bq] at s9
    refine⟨by omega,l[k],eY (n:=k) bU,?_⟩
    have ag:(ng (l.take k) n).length+1≤4294967296:=by omega
    refine⟨ag,rfl,?_⟩
    refine⟨by omega,k+1,by omega,by omega,ah.trans (ah.sub (K':=IZ n 34 (k+1)) (B':=I0 bits room l 34 (ng (l.take (k+1)) n)) ⟨rfl,rfl,rfl,rfl,trivial⟩ ⟨rfl,?_,trivial⟩) (ah.ren 34 2003 rfl)⟩
    rw[s9]
    rfl
   ·have bq:decide (er l[k]=n)=false:=bq
    rw[bq,Bool.and_false,List.append_nil] at s9
    refine⟨by omega,k+1,by omega,by omega,ah.sub ⟨rfl,rfl,rfl,rfl,trivial⟩ ⟨rfl,?_,trivial⟩⟩
    rw[s9]
    rfl
  ·have bp:(!decide (n=[]))=false:=bp
   rw[bp,Bool.false_and,List.append_nil] at s9
   refine⟨by omega,k+1,by omega,by omega,ah.sub ⟨rfl,rfl,rfl,rfl,trivial⟩ ⟨rfl,?_,trivial⟩⟩
   rw[s9]
   rfl
 ·have h:decide ((k:Int) < (l.length:Int))=false:=h
  have bU:k=l.length:=by simp at h;omega
  subst bU
  show aE _ _ _ _ _ _ _
  refine aE.go aj (aK aj) [] (by kernel_rfl) (ah.trans (ah.sub (K':=IZ n 2003 l.length) (B':=I0 bits room l 2003 (ng l n)) ⟨rfl,rfl,rfl,rfl,trivial⟩ ⟨rfl,congrArg (fun m=>some (bF.row 9 .str (ng m n))) List.take_length,trivial⟩) (ah.dV 2003 rfl)) ?_
  exact⟨_,_,_,ah.refl _ _,rfl,rfl,trivial,rfl⟩
theorem X3:(Tryz.prog.info? 124).map (·.size)=some 7:=by kernel_rfl
theorem X4 (d:bJ):nt uD d:=⟨trivial,trivial,trivial,trivial,trivial,trivial,trivial⟩
theorem Oo (bits room:Int) (l:List bJ) {k:Nat} (aB:l.length≤1073741824) (au:k < l.length) (d:bJ):Fn Tryz.prog 96 [k8 bits room l,aD (k:Int),Om d] [] [] (k8 bits room (l.set k d)) []:=by
 refine Fn.of aj [3] _ _ _ _ _ Tryz.func96 rfl rfl (by kernel_rfl) (by kernel_rfl) rfl (aK aj) rfl ?_
 refine⟨rfl,?_⟩
 refine⟨rfl,?_⟩
 refine⟨rfl,?_⟩
 have aa:(0:Nat)+l.length≤4294967296:=by omega
 refine⟨rfl,aa,rfl,?_⟩
 have af:0≤(k:Int)∧(k:Int) < ((l.length:Nat):Int):=by omega
 refine⟨af,?_⟩
 obtain⟨inf,pX,nc⟩:=m0 X3
 refine⟨_,_,fun N=>N7 (u:=uD) (y:=d) rfl pX nc rfl rfl rfl (by show k < l.length;exact au) (X4 d) N,rfl,?_⟩
 show aE _ _ _ _ _ _ _
 refine aE.go aj (aK aj) [] (by kernel_rfl) (ah.dV 11 rfl) ?_
 exact⟨_,_,_,ah.refl _ _,rfl,⟨rfl,rfl,rfl,trivial⟩,trivial,rfl⟩
def eE (l:List bJ) (d:bJ):Nat→List bJ×Bool
 |0=>([],false)
 |k+1=>match l[k]? with
  |none=>eE l d k
  |some x=>if(eE l d k).2=false∧b7 d < b7 x then((eE l d k).1++[d]++[x],true) else((eE l d k).1++[x],(eE l d k).2)
def vV (l:List bJ) (d:bJ):List bJ:=if(eE l d l.length).2=true then(eE l d l.length).1 else(eE l d l.length).1++[d]
theorem Oq (l:List bJ) (d:bJ): ∀k,(eE l d k).1.length+(match(eE l d k).2 with |true=>0 |false=>1)≤k+1
 |0=>Nat.le_refl _
 |k+1=>by
  have aY:=Oq l d k
  unfold eE
  split
  ·exact Nat.le_succ_of_le aY
  ·split
   ·rename_i h
    rw[h.1] at aY
    simp only[List.length_append,List.length_cons,List.length_nil] at aY⊢
    omega
   ·simp only[List.length_append,List.length_cons,List.length_nil]
    split <;>rename_i e <;>rw[e] at aY <;>simp only at aY <;>omega
@[reducible] def Es (l:List bJ) (o:Nat) (zm:Bool) (k:Nat):aQ:=[(0,cJ uD l),(3,aI 3),(5,iL o),(6,g9 zm),(7,aD (k:Nat))]
@[reducible] def Et (d:bJ) (o:Nat) (x:List bJ):aG:=[(3,.cells (IY d)),(o,.row 124 uD x)]
set_option maxHeartbeats 1000000 in
theorem Ot (l:List bJ) (d:bJ) (aB:l.length≤1073741824):Fn Tryz.prog 95 [cJ uD l,Om d] [] [] (cJ uD (vV l d)) []:=by
 refine Fn.of aj [10,12] _ _ _ _ _ Tryz.func95 rfl rfl (by kernel_rfl) (by kernel_rfl) rfl (aK aj) rfl ?_
 refine⟨rfl,?_⟩
 show aE _ _ _ _ _ _ _
 refine aE.loop aj (aK aj) [10,12] (by kernel_rfl) (X:=Nat) (fun k=>Es l 2003 (eE l d k).2 k) (fun k=>Et d 2003 (eE l d k).1) (fun k=>k≤l.length) (fun k=>l.length - k) 0 (Nat.zero_le _) ?_ ?_
 ·exact ah.trans (ah.nil 5 2003 124 uD rfl rfl) (ah.sub ⟨rfl,rfl,rfl,rfl,rfl,trivial⟩ ⟨rfl,rfl,trivial⟩)
 intro k au
 have Nk:=Oq l d k
 have rq:(eE l d k).1.length≤k+1:=by omega
 refine⟨fun h=>?_,fun h=>?_⟩
 ·have h:decide ((k:Int) < (l.length:Int))=true:=h
  have bU:k < l.length:=by simpa using h
  have e:eE l d (k+1)=if(eE l d k).2=false∧b7 d < b7 l[k] then((eE l d k).1++[d]++[l[k]],true) else((eE l d k).1++[l[k]],(eE l d k).2):=by
   rw[eE,List.getElem?_eq_getElem bU]
  have eP:=eY (n:=k) bU
  generalize hx:l[k]=x at*
  refine⟨fun bp=>?_,fun bp=>?_⟩
  ·have bp:(!(eE l d k).2)=true:=bp
   have bp:(eE l d k).2=false:=by simpa using bp
   refine⟨by omega,x,eP,?_⟩
   refine⟨rfl,fun bq=>?_,fun bq=>?_⟩
   ·have bq:Op.bytesLess (b7 d) (b7 x)=true:=bq
    rw[Go.Proofs.bytesLess_eq] at bq
    have bq:=of_decide_eq_true bq
    rw[if_pos ⟨bp,bq⟩] at e
    have bQ:(eE l d k).1.length+1≤4294967296:=by omega
    refine⟨bQ,rfl,?_⟩
    refine⟨by omega,x,eP,?_⟩
    have cn:((eE l d k).1++[d]).length+1≤4294967296:=by rw[List.length_append];simp only[List.length_cons,List.length_nil];omega
    refine⟨cn,rfl,?_⟩
    refine⟨by omega,k+1,by omega,by omega,ah.trans (ah.sub (K':=Es l 36 (eE l d (k+1)).2 (k+1)) (B':=Et d 36 (eE l d (k+1)).1) ⟨rfl,rfl,rfl,?_,rfl,trivial⟩ ⟨rfl,?_,trivial⟩) (ah.ren 36 2003 rfl)⟩
    ·rw[e];rfl
    ·rw[e];rfl
   ·have bq:Op.bytesLess (b7 d) (b7 x)=false:=bq
    rw[Go.Proofs.bytesLess_eq] at bq
    have bq:=of_decide_eq_false bq
    rw[if_neg (fun q=>bq q.2)] at e
    refine⟨by omega,x,eP,?_⟩
    have bQ:(eE l d k).1.length+1≤4294967296:=by omega
    refine⟨bQ,rfl,?_⟩
    refine⟨by omega,k+1,by omega,by omega,ah.trans (ah.sub (K':=Es l 36 (eE l d (k+1)).2 (k+1)) (B':=Et d 36 (eE l d (k+1)).1) ⟨rfl,rfl,rfl,?_,rfl,trivial⟩ ⟨rfl,?_,trivial⟩) (ah.ren 36 2003 rfl)⟩
    ·rw[e];rfl
    ·rw[e];rfl
  ·have bp:(!(eE l d k).2)=false:=bp
   have bp:(eE l d k).2=true:=by simpa using bp
   rw[if_neg (fun q=>absurd (bp.symm.trans q.1) (by decide))] at e
   refine⟨rfl,?_⟩
   refine⟨by omega,x,eP,?_⟩
   have bQ:(eE l d k).1.length+1≤4294967296:=by omega
   refine⟨bQ,rfl,?_⟩
   refine⟨by omega,k+1,by omega,by omega,ah.trans (ah.sub (K':=Es l 36 (eE l d (k+1)).2 (k+1)) (B':=Et d 36 (eE l d (k+1)).1) ⟨rfl,rfl,rfl,?_,rfl,trivial⟩ ⟨rfl,?_,trivial⟩) (ah.ren 36 2003 rfl)⟩
   ·rw[e];rfl
   ·rw[e];rfl
 ·have h:decide ((k:Int) < (l.length:Int))=false:=h
  have bU:k=l.length:=by simp at h;omega
  subst bU
  unfold vV
  show aE _ _ _ _ _ _ _
  refine aE.go aj (aK aj) [12] (by kernel_rfl) (ah.refl _ _) ?_
  refine⟨fun bp=>?_,fun bp=>?_⟩
  ·have bp:(!(eE l d l.length).2)=true:=bp
   have bp:(eE l d l.length).2=false:=by simpa using bp
   rw[if_neg (fun q=>absurd (bp.symm.trans q) (by decide))]
   have bQ:(eE l d l.length).1.length+1≤4294967296:=by omega
   refine⟨bQ,rfl,?_⟩
   show aE _ _ _ _ _ _ _
   refine aE.go aj (aK aj) [] (by kernel_rfl) (ah.dV 42 rfl) ?_
   exact⟨_,_,_,ah.refl _ _,rfl,rfl,trivial,rfl⟩
  ·have bp:(!(eE l d l.length).2)=false:=bp
   have bp:(eE l d l.length).2=true:=by simpa using bp
   rw[if_pos bp]
   show aE _ _ _ _ _ _ _
   refine aE.go aj (aK aj) [] (by kernel_rfl) (ah.dV 2003 rfl) ?_
   exact⟨_,_,_,ah.refl _ _,rfl,rfl,trivial,rfl⟩
end Go.Proofs.YteoamepgonpdlaaGreat
namespace Go.Proofs.YteoamepgonpdlaaGreat
set_option linter.unusedVariables false
set_option linter.unusedSimpArgs false
set_option maxRecDepth 10000
open Go.RowKit Go.Proofs
section
variable {bits room:Nat} {L:List aH}
def k9 (bits:Nat) (L:List aH) (nm:List UInt8) (k:Int):List UInt8:=match dk L nm with
 |none=>[]
 |some d=>if 0≤k∧k < (d.im.t.length:Nat) then m9 bits L nm (cm L nm) k.toNat else[]
theorem X5 (h:bV bits room L) (nm:List UInt8) (k:Int):Fn Tryz.prog 16 [aI 1001,bN nm,aD k] (bP bits room L) [] (cJ .u8 (k9 bits L nm k)) (bP bits room L):=by
 unfold k9
 cases aC:dk L nm with
 |none=>
  have hx:(cz (aO:=.str) (aV:=.aW) (cq L) nm).getD (dflt .aW)=none:=by rw[iA,aC];rfl
  simp only
  refine Fn.of aj [2,4] _ _ _ _ _ Tryz.func16 rfl rfl (by kernel_rfl) (by kernel_rfl) rfl (aK aj) rfl ?_
  show aE _ _ _ _ _ _ _
  refine aE.go aj (aK aj) [4] (by kernel_rfl) (ah.refl _ _) ?_
  refine⟨fun eX ag=>absurd (show(cz (aO:=.str) (aV:=.aW) (cq L) nm).getD (dflt .aW)=some eX from ag) (by rw[hx];intro h;cases h),fun _=>?_⟩
  exact⟨_,_,_,ah.refl _ _,rfl,rfl,⟨rfl,rfl,rfl,rfl,trivial⟩,rfl⟩
 |some d0=>
  simp only
  split
  ·rename_i au
   have hd:=h.dep nm
   have:=H9 bits room L h.tom8 nm d0 aC (cm L nm) hd.1 (by omega) k.toNat (by omega)
   rwa[show((k.toNat:Nat):Int)=k by omega] at this
  ·rename_i au
   obtain⟨rU,iJ,iK⟩:=m0 vG
   have mE:=h.togF.D (cT aC).1
   have gG:=h.togF.M (cT aC).1
   have hx:(cz (aO:=.str) (aV:=.aW) (cq L) nm).getD (dflt .aW)=some d0.ad:=by rw[iA,aC];rfl
   refine Fn.of aj [2,4] _ _ _ _ _ Tryz.func16 rfl rfl (by kernel_rfl) (by kernel_rfl) rfl (aK aj) rfl ?_
   show aE _ _ _ _ _ _ _
   refine aE.go aj (aK aj) [4] (by kernel_rfl) (ah.refl _ _) ?_
   refine⟨fun eX ag=>?_,fun ag=>absurd (show(cz (aO:=.str) (aV:=.aW) (cq L) nm).getD (dflt .aW)=none from ag) (by rw[hx];intro h;cases h)⟩
   refine⟨fun _=>?_,fun aa=>?_⟩
   ·exact⟨_,_,_,ah.refl _ _,rfl,rfl,⟨rfl,rfl,rfl,rfl,trivial⟩,rfl⟩
   have aa: ¬k < 0:=of_decide_eq_false aa
   refine⟨_,_,fun N=>nS (b:=d0.ad) rfl (by exact oC hx) N,rfl,?_⟩
   refine⟨_,_,fun N=>nT rfl Tryz.underlying130 rfl rfl iJ (by rw[iK];decide) rfl N,rfl,?_⟩
   refine⟨_,_,fun N=>o4 (q:=1003) rfl Tryz.underlying49 rfl rfl rfl mE rfl N,rfl,?_⟩
   refine⟨_,_,_,_,o5 (vv d0.im) gG rfl rfl rfl rfl,⟨rfl,trivial⟩,rfl,?_⟩
   refine⟨fun _=>?_,fun af=>?_⟩
   ·exact⟨_,_,_,ah.refl _ _,rfl,rfl,⟨rfl,rfl,rfl,rfl,trivial⟩,rfl⟩
   ·exfalso
    have af: ¬((d0.im.t.length:Nat):Int)≤k:=of_decide_eq_false af
    omega
def vW (bits:Nat) (L:List aH) (nm:List UInt8) (c:Nat):Nat:=(eZ bits L c (nm::cH L (cm L nm) nm) 0).2
def mK (bits:Nat) (L:List aH) (nm:List UInt8) (n:Nat):List Int:=(List.range n).map fun c=>((vW bits L nm c:Nat):Int)
theorem X6 (bits:Nat) (L:List aH) (nm:List UInt8) (j:Nat):mK bits L nm (j+1)=mK bits L nm j++[((vW bits L nm j:Nat):Int)]:=by
 unfold mK
 rw[List.range_succ,List.map_append]
 rfl
theorem I1 (bits:Nat) (L:List aH) (nm:List UInt8) (j:Nat):(mK bits L nm j).length=j:=by
 unfold mK
 rw[List.length_map,List.length_range]
end
end Go.Proofs.YteoamepgonpdlaaGreat
