/-
Part 14 of the proof that stands in YteoamepgonpdlaaGreatPcRow, with what it needs from the parts ahead; the parts of this text: Qa, Qb, Qc, Qd, Qe, Rw.
-/
import Derived.Test.YteoamepgonpdlaaGreatPc13
set_option linter.unusedVariables false
set_option linter.unusedSimpArgs false
set_option maxRecDepth 10000
namespace Go.Proofs.YteoamepgonpdlaaGreat
open Go.RowKit Go.Proofs
@[reducible] def wG:U:=.pr bt bt
@[reducible] def Cb:U:=.pr .str (.sl wG)
@[reducible] def OT:U:=.pr bt (.pr bt (.pr (.sl wG) (.pr (.sl Cb) (.sl .str))))
abbrev Cell:=aI wG
abbrev c5:=aI OT
@[reducible] def dV (c:Cell):Int:=c.1
@[reducible] def jY (c:Cell):Int:=c.2
@[reducible] def ij (k i:Int):Cell:=(k,i)
@[reducible] def dr (m:c5):Int:=m.1
@[reducible] def kj (m:c5):Int:=m.2.1
@[reducible] def aL (m:c5):List Cell:=m.2.2.1
@[reducible] def mG (m:c5):List (aI Cb):=m.2.2.2.1
@[reducible] def cS (m:c5):List (List UInt8):=m.2.2.2.2
@[reducible] def oB (n r:Int) (cs:List Cell) (mZ:List (aI Cb)) (ds:List (List UInt8)):c5:=(n,r,cs,mZ,ds)
@[reducible] def k9 (m:c5):List bD:=[.d (.int .i64 (dr m)),.d (.int .i64 (kj m)),.d (.cT wG (aL m)),.d (.cT Cb (mG m)),.d (.cT .str (cS m))]
@[reducible] def oC (m:c5):aO:=.c (.agg (k9 m))
structure gM (n:Nat) (m:c5):Prop where
 nm:dr m=(n:Int)
 ee:1≤n
 n8:n≤8
 jF:(aL m).length≤256
 sn:mG m=[]
 dl:(cS m).length≤100000
 wd: ∀x,x∈cS m→x.length=16*n
 qJ: ∀c,c∈aL m→dV c=1→ ∃i:Nat,jY c=(i:Int)∧i < (cS m).length
 Ag:0≤kj m
 r1:kj m≤512
def jG (cs:List Cell) (id:Int):Nat:=(cs.filter fun c=>decide (dV c=1)&&decide (jY c=id)).length
theorem OU {cs:List Cell} {k:Nat} (h:k < cs.length) (id:Int):jG (cs.take (k+1)) id=jG (cs.take k) id+(if dV cs[k]=1∧jY cs[k]=id then 1 else 0):=by
 unfold jG
 rw[List.take_succ_eq_append_getElem h,List.filter_append,List.length_append]
 congr 1
 by_cases aa:dV cs[k]=1 <;>by_cases af:jY cs[k]=id <;>simp[aa,af]
theorem Yu (cs:List Cell) (id:Int):jG cs id≤cs.length:=List.length_filter_le _ _
@[reducible] def Yv (id:Int) (n k:Nat):aQ:=[(1,aC id),(2,aH 2),(5,aC (n:Nat)),(6,aC (k:Nat))]
theorem OV (m:c5) (id:Int) (hc:(aL m).length≤1000000) (hs:mG m=[]):Fn Tryz.prog 150 [oC m,aC id] [] [] (aC (jG (aL m) id:Nat)) []:=by
 refine Fn.of ai [] _ _ _ _ _ Tryz.func150 rfl rfl (by kernel_rfl) (by kernel_rfl) rfl (aJ ai) rfl ?_
 refine⟨rfl,?_⟩
 show av _ _ _ _ _ _ _
 refine av.loop ai (aJ ai) [] (by kernel_rfl) (X:=Nat) (fun k=>Yv id (jG ((aL m).take k) id) k) (fun _=>[(2,.cells (k9 m))]) (fun k=>k≤(aL m).length) (fun k=>(aL m).length - k) 0 (Nat.zero_le _) ?_ ?_
 ·exact ah.sub ⟨rfl,rfl,rfl,rfl,trivial⟩ ⟨rfl,trivial⟩
 intro k aq
 have hr:=Yu ((aL m).take k) id
 rw[List.length_take] at hr
 refine⟨fun h=>?_,fun h=>?_⟩
 ·have h:decide ((k:Int) < ((aL m).length:Nat))=true:=h
  have bP:k < (aL m).length:=by simpa using h
  have sO:=OU bP id
  refine⟨by omega,(aL m)[k],eA (n:=k) bP,?_⟩
  refine⟨fun af=>?_,fun af=>?_⟩
  ·have af:dV (aL m)[k]=1:=of_decide_eq_true af
   refine⟨by omega,(aL m)[k],eA (n:=k) bP,?_⟩
   refine⟨fun ay=>?_,fun ay=>?_⟩
   ·have ay:jY (aL m)[k]=id:=of_decide_eq_true ay
    rw[if_pos ⟨af,ay⟩] at sO
    refine⟨by omega,?_⟩
    refine⟨by omega,k+1,by omega,by omega,ah.sub ⟨rfl,rfl,?_,rfl,trivial⟩ ⟨rfl,trivial⟩⟩
    show((jG ((aL m).take k) id:Nat):Int)+1=((jG ((aL m).take (k+1)) id:Nat):Int)
    omega
   ·have ay: ¬jY (aL m)[k]=id:=of_decide_eq_false ay
    rw[if_neg (fun e=>ay e.2)] at sO
    refine⟨by omega,k+1,by omega,by omega,ah.sub ⟨rfl,rfl,?_,rfl,trivial⟩ ⟨rfl,trivial⟩⟩
    show((jG ((aL m).take k) id:Nat):Int)=((jG ((aL m).take (k+1)) id:Nat):Int)
    omega
  ·have af: ¬dV (aL m)[k]=1:=of_decide_eq_false af
   rw[if_neg (fun e=>af e.1)] at sO
   refine⟨by omega,k+1,by omega,by omega,ah.sub ⟨rfl,rfl,?_,rfl,trivial⟩ ⟨rfl,trivial⟩⟩
   show((jG ((aL m).take k) id:Nat):Int)=((jG ((aL m).take (k+1)) id:Nat):Int)
   omega
 ·have h:decide ((k:Int) < ((aL m).length:Nat))=false:=h
  have bP:k=(aL m).length:=by simp at h;omega
  subst bP
  show av _ _ _ _ _ _ _
  refine av.loop ai (aJ ai) [] (by kernel_rfl) (X:=Unit) (fun _=>[(5,aC (jG (aL m) id:Nat)),(2,aH 2),(7,aC 0)]) (fun _=>[(2,.cells (k9 m))]) (fun _=>True) (fun _=>0) () trivial ?_ ?_
  ·exact ah.sub ⟨congrArg (fun l:List Cell=>((jG l id:Nat):Int)) List.take_length,rfl,rfl,trivial⟩ ⟨rfl,trivial⟩
  rintro⟨⟩ -
  refine⟨fun h=>?_,fun _=>?_⟩
  ·exfalso
   have h:decide ((0:Int) < ((mG m).length:Nat))=true:=h
   rw[hs] at h
   exact absurd h (by decide)
  ·exact⟨_,_,_,ah.refl _ _,rfl,rfl,trivial,rfl⟩
def qb (m:c5):Nat→Nat
 |0=>0
 |k+1=>qb m k+(if jG (aL m) (k:Nat) >0 then 1 else 0)
theorem OW (m:c5): ∀k,qb m k≤k
 |0=>Nat.le_refl _
 |k+1=>by
  have:=OW m k
  unfold qb
  split <;>omega
def Ah (m:c5):Int:=kj m - (qb m (cS m).length:Nat)
@[reducible] def Yw (n:Int) (k:Nat):aQ:=[(1,aH 1),(3,aC n),(4,aC (k:Nat))]
theorem Yx {n:Nat} {m:c5} (h:gM n m):Fn Tryz.prog 140 [oC m] [] [] (aC (Ah m)) []:=by
 have hc:=h.jF
 have hd:=h.dl
 have Ag:=h.Ag
 have r1:=h.r1
 refine Fn.of ai [] _ _ _ _ _ Tryz.func140 rfl rfl (by kernel_rfl) (by kernel_rfl) rfl (aJ ai) rfl ?_
 refine⟨rfl,?_⟩
 show av _ _ _ _ _ _ _
 refine av.loop ai (aJ ai) [] (by kernel_rfl) (X:=Nat) (fun k=>Yw (kj m - (qb m k:Nat)) k) (fun _=>[(1,.cells (k9 m))]) (fun k=>k≤(cS m).length) (fun k=>(cS m).length - k) 0 (Nat.zero_le _) ?_ ?_
 ·refine ah.sub ⟨rfl,?_,rfl,trivial⟩ ⟨rfl,trivial⟩
  show kj m=kj m - ((0:Nat):Int)
  omega
 intro k aq
 have hu:=OW m k
 refine⟨fun aa=>?_,fun aa=>?_⟩
 ·have aa:decide ((k:Int) < ((cS m).length:Nat))=true:=aa
  have bP:k < (cS m).length:=by simpa using aa
  refine⟨_,_,_,_,OV m (k:Nat) (by omega) h.sn,trivial,rfl,?_⟩
  have e:qb m (k+1)=qb m k+(if jG (aL m) (k:Nat) >0 then 1 else 0):=rfl
  refine⟨fun af=>?_,fun af=>?_⟩
  ·have af:(0:Int) < (jG (aL m) (k:Nat):Nat):=of_decide_eq_true af
   rw[if_pos (by omega)] at e
   refine⟨by omega,?_⟩
   refine⟨by omega,k+1,by omega,by omega,ah.sub ⟨rfl,?_,rfl,trivial⟩ ⟨rfl,trivial⟩⟩
   show kj m - (qb m k:Nat) - 1=kj m - (qb m (k+1):Nat)
   omega
  ·have af: ¬(0:Int) < (jG (aL m) (k:Nat):Nat):=of_decide_eq_false af
   rw[if_neg (by omega)] at e
   refine⟨by omega,k+1,by omega,by omega,ah.sub ⟨rfl,?_,rfl,trivial⟩ ⟨rfl,trivial⟩⟩
   show kj m - (qb m k:Nat)=kj m - (qb m (k+1):Nat)
   omega
 ·have aa:decide ((k:Int) < ((cS m).length:Nat))=false:=aa
  have bP:k=(cS m).length:=by simp at aa;omega
  subst bP
  exact⟨_,_,_,ah.refl _ _,rfl,rfl,trivial,rfl⟩
def fY (n c:Nat) (a l:Int):Int:=if l < 0 then 1 else if a < 0 then 121 else if((n*c:Nat):Int) < a then 121 else if((n*c:Nat):Int) - a < l then 121 else 0
theorem Cc {n:Nat} {m:c5} (h:gM n m) (a l:Int):Fn Tryz.prog 97 [oC m,aC a,aC l] [] [] (aC (fY n (aL m).length a l)) []:=by
 have hc:=h.jF
 have hn:=h.n8
 have ag:n*(aL m).length≤8*256:=Nat.mul_le_mul hn hc
 have bx:dr m*((aL m).length:Nat)=((n*(aL m).length:Nat):Int):=by rw[h.nm,Int.natCast_mul]
 unfold fY
 refine Fn.of ai [] _ _ _ _ _ Tryz.func97 rfl rfl (by kernel_rfl) (by kernel_rfl) rfl (aJ ai) rfl ?_
 refine⟨rfl,?_⟩
 have cC: -9223372036854775808≤dr m*((aL m).length:Nat)∧dr m*((aL m).length:Nat)≤9223372036854775807:=by rw[bx];omega
 refine⟨cC,?_⟩
 generalize dr m*((aL m).length:Nat)=N at*
 subst bx
 refine⟨fun aW=>?_,fun aW=>?_⟩
 ·have aW:l < 0:=of_decide_eq_true aW
  rw[if_pos aW]
  exact⟨_,_,_,ah.refl _ _,rfl,rfl,trivial,rfl⟩
 have aW: ¬l < 0:=of_decide_eq_false aW
 rw[if_neg aW]
 refine⟨fun aX=>?_,fun aX=>?_⟩
 ·have aX:a < 0:=of_decide_eq_true aX
  rw[if_pos aX]
  exact⟨_,_,_,ah.refl _ _,rfl,rfl,trivial,rfl⟩
 have aX: ¬a < 0:=of_decide_eq_false aX
 rw[if_neg aX]
 refine⟨fun bT=>?_,fun bT=>?_⟩
 ·have bT:((n*(aL m).length:Nat):Int) < a:=of_decide_eq_true bT
  rw[if_pos bT]
  exact⟨_,_,_,ah.refl _ _,rfl,rfl,trivial,rfl⟩
 have bT: ¬((n*(aL m).length:Nat):Int) < a:=of_decide_eq_false bT
 rw[if_neg bT]
 refine⟨by omega,?_⟩
 refine⟨fun gl=>?_,fun gl=>?_⟩
 ·have gl:((n*(aL m).length:Nat):Int) - a < l:=of_decide_eq_true gl
  rw[if_pos gl]
  exact⟨_,_,_,ah.refl _ _,rfl,rfl,trivial,rfl⟩
 ·have gl: ¬((n*(aL m).length:Nat):Int) - a < l:=of_decide_eq_false gl
  rw[if_neg gl]
  exact⟨_,_,_,ah.refl _ _,rfl,rfl,trivial,rfl⟩
def qK (m:c5) (c:Nat):Bool:=match(aL m)[c]? with
 |some x=>decide (dV x=1)&&decide (((jG (aL m) (jY x):Nat):Int)=1)
 |none=>false
theorem OX {n:Nat} {m:c5} (h:gM n m) {c:Nat} (hc:c < (aL m).length):Fn Tryz.prog 139 [oC m,aC (c:Int)] [] [] (iw (qK m c)) []:=by
 have aB:=h.jF
 have e:qK m c=(decide (dV (aL m)[c]=1)&&decide (((jG (aL m) (jY (aL m)[c]):Nat):Int)=1)):=by
  unfold qK
  rw[List.getElem?_eq_getElem hc]
 rw[e]
 refine Fn.of ai [] _ _ _ _ _ Tryz.func139 rfl rfl (by kernel_rfl) (by kernel_rfl) rfl (aJ ai) rfl ?_
 refine⟨rfl,?_⟩
 refine⟨by omega,(aL m)[c],eA (n:=c) hc,?_⟩
 refine⟨fun af=>?_,fun af=>?_⟩
 ·have af:decide (dV (aL m)[c]=1)=true:=af
  refine⟨by omega,(aL m)[c],eA (n:=c) hc,?_⟩
  refine⟨_,_,_,_,OV m (jY (aL m)[c]) (by omega) h.sn,trivial,rfl,?_⟩
  rw[af,Bool.true_and]
  refine⟨rfl,?_⟩
  exact⟨_,_,_,ah.refl _ _,rfl,rfl,trivial,rfl⟩
 ·have af:decide (dV (aL m)[c]=1)=false:=af
  rw[af,Bool.false_and]
  refine⟨rfl,?_⟩
  exact⟨_,_,_,ah.refl _ _,rfl,rfl,trivial,rfl⟩
def ei (n c a l:Nat):Nat→Nat
 |0=>0
 |k+1=>ei n c a l k+(if a≤c*n+k∧c*n+k < a+l then 1 else 0)
theorem Jr (n c a l:Nat): ∀k,ei n c a l k≤k
 |0=>Nat.le_refl _
 |k+1=>by
  have:=Jr n c a l k
  unfold ei
  split <;>omega
@[reducible] def Yy (a l x s:Nat) (c:Nat):aQ:=[(1,aC (c:Int)),(2,aC (a:Int)),(3,aC (l:Int)),(4,aH 4),(9,aC (x:Nat)),(10,aC (s:Nat))]
theorem Js {n:Nat} {m:c5} (h:gM n m) {c a l:Nat} (hc:c≤256) (ha:a≤100000) (aB:l≤100000):Fn Tryz.prog 138 [oC m,aC (c:Int),aC (a:Int),aC (l:Int)] [] [] (aC (ei n c a l n:Nat)) []:=by
 have hn:=h.n8
 have ag:c*n≤256*8:=Nat.mul_le_mul hc hn
 have bx:(c:Int)*dr m=((c*n:Nat):Int):=by rw[h.nm,Int.natCast_mul]
 have cC: -9223372036854775808≤(c:Int)*dr m∧(c:Int)*dr m≤9223372036854775807:=by rw[bx];omega
 have cR: -9223372036854775808≤(c:Int)*dr m+dr m∧(c:Int)*dr m+dr m≤9223372036854775807:=by rw[bx,h.nm];omega
 refine Fn.of ai [] _ _ _ _ _ Tryz.func138 rfl rfl (by kernel_rfl) (by kernel_rfl) rfl (aJ ai) rfl ?_
 refine⟨rfl,?_⟩
 refine⟨cC,?_⟩
 show av _ _ _ _ _ _ _
 refine av.loop ai (aJ ai) [] (by kernel_rfl) (X:=Nat) (fun k=>Yy a l (ei n c a l k) (c*n+k) c) (fun _=>[(4,.cells (k9 m))]) (fun k=>k≤n) (fun k=>n - k) 0 (Nat.zero_le _) ?_ ?_
 ·exact ah.sub ⟨rfl,rfl,rfl,rfl,rfl,bx,trivial⟩ ⟨rfl,trivial⟩
 intro k aq
 have aD:=Jr n c a l k
 refine⟨cC,cR,?_⟩
 refine⟨fun aa=>?_,fun aa=>?_⟩
 ·have aa:((c*n+k:Nat):Int) < (c:Int)*dr m+dr m:=of_decide_eq_true aa
  rw[bx,h.nm] at aa
  have e:ei n c a l (k+1)=ei n c a l k+(if a≤c*n+k∧c*n+k < a+l then 1 else 0):=rfl
  refine⟨fun af=>?_,fun af=>?_⟩
  ·have af:((a:Nat):Int)≤((c*n+k:Nat):Int):=of_decide_eq_true af
   refine⟨by omega,?_⟩
   refine⟨fun ay=>?_,fun ay=>?_⟩
   ·have ay:((c*n+k:Nat):Int) < ((a:Nat):Int)+((l:Nat):Int):=of_decide_eq_true ay
    rw[if_pos (by omega)] at e
    refine⟨by omega,?_⟩
    refine⟨by omega,k+1,by omega,by omega,ah.sub ⟨rfl,rfl,rfl,rfl,?_,?_,trivial⟩ ⟨rfl,trivial⟩⟩
    ·show((ei n c a l k:Nat):Int)+1=((ei n c a l (k+1):Nat):Int)
     omega
    ·show((c*n+k:Nat):Int)+1=((c*n+(k+1):Nat):Int)
     omega
   ·have ay: ¬((c*n+k:Nat):Int) < ((a:Nat):Int)+((l:Nat):Int):=of_decide_eq_false ay
    rw[if_neg (by omega)] at e
    refine⟨by omega,k+1,by omega,by omega,ah.sub ⟨rfl,rfl,rfl,rfl,?_,?_,trivial⟩ ⟨rfl,trivial⟩⟩
    ·show((ei n c a l k:Nat):Int)=((ei n c a l (k+1):Nat):Int)
     omega
    ·show((c*n+k:Nat):Int)+1=((c*n+(k+1):Nat):Int)
     omega
  ·have af: ¬((a:Nat):Int)≤((c*n+k:Nat):Int):=of_decide_eq_false af
   rw[if_neg (by omega)] at e
   refine⟨by omega,k+1,by omega,by omega,ah.sub ⟨rfl,rfl,rfl,rfl,?_,?_,trivial⟩ ⟨rfl,trivial⟩⟩
   ·show((ei n c a l k:Nat):Int)=((ei n c a l (k+1):Nat):Int)
    omega
   ·show((c*n+k:Nat):Int)+1=((c*n+(k+1):Nat):Int)
    omega
 ·have aa: ¬((c*n+k:Nat):Int) < (c:Int)*dr m+dr m:=of_decide_eq_false aa
  rw[bx,h.nm] at aa
  have bP:k=n:=by omega
  subst bP
  exact⟨_,_,_,ah.refl _ _,rfl,rfl,trivial,rfl⟩
def lX (n:Nat) (m:c5) (c:Nat) (b6:List (List UInt8)):List UInt8:=match(aL m)[c]? with
 |some x=>if dV x=1 then(cS m).getD (jY x).toNat [] else if dV x=0 then(match b6[c]? with
  |some y=>if y.length=16*n then y else List.replicate (16*n) 0
  |none=>List.replicate (16*n) 0) else List.replicate (16*n) 0
 |none=>[]
theorem OY {n:Nat} {m:c5} (h:gM n m) {c:Nat} (hc:c < (aL m).length) (b6:List (List UInt8)) (ag:b6.length≤1000000):Fn Tryz.prog 132 [oC m,aC (c:Int),cI .str b6] [] [] (bG (lX n m c b6)) []:=by
 have aB:=h.jF
 have hn:=h.n8
 have tq:=h.ee
 have wH:=h.nm
 have e:lX n m c b6=if dV (aL m)[c]=1 then(cS m).getD (jY (aL m)[c]).toNat [] else if dV (aL m)[c]=0 then(match b6[c]? with
  |some y=>if y.length=16*n then y else List.replicate (16*n) 0
  |none=>List.replicate (16*n) 0) else List.replicate (16*n) 0:=by
  unfold lX
  rw[List.getElem?_eq_getElem hc]
 rw[e]
 have wI: -9223372036854775808≤16*dr m∧16*dr m≤9223372036854775807:=by omega
 have p6:(16*dr m).toNat=16*n:=by omega
 refine Fn.of ai [] _ _ _ _ _ Tryz.func132 rfl rfl (by kernel_rfl) (by kernel_rfl) rfl (aJ ai) rfl ?_
 refine⟨rfl,?_⟩
 refine⟨by omega,(aL m)[c],eA (n:=c) hc,?_⟩
 refine⟨fun aa=>?_,fun aa=>?_⟩
 ·have aa:dV (aL m)[c]=1:=of_decide_eq_true aa
  rw[if_pos aa]
  obtain⟨i,aD,jH⟩:=h.qJ _ (List.getElem_mem hc) aa
  have yS:(jY (aL m)[c]).toNat=i:=by omega
  refine⟨by omega,(aL m)[c],eA (n:=c) hc,?_⟩
  have Yz:(0:Int)≤(i:Int)∧(i:Int) < (((cS m).length:Nat):Int):=by omega
  refine⟨(show(0:Int)≤jY (aL m)[c] by rw[aD];exact Yz.1),(cS m)[i],(by rw[yS];exact eA (n:=i) jH),?_⟩
  rw[yS,List.getD_eq_getElem?_getD,List.getElem?_eq_getElem jH]
  refine⟨rfl,?_⟩
  exact⟨_,_,_,ah.refl _ _,rfl,rfl,trivial,rfl⟩
 have aa: ¬dV (aL m)[c]=1:=of_decide_eq_false aa
 rw[if_neg aa]
 refine⟨by omega,(aL m)[c],eA (n:=c) hc,?_⟩
 refine⟨fun af=>?_,fun af=>?_⟩
 ·have af:dV (aL m)[c]=0:=of_decide_eq_true af
  rw[if_pos af]
  refine⟨fun ay=>?_,fun ay=>?_⟩
  ·have ay:(c:Int) < ((b6.length:Nat):Int):=of_decide_eq_true ay
   have ay:c < b6.length:=by omega
   rw[List.getElem?_eq_getElem ay]
   simp only
   refine⟨by omega,b6[c],eA (n:=c) ay,?_⟩
   refine⟨wI,?_⟩
   refine⟨rfl,fun bu=>?_,fun bu=>?_⟩
   ·have bu:(((b6[c]).length:Nat):Int)=16*dr m:=of_decide_eq_true bu
    rw[if_pos (by omega)]
    refine⟨by omega,b6[c],eA (n:=c) ay,?_⟩
    exact⟨_,_,_,ah.refl _ _,rfl,rfl,trivial,rfl⟩
   ·have bu: ¬(((b6[c]).length:Nat):Int)=16*dr m:=of_decide_eq_false bu
    rw[if_neg (by omega)]
    refine⟨wI,?_⟩
    refine⟨by omega,rfl,?_⟩
    rw[←p6]
    exact⟨_,_,_,ah.refl _ _,rfl,rfl,trivial,rfl⟩
  ·have ay: ¬(c:Int) < ((b6.length:Nat):Int):=of_decide_eq_false ay
   rw[List.getElem?_eq_none (by omega)]
   simp only
   refine⟨rfl,?_⟩
   refine⟨wI,?_⟩
   refine⟨by omega,rfl,?_⟩
   rw[←p6]
   exact⟨_,_,_,ah.refl _ _,rfl,rfl,trivial,rfl⟩
 ·have af: ¬dV (aL m)[c]=0:=of_decide_eq_false af
  rw[if_neg af]
  refine⟨rfl,?_⟩
  refine⟨wI,?_⟩
  refine⟨by omega,rfl,?_⟩
  rw[←p6]
  exact⟨_,_,_,ah.refl _ _,rfl,rfl,trivial,rfl⟩
end Go.Proofs.YteoamepgonpdlaaGreat
namespace Go.Proofs.YteoamepgonpdlaaGreat
open Go.RowKit Go.Proofs
def ER (n:Nat) (q:bq):bN where
 R:=fun I F w p=>q.n=n∧ ∀x,¬F x
 cy:=fun _ _ _ _ _ _ h _ _ _=>h
section
variable {P:Program} {N:Nat} {ids:List Nat} {K:aQ} {B:aG} {o:Oper}
theorem ah.YA (d m:Nat) {e:Nat} {u:U} {xs:List (aI u)} (hd:ax B d=some (.row e u xs)) (hm:gz ids K B m=true) (bg:d≠m):ah ids K B K ((m,.dep d (ER xs.length))::B):=by
 rintro N C a w ⟨hn,o3,ρ,F,aA,hS⟩
 have cr:=lG hm
 obtain⟨hF,jq,cs,dD,_⟩:=aA.holds d _ hd
 obtain⟨_,A,cap,hv,_⟩:=fF.vJ dD
 have aB:(ρ d).n=xs.length:=by
  unfold bq.hdr at hv
  injection hv
 obtain⟨bR,bz⟩:=aA.make (ch:=.dep d (ER xs.length)) (w':=w) hm (Below.refl _ _) ⟨0,none,0,0⟩ (fun _=>False) (fun _ h=>h.elim) (fun I _ _=>by
  show(ER xs.length (dA ρ m _ d)).R I _ w _
  rw[dP _ _ bg]
  exact⟨aB,fun _ h=>h⟩)
 exact⟨hn,o3,_,_,bR,hS.mono bz fun s c hc=>dP _ _ (fun e=>by subst e;rw[cr.1 s] at hc;cases hc)⟩
theorem YB {tt:cY} (bh:dQ P tt) {T e:TypeId} {te:cB} {x:Operand} {c:Call} {d m n:Nat} (az:o.op= .call c) (fC:c.callee= .builtin .len) (dc:c.args.toList=[x]) (ke:c.argTypes.toList=[T]) (he:elemOf tt T=some (e,te))
  (hx:aU K x= .c (.one (.own d))) (hm:ax B m=some (.dep d (ER n))) (N:Nat):bH P N ids o K B (aC (n:Nat)) ⟨[m],[],[]⟩:=by
 have fT:c.args= #[x]:=Array.toList_inj.1 dc
 have iP:c.argTypes= #[T]:=Array.toList_inj.1 ke
 obtain⟨tj,args,ts⟩:=c
 simp only at fC fT iP
 subst fC fT iP
 have m1:x∈o.op.operands:=by rw[az];simp[Op.operands,Call.operands]
 obtain⟨cc,_⟩:=pK bh he
 refine bH.val fun K' B' g1 g2 C ρ F a w aA hS=>?_
 have aB:(ρ d).n=n:=(aA.holds m _ ((g2 m (by simp)).trans hm)).1
 have eF:a.eval x= .slice (ρ d).A (ρ d).n (ρ d).cap:=hS.own ((g1 x m1).trans hx)
 refine⟨.int .i64 (n:Int),?_,rfl⟩
 simp[execOp,az,eF,aB,resolve,invoke,builtin,Builtin.len_,run_underlying cc,goInt]
end
section
variable {P:Program} {tt:cY} {N:Nat} {ids:List Nat} {K:aQ} {B:aG}
def Jt (P:Program) (tt:cY) (ids:List Nat) (j:Nat) (o:Oper) (K:aQ) (B:aG) (k:aO→fA→Prop):Prop:=match o.dst with
 |some d=>match Nat.beq d j with
  |true=>AL P ids o K B k
  |false=>yT P tt ids o K B k
 |none=>yT P tt ids o K B k
def Ju (P:Program) (tt:cY) (ids:List Nat) (j:Nat) (all:List Oper) (o:Oper) (l:List Oper) (aZ:aQ→aG→Prop) (K:aQ) (B:aG):Prop:=
 match wants all K o.guard with
 |none=>False
 |some false=>match o.dst with
  |some d=>aZ ((d,.undef)::K) B
  |none=>aZ K B
 |some true=>Jt P tt ids j o K B fun v e=>match o.dst with
  |none=>aZ K (fe e.wc B)
  |some d=>match AN (all.length - l.length - 1) l,v with
   |true,.c (.one (.d (.bool b)))=>(b=true→aZ ((d,.c (.one (.d (.lit true))))::K) (fe e.wc B))∧(b=false→aZ ((d,.c (.one (.d (.lit false))))::K) (fe e.wc B))
   |_,v=>aZ ((d,v)::K) (fe e.wc B)
noncomputable def ES (P:Program) (tt:cY) (ids:List Nat) (j:Nat) (all l:List Oper) (K:aQ) (B:aG) (k:aQ→aG→Prop):Prop:=
 List.rec (motive:=fun _=>aQ→aG→Prop) k (fun o l aZ K B=>Ju P tt ids j all o l aZ K B) l K B
theorem YC {j:Nat} {all l:List Oper} {o:Oper} {k:aQ→aG→Prop}:ES P tt ids j all (o::l) K B k=Ju P tt ids j all o l (fun K B=>ES P tt ids j all l K B k) K B:=rfl
theorem YD (bh:dQ P tt) {j:Nat} {o:Oper} {k:aO→fA→Prop} (h:Jt P tt ids j o K B k): ∃v e,k v e∧bH P N ids o K B v e∧ ∀c,c∈e.bA→gz ids K B c=true:=by
 unfold Jt at h
 split at h
 ·split at h
  ·exact Ds h
  ·exact A2 bh h
 ·exact A2 bh h
theorem yw (bh:dQ P tt) (j:Nat) (all:List Oper): ∀(l:List Oper) (K:aQ) (B:aG) (k:aQ→aG→Prop),qs N l=true→ES P tt ids j all l K B k→ ∀(C:Ctx) (a:Act) (w:World),Sat N ids C K B a w→
  ∀(r:Option Nat) (Q:Exit→Act→World→Prop),(∀K' B',k K' B'→ ∀a' w',Sat N ids C K' B' a' w'→Q .normal a' w')→wpListIn (nV r) 0 P all.toArray Q l a w
 | [],K,B,k,_,h,C,a,w,hs,r,Q,aq=>wpListIn_nil (aq K B h a w hs)
 |o::l,K,B,k,hd,h,C,a,w,hs,r,Q,aq=>by
  simp only[qs,Bool.and_eq_true] at hd
  obtain⟨⟨si,dJ⟩,c9⟩:=hd
  have dJ:=Dt dJ
  have bF: ∀d,o.dst=some d→d < N:=fun d e=>by rw[e] at si;simpa[Nat.blt_eq] using si
  have dM:=hs
  obtain⟨_,_,ρ,F,aA,hS⟩:=dM
  rw[YC] at h
  unfold Ju at h
  refine wpListIn_step fun fl vT=>?_
  split at h
  ·exact h.elim
  ·rename_i hw
   rw[if_neg (by rw[vS hw hS];simp)]
   refine⟨fun _ _=>trivial,vT _ _ ?_⟩
   have hu:=hs.undef o.dst bF
   split at h
   ·rename_i d e
    rw[e] at hu⊢
    exact yw bh j all l _ _ k c9 h C _ w hu r Q aq
   ·rename_i e
    rw[e] at hu⊢
    exact yw bh j all l _ _ k c9 h C _ w hu r Q aq
  ·rename_i hw
   rw[if_pos (vS hw hS)]
   obtain⟨v,e,h,aV,hf⟩:=YD bh h
   refine ze dJ (aV K B (fun _ _=>rfl) (fun _ _=>rfl) hf C a w hs bF fl Q fun a' w' eR=>vT _ _ ?_)
   split at h
   ·rename_i ak
    rw[ak] at eR
    exact yw bh j all l _ _ k c9 h C _ w' eR r Q aq
   ·rename_i d ak
    rw[ak] at eR
    split at h
    ·rename_i b bk
     cases b with
     |true=>exact yw bh j all l _ _ k c9 (h.1 rfl) C _ w' eR.lit r Q aq
     |false=>exact yw bh j all l _ _ k c9 (h.2 rfl) C _ w' eR.lit r Q aq
    ·exact yw bh j all l _ _ k c9 h C _ w' eR r Q aq
theorem av.YE (bh:dQ P tt) (j:Nat) {id:Nat} {ops:Array Oper} {Q:oQ→aQ→aG→Prop} (hd:qs N ops.toList=true) (h:ES P tt ids j ops.toList ops.toList K B (fun K B=>Q .gp K B)):av P N ids (.region id ops false) K B Q:=by
 intro r hr C gP bp a w hs
 refine wpIn_region_list ?_
 have:=yw bh j ops.toList ops.toList K B _ hd h C a w hs r gP (fun K' B' aq a' w' dM=>bp .gp K' B' C.ds (fun _=>rfl) aq a' w' dM)
 simpa using this
end
theorem ET {α:Type} {l us:List α} {p:Nat} (h:p+us.length≤l.length) (i:Nat):(l.take p++us++l.drop (p+us.length))[i]? =if p≤i∧i < p+us.length then us[i - p]? else l[i]? :=by
 have aa:(l.take p).length=p:=by rw[List.length_take];omega
 by_cases aW:i < p
 ·rw[if_neg (by omega),List.append_assoc,List.getElem?_append_left (by omega),List.getElem?_take,if_pos aW]
 ·by_cases aX:i < p+us.length
  ·rw[if_pos ⟨by omega,aX⟩,List.append_assoc,List.getElem?_append_right (by omega),aa,List.getElem?_append_left (by omega)]
  ·rw[if_neg (by omega),List.getElem?_append_right (by rw[List.length_append];omega),List.length_append,aa,List.getElem?_drop]
   congr 1
   omega
theorem YF {α:Type} {l us:List α} {p N:Nat} (h:p+us.length≤N) (c4:N≤l.length):(l.take p++us++l.drop (p+us.length)).take N=(l.take N).take p++us++(l.take N).drop (p+us.length):=by
 apply List.ext_getElem?
 intro i
 rw[List.getElem?_take,ET (by omega),ET (by rw[List.length_take];omega),List.getElem?_take]
 by_cases c:i < N
 ·rw[if_pos c,if_pos c]
 ·rw[if_neg c,if_neg c,if_neg (by omega)]
section
variable {P:Program} {ids:List Nat} {K:aQ} {B:aG}
theorem OZ {o:Oper} {T:TypeId} {x v:Operand} {c i:Nat} {e:TypeId} {u:U} {xs:List (aI u)} {y:aI u} {inf:TypeInfo} (az:o.op= .store T x v) (aD:P.info? T=some inf) (aS:inf.size=aM u) (hx:aU K x= .c (.one (.fk c (aM u) i 0)))
  (hv:aU K v= .c (.agg (fH u y 0 (aM u)))) (dy:ax B c=some (.row e u xs)) (Cd:i < xs.length) (hw:nO u y) (N:Nat):
  bH P N ids o K B .undef ⟨[c],[],[(c,some (.row e u (xs.set i y)))]⟩:=by
 have m1:x∈o.op.operands:=by rw[az];simp[Op.operands]
 have m2:v∈o.op.operands:=by rw[az];simp[Op.operands]
 refine bH.jP dy fun K' B' g1 C ρ F a w aA hS gj=>?_
 obtain⟨hF,jq,cs,dD,lH⟩:=aA.holds c _ gj
 have AW:=hS.fk ((g1 x m1).trans hx)
 obtain⟨us,ak,af⟩:=hS.ev ((g1 v m2).trans hv)
 have uX:us.length=aM u:=by rw[bV.length _ _ af,rZ]
 have BG:=y5 hw af
 have rY: ∀z,z∈us→z.oneCell'=true:=fun z aS=>by
  obtain⟨q,bp,rfl⟩:=List.getElem_of_mem aS
  obtain⟨z',mm,qZ⟩:=b7.one u y _ BG q (by omega)
  rw[List.getElem?_eq_getElem bp] at mm
  injection mm with mm
  rw[mm]
  exact qZ
 obtain⟨rV,dD⟩:=dD
 rcases dD with⟨_,aE⟩ |⟨g,cap,cur,nt,_,bk,xm,hm,dH,cc⟩
 ·omega
 ·have AX:g=(ρ c).bI:=jq g (by rw[nt];rfl)
  subst AX
  have hmul:i*aM u+aM u≤xs.length*aM u:=by
   have:=Nat.mul_le_mul_right (aM u) Cd
   rw[Nat.succ_mul] at this
   exact this
  have YG:xs.length*aM u≤cap*aM u:=Nat.mul_le_mul_right _ xm
  have cP:cur.toList.length=cur.size:=by simp
  have uC:w.heap[(ρ c).bI]? =some (.cells (List.toArray cur.toList) e (0,0)):=by simpa using bk
  have nX:i*aM u+us.length≤cur.toList.length:=by simp;omega
  have hex:=y3 (P:=P) (ev:=a.eval) (w:=w) (us:=us) az (by rw[AW,Nat.add_zero]) (by rw[ak];rfl) aD (aS.trans uX.symm) uC nX rY
  refine⟨_,hex,AU ((hF _).2 (by rw[nt];rfl)),fun I he=>?_⟩
  have kz:=setRow_heap w (ρ c).bI cur (List.take (i*aM u) cur.toList++us++List.drop (i*aM u+us.length) cur.toList).toArray e (0,0) bk
  have O0:i*aM u+us.length≤cs.length:=by rw[rV,uX];exact hmul
  refine⟨hF,jq,cs.take (i*aM u)++us++cs.drop (i*aM u+us.length),⟨by rw[List.length_append,List.length_append,List.length_take,List.length_drop,List.length_set];omega,.inr ⟨(ρ c).bI,cap,_,by rw[nt];simp,Nat.zero_le _,kz,by simpa using xm,hm,by simp;omega,?_⟩⟩,fun j z aS=>?_⟩
  ·rw[List.length_set]
   have:=YF (l:=cur.toList) (us:=us) (p:=i*aM u) (N:=xs.length*aM u) (by omega) (by simp;omega)
   rw[←cc]
   simpa using this
  ·by_cases mO:i=j
   ·subst mO
    rw[List.getElem?_set_self Cd] at aS
    injection aS with aS
    subst aS
    refine b7.mk u y _ hw fun q bp=>?_
    obtain⟨z,aS,q8⟩:=b7.cell u y _ q BG bp
    refine⟨z,?_,Den.mono he _ _ q8⟩
    rw[ET O0,if_pos ⟨by omega,by omega⟩,show i*aM u+q - i*aM u=q by omega]
    exact aS
   ·rw[List.getElem?_set_ne mO] at aS
    have hd:=lH j z aS
    refine b7.mk u z _ (b7.wf u z _ hd) fun q bp=>?_
    obtain⟨x,hx,s9⟩:=b7.cell u z _ q hd bp
    refine⟨x,?_,Den.mono he _ _ s9⟩
    rw[ET O0,if_neg ?_]
    ·exact hx
    ·rintro⟨cj,cu⟩
     rw[uX] at cu
     rcases Nat.lt_or_gt_of_ne mO with bF |uC
     ·have:=Nat.mul_le_mul_right (aM u) (show i+1≤j by omega)
      rw[Nat.succ_mul] at this
      omega
     ·have:=Nat.mul_le_mul_right (aM u) (show j+1≤i by omega)
      rw[Nat.succ_mul] at this
      omega
end
def qL (n c a:Nat) (x b:List UInt8) (k:Nat):List UInt8:=
 if a≤c*n+k∧16*(c*n+k - a)+16≤b.length then(b.take (16*(c*n+k - a)+16)).drop (16*(c*n+k - a)) else(x.take (16*k+16)).drop (16*k)
def m4 (n c a:Nat) (x b:List UInt8):Nat→List UInt8
 |0=>[]
 |k+1=>m4 n c a x b k++qL n c a x b k
theorem EU {n c a:Nat} {x b:List UInt8} {k:Nat} (hx:16*k+16≤x.length):(qL n c a x b k).length=16:=by
 unfold qL
 split
 ·rw[List.length_drop,List.length_take];omega
 ·rw[List.length_drop,List.length_take];omega
theorem Ce {n c a:Nat} {x b:List UInt8}: ∀k,16*k≤x.length→(m4 n c a x b k).length=16*k
 |0,_=>rfl
 |k+1,h=>by
  rw[m4,List.length_append,Ce k (by omega),EU (by omega)]
  omega
@[reducible] def YH (c a:Nat) (x b acc:List UInt8) (k:Nat):aQ:=[(1,bG x),(2,aC (c:Int)),(3,aC (a:Int)),(4,bG b),(5,aH 5),(11,bG acc),(12,aC (k:Nat))]
theorem YI {n:Nat} {m:c5} (h:gM n m) {c a:Nat} {x b:List UInt8} (hc:c≤256) (ha:a≤100000) (hx:x.length=16*n) (ag:b.length≤1000000):Fn Tryz.prog 143 [oC m,bG x,aC (c:Int),aC (a:Int),bG b] [] [] (bG (m4 n c a x b n)) []:=by
 have hn:=h.n8
 have wH:=h.nm
 have nu:c*n≤256*8:=Nat.mul_le_mul hc hn
 have bx:(c:Int)*dr m=((c*n:Nat):Int):=by rw[h.nm,Int.natCast_mul]
 have cC: -9223372036854775808≤(c:Int)*dr m∧(c:Int)*dr m≤9223372036854775807:=by rw[bx];omega
 refine Fn.of ai [] _ _ _ _ _ Tryz.func143 rfl rfl (by kernel_rfl) (by kernel_rfl) rfl (aJ ai) rfl ?_
 refine⟨rfl,?_⟩
 show av _ _ _ _ _ _ _
 refine av.loop ai (aJ ai) [] (by kernel_rfl) (X:=Nat) (fun k=>YH c a x b (m4 n c a x b k) k) (fun _=>[(5,.cells (k9 m))]) (fun k=>k≤n) (fun k=>n - k) 0 (Nat.zero_le _) ?_ ?_
 ·exact ah.sub ⟨rfl,rfl,rfl,rfl,rfl,rfl,rfl,trivial⟩ ⟨rfl,trivial⟩
 intro k aq
 refine⟨fun aa=>?_,fun aa=>?_⟩
 ·have aa:((k:Nat):Int) < dr m:=of_decide_eq_true aa
  have bP:k < n:=by omega
  have hlen:=Ce (n:=n) (c:=c) (a:=a) (x:=x) (b:=b) k (by omega)
  have e:m4 n c a x b (k+1)=m4 n c a x b k++qL n c a x b k:=rfl
  have cR: -9223372036854775808≤(c:Int)*dr m+(k:Nat)∧(c:Int)*dr m+(k:Nat)≤9223372036854775807:=by rw[bx];omega
  have fo: -9223372036854775808≤(c:Int)*dr m+(k:Nat) - (a:Nat)∧(c:Int)*dr m+(k:Nat) - (a:Nat)≤9223372036854775807:=by rw[bx];omega
  refine⟨cC,cR,fo,?_⟩
  have bf:(c:Int)*dr m+(k:Nat) - (a:Nat)=((c*n+k:Nat):Int) - (a:Nat):=by rw[bx];omega
  rw[bf]
  refine⟨fun af=>?_,fun af=>?_⟩
  ·have af:0≤((c*n+k:Nat):Int) - (a:Nat):=of_decide_eq_true af
   obtain⟨s,hs⟩: ∃s:Nat,s=c*n+k - a:=⟨_,rfl⟩
   have es:((c*n+k:Nat):Int) - (a:Nat)=(s:Int):=by omega
   rw[es]
   refine⟨by omega,by omega,?_⟩
   refine⟨fun ay=>?_,fun ay=>?_⟩
   ·have ay:16*(s:Int)+16≤((b.length:Nat):Int):=of_decide_eq_true ay
    have yx:qL n c a x b k=(b.take (16*s+16)).drop (16*s):=by
     unfold qL
     rw[←hs,if_pos ⟨by omega,by omega⟩]
    have O1:qL n c a x b k=(b.take (16*(s:Int)+16).toNat).drop (16*(s:Int)).toNat:=by rw[yx,show(16*(s:Int)+16).toNat=16*s+16 by omega,show(16*(s:Int)).toNat=16*s by omega]
    have el:=EU (n:=n) (c:=c) (a:=a) (x:=x) (b:=b) (k:=k) (by omega)
    rw[O1] at el
    refine⟨by omega,by omega,by omega,by omega,?_⟩
    have eY:(m4 n c a x b k).length+((b.take (16*(s:Int)+16).toNat).drop (16*(s:Int)).toNat).length≤4294967296:=by omega
    refine⟨eY,?_⟩
    refine⟨by omega,k+1,by omega,by omega,ah.sub ⟨rfl,rfl,rfl,rfl,rfl,?_,rfl,trivial⟩ ⟨rfl,trivial⟩⟩
    rw[e,O1]
    rfl
   ·have ay: ¬16*(s:Int)+16≤((b.length:Nat):Int):=of_decide_eq_false ay
    have yx:qL n c a x b k=(x.take (16*(k:Int)+16).toNat).drop (16*(k:Int)).toNat:=by
     unfold qL
     rw[←hs,if_neg (by omega),show(16*(k:Int)+16).toNat=16*k+16 by omega,show(16*(k:Int)).toNat=16*k by omega]
    have el:=EU (n:=n) (c:=c) (a:=a) (x:=x) (b:=b) (k:=k) (by omega)
    rw[yx] at el
    refine⟨by omega,by omega,by omega,by omega,?_⟩
    have eY:(m4 n c a x b k).length+((x.take (16*(k:Int)+16).toNat).drop (16*(k:Int)).toNat).length≤4294967296:=by omega
    refine⟨eY,?_⟩
    refine⟨by omega,k+1,by omega,by omega,ah.sub ⟨rfl,rfl,rfl,rfl,rfl,?_,rfl,trivial⟩ ⟨rfl,trivial⟩⟩
    rw[e,yx]
    rfl
  ·have af: ¬0≤((c*n+k:Nat):Int) - (a:Nat):=of_decide_eq_false af
   have yx:qL n c a x b k=(x.take (16*(k:Int)+16).toNat).drop (16*(k:Int)).toNat:=by
    unfold qL
    rw[if_neg (by omega),show(16*(k:Int)+16).toNat=16*k+16 by omega,show(16*(k:Int)).toNat=16*k by omega]
   have el:=EU (n:=n) (c:=c) (a:=a) (x:=x) (b:=b) (k:=k) (by omega)
   rw[yx] at el
   refine⟨by omega,by omega,by omega,by omega,?_⟩
   have eY:(m4 n c a x b k).length+((x.take (16*(k:Int)+16).toNat).drop (16*(k:Int)).toNat).length≤4294967296:=by omega
   refine⟨eY,?_⟩
   refine⟨by omega,k+1,by omega,by omega,ah.sub ⟨rfl,rfl,rfl,rfl,rfl,?_,rfl,trivial⟩ ⟨rfl,trivial⟩⟩
   rw[e,yx]
   rfl
 ·have aa: ¬((k:Nat):Int) < dr m:=of_decide_eq_false aa
  have bP:k=n:=by omega
  subst bP
  exact⟨_,_,_,ah.refl _ _,rfl,rfl,trivial,rfl⟩
@[reducible] def qc (m:c5) (c:Nat) (x:Cell):c5:=oB (dr m) (kj m) ((aL m).set c x) (mG m) (cS m)
theorem YJ:(Tryz.prog.info? 148).map (·.size)=some 2:=by kernel_rfl
theorem Jv (m:c5) {c:Nat} (aB:(aL m).length≤1000000) (hc:c < (aL m).length) (x:Cell):Fn Tryz.prog 141 [oC m,aC (c:Int),.c (.agg [.d (.int .i64 (dV x)),.d (.int .i64 (jY x))])] [] [] (.c (.agg (k9 (qc m c x)))) []:=by
 refine Fn.of ai [3] _ _ _ _ _ Tryz.func141 rfl rfl (by kernel_rfl) (by kernel_rfl) rfl (aJ ai) rfl ?_
 refine⟨rfl,?_⟩
 refine⟨rfl,?_⟩
 refine⟨rfl,?_⟩
 have aa:(0:Nat)+(aL m).length≤4294967296:=by omega
 refine⟨rfl,aa,rfl,?_⟩
 have af:0≤(c:Int)∧(c:Int) < (((aL m).length:Nat):Int):=by omega
 refine⟨af,?_⟩
 obtain⟨inf,mS,jH⟩:=nC YJ
 refine⟨_,_,fun N=>OZ (u:=wG) (y:=x) rfl mS jH rfl rfl rfl (by show c < (aL m).length;exact hc) ⟨trivial,trivial⟩ N,rfl,?_⟩
 show av _ _ _ _ _ _ _
 refine av.go ai (aJ ai) [] (by kernel_rfl) (ah.dU 11 rfl) ?_
 exact⟨_,_,_,ah.refl _ _,rfl,⟨rfl,rfl,rfl,rfl,rfl,trivial⟩,trivial,rfl⟩
def kn (m:c5) (c:Nat) (x:List UInt8):c5:=match qK m c with
 |true=>oB (dr m) (kj m) (aL m) (mG m) ((cS m).set (jY ((aL m).getD c (ij 0 0))).toNat x)
 |false=>qc (oB (dr m) (kj m) (aL m) (mG m) (cS m++[x])) c (ij 1 ((cS m).length:Nat))
theorem YK {n:Nat} {m:c5} (h:gM n m) {c:Nat} (hc:c < (aL m).length) (x:List UInt8):Fn Tryz.prog 142 [oC m,aC (c:Int),bG x] [] [] (.c (.agg (k9 (kn m c x)))) []:=by
 have aB:=h.jF
 have hd:=h.dl
 unfold kn
 refine Fn.of ai [4,6,7] _ _ _ _ _ Tryz.func142 rfl rfl (by kernel_rfl) (by kernel_rfl) rfl (aJ ai) rfl ?_
 refine⟨rfl,?_⟩
 refine⟨rfl,?_⟩
 have aa:(0:Nat)+(cS m).length≤4294967296:=by omega
 refine⟨rfl,aa,rfl,?_⟩
 refine⟨_,_,_,_,OX h hc,trivial,rfl,?_⟩
 cases aj:qK m c with
 |true=>
  refine⟨fun _=>?_,fun h=>absurd h (by decide)⟩
  have aq:dV (aL m)[c]=1:=by
   unfold qK at aj
   rw[List.getElem?_eq_getElem hc] at aj
   simp only[Bool.and_eq_true,decide_eq_true_eq] at aj
   exact aj.1
  obtain⟨i,aD,jH⟩:=h.qJ _ (List.getElem_mem hc) aq
  refine⟨by omega,(aL m)[c],eA (n:=c) hc,?_⟩
  have YL:(0:Int)≤jY (aL m)[c]∧jY (aL m)[c] < (((cS m).length:Nat):Int):=by rw[aD];omega
  refine⟨YL,?_⟩
  refine⟨⟨trivial,(show(jY (aL m)[c]).toNat < (cS m).length by rw[aD,Int.toNat_natCast];exact jH)⟩,?_⟩
  have YM:(aL m).getD c (ij 0 0)=(aL m)[c]:=by rw[List.getD_eq_getElem?_getD,List.getElem?_eq_getElem hc];rfl
  rw[YM]
  show av _ _ _ _ _ _ _
  refine av.go ai (aJ ai) [] (by kernel_rfl) (ah.dU 11 rfl) ?_
  exact⟨_,_,_,ah.refl _ _,rfl,⟨rfl,rfl,rfl,rfl,rfl,trivial⟩,trivial,rfl⟩
 |false=>
  refine⟨fun h=>absurd h (by decide),fun _=>?_⟩
  show av _ _ _ _ _ _ _
  refine av.go ai (aJ ai) [7] (by kernel_rfl) (ah.YA 11 9001 rfl rfl (by decide)) ?_
  have af:(cS m).length+1≤4294967296:=by omega
  refine⟨af,rfl,?_⟩
  show av _ _ _ _ _ _ _
  refine av.le (ah.dU 30 rfl) ?_
  refine av.YE ai 35 (by kernel_rfl) ?_
  refine⟨_,_,fun N=>YB (m:=9001) (n:=(cS m).length) ai rfl rfl rfl rfl rfl rfl rfl N,rfl,?_⟩
  refine⟨_,_,_,_,Jv (oB (dr m) (kj m) (aL m) (mG m) (cS m++[x])) (by show(aL m).length≤1000000;omega) hc (ij 1 ((cS m).length:Nat)),trivial,rfl,?_⟩
  exact⟨_,_,_,ah.refl _ _,rfl,⟨rfl,rfl,rfl,rfl,rfl,trivial⟩,trivial,rfl⟩
end Go.Proofs.YteoamepgonpdlaaGreat
namespace Go.Proofs.YteoamepgonpdlaaGreat
open Go.RowKit Go.Proofs
theorem gM.set {n:Nat} {m:c5} (h:gM n m) (c:Nat) {k:Int} (aq:k≠1):gM n (qc m c (ij k 0)) where
 nm:=h.nm
 ee:=h.ee
 n8:=h.n8
 jF:=by show((aL m).set c _).length≤256;rw[List.length_set];exact h.jF
 sn:=h.sn
 dl:=h.dl
 wd:=h.wd
 qJ:=fun x hx za=>by
  rcases List.mem_or_eq_of_mem_set hx with hx |hx
  ·exact h.qJ x hx za
  ·subst hx;exact absurd za aq
 Ag:=h.Ag
 r1:=h.r1
theorem Jw (m:c5) (c:Nat) (x:List UInt8):(aL (kn m c x)).length=(aL m).length:=by
 unfold kn
 split
 ·rfl
 ·show((aL m).set c _).length=_
  rw[List.length_set]
theorem O2 (m:c5) (c:Nat) (x:List UInt8):(cS (kn m c x)).length≤(cS m).length+1:=by
 unfold kn
 split
 ·show((cS m).set _ _).length≤_
  rw[List.length_set];omega
 ·show(cS m++[x]).length≤_
  rw[List.length_append];exact Nat.le_refl _
theorem gM.put {n:Nat} {m:c5} (h:gM n m) (c:Nat) {x:List UInt8} (hx:x.length=16*n) (hd:(cS m).length+1≤100000):gM n (kn m c x) where
 nm:=by unfold kn;split <;>exact h.nm
 ee:=h.ee
 n8:=h.n8
 jF:=by rw[Jw];exact h.jF
 sn:=by unfold kn;split <;>exact h.sn
 dl:=Nat.le_trans (O2 m c x) hd
 wd:=fun y aF=>by
  unfold kn at aF
  split at aF
  ·rcases List.mem_or_eq_of_mem_set (show y∈(cS m).set _ x from aF) with aF |aF
   ·exact h.wd y aF
   ·subst aF;exact hx
  ·rcases List.mem_append.1 (show y∈cS m++[x] from aF) with aF |aF
   ·exact h.wd y aF
   ·rw[List.mem_singleton] at aF;subst aF;exact hx
 qJ:=fun y aF aq=>by
  unfold kn at aF⊢
  split at aF
  ·obtain⟨i,aj,ak⟩:=h.qJ y aF aq
   exact⟨i,aj,by show i < ((cS m).set _ x).length;rw[List.length_set];exact ak⟩
  ·have bf:(cS m++[x]).length=(cS m).length+1:=by rw[List.length_append];rfl
   rcases List.mem_or_eq_of_mem_set (show y∈(aL m).set c _ from aF) with aF |aF
   ·obtain⟨i,aj,ak⟩:=h.qJ y aF aq
    exact⟨i,aj,by show i < (cS m++[x]).length;omega⟩
   ·subst aF
    exact⟨(cS m).length,rfl,by show(cS m).length < (cS m++[x]).length;omega⟩
 Ag:=by unfold kn;split <;>exact h.Ag
 r1:=by unfold kn;split <;>exact h.r1
theorem yy {n:Nat} {m:c5} (h:gM n m) {c:Nat} (hc:c < (aL m).length) (b6:List (List UInt8)):(lX n m c b6).length=16*n:=by
 unfold lX
 rw[List.getElem?_eq_getElem hc]
 simp only
 split
 ·rename_i aa
  obtain⟨i,aj,ak⟩:=h.qJ _ (List.getElem_mem hc) aa
  rw[show(jY (aL m)[c]).toNat=i by omega,List.getD_eq_getElem?_getD,List.getElem?_eq_getElem ak]
  exact h.wd _ (List.getElem_mem ak)
 ·split
  ·split
   ·split
    ·assumption
    ·exact List.length_replicate
   ·exact List.length_replicate
  ·exact List.length_replicate
def oD (bits size room:Int):c5:=match jf bits size room with
 |true=>oB ((2 ^bits.toNat:Nat):Int) room (List.replicate size.toNat (ij 0 0)) [] []
 |false=>oB 0 0 [] [] []
theorem YN {bits size room:Int} (h:jf bits size room=true):gM (2 ^bits.toNat) (oD bits size room):=by
 obtain⟨⟨cj,cu⟩,⟨a3,a4⟩,a5,g5⟩:=EO h
 have ag:bits.toNat≤3:=by omega
 have kL:2 ^bits.toNat≤2 ^3:=Nat.pow_le_pow_right (by omega) ag
 have aa:1≤2 ^bits.toNat:=Nat.one_le_two_pow
 unfold oD
 rw[h]
 exact⟨rfl,aa,kL,(by show(List.replicate _ _).length≤256;rw[List.length_replicate];omega),rfl,Nat.zero_le _,fun x hx=>absurd hx (List.not_mem_nil),fun x hx aq=>by
  have:=(List.mem_replicate.1 (show x∈List.replicate size.toNat (ij 0 0) from hx)).2
  subst this
  exact absurd aq (by decide),a3,a4⟩
def wJ (n:Nat) (m:c5) (s:Nat):List UInt8:=((lX n m (s/n) []).take (16*(s % n)+16)).drop (16*(s % n))
def qM (n:Nat) (m:c5) (a:Nat):Nat→List UInt8
 |0=>[]
 |k+1=>qM n m a k++wJ n m (a+k)
theorem O3 {n:Nat} {m:c5} (h:gM n m) {s:Nat} (hs:s < n*(aL m).length):(wJ n m s).length=16:=by
 have aa:=h.ee
 have hc:s/n < (aL m).length:=Nat.div_lt_of_lt_mul hs
 have hr:s % n < n:=Nat.mod_lt _ (by omega)
 unfold wJ
 rw[List.length_drop,List.length_take,yy h hc]
 omega
theorem Jx {n:Nat} {m:c5} (h:gM n m) {a:Nat}: ∀k,a+k≤n*(aL m).length→(qM n m a k).length=16*k
 |0,_=>rfl
 |k+1,aq=>by
  rw[qM,List.length_append,Jx h k (by omega),O3 h (by omega)]
  omega
def Ai (n:Nat) (m:c5) (a l:Int):List UInt8×Int:=if fY n (aL m).length a l=0 then(qM n m a.toNat l.toNat,0) else([],fY n (aL m).length a l)
theorem vr {n c:Nat} {a l:Int} (h:fY n c a l=0):0≤l∧0≤a∧a+l≤((n*c:Nat):Int):=by
 unfold fY at h
 generalize((n*c:Nat):Int)=N at*
 split at h
 ·cases h
 ·split at h
  ·cases h
  ·split at h
   ·cases h
   ·split at h
    ·cases h
    ·omega
@[reducible] def O4 (a l e:Int) (x:List UInt8) (s:Int):aQ:=[(1,aC a),(2,aC l),(3,aH 3),(8,.c (fh e)),(9,bG x),(10,aC s)]
set_option maxHeartbeats 1000000 in
theorem YO {n:Nat} {m:c5} (h:gM n m) (a l:Int):Fn Tryz.prog 107 [oC m,aC a,aC l] [] [] (.c6 [.one (.d (.str (Ai n m a l).1)),fh (Ai n m a l).2]) []:=by
 have hn:=h.n8
 have tq:=h.ee
 have hc:=h.jF
 have ag:n*(aL m).length≤8*256:=Nat.mul_le_mul hn hc
 unfold Ai
 refine Fn.of ai [] _ _ _ _ _ Tryz.func107 rfl rfl (by kernel_rfl) (by kernel_rfl) rfl (aJ ai) rfl ?_
 refine⟨rfl,?_⟩
 refine⟨_,_,_,_,Cc h a l,trivial,rfl,?_⟩
 show av _ _ _ _ _ _ _
 by_cases he:fY n (aL m).length a l=0
 ·rw[if_pos he]
  obtain⟨b1,b2,b3⟩:=vr he
  refine av.loop ai (aJ ai) [] (by kernel_rfl) (X:=Nat) (fun k=>O4 a l (fY n (aL m).length a l) (qM n m a.toNat k) (a+(k:Nat))) (fun _=>[(3,.cells (k9 m))]) (fun k=>(k:Int)≤l) (fun k=>l.toNat - k) 0 b1 ?_ ?_
  ·refine ah.sub ⟨rfl,rfl,rfl,rfl,rfl,?_,trivial⟩ ⟨rfl,trivial⟩
   show a=a+((0:Nat):Int)
   omega
  intro k aq
  refine⟨fun _=>?_,fun aE=>absurd he (of_decide_eq_false aE)⟩
  refine⟨by omega,?_⟩
  refine⟨fun aa=>?_,fun aa=>?_⟩
  ·have aa:a+(k:Nat) < a+l:=of_decide_eq_true aa
   obtain⟨s,hs⟩: ∃s:Nat,a+(k:Nat)=(s:Int):=⟨(a+(k:Nat)).toNat,by omega⟩
   have HB:a.toNat+k=s:=by omega
   have eR:s < n*(aL m).length:=by omega
   have bp:((s:Nat):Int)/dr m=((s/n:Nat):Int):=by rw[h.nm];exact(Int.natCast_ediv _ _).symm
   have hr:((s:Nat):Int) % dr m=((s % n:Nat):Int):=by rw[h.nm];exact(Int.natCast_emod _ _).symm
   have O5:s/n < (aL m).length:=Nat.div_lt_of_lt_mul eR
   have uF:s % n < n:=Nat.mod_lt _ (by omega)
   have aj:=Jx h (a:=a.toNat) k (by omega)
   have ak:=O3 h eR
   have iH:qM n m a.toNat (k+1)=qM n m a.toNat k++wJ n m s:=by rw[qM,HB]
   have wH:=h.nm
   unfold wJ at ak iH
   generalize s/n=Q at*
   generalize s % n=R at*
   rw[hs]
   have fB:(0:Int)≤((s:Nat):Int)∧(0:Int) < dr m:=by omega
   have n4: -9223372036854775808≤((s:Nat):Int) % dr m∧((s:Nat):Int) % dr m≤9223372036854775807:=by rw[hr];omega
   have z3: -9223372036854775808≤((s:Nat):Int)/dr m∧((s:Nat):Int)/dr m≤9223372036854775807:=by rw[bp];omega
   refine⟨fB,n4,?_⟩
   refine⟨fB,z3,?_⟩
   rw[bp,hr]
   refine⟨_,_,_,_,Fn.arg (args:=[oC m,aC ((Q:Nat):Int),v1 .ec]) (OY h O5 [] (by decide)) ⟨⟨rfl,rfl,rfl,rfl,rfl,trivial⟩,rfl,rfl,trivial⟩,trivial,rfl,?_⟩
   have aB:=yy h O5 []
   have cC: -9223372036854775808≤16*((R:Nat):Int)∧16*((R:Nat):Int)≤9223372036854775807:=by omega
   have cR: -9223372036854775808≤16*((R:Nat):Int)+16∧16*((R:Nat):Int)+16≤9223372036854775807:=by omega
   have gU:0≤16*((R:Nat):Int)∧16*((R:Nat):Int)≤16*((R:Nat):Int)+16∧16*((R:Nat):Int)+16≤(((lX n m Q []).length:Nat):Int):=by omega
   refine⟨cC,cC,cR,gU,?_⟩
   have p8:(16*((R:Nat):Int)+16).toNat=16*R+16:=by omega
   have O6:(16*((R:Nat):Int)).toNat=16*R:=by omega
   have eY:(qM n m a.toNat k).length+(((lX n m Q []).take (16*((R:Nat):Int)+16).toNat).drop (16*((R:Nat):Int)).toNat).length≤4294967296:=by rw[p8,O6];omega
   refine⟨eY,?_⟩
   refine⟨rfl,?_⟩
   refine⟨by omega,k+1,by omega,by omega,ah.sub ⟨rfl,rfl,rfl,rfl,?_,?_,trivial⟩ ⟨rfl,trivial⟩⟩
   ·rw[iH,p8,O6]
    rfl
   ·show(s:Int)+1=a+((k+1:Nat):Int)
    omega
  ·have aa: ¬a+(k:Nat) < a+l:=of_decide_eq_false aa
   have bP:k=l.toNat:=by omega
   subst bP
   exact⟨_,_,_,ah.refl _ _,rfl,⟨rfl,he,trivial⟩,trivial,rfl⟩
 ·rw[if_neg he]
  refine av.loop ai (aJ ai) [] (by kernel_rfl) (X:=Unit) (fun _=>O4 a l (fY n (aL m).length a l) [] a) (fun _=>[(3,.cells (k9 m))]) (fun _=>True) (fun _=>0) () trivial ?_ ?_
  ·exact ah.sub ⟨rfl,rfl,rfl,rfl,rfl,rfl,trivial⟩ ⟨rfl,trivial⟩
  rintro⟨⟩ -
  refine⟨fun aE=>absurd (of_decide_eq_true aE) he,fun _=>?_⟩
  exact⟨_,_,_,ah.refl _ _,rfl,⟨rfl,rfl,trivial⟩,trivial,rfl⟩
def jZ (n a l:Nat) (m:c5):Nat→c5
 |0=>m
 |k+1=>if ei n k a l n=n then qc (jZ n a l m k) k (ij 0 0) else jZ n a l m k
theorem O7 (n a l:Nat) (m:c5): ∀k,(aL (jZ n a l m k)).length=(aL m).length
 |0=>rfl
 |k+1=>by
  have:=O7 n a l m k
  unfold jZ
  split
  ·show((aL (jZ n a l m k)).set _ _).length=_
   rw[List.length_set,this]
  ·exact this
theorem gM.Jy {n:Nat} {m:c5} (h:gM n m) (a l:Nat): ∀k,gM n (jZ n a l m k)
 |0=>h
 |k+1=>by
  unfold jZ
  split
  ·exact(gM.Jy h a l k).set k (by decide)
  ·exact gM.Jy h a l k
def Aj (n:Nat) (m:c5) (a l:Int):c5×Int:=if fY n (aL m).length a l=0 then(jZ n a.toNat l.toNat m (aL m).length,0) else(m,fY n (aL m).length a l)
@[reducible] def O8 (a l e:Int) (k:Nat):aQ:=[(1,aC a),(2,aC l),(3,aH 3),(6,aH 6),(8,.c (fh e)),(9,aC (k:Nat))]
@[reducible] def O9 (m:c5):aG:=[(3,.cells (k9 m)),(6,.cells oe.t104.zero)]
set_option maxHeartbeats 1000000 in
theorem YP {n:Nat} {m:c5} (h:gM n m) (a l:Int):Fn Tryz.prog 123 [oC m,aC a,aC l] [] [] (.c6 [.agg (k9 (Aj n m a l).1),fh (Aj n m a l).2]) []:=by
 have hn:=h.n8
 have tq:=h.ee
 have hc:=h.jF
 have ag:n*(aL m).length≤8*256:=Nat.mul_le_mul hn hc
 unfold Aj
 refine Fn.of ai [] _ _ _ _ _ Tryz.func123 rfl rfl (by kernel_rfl) (by kernel_rfl) rfl (aJ ai) rfl ?_
 refine⟨rfl,?_⟩
 refine⟨rfl,?_⟩
 refine⟨_,_,_,_,Cc h a l,trivial,rfl,?_⟩
 show av _ _ _ _ _ _ _
 by_cases he:fY n (aL m).length a l=0
 ·rw[if_pos he]
  obtain⟨b1,b2,b3⟩:=vr he
  refine av.loop ai (aJ ai) [] (by kernel_rfl) (X:=Nat) (fun k=>O8 a l (fY n (aL m).length a l) k) (fun k=>O9 (jZ n a.toNat l.toNat m k)) (fun k=>k≤(aL m).length) (fun k=>(aL m).length - k) 0 (Nat.zero_le _) ?_ ?_
  ·exact ah.sub ⟨rfl,rfl,rfl,rfl,rfl,rfl,trivial⟩ ⟨rfl,rfl,trivial⟩
  intro k aq
  have cP:=O7 n a.toNat l.toNat m k
  have aA:=h.Jy a.toNat l.toNat k
  refine⟨fun aa=>?_,fun aa=>?_⟩
  ·have aa:((k:Nat):Int) < (((aL (jZ n a.toNat l.toNat m k)).length:Nat):Int):=of_decide_eq_true aa
   rw[cP] at aa
   refine⟨fun _=>?_,fun aE=>absurd he (of_decide_eq_false aE)⟩
   refine⟨_,_,_,_,Fn.arg (args:=[oC (jZ n a.toNat l.toNat m k),aC (k:Int),aC a,aC l]) (Js aA (c:=k) (a:=a.toNat) (l:=l.toNat) (by omega) (by omega) (by omega)) ⟨⟨rfl,rfl,rfl,rfl,rfl,trivial⟩,rfl,(Int.toNat_of_nonneg b2).symm,(Int.toNat_of_nonneg b1).symm,trivial⟩,trivial,rfl,?_⟩
   refine⟨rfl,fun af=>?_,fun af=>?_⟩
   ·have af:((ei n k a.toNat l.toNat n:Nat):Int)=dr (jZ n a.toNat l.toNat m k):=of_decide_eq_true af
    rw[aA.nm] at af
    have e:jZ n a.toNat l.toNat m (k+1)=qc (jZ n a.toNat l.toNat m k) k (ij 0 0):=if_pos (by omega)
    refine⟨_,_,_,_,Jv (jZ n a.toNat l.toNat m k) (by omega) (by omega) (ij 0 0),trivial,rfl,?_⟩
    refine⟨by omega,k+1,by omega,by omega,ah.sub ⟨rfl,rfl,rfl,rfl,rfl,rfl,trivial⟩ ⟨?_,rfl,trivial⟩⟩
    rw[e]
    rfl
   ·have af: ¬((ei n k a.toNat l.toNat n:Nat):Int)=dr (jZ n a.toNat l.toNat m k):=of_decide_eq_false af
    rw[aA.nm] at af
    have e:jZ n a.toNat l.toNat m (k+1)=jZ n a.toNat l.toNat m k:=if_neg (by omega)
    refine⟨by omega,k+1,by omega,by omega,ah.sub ⟨rfl,rfl,rfl,rfl,rfl,rfl,trivial⟩ ⟨?_,rfl,trivial⟩⟩
    rw[e]
    rfl
  ·have aa: ¬((k:Nat):Int) < (((aL (jZ n a.toNat l.toNat m k)).length:Nat):Int):=of_decide_eq_false aa
   rw[cP] at aa
   have bP:k=(aL m).length:=by omega
   subst bP
   exact⟨_,_,_,ah.refl _ _,rfl,⟨⟨rfl,rfl,rfl,rfl,rfl,trivial⟩,he,trivial⟩,trivial,rfl⟩
 ·rw[if_neg he]
  refine av.loop ai (aJ ai) [] (by kernel_rfl) (X:=Unit) (fun _=>O8 a l (fY n (aL m).length a l) 0) (fun _=>O9 m) (fun _=>True) (fun _=>0) () trivial ?_ ?_
  ·exact ah.sub ⟨rfl,rfl,rfl,rfl,rfl,rfl,trivial⟩ ⟨rfl,rfl,trivial⟩
  rintro⟨⟩ -
  refine⟨fun aa=>?_,fun _=>?_⟩
  ·refine⟨fun aE=>absurd (of_decide_eq_true aE) he,fun _=>?_⟩
   exact⟨_,_,_,ah.refl _ _,rfl,⟨⟨rfl,rfl,rfl,rfl,rfl,trivial⟩,rfl,trivial⟩,trivial,rfl⟩
  ·exact⟨_,_,_,ah.refl _ _,rfl,⟨⟨rfl,rfl,rfl,rfl,rfl,trivial⟩,rfl,trivial⟩,trivial,rfl⟩
end Go.Proofs.YteoamepgonpdlaaGreat
namespace Go.Proofs.YteoamepgonpdlaaGreat
open Go.RowKit Go.Proofs
def ez (m:c5) (c:Nat):Int:=dV ((aL m).getD c (ij 0 0))
theorem rO {m:c5} {c:Nat} (hc:c < (aL m).length):ez m c=dV (aL m)[c]:=by
 unfold ez
 rw[List.getD_eq_getElem?_getD,List.getElem?_eq_getElem hc]
 rfl
def jI (n a l:Nat) (zero:Bool) (m:c5) (c:Nat):Bool:=
 decide (0 < ei n c a l n)&& !(zero&&(decide (ei n c a l n=n)||decide (ez m c=2)))&& !qK m c
def j0 (n a l:Nat) (zero:Bool) (m:c5):Nat→Nat
 |0=>0
 |k+1=>match jI n a l zero m k with
  |true=>j0 n a l zero m k+1
  |false=>j0 n a l zero m k
theorem Pa (n a l:Nat) (zero:Bool) (m:c5): ∀k,j0 n a l zero m k≤k
 |0=>Nat.le_refl _
 |k+1=>by
  have:=Pa n a l zero m k
  unfold j0
  split <;>omega
def m5 (n a l:Nat) (b:List UInt8) (b6:List (List UInt8)) (zero:Bool) (m:c5) (c:Nat):c5:=
 if ei n c a l n=0 then m
 else if zero=true∧ei n c a l n < n∧ez m c=2 then m
 else if zero=true∧ei n c a l n=n then qc m c (ij 2 0)
 else kn m c (m4 n c a (lX n m c b6) b n)
def jk (n a l:Nat) (b:List UInt8) (b6:List (List UInt8)) (zero:Bool) (m:c5):Nat→c5
 |0=>m
 |k+1=>m5 n a l b b6 zero (jk n a l b b6 zero m k) k
theorem YQ (n a l:Nat) (b:List UInt8) (b6:List (List UInt8)) (zero:Bool) (m:c5) (c:Nat):(aL (m5 n a l b b6 zero m c)).length=(aL m).length:=by
 unfold m5
 split
 ·rfl
 ·split
  ·rfl
  ·split
   ·show((aL m).set _ _).length=_;rw[List.length_set]
   ·exact Jw ..
theorem YR (n a l:Nat) (b:List UInt8) (b6:List (List UInt8)) (zero:Bool) (m:c5) (c:Nat):(cS (m5 n a l b b6 zero m c)).length≤(cS m).length+1:=by
 unfold m5
 split
 ·exact Nat.le_succ _
 ·split
  ·exact Nat.le_succ _
  ·split
   ·exact Nat.le_succ _
   ·exact O2 ..
theorem Jz (n a l:Nat) (b:List UInt8) (b6:List (List UInt8)) (zero:Bool) (m:c5): ∀k,(aL (jk n a l b b6 zero m k)).length=(aL m).length
 |0=>rfl
 |k+1=>by rw[jk,YQ,Jz]
theorem Ak (n a l:Nat) (b:List UInt8) (b6:List (List UInt8)) (zero:Bool) (m:c5): ∀k,(cS (jk n a l b b6 zero m k)).length≤(cS m).length+k
 |0=>Nat.le_refl _
 |k+1=>by
  have aa:=YR n a l b b6 zero (jk n a l b b6 zero m k) k
  have af:=Ak n a l b b6 zero m k
  rw[jk]
  omega
theorem gM.step {n:Nat} {m:c5} (h:gM n m) (a l:Nat) (b:List UInt8) (b6:List (List UInt8)) (zero:Bool) {c:Nat} (hc:c < (aL m).length) (hd:(cS m).length+1≤100000):gM n (m5 n a l b b6 zero m c):=by
 unfold m5
 split
 ·exact h
 ·split
  ·exact h
  ·split
   ·exact h.set c (by decide)
   ·refine h.put c ?_ hd
    exact Ce n (Nat.le_of_eq (yy h hc b6).symm)
theorem gM.wr {n:Nat} {m:c5} (h:gM n m) (a l:Nat) (b:List UInt8) (b6:List (List UInt8)) (zero:Bool) (hd:(cS m).length+256≤100000): ∀k,k≤(aL m).length→gM n (jk n a l b b6 zero m k)
 |0,_=>h
 |k+1,aq=>by
  have aa:=h.wr a l b b6 zero hd k (by omega)
  have af:=Ak n a l b b6 zero m k
  have ay:=h.jF
  exact aa.step a l b b6 zero (by rw[Jz];omega) (by omega)
def vt (n:Nat) (m:c5) (a:Int) (b:List UInt8) (b6:List (List UInt8)) (zero:Bool):c5×Int:=
 if b.length % 16≠0 then(m,1)
 else if fY n (aL m).length a (b.length/16:Nat)=0 then
  (if Ah m < (j0 n a.toNat (b.length/16) zero m (aL m).length:Nat) then(m,120) else(jk n a.toNat (b.length/16) b b6 zero m (aL m).length,0))
 else(m,fY n (aL m).length a (b.length/16:Nat))
@[reducible] def YS (a:Int) (b:List UInt8) (b6:List (List UInt8)) (zero:Bool) (l:Nat) (x k:Nat):aQ:=[(1,aC a),(2,bG b),(3,cI .str b6),(4,iw zero),(5,aH 5),(10,aH 10),(12,aC (l:Nat)),(14,aC (x:Nat)),(15,aC (k:Nat))]
@[reducible] def YT (a:Int) (b:List UInt8) (b6:List (List UInt8)) (zero:Bool) (l:Nat) (k:Nat):aQ:=[(1,aC a),(2,bG b),(3,cI .str b6),(4,iw zero),(5,aH 5),(10,aH 10),(12,aC (l:Nat)),(18,aC (k:Nat))]
@[reducible] def Pb (m:c5):aG:=[(5,.cells (k9 m)),(10,.cells oe.t104.zero)]
set_option maxHeartbeats 4000000 in
theorem Pc {n:Nat} {m:c5} (h:gM n m) (a:Int) (b:List UInt8) (b6:List (List UInt8)) (zero:Bool) (ag:b.length≤1000000) (e6:b6.length≤1000000) (hd:(cS m).length+256≤100000):
  Fn Tryz.prog 122 [oC m,aC a,bG b,cI .str b6,iw zero] [] [] (.c6 [.agg (k9 (vt n m a b b6 zero).1),fh (vt n m a b b6 zero).2]) []:=by
 have hn:=h.n8
 have tq:=h.ee
 have hc:=h.jF
 have AE:n*(aL m).length≤8*256:=Nat.mul_le_mul hn hc
 have c9:=h.dl
 unfold vt
 refine Fn.of ai [] _ _ _ _ _ Tryz.func122 rfl rfl (by kernel_rfl) (by kernel_rfl) rfl (aJ ai) rfl ?_
 refine⟨rfl,?_⟩
 refine⟨rfl,?_⟩
 have d1:(0:Int)≤((b.length:Nat):Int)∧(0:Int) < 16:=by omega
 have d2: -9223372036854775808≤((b.length:Nat):Int) % 16∧((b.length:Nat):Int) % 16≤9223372036854775807:=by omega
 have d3: -9223372036854775808≤((b.length:Nat):Int)/16∧((b.length:Nat):Int)/16≤9223372036854775807:=by omega
 refine⟨d1,d2,?_⟩
 refine⟨fun aW=>?_,fun aW=>?_⟩
 ·have aW:(!decide (((b.length:Nat):Int) % 16=0))=true:=aW
  have aW: ¬((b.length:Nat):Int) % 16=0:=by simpa using aW
  rw[if_pos (by omega)]
  exact⟨_,_,_,ah.refl _ _,rfl,⟨⟨rfl,rfl,rfl,rfl,rfl,trivial⟩,rfl,trivial⟩,trivial,rfl⟩
 have aW:(!decide (((b.length:Nat):Int) % 16=0))=false:=aW
 have aW:((b.length:Nat):Int) % 16=0:=by simpa using aW
 rw[if_neg (by omega)]
 refine⟨d1,d3,?_⟩
 have p6:((b.length:Nat):Int)/16=((b.length/16:Nat):Int):=by omega
 rw[p6]
 obtain⟨l,aB⟩: ∃l:Nat,l=b.length/16:=⟨_,rfl⟩
 rw[←aB] at*
 refine⟨_,_,_,_,Cc h a (l:Nat),trivial,rfl,?_⟩
 refine⟨fun aX=>?_,fun aX=>?_⟩
 ·have aX:(!decide (fY n (aL m).length a (l:Nat)=0))=true:=aX
  have aX: ¬fY n (aL m).length a (l:Nat)=0:=by simpa using aX
  rw[if_neg aX]
  exact⟨_,_,_,ah.refl _ _,rfl,⟨⟨rfl,rfl,rfl,rfl,rfl,trivial⟩,rfl,trivial⟩,trivial,rfl⟩
 have aX:(!decide (fY n (aL m).length a (l:Nat)=0))=false:=aX
 have aX:fY n (aL m).length a (l:Nat)=0:=by simpa using aX
 rw[if_pos aX]
 obtain⟨b1,b2,b3⟩:=vr aX
 obtain⟨A,hA⟩: ∃A:Nat,a=(A:Int):=⟨a.toNat,by omega⟩
 subst hA
 rw[Int.toNat_natCast]
 show av _ _ _ _ _ _ _
 refine av.loop ai (aJ ai) [] (by kernel_rfl) (X:=Nat) (fun k=>YS A b b6 zero l (j0 n A l zero m k) k) (fun _=>Pb m) (fun k=>k≤(aL m).length) (fun k=>(aL m).length - k) 0 (Nat.zero_le _) ?_ ?_
 ·exact ah.sub ⟨rfl,rfl,rfl,rfl,rfl,rfl,rfl,rfl,rfl,trivial⟩ ⟨rfl,rfl,trivial⟩
 ·intro k aq
  have hu:=Pa n A l zero m k
  refine⟨fun aa=>?_,fun aa=>?_⟩
  ·have aa:((k:Nat):Int) < (((aL m).length:Nat):Int):=of_decide_eq_true aa
   have bP:k < (aL m).length:=by omega
   have fL:=rO bP
   have e:j0 n A l zero m (k+1)=match jI n A l zero m k with
    |true=>j0 n A l zero m k+1
    |false=>j0 n A l zero m k:=rfl
   have stay:jI n A l zero m k=false→((j0 n A l zero m k:Nat):Int)=((j0 n A l zero m (k+1):Nat):Int):=fun hw=>by rw[e,hw]
   have more:jI n A l zero m k=true→((j0 n A l zero m k:Nat):Int)+1=((j0 n A l zero m (k+1):Nat):Int):=fun hw=>by rw[e,hw];rfl
   have r1: -9223372036854775808≤((k:Nat):Int)+1∧((k:Nat):Int)+1≤9223372036854775807:=by omega
   have r2: -9223372036854775808≤((j0 n A l zero m k:Nat):Int)+1∧((j0 n A l zero m k:Nat):Int)+1≤9223372036854775807:=by omega
   have dD:=OX h bP
   refine⟨_,_,_,_,Js h (c:=k) (a:=A) (l:=l) (by omega) (by omega) (by omega),trivial,rfl,?_⟩
   clear e
   refine⟨fun fB=>?_,fun fB=>?_⟩
   ·have fB:zero=true:=fB
    refine⟨fun f1=>?_,fun f1=>?_⟩
    ·have f1:((ei n k A l n:Nat):Int)=dr m:=of_decide_eq_true f1
     have f1:ei n k A l n=n:=by rw[h.nm] at f1;omega
     have hw:jI n A l zero m k=false:=by unfold jI;rw[fB,f1];simp
     refine⟨fun g1=>?_,fun g1=>?_⟩
     ·exact⟨r1,k+1,by omega,by omega,ah.sub ⟨rfl,rfl,rfl,rfl,rfl,rfl,rfl,stay hw,rfl,trivial⟩ ⟨rfl,rfl,trivial⟩⟩
     ·exact⟨r1,k+1,by omega,by omega,ah.sub ⟨rfl,rfl,rfl,rfl,rfl,rfl,rfl,stay hw,rfl,trivial⟩ ⟨rfl,rfl,trivial⟩⟩
    ·have f1: ¬((ei n k A l n:Nat):Int)=dr m:=of_decide_eq_false f1
     have f1: ¬ei n k A l n=n:=by rw[h.nm] at f1;omega
     refine⟨by omega,(aL m)[k],eA (n:=k) bP,?_⟩
     refine⟨fun g1=>?_,fun g1=>?_⟩
     ·have g1:(0:Int) < ((ei n k A l n:Nat):Int):=of_decide_eq_true g1
      refine⟨fun g2=>?_,fun g2=>?_⟩
      ·have g2:(!decide (dV (aL m)[k]=2))=true:=g2
       have g2: ¬ez m k=2:=by rw[fL];simpa using g2
       refine⟨_,_,_,_,dD,trivial,rfl,?_⟩
       refine⟨fun bL=>?_,fun bL=>?_⟩
       ·have bL:(!qK m k)=true:=bL
        have hw:jI n A l zero m k=true:=by unfold jI;rw[fB,bL,decide_eq_true (show 0 < ei n k A l n by omega),decide_eq_false f1,decide_eq_false g2];rfl
        exact⟨r2,r1,k+1,by omega,by omega,ah.sub ⟨rfl,rfl,rfl,rfl,rfl,rfl,rfl,more hw,rfl,trivial⟩ ⟨rfl,rfl,trivial⟩⟩
       ·have bL:(!qK m k)=false:=bL
        have hw:jI n A l zero m k=false:=by unfold jI;rw[bL,Bool.and_false]
        exact⟨r1,k+1,by omega,by omega,ah.sub ⟨rfl,rfl,rfl,rfl,rfl,rfl,rfl,stay hw,rfl,trivial⟩ ⟨rfl,rfl,trivial⟩⟩
      ·have g2:(!decide (dV (aL m)[k]=2))=false:=g2
       have g2:ez m k=2:=by rw[fL];simpa using g2
       have hw:jI n A l zero m k=false:=by unfold jI;rw[fB,decide_eq_true g2];simp
       exact⟨r1,k+1,by omega,by omega,ah.sub ⟨rfl,rfl,rfl,rfl,rfl,rfl,rfl,stay hw,rfl,trivial⟩ ⟨rfl,rfl,trivial⟩⟩
     ·have g1: ¬(0:Int) < ((ei n k A l n:Nat):Int):=of_decide_eq_false g1
      have hw:jI n A l zero m k=false:=by unfold jI;rw[decide_eq_false (show¬0 < ei n k A l n by omega)];simp
      exact⟨r1,k+1,by omega,by omega,ah.sub ⟨rfl,rfl,rfl,rfl,rfl,rfl,rfl,stay hw,rfl,trivial⟩ ⟨rfl,rfl,trivial⟩⟩
   ·have fB:zero=false:=fB
    refine⟨fun g1=>?_,fun g1=>?_⟩
    ·have g1:(0:Int) < ((ei n k A l n:Nat):Int):=of_decide_eq_true g1
     refine⟨_,_,_,_,dD,trivial,rfl,?_⟩
     refine⟨fun bL=>?_,fun bL=>?_⟩
     ·have bL:(!qK m k)=true:=bL
      have hw:jI n A l zero m k=true:=by unfold jI;rw[fB,bL,decide_eq_true (show 0 < ei n k A l n by omega)];rfl
      exact⟨r2,r1,k+1,by omega,by omega,ah.sub ⟨rfl,rfl,rfl,rfl,rfl,rfl,rfl,more hw,rfl,trivial⟩ ⟨rfl,rfl,trivial⟩⟩
     ·have bL:(!qK m k)=false:=bL
      have hw:jI n A l zero m k=false:=by unfold jI;rw[bL,Bool.and_false]
      exact⟨r1,k+1,by omega,by omega,ah.sub ⟨rfl,rfl,rfl,rfl,rfl,rfl,rfl,stay hw,rfl,trivial⟩ ⟨rfl,rfl,trivial⟩⟩
    ·have g1: ¬(0:Int) < ((ei n k A l n:Nat):Int):=of_decide_eq_false g1
     have hw:jI n A l zero m k=false:=by unfold jI;rw[decide_eq_false (show¬0 < ei n k A l n by omega)];simp
     exact⟨r1,k+1,by omega,by omega,ah.sub ⟨rfl,rfl,rfl,rfl,rfl,rfl,rfl,stay hw,rfl,trivial⟩ ⟨rfl,rfl,trivial⟩⟩
  ·have aa: ¬((k:Nat):Int) < (((aL m).length:Nat):Int):=of_decide_eq_false aa
   have bP:k=(aL m).length:=by omega
   subst bP
   refine⟨_,_,_,_,Yx h,trivial,rfl,?_⟩
   refine⟨fun bT=>?_,fun bT=>?_⟩
   ·have bT:Ah m < ((j0 n A l zero m (aL m).length:Nat):Int):=of_decide_eq_true bT
    rw[if_pos bT]
    exact⟨_,_,_,ah.refl _ _,rfl,⟨⟨rfl,rfl,rfl,rfl,rfl,trivial⟩,rfl,trivial⟩,trivial,rfl⟩
   have bT: ¬Ah m < ((j0 n A l zero m (aL m).length:Nat):Int):=of_decide_eq_false bT
   rw[if_neg bT]
   show av _ _ _ _ _ _ _
   refine av.loop ai (aJ ai) [] (by kernel_rfl) (X:=Nat) (fun k=>YT A b b6 zero l k) (fun k=>Pb (jk n A l b b6 zero m k)) (fun k=>k≤(aL m).length) (fun k=>(aL m).length - k) 0 (Nat.zero_le _) ?_ ?_
   ·exact ah.sub ⟨rfl,rfl,rfl,rfl,rfl,rfl,rfl,rfl,trivial⟩ ⟨rfl,rfl,trivial⟩
   intro k aq
   have cP:=Jz n A l b b6 zero m k
   have aA:=h.wr A l b b6 zero hd k aq
   have rG:=Ak n A l b b6 zero m k
   have adi:=aA.jF
   have e:jk n A l b b6 zero m (k+1)=m5 n A l b b6 zero (jk n A l b b6 zero m k) k:=rfl
   generalize Al:jk n A l b b6 zero m k=X at*
   refine⟨fun aa=>?_,fun aa=>?_⟩
   ·have aa:((k:Nat):Int) < (((aL X).length:Nat):Int):=of_decide_eq_true aa
    have bP:k < (aL X).length:=by omega
    have fL:=rO bP
    have r1: -9223372036854775808≤((k:Nat):Int)+1∧((k:Nat):Int)+1≤9223372036854775807:=by omega
    have YU: ∀Y,m5 n A l b b6 zero X k=Y→jk n A l b b6 zero m (k+1)=Y:=fun Y BC=>e.trans BC
    have JA:=OY aA bP b6 e6
    have YV:=yy aA bP b6
    have JB:=YI aA (c:=k) (a:=A) (x:=lX n X k b6) (b:=b) (by omega) (by omega) YV ag
    have mD:=YK aA bP (m4 n k A (lX n X k b6) b n)
    have iY:=Jv X (c:=k) (by omega) bP (ij 2 0)
    have done: ∀Y,m5 n A l b b6 zero X k=Y→some (bw.cells (k9 Y))=some (bw.cells (k9 (jk n A l b b6 zero m (k+1)))):=fun Y BC=>by rw[YU Y BC]
    clear e
    refine⟨_,_,_,_,Js aA (c:=k) (a:=A) (l:=l) (by omega) (by omega) (by omega),trivial,rfl,?_⟩
    refine⟨fun f0=>?_,fun f0=>?_⟩
    ·have f0:((ei n k A l n:Nat):Int)=0:=of_decide_eq_true f0
     have hs:m5 n A l b b6 zero X k=X:=if_pos (by omega)
     exact⟨r1,k+1,by omega,by omega,ah.sub ⟨rfl,rfl,rfl,rfl,rfl,rfl,rfl,rfl,trivial⟩ ⟨done X hs,rfl,trivial⟩⟩
    have f0: ¬((ei n k A l n:Nat):Int)=0:=of_decide_eq_false f0
    have s0:m5 n A l b b6 zero X k=if zero=true∧ei n k A l n < n∧ez X k=2 then X else if zero=true∧ei n k A l n=n then qc X k (ij 2 0) else kn X k (m4 n k A (lX n X k b6) b n):=if_neg (by omega)
    refine⟨fun fB=>?_,fun fB=>?_⟩
    ·have fB:zero=true:=fB
     refine⟨fun f1=>?_,fun f1=>?_⟩
     ·have f1:((ei n k A l n:Nat):Int) < dr X:=of_decide_eq_true f1
      rw[aA.nm] at f1
      refine⟨by omega,(aL X)[k],eA (n:=k) bP,?_⟩
      refine⟨fun f2=>?_,fun f2=>?_⟩
      ·have f2:dV (aL X)[k]=2:=of_decide_eq_true f2
       have hs:m5 n A l b b6 zero X k=X:=by rw[s0,if_pos ⟨fB,by omega,by rw[fL];exact f2⟩]
       exact⟨r1,k+1,by omega,by omega,ah.sub ⟨rfl,rfl,rfl,rfl,rfl,rfl,rfl,rfl,trivial⟩ ⟨done X hs,rfl,trivial⟩⟩
      ·have f2: ¬dV (aL X)[k]=2:=of_decide_eq_false f2
       rw[if_neg (fun q=>f2 (by rw[←fL];exact q.2.2)),if_neg (by omega)] at s0
       refine⟨fun _=>?_,fun n4=>absurd (fB.symm.trans n4) (by decide)⟩
       refine⟨fun f3=>?_,fun _=>?_⟩
       ·exfalso
        have f3:((ei n k A l n:Nat):Int)=dr X:=of_decide_eq_true f3
        rw[aA.nm] at f3
        omega
       refine⟨_,_,_,_,JA,trivial,rfl,?_⟩
       refine⟨_,_,_,_,JB,trivial,rfl,?_⟩
       refine⟨_,_,_,_,mD,trivial,rfl,?_⟩
       refine⟨rfl,?_⟩
       exact⟨r1,k+1,by omega,by omega,ah.sub ⟨rfl,rfl,rfl,rfl,rfl,rfl,rfl,rfl,trivial⟩ ⟨done _ s0,rfl,trivial⟩⟩
     ·have f1: ¬((ei n k A l n:Nat):Int) < dr X:=of_decide_eq_false f1
      rw[aA.nm] at f1
      rw[if_neg (by omega)] at s0
      refine⟨fun _=>?_,fun n4=>absurd (fB.symm.trans n4) (by decide)⟩
      refine⟨fun f3=>?_,fun f3=>?_⟩
      ·have f3:((ei n k A l n:Nat):Int)=dr X:=of_decide_eq_true f3
       rw[aA.nm] at f3
       rw[if_pos ⟨fB,by omega⟩] at s0
       refine⟨_,_,_,_,iY,trivial,rfl,?_⟩
       exact⟨r1,k+1,by omega,by omega,ah.sub ⟨rfl,rfl,rfl,rfl,rfl,rfl,rfl,rfl,trivial⟩ ⟨done _ s0,rfl,trivial⟩⟩
      ·have f3: ¬((ei n k A l n:Nat):Int)=dr X:=of_decide_eq_false f3
       rw[aA.nm] at f3
       rw[if_neg (by omega)] at s0
       refine⟨_,_,_,_,JA,trivial,rfl,?_⟩
       refine⟨_,_,_,_,JB,trivial,rfl,?_⟩
       refine⟨_,_,_,_,mD,trivial,rfl,?_⟩
       refine⟨rfl,?_⟩
       exact⟨r1,k+1,by omega,by omega,ah.sub ⟨rfl,rfl,rfl,rfl,rfl,rfl,rfl,rfl,trivial⟩ ⟨done _ s0,rfl,trivial⟩⟩
    ·have fB:zero=false:=fB
     rw[if_neg (fun q=>absurd (fB.symm.trans q.1) (by decide)),if_neg (fun q=>absurd (fB.symm.trans q.1) (by decide))] at s0
     refine⟨fun n4=>absurd (fB.symm.trans n4) (by decide),fun _=>?_⟩
     refine⟨_,_,_,_,JA,trivial,rfl,?_⟩
     refine⟨_,_,_,_,JB,trivial,rfl,?_⟩
     refine⟨_,_,_,_,mD,trivial,rfl,?_⟩
     refine⟨rfl,?_⟩
     exact⟨r1,k+1,by omega,by omega,ah.sub ⟨rfl,rfl,rfl,rfl,rfl,rfl,rfl,rfl,trivial⟩ ⟨done _ s0,rfl,trivial⟩⟩
   ·have aa: ¬((k:Nat):Int) < (((aL X).length:Nat):Int):=of_decide_eq_false aa
    have bP:k=(aL m).length:=by omega
    subst bP
    rw[Al]
    exact⟨_,_,_,ah.refl _ _,rfl,⟨⟨rfl,rfl,rfl,rfl,rfl,trivial⟩,rfl,trivial⟩,trivial,rfl⟩
end Go.Proofs.YteoamepgonpdlaaGreat
namespace Go.Proofs.YteoamepgonpdlaaGreat
open Go.RowKit Go.Proofs
@[reducible] def vu:U:=.pr .str (.pr .str OT)
abbrev bK:=aI vu
@[reducible] def b5 (d:bK):List UInt8:=d.1
@[reducible] def c8 (d:bK):List UInt8:=d.2.1
@[reducible] def bn (d:bK):c5:=d.2.2
@[reducible] def jl (n b:List UInt8) (m:c5):bK:=(n,b,m)
@[reducible] def JC (d:bK):List bD:=.d (.str (b5 d)):: .d (.str (c8 d))::k9 (bn d)
@[reducible] def Pd (d:bK):aO:=.c (.agg (JC d))
@[reducible] def jJ (bits room:Int) (l:List bK):List bD:=[.d (.int .i64 bits),.d (.int .i64 room),.d (.cT vu l)]
@[reducible] def kT (bits room:Int) (l:List bK):aO:=.c (.agg (jJ bits room l))
def wK (l:List bK) (n:List UInt8):Option Nat:=l.findIdx? fun p=>decide (b5 p=n)
def bY (l:List bK) (n:List UInt8):Int:=match wK l n with
 |some i=>(i:Nat)
 |none=> -1
def cw:List bK→List UInt8→Option bK
 | [],_=>none
 |p::l,n=>if b5 p=n then some p else cw l n
theorem EV (l:List bK) (n:List UInt8):(wK l n=none∧cw l n=none)∨ ∃(i:Nat) (aD:i < l.length),wK l n=some i∧cw l n=some l[i]∧b5 l[i]=n:=by
 induction l with
 |nil=>exact .inl ⟨rfl,rfl⟩
 |cons p l aZ=>
  unfold wK at aZ⊢
  rw[List.findIdx?_cons]
  by_cases h:b5 p=n
  ·rw[decide_eq_true h]
   exact .inr ⟨0,Nat.zero_lt_succ _,rfl,(by rw[cw,if_pos h];rfl),h⟩
  ·rw[decide_eq_false h,cw,if_neg h]
   rcases aZ with⟨aj,ak⟩ |⟨i,aD,aj,ak,bf⟩
   ·rw[aj];exact .inl ⟨rfl,ak⟩
   ·rw[aj];exact .inr ⟨i+1,Nat.succ_lt_succ aD,rfl,ak,bf⟩
theorem Cf {l:List bK} {n:List UInt8} (h:bY l n < 0):cw l n=none:=by
 unfold bY at h
 rcases EV l n with⟨_,ak⟩ |⟨i,aD,aj,_⟩
 ·exact ak
 ·rw[aj] at h;simp only at h;omega
theorem Cg {l:List bK} {n:List UInt8} (h: ¬bY l n < 0): ∃(i:Nat) (aD:i < l.length),bY l n=(i:Nat)∧cw l n=some l[i]∧b5 l[i]=n:=by
 unfold bY at h⊢
 rcases EV l n with⟨aj,ak⟩ |⟨i,aD,aj,ak,bf⟩
 ·rw[aj] at h;simp only at h;omega
 ·exact⟨i,aD,(by rw[aj]),ak,bf⟩
theorem Pe {l:List bK} {n:List UInt8} (h:cw l n=none):bY l n= -1:=by
 unfold bY
 rcases EV l n with⟨aj,ak⟩ |⟨i,aD,aj,ak,bf⟩
 ·rw[aj]
 ·rw[h] at ak;cases ak
theorem oE {l:List bK} {n:List UInt8} {d:bK} (h:cw l n=some d): ∃(i:Nat) (aD:i < l.length),bY l n=(i:Nat)∧l[i]=d∧b5 d=n:=by
 unfold bY
 rcases EV l n with⟨aj,ak⟩ |⟨i,aD,aj,ak,bf⟩
 ·rw[h] at ak;cases ak
 ·rw[h] at ak
  injection ak with ak
  exact⟨i,aD,(by rw[aj]),ak.symm,ak▸bf⟩
@[reducible] def YW (n:List UInt8) (k:Nat):aQ:=[(1,bG n),(2,aH 2),(5,aC (k:Nat))]
theorem lY (bits room:Int) (l:List bK) (n:List UInt8) (aB:l.length≤1073741824):Fn Tryz.prog 55 [kT bits room l,bG n] [] [] (aC (bY l n)) []:=by
 refine Fn.of ai [] _ _ _ _ _ Tryz.func55 rfl rfl (by kernel_rfl) (by kernel_rfl) rfl (aJ ai) rfl ?_
 refine⟨rfl,?_⟩
 show av _ _ _ _ _ _ _
 refine av.loop ai (aJ ai) [] (by kernel_rfl) (X:=Nat) (YW n) (fun _=>[(2,.cells (jJ bits room l))]) (fun k=>k≤l.length∧ ∀(i:Nat) x,i < k→l[i]? =some x→b5 x≠n) (fun k=>l.length - k) 0 ⟨Nat.zero_le _,fun i x h=>absurd h (Nat.not_lt_zero _)⟩ ?_ ?_
 ·exact ah.sub ⟨rfl,rfl,rfl,trivial⟩ ⟨rfl,trivial⟩
 rintro k ⟨aq,hp⟩
 refine⟨fun h=>?_,fun h=>?_⟩
 ·have bP:k < l.length:=by
   have h:decide ((k:Int) < (l.length:Int))=true:=h
   simpa using h
  refine⟨by omega,l[k],eA (n:=k) bP,?_⟩
  refine⟨fun af=>?_,fun af=>?_⟩
  ·have af:b5 l[k]=n:=of_decide_eq_true af
   refine⟨_,_,_,ah.refl _ _,rfl,(show((k:Nat):Int)=bY l n from ?_),trivial,rfl⟩
   have:wK l n=some k:=by
    rw[wK,List.findIdx?_eq_some_iff_getElem]
    refine⟨bP,by simp[af],fun j au=>?_⟩
    have:=hp j _ au (List.getElem?_eq_getElem (by omega))
    simpa using this
   rw[bY,this]
  ·have af:b5 l[k]≠n:=of_decide_eq_false af
   refine⟨by omega,k+1,⟨by omega,fun i x aD hx=>?_⟩,by omega,ah.sub ⟨rfl,rfl,rfl,trivial⟩ ⟨rfl,trivial⟩⟩
   rcases Nat.lt_or_ge i k with bu |bu
   ·exact hp i x bu hx
   ·have:i=k:=by omega
    subst this
    rw[List.getElem?_eq_getElem bP] at hx
    injection hx with hx
    rw[←hx];exact af
 ·have gx:k=l.length:=by
   have h:decide ((k:Int) < (l.length:Int))=false:=h
   simp at h;omega
  refine⟨_,_,_,ah.refl _ _,rfl,(show(-1:Int)=bY l n from ?_),trivial,rfl⟩
  have:wK l n=none:=by
   rw[wK,List.findIdx?_eq_none_iff]
   intro x hx
   obtain⟨i,aD,rfl⟩:=List.getElem_of_mem hx
   have:=hp i _ (by omega) (List.getElem?_eq_getElem aD)
   simpa using this
  rw[bY,this]
def m6 (l:List bK) (n:List UInt8):Option (List UInt8):=match cw l n with
 |some d=>if c8 d=[] then none else some (c8 d)
 |none=>none
def nI (l:List bK):Nat→List UInt8→Nat
 |0,_=>0
 |f+1,n=>match m6 l n with
  |some b=>nI l f b+1
  |none=>0
def ld (l:List bK) (n:List UInt8):Nat:=nI l 99 n
@[reducible] def YX (l:List bK) (j:Nat) (n:List UInt8):aQ:=[(2,aH 2),(5,aC (j:Nat)),(6,aC (bY l n))]
theorem JD (bits room:Int) (l:List bK) (n:List UInt8) (aB:l.length≤1073741824):Fn Tryz.prog 67 [kT bits room l,bG n] [] [] (aC (ld l n:Nat)) []:=by
 refine Fn.of ai [] _ _ _ _ _ Tryz.func67 rfl rfl (by kernel_rfl) (by kernel_rfl) rfl (aJ ai) rfl ?_
 refine⟨rfl,?_⟩
 refine⟨_,_,_,_,lY bits room l n aB,trivial,rfl,?_⟩
 show av _ _ _ _ _ _ _
 refine av.loop ai (aJ ai) [] (by kernel_rfl) (X:=Nat×List UInt8) (fun x=>YX l x.1 x.2) (fun _=>[(2,.cells (jJ bits room l))]) (fun x=>x.1≤99∧x.1+nI l (99 - x.1) x.2=ld l n) (fun x=>99 - x.1) (0,n) ⟨Nat.zero_le _,Nat.zero_add _⟩ ?_ ?_
 ·exact ah.sub ⟨rfl,rfl,rfl,trivial⟩ ⟨rfl,trivial⟩
 rintro⟨j,nm⟩ ⟨au,he⟩
 have au:j≤99:=au
 have he:j+nI l (99 - j) nm=ld l n:=he
 have stop:(j=99∨m6 l nm=none)→((j:Nat):Int)=((ld l n:Nat):Int):=fun h=>by
  have:nI l (99 - j) nm=0:=by
   rcases h with h |h
   ·rw[h];rfl
   ·cases e:99 - j with
    |zero=>rfl
    |succ f=>rw[nI,h]
  omega
 refine⟨fun aa=>?_,fun aa=>?_⟩
 ·have aa:0≤bY l nm:=of_decide_eq_true aa
  obtain⟨i,aD,aj,ak,bf⟩:=Cg (l:=l) (n:=nm) (by omega)
  refine⟨by omega,l[i],(by rw[show(bY l nm).toNat=i by omega];exact eA (n:=i) aD),?_⟩
  refine⟨fun af=>?_,fun af=>?_⟩
  ·have af:(!decide (c8 l[i]=[]))=true:=af
   have af: ¬c8 l[i]=[]:=by simpa using af
   have az:m6 l nm=some (c8 l[i]):=by unfold m6;rw[ak];exact if_neg af
   refine⟨fun ay=>?_,fun ay=>?_⟩
   ·have ay:((j:Nat):Int) < 99:=of_decide_eq_true ay
    refine⟨by omega,?_⟩
    refine⟨by omega,l[i],(by rw[show(bY l nm).toNat=i by omega];exact eA (n:=i) aD),?_⟩
    refine⟨_,_,_,_,lY bits room l (c8 l[i]) aB,trivial,rfl,?_⟩
    have hf:99 - j=(99 - (j+1))+1:=by omega
    rw[hf,nI,az] at he
    have he:j+(nI l (99 - (j+1)) (c8 l[i])+1)=ld l n:=he
    refine⟨rfl,?_⟩
    exact⟨(j+1,c8 l[i]),⟨by show j+1≤99;omega,by show j+1+nI l (99 - (j+1)) (c8 l[i])=ld l n;omega⟩,by show 99 - (j+1) < 99 - j;omega,ah.sub ⟨rfl,rfl,rfl,trivial⟩ ⟨rfl,trivial⟩⟩
   ·have ay: ¬((j:Nat):Int) < 99:=of_decide_eq_false ay
    exact⟨_,_,_,ah.refl _ _,rfl,stop (.inl (by omega)),trivial,rfl⟩
  ·have af:(!decide (c8 l[i]=[]))=false:=af
   have af:c8 l[i]=[]:=by simpa using af
   have az:m6 l nm=none:=by unfold m6;rw[ak];exact if_pos af
   exact⟨_,_,_,ah.refl _ _,rfl,stop (.inr az),trivial,rfl⟩
 ·have aa: ¬0≤bY l nm:=of_decide_eq_false aa
  have e:=Cf (l:=l) (n:=nm) (by omega)
  have az:m6 l nm=none:=by unfold m6;rw[e]
  exact⟨_,_,_,ah.refl _ _,rfl,stop (.inr az),trivial,rfl⟩
def ko (l:List bK) (n:List UInt8):List (List UInt8):=(l.filter fun d=> !decide (n=[])&&decide (c8 d=n)).map b5
theorem YY {l:List bK} {k:Nat} (h:k < l.length) (n:List UInt8):ko (l.take (k+1)) n=ko (l.take k) n++(match !decide (n=[])&&decide (c8 l[k]=n) with |true=>[b5 l[k]] |false=>[]):=by
 unfold ko
 rw[List.take_succ_eq_append_getElem h,List.filter_append,List.map_append]
 congr 1
 cases e:(!decide (n=[])&&decide (c8 l[k]=n)) with
 |true=>rw[List.filter_cons_of_pos (by exact e)];rfl
 |false=>rw[List.filter_cons_of_neg (by rw[e];decide)];rfl
theorem JE (l:List bK) (n:List UInt8):(ko l n).length≤l.length:=by
 unfold ko
 rw[List.length_map]
 exact List.length_filter_le _ _
@[reducible] def JF (n:List UInt8) (d k:Nat):aQ:=[(1,bG n),(2,aH 2),(5,iO d),(6,aC (k:Nat))]
@[reducible] def JG (bits room:Int) (l:List bK) (d:Nat) (x:List (List UInt8)):aG:=[(2,.cells (jJ bits room l)),(d,.row 9 .str x)]
theorem JH (bits room:Int) (l:List bK) (n:List UInt8) (aB:l.length≤1073741824):Fn Tryz.prog 56 [kT bits room l,bG n] [] [] (cI .str (ko l n)) []:=by
 refine Fn.of ai [7] _ _ _ _ _ Tryz.func56 rfl rfl (by kernel_rfl) (by kernel_rfl) rfl (aJ ai) rfl ?_
 refine⟨rfl,?_⟩
 show av _ _ _ _ _ _ _
 refine av.loop ai (aJ ai) [7] (by kernel_rfl) (X:=Nat) (fun k=>JF n 2003 k) (fun k=>JG bits room l 2003 (ko (l.take k) n)) (fun k=>k≤l.length) (fun k=>l.length - k) 0 (Nat.zero_le _) ?_ ?_
 ·exact ah.trans (ah.nil 5 2003 9 .str rfl rfl) (ah.sub ⟨rfl,rfl,rfl,rfl,trivial⟩ ⟨rfl,rfl,trivial⟩)
 intro k aq
 refine⟨fun h=>?_,fun h=>?_⟩
 ·have h:decide ((k:Int) < (l.length:Int))=true:=h
  have bP:k < l.length:=by simpa using h
  have cP:(ko (l.take k) n).length≤k:=Nat.le_trans (JE _ _) (by rw[List.length_take];omega)
  have sO:=YY bP n
  refine⟨fun aW=>?_,fun aW=>?_⟩
  ·have aW:(!decide (n=[]))=true:=aW
   refine⟨by omega,l[k],eA (n:=k) bP,?_⟩
   refine⟨fun aX=>?_,fun aX=>?_⟩
   ·have aX:decide (c8 l[k]=n)=true:=aX
    rw[aW,aX] at sO
    refine⟨by omega,l[k],eA (n:=k) bP,?_⟩
    have ag:(ko (l.take k) n).length+1≤4294967296:=by omega
    refine⟨ag,rfl,?_⟩
    refine⟨by omega,k+1,by omega,by omega,ah.trans (ah.sub (K':=JF n 34 (k+1)) (B':=JG bits room l 34 (ko (l.take (k+1)) n)) ⟨rfl,rfl,rfl,rfl,trivial⟩ ⟨rfl,?_,trivial⟩) (ah.ren 34 2003 rfl)⟩
    rw[sO]
    rfl
   ·have aX:decide (c8 l[k]=n)=false:=aX
    rw[aX,Bool.and_false,List.append_nil] at sO
    refine⟨by omega,k+1,by omega,by omega,ah.sub ⟨rfl,rfl,rfl,rfl,trivial⟩ ⟨rfl,?_,trivial⟩⟩
    rw[sO]
    rfl
  ·have aW:(!decide (n=[]))=false:=aW
   rw[aW,Bool.false_and,List.append_nil] at sO
   refine⟨by omega,k+1,by omega,by omega,ah.sub ⟨rfl,rfl,rfl,rfl,trivial⟩ ⟨rfl,?_,trivial⟩⟩
   rw[sO]
   rfl
 ·have h:decide ((k:Int) < (l.length:Int))=false:=h
  have bP:k=l.length:=by simp at h;omega
  subst bP
  show av _ _ _ _ _ _ _
  refine av.go ai (aJ ai) [] (by kernel_rfl) (ah.trans (ah.sub (K':=JF n 2003 l.length) (B':=JG bits room l 2003 (ko l n)) ⟨rfl,rfl,rfl,rfl,trivial⟩ ⟨rfl,congrArg (fun m=>some (bw.row 9 .str (ko m n))) List.take_length,trivial⟩) (ah.dU 2003 rfl)) ?_
  exact⟨_,_,_,ah.refl _ _,rfl,rfl,trivial,rfl⟩
theorem YZ:(Tryz.prog.info? 124).map (·.size)=some 7:=by kernel_rfl
theorem Y0 (d:bK):nO vu d:=⟨trivial,trivial,trivial,trivial,trivial,trivial,trivial⟩
theorem Pf (bits room:Int) (l:List bK) {k:Nat} (aB:l.length≤1073741824) (aq:k < l.length) (d:bK):Fn Tryz.prog 96 [kT bits room l,aC (k:Int),Pd d] [] [] (kT bits room (l.set k d)) []:=by
 refine Fn.of ai [3] _ _ _ _ _ Tryz.func96 rfl rfl (by kernel_rfl) (by kernel_rfl) rfl (aJ ai) rfl ?_
 refine⟨rfl,?_⟩
 refine⟨rfl,?_⟩
 refine⟨rfl,?_⟩
 have aa:(0:Nat)+l.length≤4294967296:=by omega
 refine⟨rfl,aa,rfl,?_⟩
 have af:0≤(k:Int)∧(k:Int) < ((l.length:Nat):Int):=by omega
 refine⟨af,?_⟩
 obtain⟨inf,mS,jH⟩:=nC YZ
 refine⟨_,_,fun N=>OZ (u:=vu) (y:=d) rfl mS jH rfl rfl rfl (by show k < l.length;exact aq) (Y0 d) N,rfl,?_⟩
 show av _ _ _ _ _ _ _
 refine av.go ai (aJ ai) [] (by kernel_rfl) (ah.dU 11 rfl) ?_
 exact⟨_,_,_,ah.refl _ _,rfl,⟨rfl,rfl,rfl,trivial⟩,trivial,rfl⟩
def eH (l:List bK) (d:bK):Nat→List bK×Bool
 |0=>([],false)
 |k+1=>match l[k]? with
  |none=>eH l d k
  |some x=>if(eH l d k).2=false∧b5 d < b5 x then((eH l d k).1++[d]++[x],true) else((eH l d k).1++[x],(eH l d k).2)
def wL (l:List bK) (d:bK):List bK:=if(eH l d l.length).2=true then(eH l d l.length).1 else(eH l d l.length).1++[d]
theorem Pg (l:List bK) (d:bK): ∀k,(eH l d k).1.length+(match(eH l d k).2 with |true=>0 |false=>1)≤k+1
 |0=>Nat.le_refl _
 |k+1=>by
  have aZ:=Pg l d k
  unfold eH
  split
  ·exact Nat.le_succ_of_le aZ
  ·split
   ·rename_i h
    rw[h.1] at aZ
    simp only[List.length_append,List.length_cons,List.length_nil] at aZ⊢
    omega
   ·simp only[List.length_append,List.length_cons,List.length_nil]
    split <;>rename_i e <;>rw[e] at aZ <;>simp only at aZ <;>omega
@[reducible] def EW (l:List bK) (o:Nat) (z2:Bool) (k:Nat):aQ:=[(0,cI vu l),(3,aH 3),(5,iO o),(6,iw z2),(7,aC (k:Nat))]
@[reducible] def EX (d:bK) (o:Nat) (x:List bK):aG:=[(3,.cells (JC d)),(o,.row 124 vu x)]
set_option maxHeartbeats 1000000 in
theorem Ph (l:List bK) (d:bK) (aB:l.length≤1073741824):Fn Tryz.prog 95 [cI vu l,Pd d] [] [] (cI vu (wL l d)) []:=by
 refine Fn.of ai [10,12] _ _ _ _ _ Tryz.func95 rfl rfl (by kernel_rfl) (by kernel_rfl) rfl (aJ ai) rfl ?_
 refine⟨rfl,?_⟩
 show av _ _ _ _ _ _ _
 refine av.loop ai (aJ ai) [10,12] (by kernel_rfl) (X:=Nat) (fun k=>EW l 2003 (eH l d k).2 k) (fun k=>EX d 2003 (eH l d k).1) (fun k=>k≤l.length) (fun k=>l.length - k) 0 (Nat.zero_le _) ?_ ?_
 ·exact ah.trans (ah.nil 5 2003 124 vu rfl rfl) (ah.sub ⟨rfl,rfl,rfl,rfl,rfl,trivial⟩ ⟨rfl,rfl,trivial⟩)
 intro k aq
 have Oa:=Pg l d k
 have r6:(eH l d k).1.length≤k+1:=by omega
 refine⟨fun h=>?_,fun h=>?_⟩
 ·have h:decide ((k:Int) < (l.length:Int))=true:=h
  have bP:k < l.length:=by simpa using h
  have e:eH l d (k+1)=if(eH l d k).2=false∧b5 d < b5 l[k] then((eH l d k).1++[d]++[l[k]],true) else((eH l d k).1++[l[k]],(eH l d k).2):=by
   rw[eH,List.getElem?_eq_getElem bP]
  have eB:=eA (n:=k) bP
  generalize hx:l[k]=x at*
  refine⟨fun aW=>?_,fun aW=>?_⟩
  ·have aW:(!(eH l d k).2)=true:=aW
   have aW:(eH l d k).2=false:=by simpa using aW
   refine⟨by omega,x,eB,?_⟩
   refine⟨rfl,fun aX=>?_,fun aX=>?_⟩
   ·have aX:Op.bytesLess (b5 d) (b5 x)=true:=aX
    rw[Go.Proofs.bytesLess_eq] at aX
    have aX:=of_decide_eq_true aX
    rw[if_pos ⟨aW,aX⟩] at e
    have b1:(eH l d k).1.length+1≤4294967296:=by omega
    refine⟨b1,rfl,?_⟩
    refine⟨by omega,x,eB,?_⟩
    have b2:((eH l d k).1++[d]).length+1≤4294967296:=by rw[List.length_append];simp only[List.length_cons,List.length_nil];omega
    refine⟨b2,rfl,?_⟩
    refine⟨by omega,k+1,by omega,by omega,ah.trans (ah.sub (K':=EW l 36 (eH l d (k+1)).2 (k+1)) (B':=EX d 36 (eH l d (k+1)).1) ⟨rfl,rfl,rfl,?_,rfl,trivial⟩ ⟨rfl,?_,trivial⟩) (ah.ren 36 2003 rfl)⟩
    ·rw[e];rfl
    ·rw[e];rfl
   ·have aX:Op.bytesLess (b5 d) (b5 x)=false:=aX
    rw[Go.Proofs.bytesLess_eq] at aX
    have aX:=of_decide_eq_false aX
    rw[if_neg (fun q=>aX q.2)] at e
    refine⟨by omega,x,eB,?_⟩
    have b1:(eH l d k).1.length+1≤4294967296:=by omega
    refine⟨b1,rfl,?_⟩
    refine⟨by omega,k+1,by omega,by omega,ah.trans (ah.sub (K':=EW l 36 (eH l d (k+1)).2 (k+1)) (B':=EX d 36 (eH l d (k+1)).1) ⟨rfl,rfl,rfl,?_,rfl,trivial⟩ ⟨rfl,?_,trivial⟩) (ah.ren 36 2003 rfl)⟩
    ·rw[e];rfl
    ·rw[e];rfl
  ·have aW:(!(eH l d k).2)=false:=aW
   have aW:(eH l d k).2=true:=by simpa using aW
   rw[if_neg (fun q=>absurd (aW.symm.trans q.1) (by decide))] at e
   refine⟨rfl,?_⟩
   refine⟨by omega,x,eB,?_⟩
   have b1:(eH l d k).1.length+1≤4294967296:=by omega
   refine⟨b1,rfl,?_⟩
   refine⟨by omega,k+1,by omega,by omega,ah.trans (ah.sub (K':=EW l 36 (eH l d (k+1)).2 (k+1)) (B':=EX d 36 (eH l d (k+1)).1) ⟨rfl,rfl,rfl,?_,rfl,trivial⟩ ⟨rfl,?_,trivial⟩) (ah.ren 36 2003 rfl)⟩
   ·rw[e];rfl
   ·rw[e];rfl
 ·have h:decide ((k:Int) < (l.length:Int))=false:=h
  have bP:k=l.length:=by simp at h;omega
  subst bP
  unfold wL
  show av _ _ _ _ _ _ _
  refine av.go ai (aJ ai) [12] (by kernel_rfl) (ah.refl _ _) ?_
  refine⟨fun aW=>?_,fun aW=>?_⟩
  ·have aW:(!(eH l d l.length).2)=true:=aW
   have aW:(eH l d l.length).2=false:=by simpa using aW
   rw[if_neg (fun q=>absurd (aW.symm.trans q) (by decide))]
   have b1:(eH l d l.length).1.length+1≤4294967296:=by omega
   refine⟨b1,rfl,?_⟩
   show av _ _ _ _ _ _ _
   refine av.go ai (aJ ai) [] (by kernel_rfl) (ah.dU 42 rfl) ?_
   exact⟨_,_,_,ah.refl _ _,rfl,rfl,trivial,rfl⟩
  ·have aW:(!(eH l d l.length).2)=false:=aW
   have aW:(eH l d l.length).2=true:=by simpa using aW
   rw[if_pos aW]
   show av _ _ _ _ _ _ _
   refine av.go ai (aJ ai) [] (by kernel_rfl) (ah.dU 2003 rfl) ?_
   exact⟨_,_,_,ah.refl _ _,rfl,rfl,trivial,rfl⟩
end Go.Proofs.YteoamepgonpdlaaGreat
namespace Go.Proofs.YteoamepgonpdlaaGreat
open Go.RowKit Go.Proofs
section
variable {bits room:Nat} {L:List aK}
def o9 (bits:Nat) (L:List aK) (nm:List UInt8) (k:Int):List UInt8:=match dk L nm with
 |none=>[]
 |some d=>if 0≤k∧k < (d.im.t.length:Nat) then nG bits L nm (c7 L nm) k.toNat else[]
theorem Y1 (h:bX bits room L) (nm:List UInt8) (k:Int):Fn Tryz.prog 16 [aH 1001,bG nm,aC k] (bM bits room L) [] (cI .u8 (o9 bits L nm k)) (bM bits room L):=by
 unfold o9
 cases aE:dk L nm with
 |none=>
  have hx:(ct (aN:=.str) (aP:=.aY) (cl L) nm).getD (dflt .aY)=none:=by rw[iK,aE];rfl
  simp only
  refine Fn.of ai [2,4] _ _ _ _ _ Tryz.func16 rfl rfl (by kernel_rfl) (by kernel_rfl) rfl (aJ ai) rfl ?_
  show av _ _ _ _ _ _ _
  refine av.go ai (aJ ai) [4] (by kernel_rfl) (ah.refl _ _) ?_
  refine⟨fun e5 ag=>absurd (show(ct (aN:=.str) (aP:=.aY) (cl L) nm).getD (dflt .aY)=some e5 from ag) (by rw[hx];intro h;cases h),fun _=>?_⟩
  exact⟨_,_,_,ah.refl _ _,rfl,rfl,⟨rfl,rfl,rfl,rfl,trivial⟩,rfl⟩
 |some d0=>
  simp only
  split
  ·rename_i aq
   have hd:=h.dep nm
   have:=IV bits room L h.tonF nm d0 aE (c7 L nm) hd.1 (by omega) k.toNat (by omega)
   rwa[show((k.toNat:Nat):Int)=k by omega] at this
  ·rename_i aq
   obtain⟨sI,iU,iV⟩:=nC wD
   have ki:=h.togK.D (cA aE).1
   have fR:=h.togK.M (cA aE).1
   have hx:(ct (aN:=.str) (aP:=.aY) (cl L) nm).getD (dflt .aY)=some d0.ad:=by rw[iK,aE];rfl
   refine Fn.of ai [2,4] _ _ _ _ _ Tryz.func16 rfl rfl (by kernel_rfl) (by kernel_rfl) rfl (aJ ai) rfl ?_
   show av _ _ _ _ _ _ _
   refine av.go ai (aJ ai) [4] (by kernel_rfl) (ah.refl _ _) ?_
   refine⟨fun e5 ag=>?_,fun ag=>absurd (show(ct (aN:=.str) (aP:=.aY) (cl L) nm).getD (dflt .aY)=none from ag) (by rw[hx];intro h;cases h)⟩
   refine⟨fun _=>?_,fun aa=>?_⟩
   ·exact⟨_,_,_,ah.refl _ _,rfl,rfl,⟨rfl,rfl,rfl,rfl,trivial⟩,rfl⟩
   have aa: ¬k < 0:=of_decide_eq_false aa
   refine⟨_,_,fun N=>ov (b:=d0.ad) rfl (by exact o6 hx) N,rfl,?_⟩
   refine⟨_,_,fun N=>ow rfl Tryz.underlying130 rfl rfl iU (by rw[iV];decide) rfl N,rfl,?_⟩
   refine⟨_,_,fun N=>p4 (q:=1003) rfl Tryz.underlying49 rfl rfl rfl ki rfl N,rfl,?_⟩
   refine⟨_,_,_,_,jC (qD d0.im) fR rfl rfl rfl rfl,⟨rfl,trivial⟩,rfl,?_⟩
   refine⟨fun _=>?_,fun af=>?_⟩
   ·exact⟨_,_,_,ah.refl _ _,rfl,rfl,⟨rfl,rfl,rfl,rfl,trivial⟩,rfl⟩
   ·exfalso
    have af: ¬((d0.im.t.length:Nat):Int)≤k:=of_decide_eq_false af
    omega
def Am (bits:Nat) (L:List aK) (nm:List UInt8) (c:Nat):Nat:=(ig bits L c (nm::ef L (c7 L nm) nm) 0).2
def m7 (bits:Nat) (L:List aK) (nm:List UInt8) (n:Nat):List Int:=(List.range n).map fun c=>((Am bits L nm c:Nat):Int)
theorem Y2 (bits:Nat) (L:List aK) (nm:List UInt8) (j:Nat):m7 bits L nm (j+1)=m7 bits L nm j++[((Am bits L nm j:Nat):Int)]:=by
 unfold m7
 rw[List.range_succ,List.map_append]
 rfl
theorem JI (bits:Nat) (L:List aK) (nm:List UInt8) (j:Nat):(m7 bits L nm j).length=j:=by
 unfold m7
 rw[List.length_map,List.length_range]
end
end Go.Proofs.YteoamepgonpdlaaGreat
