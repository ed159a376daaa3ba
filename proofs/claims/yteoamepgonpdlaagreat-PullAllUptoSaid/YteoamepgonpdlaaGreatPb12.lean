/-
Part 12 of the proof that stands in YteoamepgonpdlaaGreatPbRow, with what it needs from the parts ahead; the parts of this text: Cl, Cm, Names, Pure.
-/
import Derived.Test.YteoamepgonpdlaaGreatProg
import Derived.Test.YteoamepgonpdlaaGreatPb11
namespace Go.Proofs.YteoamepgonpdlaaGreat
set_option linter.unusedVariables false
set_option linter.unusedSimpArgs false
set_option maxRecDepth 10000
open Go.RowKit Go.Proofs
structure aH where
 nm:List UInt8
 back:List UInt8
 ad:Nat
 am:Nat
 im:bz
 cF:Option (Nat→Nat)
def j0 (d:aH):bK:=match d.cF with
 |none=>iQ d.im
 |some bs=>.m6 (dh d.im) (fun c=>cond (Nat.beq c 1001) d.am (bs c))
@[reducible] def jo (d:aH):aJ .str×aJ .aW:=((d.nm:aJ .str),(some d.ad:aJ .aW))
def cq (L:List aH):List (aJ .str×aJ .aW):=L.map jo
@[reducible] def DX (am:Nat) (back:List UInt8):List bx:=[.d (.aW (some am)),.d (.str back)]
def rT (am:Nat) (back:List UInt8):bK:=bK.ch (.cells (DX am back)) (fun _=>rfl)
def iT (L:List aH):List (Nat×bK):=L.map fun d=>(d.ad,rT d.am d.back)
def fW (L:List aH):List (Nat×bK):=L.map fun d=>(d.am,j0 d)
@[reducible] def M5 (bits room:Int):List bx:=[.d (.int .i64 bits),.d (.int .i64 room),.mp 1002]
@[reducible] def bP (bits room:Int) (L:List aH):aG:=[(1001,.cells (M5 bits room)),(1002,.map .str .aW (cq L)),(1003,.obj (.cO (iT L))),(1004,.obj (.cO (fW L)))]
def dk (L:List aH) (nm:List UInt8):Option aH:=L.find? fun d=>decide (d.nm=nm)
theorem cT {L:List aH} {nm:List UInt8} {d:aH} (h:dk L nm=some d):d∈L∧d.nm=nm:=⟨List.mem_of_find?_eq_some h,by have:=List.find?_some h;simpa using this⟩
theorem iA (nm:List UInt8): ∀L:List aH,(cz (aO:=.str) (aV:=.aW) (cq L) nm).getD (dflt .aW)=((dk L nm).map (·.ad):Option Nat)
 | []=>rfl
 |d::L=>by
  have aY:=iA nm L
  show(cz (aO:=.str) (aV:=.aW) (jo d::cq L) nm).getD (dflt .aW)=_
  rw[show dk (d::L) nm=if decide (d.nm=nm)=true then some d else dk L nm by unfold dk;rw[List.find?_cons];split <;>rename_i h <;>rw[h] <;>rfl]
  rw[show cz (aO:=.str) (aV:=.aW) (jo d::cq L) nm=match jS .str (nm:aJ .str) (jo d).1 with |true=>some (jo d).2 |false=>cz (aO:=.str) (aV:=.aW) (cq L) nm from rfl]
  by_cases e:d.nm=nm
  ·rw[show jS .str (nm:aJ .str) (jo d).1=true from(Bc _ _).2 e.symm,show decide (d.nm=nm)=true from decide_eq_true e]
   rfl
  ·rw[show jS .str (nm:aJ .str) (jo d).1=false from sU (aO:=.str) Bc (fun h=>e h.symm),show decide (d.nm=nm)=false from decide_eq_false e]
   exact aY
theorem HZ {f:aH→Nat×bK}: ∀{L:List aH},(L.map fun d=>(f d).1).Nodup→ ∀{d:aH},d∈L→jd (L.map f) (f d).1=some (f d).2
 | [],_,d,h=>by cases h
 |e::L,hn,d,h=>by
  rw[List.map_cons] at hn
  obtain⟨eM,gj⟩:=List.nodup_cons.1 hn
  rw[List.map_cons]
  unfold jd
  rcases List.mem_cons.1 h with rfl |h
  ·rw[if_pos rfl]
  ·rw[if_neg (fun e=>eM (by rw[e];exact List.mem_map_of_mem (f:=fun d=>(f d).1) h))]
   exact HZ gj h
structure gF (L:List aH):Prop where
 kg:(L.map (·.nm)).Nodup
 vF:(L.map (·.ad)).Nodup
 uy:(L.map (·.am)).Nodup
theorem gF.D {L:List aH} (h:gF L) {d:aH} (hd:d∈L):jd (iT L) d.ad=some (rT d.am d.back):=HZ (f:=fun d=>(d.ad,rT d.am d.back)) h.vF hd
theorem gF.M {L:List aH} (h:gF L) {d:aH} (hd:d∈L):jd (fW L) d.am=some (j0 d):=HZ (f:=fun d=>(d.am,j0 d)) h.uy hd
theorem vG:(Tryz.prog.info? 49).map (·.size)=some 1:=by kernel_rfl
theorem DY:(Tryz.prog.info? 9).map (·.size)=some 1:=by kernel_rfl
theorem zk (bits room:Int) (L:List aH) (b:List UInt8):Fn Tryz.prog 88 [aI 1001,bN b] (bP bits room L) [] (g9 (decide (b=[])||(dk L b).isSome)) (bP bits room L):=by
 have bl:=iA b L
 refine Fn.of aj [] _ _ _ _ _ Tryz.func88 rfl rfl (by kernel_rfl) (by kernel_rfl) rfl (aK aj) rfl ?_
 refine⟨fun h=>?_,fun h=>?_⟩
 ·have h:b=[]:=of_decide_eq_true h
  exact⟨_,_,_,ah.refl _ _,rfl,(show true=_ by rw[decide_eq_true h];rfl),⟨rfl,rfl,rfl,rfl,trivial⟩,rfl⟩
 ·have h: ¬b=[]:=of_decide_eq_false h
  refine⟨fun eX h'=>?_,fun h'=>?_⟩
  ·have h':(cz (aO:=.str) (aV:=.aW) (cq L) b).getD (dflt .aW)=some eX:=h'
   rw[bl] at h'
   exact⟨_,_,_,ah.refl _ _,rfl,(show true=_ by rw[decide_eq_false h];cases e:dk L b with
    |none=>rw[e] at h';cases h'
    |some d=>rfl),⟨rfl,rfl,rfl,rfl,trivial⟩,rfl⟩
  ·have h':(cz (aO:=.str) (aV:=.aW) (cq L) b).getD (dflt .aW)=none:=h'
   rw[bl] at h'
   exact⟨_,_,_,ah.refl _ _,rfl,(show false=_ by rw[decide_eq_false h];cases e:dk L b with
    |none=>rfl
    |some d=>rw[e] at h';cases h'),⟨rfl,rfl,rfl,rfl,trivial⟩,rfl⟩
theorem VP {L:List aH} {nm:List UInt8} {eX:Nat} (h:(cz (aO:=.str) (aV:=.aW) (cq L) nm).getD (dflt .aW)=some eX): ∃d,dk L nm=some d∧d.ad=eX:=by
 rw[iA] at h
 cases e:dk L nm with
 |none=>rw[e] at h;cases h
 |some d=>
  rw[e] at h
  injection h with h
  exact⟨d,rfl,h⟩
theorem oC {x:Option Nat} {b:Nat} (h:x=some b):aN.c (dG.one (bx.d (D.aW x)))= .c (.one (.d (.aW (some b)))):=by rw[h]
theorem vH (bits room:Int) (L:List aH) (dn:gF L) (nm:List UInt8) (d:aH) (hd:dk L nm=some d):Fn Tryz.prog 15 [aI 1001,bN nm] (bP bits room L) [] (mY d.am) (bP bits room L):=by
 obtain⟨rU,iJ,iK⟩:=m0 vG
 have cL:=dn.D (cT hd).1
 have h':(cz (aO:=.str) (aV:=.aW) (cq L) nm).getD (dflt .aW)=some d.ad:=by rw[iA,hd];rfl
 refine Fn.of aj [] _ _ _ _ _ Tryz.func15 rfl rfl (by kernel_rfl) (by kernel_rfl) rfl (aK aj) rfl ?_
 refine⟨fun eX ag=>?_,fun ag=>absurd (show(cz (aO:=.str) (aV:=.aW) (cq L) nm).getD (dflt .aW)=none from ag) (by rw[h'];intro h;cases h)⟩
 refine⟨_,_,fun N=>nS (b:=d.ad) rfl (by exact oC h') N,rfl,?_⟩
 refine⟨_,_,fun N=>nT rfl Tryz.underlying130 rfl rfl iJ (by rw[iK];decide) rfl N,rfl,?_⟩
 refine⟨_,_,fun N=>o4 (q:=1003) rfl Tryz.underlying49 rfl rfl rfl cL rfl N,rfl,?_⟩
 exact⟨_,_,_,ah.refl _ _,rfl,rfl,⟨rfl,rfl,rfl,rfl,trivial⟩,rfl⟩
theorem M6 (bits room:Int) (L:List aH) (nm:List UInt8) (hd:dk L nm=none):Fn Tryz.prog 15 [aI 1001,bN nm] (bP bits room L) [] (.c yX) (bP bits room L):=by
 have h':(cz (aO:=.str) (aV:=.aW) (cq L) nm).getD (dflt .aW)=none:=by rw[iA,hd];rfl
 refine Fn.of aj [] _ _ _ _ _ Tryz.func15 rfl rfl (by kernel_rfl) (by kernel_rfl) rfl (aK aj) rfl ?_
 refine⟨fun eX ag=>absurd (show(cz (aO:=.str) (aV:=.aW) (cq L) nm).getD (dflt .aW)=some eX from ag) (by rw[h'];intro h;cases h),fun _=>?_⟩
 exact⟨_,_,_,ah.refl _ _,rfl,rfl,⟨rfl,rfl,rfl,rfl,trivial⟩,rfl⟩
theorem VQ (bits room:Int) (L:List aH) (dn:gF L) (nm:List UInt8) (d:aH) (hd:dk L nm=some d):Fn Tryz.prog 66 [aI 1001,bN nm] (bP bits room L) [] (.c8 [.one (.d (.str d.back)),fO 0]) (bP bits room L):=by
 obtain⟨rU,iJ,iK⟩:=m0 DY
 have cL:=dn.D (cT hd).1
 have h':(cz (aO:=.str) (aV:=.aW) (cq L) nm).getD (dflt .aW)=some d.ad:=by rw[iA,hd];rfl
 refine Fn.of aj [] _ _ _ _ _ Tryz.func66 rfl rfl (by kernel_rfl) (by kernel_rfl) rfl (aK aj) rfl ?_
 refine⟨fun eX ag=>?_,fun ag=>absurd (show(cz (aO:=.str) (aV:=.aW) (cq L) nm).getD (dflt .aW)=none from ag) (by rw[h'];intro h;cases h)⟩
 refine⟨_,_,fun N=>nS (b:=d.ad) rfl (by exact oC h') N,rfl,?_⟩
 refine⟨_,_,fun N=>nT rfl Tryz.underlying130 rfl rfl iJ (by rw[iK];decide) rfl N,rfl,?_⟩
 refine⟨_,_,fun N=>o4 (q:=1003) rfl Tryz.underlying9 rfl rfl rfl cL rfl N,rfl,?_⟩
 exact⟨_,_,_,ah.refl _ _,rfl,⟨rfl,rfl,trivial⟩,⟨rfl,rfl,rfl,rfl,trivial⟩,rfl⟩
theorem VR (bits room:Int) (L:List aH) (nm:List UInt8) (hd:dk L nm=none):Fn Tryz.prog 66 [aI 1001,bN nm] (bP bits room L) [] (.c8 [.one (.d (.str [])),fO 140]) (bP bits room L):=by
 have h':(cz (aO:=.str) (aV:=.aW) (cq L) nm).getD (dflt .aW)=none:=by rw[iA,hd];rfl
 refine Fn.of aj [] _ _ _ _ _ Tryz.func66 rfl rfl (by kernel_rfl) (by kernel_rfl) rfl (aK aj) rfl ?_
 refine⟨fun eX ag=>absurd (show(cz (aO:=.str) (aV:=.aW) (cq L) nm).getD (dflt .aW)=some eX from ag) (by rw[h'];intro h;cases h),fun _=>?_⟩
 exact⟨_,_,_,ah.refl _ _,rfl,⟨rfl,rfl,trivial⟩,⟨rfl,rfl,rfl,rfl,trivial⟩,rfl⟩
inductive dK (L:List aH):List UInt8→Nat→Prop where
 |gone {nm}:dk L nm=none→dK L nm 0
 |base {nm d}:dk L nm=some d→d.back=[]→dK L nm 0
 |step {nm d k}:dk L nm=some d→d.back≠[]→dK L d.back k→dK L nm (k+1)
def cH (L:List aH):Nat→List UInt8→List (List UInt8)
 |0,_=>[]
 |k+1,nm=>match dk L nm with
  |none=>[]
  |some d=>d.back::cH L k d.back
def en (L:List aH):Nat→List UInt8→List UInt8
 |0,nm=>nm
 |j+1,nm=>match dk L nm with
  |none=>nm
  |some d=>en L j d.back
theorem xG (L:List aH): ∀(j:Nat) (nm:List UInt8),en L (j+1) nm=match dk L (en L j nm) with
  |none=>en L j nm
  |some d=>d.back
 |0,nm=>by
  show(match dk L nm with |none=>nm |some d=>d.back)=_
  rfl
 |j+1,nm=>by
  show(match dk L nm with |none=>nm |some d=>en L (j+1) d.back)=_
  cases e:dk L nm with
  |none=>
   simp only
   rw[show en L (j+1) nm=nm by show(match dk L nm with |none=>nm |some d=>en L j d.back)=nm;rw[e]]
   rw[e]
  |some d=>
   simp only
   rw[xG L j d.back]
   rw[show en L (j+1) nm=en L j d.back by show(match dk L nm with |none=>nm |some d=>en L j d.back)=_;rw[e]]
theorem DZ {L:List aH}: ∀{k:Nat} {nm:List UInt8},dK L nm k→ ∀j,j≤k→dK L (en L j nm) (k - j)
 |_,_,h,0,_=>h
 |k+1,nm,.step (d:=d) aa af aA,j+1,ak=>by
  rw[show en L (j+1) nm=en L j d.back by show(match dk L nm with |none=>nm |some d=>en L j d.back)=_;rw[aa]]
  rw[Nat.add_sub_add_right]
  exact DZ aA j (by omega)
 |0,_,_,j+1,ak=>absurd ak (by omega)
theorem mD {L:List aH} {nm:List UInt8} {k:Nat} (h:dK L nm k):(cH L k nm).length=k:=by
 induction h with
 |gone _=>rfl
 |base _ _=>rfl
 |step aa af _ aY=>
  unfold cH
  rw[aa]
  simp only[List.length_cons,aY]
theorem D1 {L:List aH}: ∀{k:Nat} {nm:List UInt8},dK L nm k→ ∀j,j < k→(cH L k nm).take (j+1)=(cH L k nm).take j++[en L (j+1) nm]
 |k+1,nm,.step (d:=d) aa af aA,0,_=>by
  unfold cH
  rw[aa]
  simp only[List.take_succ_cons,List.take_zero,List.nil_append]
  rw[show en L 1 nm=d.back by show(match dk L nm with |none=>nm |some d=>en L 0 d.back)=_;rw[aa];rfl]
 |k+1,nm,.step (d:=d) aa af aA,j+1,ak=>by
  have aY:=D1 aA j (by omega)
  unfold cH
  rw[aa]
  simp only[List.take_succ_cons,List.cons_append]
  rw[aY]
  rw[show en L (j+1+1) nm=en L (j+1) d.back by show(match dk L nm with |none=>nm |some d=>en L (j+1) d.back)=_;rw[aa]]
 |0,_,_,j,ak=>absurd ak (by omega)
@[reducible] def M7 (x:Option Nat):aN:=.c (.one (.d (.aW x)))
@[reducible] def M8 (L:List aH) (nm:List UInt8) (j:Nat):aQ:=[(0,aI 1001),(5,iL 5002),(6,M7 ((dk L (en L j nm)).map (·.ad)))]
@[reducible] def M9 (bits room:Int) (L:List aH) (k:Nat) (nm:List UInt8) (j:Nat):aG:=bP bits room L++[(5002,.row 9 .str ((cH L k nm).take j))]
@[reducible] def VS (L:List aH) (nm:List UInt8) (j:Nat):aQ:=[(0,aI 1001),(5,iL 35),(6,M7 ((dk L (en L j nm)).map (·.ad)))]
@[reducible] def VT (bits room:Int) (L:List aH) (k:Nat) (nm:List UInt8) (j:Nat):aG:=bP bits room L++[(35,.row 9 .str ((cH L k nm).take j))]
theorem zl (bits room:Int) (L:List aH) (dn:gF L) (nm:List UInt8) (k:Nat) (au:dK L nm k) (xH:k≤1000000):Fn Tryz.prog 69 [aI 1001,bN nm] (bP bits room L) [] (cJ .str (cH L k nm)) (bP bits room L):=by
 obtain⟨rU,iJ,iK⟩:=m0 DY
 have eC:=mD au
 refine Fn.of aj [2,7] _ _ _ _ _ Tryz.func69 rfl rfl (by kernel_rfl) (by kernel_rfl) rfl (aK aj) rfl ?_
 show aE _ _ _ _ _ _ _
 refine aE.go aj (aK aj) [7] (by kernel_rfl) (ah.refl _ _) ?_
 show aE _ _ _ _ _ _ _
 refine aE.loop aj (aK aj) [6,4,7] (by kernel_rfl) (X:=Nat) (M8 L nm) (fun j=>M9 bits room L k nm j) (fun j=>j≤k) (fun j=>k - j) 0 (Nat.zero_le _) ?_ ?_
 ·refine(ah.nil 5 5002 9 .str rfl rfl).trans (ah.sub ⟨rfl,rfl,?_,trivial⟩ ⟨rfl,rfl,rfl,rfl,rfl,trivial⟩)
  exact iA nm L
 intro j ak
 have m7:=DZ au j ak
 have nK:k - j=0→(cH L k nm).take j=cH L k nm:=fun h=>List.take_of_length_le (by omega)
 refine⟨fun eX h'=>?_,fun h'=>?_⟩
 ·obtain⟨d,hd,rfl⟩: ∃d,dk L (en L j nm)=some d∧d.ad=eX:=by
   have h':(dk L (en L j nm)).map (·.ad)=some eX:=h'
   cases e:dk L (en L j nm) with
   |none=>rw[e] at h';cases h'
   |some d=>rw[e] at h';injection h' with h';exact⟨d,rfl,h'⟩
  have cL:=dn.D (cT hd).1
  have hx:(dk L (en L j nm)).map (·.ad)=some d.ad:=by rw[hd];rfl
  refine⟨_,_,fun N=>nS (b:=d.ad) rfl (by exact oC hx) N,rfl,?_⟩
  refine⟨_,_,fun N=>nT rfl Tryz.underlying130 rfl rfl iJ (by rw[iK];decide) rfl N,rfl,?_⟩
  refine⟨_,_,fun N=>o4 (q:=1003) rfl Tryz.underlying9 rfl rfl rfl cL rfl N,rfl,?_⟩
  refine⟨fun ag=>?_,fun ag=>?_⟩
  ·have ag:d.back=[]:=of_decide_eq_true ag
   have aC:k - j=0:=by
    generalize k - j=m at m7
    cases m7 with
    |gone h=>rfl
    |base _ _=>rfl
    |step aa af _=>rw[hd] at aa;injection aa with aa;rw[←aa] at af;exact absurd ag af
   have cl:=nK aC
   show aE _ _ _ _ _ _ _
   refine aE.go aj (aK aj) [] (by kernel_rfl) (ah.refl _ _) ?_
   exact⟨_,_,_,ah.dV 5002 rfl,rfl,cl,⟨rfl,rfl,rfl,rfl,trivial⟩,rfl⟩
  ·have ag: ¬d.back=[]:=of_decide_eq_false ag
   have lK:j < k:=by
    rcases Nat.lt_or_ge j k with h |h
    ·exact h
    ·exfalso
     have aC:k - j=0:=by omega
     rw[aC] at m7
     cases m7 with
     |gone h=>rw[hd] at h;cases h
     |base aa af=>rw[hd] at aa;injection aa with aa;rw[←aa] at af;exact ag af
   have Na:en L (j+1) nm=d.back:=by rw[xG,hd]
   have wM:=D1 au j lK
   rw[Na] at wM
   have qF:((cH L k nm).take j).length+1≤4294967296:=by rw[List.length_take];omega
   show aE _ _ _ _ _ _ _
   refine aE.go aj (aK aj) [4] (by kernel_rfl) (ah.sub (K':=M8 L nm j) (B':=M9 bits room L k nm j) ⟨rfl,rfl,rfl,trivial⟩ ⟨rfl,rfl,rfl,rfl,rfl,trivial⟩) ?_
   refine⟨_,_,fun N=>nS (b:=d.ad) rfl (by exact oC hx) N,rfl,?_⟩
   refine⟨_,_,fun N=>nT rfl Tryz.underlying130 rfl rfl iJ (by rw[iK];decide) rfl N,rfl,?_⟩
   refine⟨_,_,fun N=>o4 (q:=1003) rfl Tryz.underlying9 rfl rfl rfl cL rfl N,rfl,?_⟩
   refine⟨qF,rfl,?_⟩
   show aE _ _ _ _ _ _ _
   refine aE.go aj (aK aj) [] (by kernel_rfl) (ah.sub (K':=VS L nm j) (B':=VT bits room L k nm (j+1)) ⟨rfl,rfl,rfl,trivial⟩ ⟨rfl,rfl,rfl,rfl,congrArg (fun l:List (List UInt8)=>some (bF.row 9 .str l)) wM.symm,trivial⟩) ?_
   refine⟨_,_,fun N=>nS (b:=d.ad) rfl (by exact oC hx) N,rfl,?_⟩
   refine⟨_,_,fun N=>nT rfl Tryz.underlying130 rfl rfl iJ (by rw[iK];decide) rfl N,rfl,?_⟩
   refine⟨_,_,fun N=>o4 (q:=1003) rfl Tryz.underlying9 rfl rfl rfl cL rfl N,rfl,?_⟩
   refine⟨rfl,?_⟩
   refine⟨j+1,by omega,by omega,(ah.ren 35 5002 rfl).trans (ah.sub ⟨rfl,rfl,?_,trivial⟩ ⟨rfl,rfl,rfl,rfl,rfl,trivial⟩)⟩
   rw[Na]
   exact iA d.back L
 ·have hd:dk L (en L j nm)=none:=by
   have h':(dk L (en L j nm)).map (·.ad)=none:=h'
   cases e:dk L (en L j nm) with
   |none=>rfl
   |some d=>rw[e] at h';cases h'
  have aC:k - j=0:=by
   generalize k - j=m at m7
   cases m7 with
   |gone h=>rfl
   |base _ _=>rfl
   |step aa af _=>rw[hd] at aa;cases aa
  have cl:=nK aC
  show aE _ _ _ _ _ _ _
  refine aE.go aj (aK aj) [] (by kernel_rfl) (ah.refl _ _) ?_
  exact⟨_,_,_,ah.dV 5002 rfl,rfl,cl,⟨rfl,rfl,rfl,rfl,trivial⟩,rfl⟩
theorem o5 {f:FuncId} {args:List aN} {res:aN} {d:aH} {M:List (Nat×bK)} (h:Fn Tryz.prog f (aI 1001::args) (dh d.im) [] res (dh d.im)) (az:jd M d.am=some (j0 d)) (aa:AW 1001 [1002,1003,1004] (aI 1001::args) (dh d.im) [] [] []=true) (af:AX 1001 (vg [1002,1003,1004] [] []) res (dh d.im) []=true)
  (aA:(args.all fun v=>v.among [])=true) (bE:res.among []=true):Fn Tryz.prog f (mY d.am::args) [(1004,.obj (.cO M))] [] res [(1004,.obj (.cO M))]:=by
 have eS: ∀{v:aN},v.among []=true→v.has 1001=false:=fun {v} hv=>by
  cases e:v.has 1001 with
  |false=>rfl
  |true=>exact absurd (aN.ku hv e) List.not_mem_nil
 cases hp:d.cF with
 |none=>
  rw[show j0 d=iQ d.im by unfold j0;rw[hp]] at az
  have hc:Fn Tryz.prog f (aI 1001::args) [(1001,.obj (iQ d.im))] [] res [(1001,.obj (iQ d.im))]:=Fn.close (bR:=dh d.im) (jD:=dh d.im) (aP:=[]) (aZ:=[]) [1002,1003,1004] (by simpa using h) (fun _ _ _ _ h=>h) (fun _ _ _ _ h=>h) aa af
  have:=(hM.cO (c:=1001) (q:=1004) (b:=d.am) (args:=args) (aP:=[]) (bu:=[]) (X:=Unit) (res:=fun _=>res) (aZ:=fun _=>[]) (o:=iQ d.im) (o':=fun _=>iQ d.im) (L:=M) hc.x az (List.all_eq_true.2 fun v hv=>by rw[eS (List.all_eq_true.1 aA v hv)];rfl) ⟨rfl,rfl⟩ rfl (fun _=>by rw[eS bE];rfl)).fn
  rw[HX az] at this
  exact this
 |some bs=>
  rw[show j0 d= .m6 (dh d.im) (fun c=>cond (Nat.beq c 1001) d.am (bs c)) by unfold j0;rw[hp]] at az
  exact Fn.VN (c:=1001) h az rfl rfl aA bE
theorem VU {s:bz} (aT:fI s) {k:Nat} (au:k < s.t.length):Hw s (k*2 ^s.bits) (2 ^s.bits)=dR s k none:=by
 have cQ:=xx aT au none
 have hp:=mA aT.bits
 have dW:wid s=16*2 ^s.bits:=rfl
 have bt:16*(k*2 ^s.bits)/wid s=k:=by
  rw[dW,show 16*(k*2 ^s.bits)=k*(16*2 ^s.bits) by rw[Nat.mul_left_comm],Nat.mul_div_cancel _ (by omega)]
 have em:16*(k*2 ^s.bits)=k*wid s:=by rw[dW,Nat.mul_left_comm]
 have ai:b5 (wid s) (k*2 ^s.bits) (2 ^s.bits)=1:=by
  have aC:=uv (a:=k*2 ^s.bits) (l:=2 ^s.bits) (k:=0) (oB aT.bits)
  have aa:=uv (a:=k*2 ^s.bits) (l:=2 ^s.bits) (k:=1) (oB aT.bits)
  rw[bt,Nat.mul_add,em] at aC aa
  rw[Nat.add_zero] at aC
  rw[Nat.succ_mul] at aa
  have a0:=aC.1 ⟨by omega,by omega⟩
  have ct: ¬1 < b5 (wid s) (k*2 ^s.bits) (2 ^s.bits):=fun h=>by
   have:=(aa.2 h).2
   omega
  omega
 unfold Hw
 rw[ai]
 show[]++ze s (k*2 ^s.bits) (2 ^s.bits) 0=_
 rw[List.nil_append]
 unfold ze
 have GU:(aR (wid s) (k*2 ^s.bits) (2 ^s.bits) 0).c=k:=by unfold aR;simp only[bt,Nat.add_zero]
 have Bv:(aR (wid s) (k*2 ^s.bits) (2 ^s.bits) 0).a=0:=by
  show 16*(k*2 ^s.bits) - (16*(k*2 ^s.bits)/wid s+0)*wid s=0
  rw[bt,Nat.add_zero,em,Nat.sub_self]
 have rV:(aR (wid s) (k*2 ^s.bits) (2 ^s.bits) 0).b=wid s:=by
  show min (16*(k*2 ^s.bits+2 ^s.bits) - (16*(k*2 ^s.bits)/wid s+0)*wid s) (wid s)=wid s
  rw[bt,Nat.add_zero,Nat.mul_add,em,show 16*2 ^s.bits=wid s from rfl,Nat.add_sub_cancel_left,Nat.min_self]
 rw[GU,Bv,rV,List.drop_zero,List.take_of_length_le (by omega)]
theorem VV {s:bz} (aT:fI s) {k:Nat} (au:k < s.t.length):dJ s ((k*2 ^s.bits:Nat):Int) ((2 ^s.bits:Nat):Int)=0:=by
 have h:k*2 ^s.bits+2 ^s.bits≤eO s:=by
  have:=Nat.mul_le_mul_right (2 ^s.bits) (show k+1≤s.t.length from au)
  rw[Nat.succ_mul] at this
  exact this
 unfold dJ
 generalize k*2 ^s.bits=Q at*
 generalize 2 ^s.bits=P at*
 rw[if_neg (by omega),if_neg (by omega)]
structure m8 (bits:Nat) (room:Nat) (L:List aH):Prop extends gF L where
 eT:bits≤3
 uz:room≤512
 len:L.length≤16
 iU: ∀d,d∈L→fI d.im∧d.im.bits=bits∧d.im.l.length=room
 qT: ∀d,d∈L→d.back≠[]→ ∃e,dk L d.back=some e
 ne: ∀d,d∈L→d.nm≠[]
 zm: ∀d,d∈L→ ∃k,k≤8∧dK L d.nm k
theorem Bw {bits room:Nat} {L:List aH} (h:m8 bits room L) {nm:List UInt8} {k:Nat} (au:dK L nm k): ∀n,n∈cH L k nm→ ∃e,dk L n=some e:=by
 induction au with
 |gone _=>intro n hn;cases hn
 |base _ _=>intro n hn;cases hn
 | @step nm d k aa af aA aY=>
  intro n hn
  unfold cH at hn
  rw[aa] at hn
  rcases List.mem_cons.1 hn with rfl |hn
  ·exact h.qT d (cT aa).1 af
  ·exact aY n hn
def eZ (bits:Nat) (L:List aH) (k:Nat):List (List UInt8)→Nat→List UInt8×Nat
 | [],_=>(List.replicate (16*2 ^bits) 0,0)
 |n::ns,i=>match dk L n with
  |none=>([],0)
  |some d=>if k < d.im.t.length∧(d.im.t.getD k s0).1≠0 then(dR d.im k none,i+1) else eZ bits L k ns (i+1)
theorem Nb {bits room:Nat} {L:List aH} (h:m8 bits room L) (k:Nat): ∀(ns:List (List UInt8)) (i:Nat),(eZ bits L k ns i).1.length≤128
 | [],i=>by
  show(List.replicate (16*2 ^bits) (0:UInt8)).length≤128
  rw[List.length_replicate]
  have:=mA h.eT
  omega
 |n::ns,i=>by
  unfold eZ
  cases e:dk L n with
  |none=>exact Nat.zero_le _
  |some d=>
   simp only
   split
   ·rename_i bM
    obtain⟨fG,iy,_⟩:=h.iU d (cT e).1
    rw[xx fG bM.1 none]
    exact(uq fG.bits).2
   ·exact Nb h k ns (i+1)
@[reducible] def D2 (bits:Nat) (k:Nat) (l:List (List UInt8)) (j:Nat):aQ:=[(0,aI 1001),(2,aD (k:Int)),(8,aD ((2 ^bits:Nat):Int)),(24,cJ .str l),(25,aD (l.length:Nat)),(26,aD (j:Nat))]
@[reducible] def VW (bits:Nat) (nm:List UInt8) (k:Nat):aQ:=[(1000000+(1000000+20),.undef),(0,aI 1001),(1,bN nm),(2,aD (k:Int)),(8,aD ((2 ^bits:Nat):Int))]
theorem VX:(Tryz.prog.info? 9).map (fun i=>(i.zero,i.size,i.bytes))=some (some (.string ⟨#[]⟩),1,16):=by kernel_rfl
set_option maxHeartbeats 1000000 in
theorem Nc (bits room:Nat) (L:List aH) (bG:m8 bits room L) (nm:List UInt8) (d0:aH) (aC:dk L nm=some d0) (cR:Nat) (iz:dK L nm cR) (o6:cR≤100) (k:Nat) (au:k≤100000):
  Fn Tryz.prog 70 [aI 1001,bN nm,aD (k:Int)] (bP bits room L) [] (.c8 [.one (.d (.cW .u8 (eZ bits L k (nm::cH L cR nm) 0).1)),.one (.d (.int .i64 (((eZ bits L k (nm::cH L cR nm) 0).2:Nat):Int)))]) (bP bits room L):=by
 obtain⟨rU,iJ,iK⟩:=m0 vG
 obtain⟨abo,VY,VZ,V0,abp⟩:=info_parts VX
 have hp:=mA bG.eT
 have hlen:=mD iz
 have gP: ∀n,n∈nm::cH L cR nm→ ∃e,dk L n=some e:=fun n hn=>by
  rcases List.mem_cons.1 hn with rfl |hn
  ·exact⟨d0,aC⟩
  ·exact Bw bG iz n hn
 have ai:(1:Int)*((2 ^bits:Nat):Int)=((2 ^bits:Nat):Int):=Int.one_mul _
 obtain⟨l,aB⟩: ∃l,l=nm::cH L cR nm:=⟨_,rfl⟩
 have qF:l.length=cR+1:=by rw[aB,List.length_cons,hlen]
 refine Fn.of aj [2,5,6,7,8,10] _ _ _ _ _ Tryz.func70 rfl rfl (by kernel_rfl) (by kernel_rfl) rfl (aK aj) rfl ?_
 have bw:(0:Int)≤1∧(0:Int)≤(bits:Int)∧(bits:Int)≤64:=by have:=bG.eT;omega
 have bX:(-9223372036854775808:Int)≤1*((2 ^bits:Nat):Int)∧(1:Int)*((2 ^bits:Nat):Int)≤9223372036854775807:=by rw[ai];omega
 refine⟨bw,bX,?_⟩
 show aE _ _ _ _ _ _ _
 refine aE.TX 20 (by decide) ?_
 refine aE.go aj (aK aj) [5,6,7,8,10] (by kernel_rfl) (ah.sub (K':=VW bits nm k) (B':=bP bits room L) ⟨trivial,rfl,rfl,rfl,ai,trivial⟩ ⟨rfl,rfl,rfl,rfl,trivial⟩) ?_
 refine⟨_,_,fun N=>TY (d:=20) rfl Tryz.underlying102 VY VZ V0 rfl N,rfl,?_⟩
 refine⟨_,_,_,_,zl bits room L bG.togF nm cR iz (by omega),⟨rfl,rfl,rfl,rfl,trivial⟩,rfl,?_⟩
 have hle: [nm].length+(cH L cR nm).length≤4294967296:=by rw[hlen];simp;omega
 refine⟨hle,rfl,?_⟩
 show aE _ _ _ _ _ _ _
 refine aE.loop aj (aK aj) [5,6,7,8,10] (by kernel_rfl) (X:=Nat) (D2 bits k l) (fun _=>bP bits room L) (fun j=>j≤l.length∧eZ bits L k (l.drop j) j=eZ bits L k l 0) (fun j=>l.length - j) 0 ⟨Nat.zero_le _,by rw[List.drop_zero]⟩ ?_ ?_
 ·subst aB
  exact(ah.dV (e:=9) (u:=.str) (xs:=nm::cH L cR nm) 24 rfl).trans (ah.sub ⟨rfl,rfl,rfl,rfl,rfl,rfl,trivial⟩ ⟨rfl,rfl,rfl,rfl,trivial⟩)
 rintro j ⟨ak,kW⟩
 rw[←aB]
 refine⟨fun h=>?_,fun h=>?_⟩
 ·have h:decide ((j:Int) < (l.length:Nat))=true:=h
  have fJ:j < l.length:=by simpa using h
  obtain⟨d,hd⟩:=gP l[j] (by rw[←aB];exact List.getElem_mem fJ)
  have H6:=(cT hd).1
  obtain⟨fG,iy,p8⟩:=bG.iU d H6
  have mE:=bG.togF.D H6
  have gG:=bG.togF.M H6
  have hx:(cz (aO:=.str) (aV:=.aW) (cq L) l[j]).getD (dflt .aW)=some d.ad:=by rw[iA,hd];rfl
  have G8:l.drop j=l[j]::l.drop (j+1):=List.drop_eq_getElem_cons fJ
  have xI:eZ bits L k (l.drop j) j=if k < d.im.t.length∧(d.im.t.getD k s0).1≠0 then(dR d.im k none,j+1) else eZ bits L k (l.drop (j+1)) (j+1):=by
   rw[G8]
   show(match dk L l[j] with |none=>([],0) |some d=>_)=_
   rw[hd]
  have fT:(0:Int)≤(j:Int):=by omega
  have qR:(-9223372036854775808:Int)≤(j:Int)+1∧(j:Int)+1≤9223372036854775807:=by omega
  refine⟨fT,l[j],eY (n:=j) fJ,?_⟩
  generalize l[j]=n at*
  show aE _ _ _ _ _ _ _
  refine aE.go aj (aK aj) [6,7,8,10] (by kernel_rfl) (ah.sub (K':=(9,aD (j:Nat))::(10,bN n)::D2 bits k l j) (B':=bP bits room L) ⟨rfl,rfl,rfl,rfl,rfl,rfl,rfl,rfl,trivial⟩ ⟨rfl,rfl,rfl,rfl,trivial⟩) ?_
  refine⟨_,_,fun N=>nS (b:=d.ad) rfl (by exact oC hx) N,rfl,?_⟩
  refine⟨_,_,fun N=>nT rfl Tryz.underlying130 rfl rfl iJ (by rw[iK];decide) rfl N,rfl,?_⟩
  refine⟨_,_,fun N=>o4 (q:=1003) rfl Tryz.underlying49 rfl rfl rfl mE rfl N,rfl,?_⟩
  show aE _ _ _ _ _ _ _
  refine aE.go aj (aK aj) [7,8,10] (by kernel_rfl) (ah.sub (K':=(9,aD (j:Nat))::(11,mY d.am)::D2 bits k l j) (B':=bP bits room L) ⟨rfl,rfl,rfl,rfl,rfl,rfl,rfl,rfl,trivial⟩ ⟨rfl,rfl,rfl,rfl,trivial⟩) ?_
  refine⟨_,_,_,_,o5 (vv d.im) gG rfl rfl rfl rfl,⟨rfl,trivial⟩,rfl,?_⟩
  refine⟨fun aa=>?_,fun aa=>?_⟩
  ·have aa:(k:Int) < (d.im.t.length:Nat):=of_decide_eq_true aa
   have bU:k < d.im.t.length:=by omega
   refine⟨_,_,_,_,o5 (DI d.im fG.tl k bU) gG rfl rfl rfl rfl,⟨rfl,trivial⟩,rfl,?_⟩
   refine⟨fun af=>?_,fun af=>?_⟩
   ·have af:(d.im.t.getD k s0).1≠0:=by
     have af:(!decide ((d.im.t.getD k s0).1=0))=true:=af
     simpa using af
    rw[xI,if_pos ⟨bU,af⟩] at kW
    have dU:=VV fG bU
    have xJ:=MQ d.im fG (k*2 ^d.im.bits) (2 ^d.im.bits) dU
    rw[VU fG bU] at xJ
    rw[iy] at xJ dU
    have vq:((k*2 ^bits:Nat):Int)=(k:Int)*((2 ^bits:Nat):Int):=Int.natCast_mul _ _
    rw[vq] at xJ
    have kK:(-9223372036854775808:Int)≤(k:Int)*((2 ^bits:Nat):Int)∧(k:Int)*((2 ^bits:Nat):Int)≤9223372036854775807:=by
     rw[←vq]
     have:=Nat.mul_le_mul au hp.2
     omega
    show aE _ _ _ _ _ _ _
    refine aE.go aj (aK aj) [8,10] (by kernel_rfl) (ah.sub (K':=(9,aD (j:Nat))::(11,mY d.am)::D2 bits k l j) (B':=bP bits room L) ⟨rfl,rfl,rfl,rfl,rfl,rfl,rfl,rfl,trivial⟩ ⟨rfl,rfl,rfl,rfl,trivial⟩) ?_
    refine⟨kK,?_⟩
    refine⟨_,_,_,_,o5 xJ gG rfl rfl rfl rfl,⟨rfl,trivial⟩,rfl,?_⟩
    show aE _ _ _ _ _ _ _
    refine aE.go aj (aK aj) [] (by kernel_rfl) (ah.refl _ _) ?_
    have sZ:(-9223372036854775808:Int)≤(j:Int)+1∧(j:Int)+1≤9223372036854775807:=by omega
    refine⟨sZ,?_⟩
    refine⟨_,_,_,ah.refl _ _,rfl,⟨?_,?_,trivial⟩,⟨rfl,rfl,rfl,rfl,trivial⟩,rfl⟩
    ·exact congrArg Prod.fst kW
    ·show(j:Int)+1=_
     rw[←kW]
     rfl
   ·have af:(d.im.t.getD k s0).1=0:=by
     have af:(!decide ((d.im.t.getD k s0).1=0))=false:=af
     simpa using af
    rw[xI,if_neg (fun h=>h.2 af)] at kW
    exact⟨qR,j+1,⟨fJ,kW⟩,by omega,ah.sub ⟨rfl,rfl,rfl,rfl,rfl,rfl,trivial⟩ ⟨rfl,rfl,rfl,rfl,trivial⟩⟩
  ·have aa: ¬(k:Int) < (d.im.t.length:Nat):=of_decide_eq_false aa
   rw[xI,if_neg (fun h=>aa (by have:=h.1;omega))] at kW
   exact⟨qR,j+1,⟨fJ,kW⟩,by omega,ah.sub ⟨rfl,rfl,rfl,rfl,rfl,rfl,trivial⟩ ⟨rfl,rfl,rfl,rfl,trivial⟩⟩
 ·have h:decide ((j:Int) < (l.length:Nat))=false:=h
  have fJ:j=l.length:=by simp at h;omega
  subst fJ
  rw[List.drop_length] at kW
  have o7:((2 ^bits:Nat):Int)*16=((16*2 ^bits:Nat):Int):=by omega
  have H7:(-9223372036854775808:Int)≤((2 ^bits:Nat):Int)*16∧((2 ^bits:Nat):Int)*16≤9223372036854775807:=by rw[o7];omega
  have H8:((2 ^bits:Nat):Int)*16=((2 ^bits:Nat):Int)*16∧(0:Int)≤((2 ^bits:Nat):Int)*16∧((2 ^bits:Nat):Int)*16≤4294967296:=by rw[o7];omega
  show aE _ _ _ _ _ _ _
  refine aE.go aj (aK aj) [] (by kernel_rfl) (ah.refl _ _) ?_
  refine⟨H7,H8,rfl,?_⟩
  refine⟨_,_,_,ah.dV 65 rfl,rfl,⟨?_,?_,trivial⟩,⟨rfl,rfl,rfl,rfl,trivial⟩,rfl⟩
  ·have V1:List.replicate (((2 ^bits:Nat):Int)*16).toNat (0:UInt8)=(eZ bits L k l 0).1:=by
    rw[←kW,o7]
    rfl
   exact V1
  ·show(0:Int)=_
   rw[←kW]
   rfl
theorem V2 {a b:Int} (aa:0≤a) (af:a≤9223372036854775807) (aA:0≤b) (bE:b≤9223372036854775807):
  IntKind.i64.wrap (((BitVec.ofInt 64 a &&& BitVec.ofInt 64 b).toNat:Nat):Int)=((a.toNat &&& b.toNat:Nat):Int):=by
 have ai:(BitVec.ofInt 64 a).toNat=a.toNat:=by rw[BitVec.toNat_ofInt];omega
 have aq:(BitVec.ofInt 64 b).toNat=b.toNat:=by rw[BitVec.toNat_ofInt];omega
 rw[BitVec.toNat_and,ai,aq]
 have h:a.toNat &&& b.toNat < 2 ^63:=Nat.and_lt_two_pow _ (by omega)
 exact ym (by simp only[uS];omega)
theorem V3 {P:Program} {ids:List Nat} {K:aQ} {B:aG} {o:Oper} {T gB:TypeId} {x y:Operand} {a b:Int} (av:o.op= .binOp .and T x y gB) (hx:aU K x= .c (.one (.d (.int .i64 a)))) (aF:aU K y= .c (.one (.d (.int .i64 b)))) (aa:0≤a) (af:a≤9223372036854775807) (aA:0≤b) (bE:b≤9223372036854775807) (N:Nat):
  bI P N ids o K B (.c (.one (.d (.int .i64 ((a.toNat &&& b.toNat:Nat):Int))))) ⟨[],[],[]⟩:=by
 have bw:x∈o.op.operands:=by rw[av];simp[Op.operands]
 have bX:y∈o.op.operands:=by rw[av];simp[Op.operands]
 refine bI.val fun K' B' g1 g2 C ρ F ac w az hS=>?_
 have ai:=hS.int ((g1 x bw).trans hx)
 have aq:=hS.int ((g1 y bX).trans aF)
 refine⟨_,?_,rfl⟩
 have e:=V2 aa af aA bE
 have hs:Op.intBits .and .i64 a b=pure (.int .i64 ((a.toNat &&& b.toNat:Nat):Int)):=by
  exact congrArg (fun z:Int=>(pure (Value.int .i64 z):Sem Value)) e
 simp only[execOp,av,ai,aq,eqGuard,binOp,hs]
 simp[go_sem]
def m9 (bits:Nat) (L:List aH) (nm:List UInt8) (cR k:Nat):List UInt8:=(eZ bits L k (nm::cH L cR nm) 0).1
theorem H9 (bits room:Nat) (L:List aH) (bG:m8 bits room L) (nm:List UInt8) (d0:aH) (aC:dk L nm=some d0) (cR:Nat) (iz:dK L nm cR) (o6:cR≤100) (k:Nat) (au:k < d0.im.t.length):
  Fn Tryz.prog 16 [aI 1001,bN nm,aD (k:Int)] (bP bits room L) [] (cJ .u8 (m9 bits L nm cR k)) (bP bits room L):=by
 obtain⟨rU,iJ,iK⟩:=m0 vG
 have hd:=(cT aC).1
 obtain⟨fG,iy,p8⟩:=bG.iU d0 hd
 have mE:=bG.togF.D hd
 have gG:=bG.togF.M hd
 have hx:(cz (aO:=.str) (aV:=.aW) (cq L) nm).getD (dflt .aW)=some d0.ad:=by rw[iA,aC];rfl
 have o3:=fG.tl
 refine Fn.of aj [2,4] _ _ _ _ _ Tryz.func16 rfl rfl (by kernel_rfl) (by kernel_rfl) rfl (aK aj) rfl ?_
 show aE _ _ _ _ _ _ _
 refine aE.go aj (aK aj) [4] (by kernel_rfl) (ah.refl _ _) ?_
 refine⟨fun eX ag=>?_,fun ag=>absurd (show(cz (aO:=.str) (aV:=.aW) (cq L) nm).getD (dflt .aW)=none from ag) (by rw[hx];intro h;cases h)⟩
 refine⟨fun h=>absurd (of_decide_eq_true h) (by omega),fun _=>?_⟩
 refine⟨_,_,fun N=>nS (b:=d0.ad) rfl (by exact oC hx) N,rfl,?_⟩
 refine⟨_,_,fun N=>nT rfl Tryz.underlying130 rfl rfl iJ (by rw[iK];decide) rfl N,rfl,?_⟩
 refine⟨_,_,fun N=>o4 (q:=1003) rfl Tryz.underlying49 rfl rfl rfl mE rfl N,rfl,?_⟩
 refine⟨_,_,_,_,o5 (vv d0.im) gG rfl rfl rfl rfl,⟨rfl,trivial⟩,rfl,?_⟩
 refine⟨fun h=>?_,fun _=>?_⟩
 ·exfalso
  have h:((d0.im.t.length:Nat):Int)≤(k:Int):=of_decide_eq_true h
  omega
 show aE _ _ _ _ _ _ _
 refine aE.go aj (aK aj) [] (by kernel_rfl) (ah.sub (K':=[(0,aI 1001),(1,bN nm),(2,aD (k:Int))]) (B':=bP bits room L) ⟨rfl,rfl,rfl,trivial⟩ ⟨rfl,rfl,rfl,rfl,trivial⟩) ?_
 refine⟨_,_,_,_,Nc bits room L bG nm d0 aC cR iz o6 k (by omega),⟨rfl,rfl,rfl,rfl,trivial⟩,rfl,?_⟩
 exact⟨_,_,_,ah.refl _ _,rfl,rfl,⟨rfl,rfl,rfl,rfl,trivial⟩,rfl⟩
theorem Nd (bits room:Nat) (aa:bits≤3) (aA:room≤512):Fn Tryz.prog 6 [aD (bits:Int),aD (room:Int)] [] [1001,1002,1003,1004] (.c8 [.one (.ptr 1001 0),fO 0]) (bP bits room []):=by
 refine Fn.of aj [2] _ _ _ _ _ Tryz.func6 rfl rfl (by kernel_rfl) (by kernel_rfl) rfl (aK aj) rfl ?_
 refine⟨_,_,_,_,Fn.ren [(1001,2001),(1002,2002),(1003,2003),(1004,2004)] (Vr bits 0 room aa (by decide) aA),trivial,rfl,?_⟩
 show aE _ _ _ _ _ _ _
 refine aE.go aj (aK aj) [] (by kernel_rfl) (ah.sub (K':=[(0,aD (bits:Int)),(1,aD (room:Int)),(7,aD 0)]) (B':=[]) ⟨rfl,rfl,rfl,trivial⟩ trivial) ?_
 refine⟨fun h=>absurd h (by decide),fun _=>?_⟩
 refine⟨rfl,?_⟩
 refine⟨rfl,?_⟩
 exact⟨_,_,_,(ah.ren 21 1001 rfl).trans ((ah.ren 19 1002 rfl).trans ((ah.emp 1003 rfl).trans (ah.emp 1004 rfl))),rfl,⟨rfl,rfl,trivial⟩,⟨rfl,rfl,rfl,rfl,trivial⟩,rfl⟩
def s5 (bits:Nat) (L:List aH) (nm:List UInt8) (cR s:Nat):List UInt8:=((m9 bits L nm cR (s/2 ^bits)).take (s % 2 ^bits*16+16)).drop (s % 2 ^bits*16)
def fK (bits:Nat) (L:List aH) (nm:List UInt8) (cR a:Nat):Nat→List UInt8
 |0=>[]
 |j+1=>fK bits L nm cR a j++s5 bits L nm cR (a+j)
theorem Ia {bits room:Nat} {L:List aH} (h:m8 bits room L) (k:Nat): ∀(ns:List (List UInt8)) (i:Nat),(∀n,n∈ns→ ∃e,dk L n=some e)→(eZ bits L k ns i).1.length=16*2 ^bits
 | [],i,_=>List.length_replicate
 |n::ns,i,hn=>by
  obtain⟨d,e⟩:=hn n (List.mem_cons_self ..)
  unfold eZ
  rw[e]
  simp only
  split
  ·rename_i bM
   obtain⟨fG,iy,_⟩:=h.iU d (cT e).1
   rw[xx fG bM.1 none]
   show 16*2 ^d.im.bits=_
   rw[iy]
  ·exact Ia h k ns (i+1) fun n hm=>hn n (List.mem_cons_of_mem _ hm)
theorem Ib {bits room:Nat} {L:List aH} (h:m8 bits room L) {nm:List UInt8} {d0:aH} (aC:dk L nm=some d0) {cR:Nat} (iz:dK L nm cR) (k:Nat):(m9 bits L nm cR k).length=16*2 ^bits:=
 Ia h k _ 0 fun n hn=>by
  rcases List.mem_cons.1 hn with rfl |hn
  ·exact⟨d0,aC⟩
  ·exact Bw h iz n hn
theorem D3 {bits room:Nat} {L:List aH} (h:m8 bits room L) {nm:List UInt8} {d0:aH} (aC:dk L nm=some d0) {cR:Nat} (iz:dK L nm cR) (a:Nat): ∀j,(fK bits L nm cR a j).length=16*j
 |0=>rfl
 |j+1=>by
  have aY:=D3 h aC iz a j
  have hc:=Ib h aC iz ((a+j)/2 ^bits)
  have hp:=(mA h.eT).1
  have hm:(a+j) % 2 ^bits < 2 ^bits:=Nat.mod_lt _ (by omega)
  show(fK bits L nm cR a j++s5 bits L nm cR (a+j)).length=_
  rw[List.length_append,aY]
  unfold s5
  rw[List.length_drop,List.length_take,hc]
  generalize(a+j) % 2 ^bits=m at*
  generalize 2 ^bits=P at*
  omega
@[reducible] def Nf (nm:List UInt8) (a l j:Nat):aQ:=[(0,aI 1001),(1,bN nm),(2,aD (a:Int)),(3,aD (l:Int)),(13,iL 5002),(14,aD ((a+j:Nat):Int))]
@[reducible] def V4 (nm:List UInt8) (a l j:Nat):aQ:=[(0,aI 1001),(1,bN nm),(2,aD (a:Int)),(3,aD (l:Int)),(13,iL 70),(14,aD ((a+j:Nat):Int))]
@[reducible] def Ng (bits room:Int) (L:List aH) (acc:List UInt8):aG:=bP bits room L++[(5002,.row 5 .u8 acc)]
@[reducible] def V5 (bits room:Int) (L:List aH) (acc:List UInt8):aG:=bP bits room L++[(70,.row 5 .u8 acc)]
set_option maxHeartbeats 1000000 in
theorem V6 (bits room:Nat) (L:List aH) (bG:m8 bits room L) (nm:List UInt8) (d0:aH) (aC:dk L nm=some d0) (cR:Nat) (iz:dK L nm cR) (o6:cR≤100) (a l:Nat) (dU:dJ d0.im a l=0):
  Fn Tryz.prog 51 [aI 1001,bN nm,aD (a:Int),aD (l:Int)] (bP bits room L) [2001] (.c8 [.one (.own 2001),fO 0]) (bP bits room L++[(2001,.row 5 .u8 (fK bits L nm cR a l))]):=by
 obtain⟨rU,iJ,iK⟩:=m0 vG
 have hd:=(cT aC).1
 obtain⟨fG,iy,p8⟩:=bG.iU d0 hd
 have mE:=bG.togF.D hd
 have gG:=bG.togF.M hd
 have hx:(cz (aO:=.str) (aV:=.aW) (cq L) nm).getD (dflt .aW)=some d0.ad:=by rw[iA,aC];rfl
 have hp:=mA bG.eT
 have c9:=rR dU
 have s4:eO d0.im≤2048:=Nat.mul_le_mul fG.tl (mA fG.bits).2
 have V7:eO d0.im=d0.im.t.length*2 ^bits:=by unfold eO;rw[iy]
 refine Fn.of aj [2,5,7,9,11,12] _ _ _ _ _ Tryz.func51 rfl rfl (by kernel_rfl) (by kernel_rfl) rfl (aK aj) rfl ?_
 show aE _ _ _ _ _ _ _
 refine aE.go aj (aK aj) [5,7,9,11,12] (by kernel_rfl) (ah.refl _ _) ?_
 refine⟨fun eX ag=>?_,fun ag=>absurd (show(cz (aO:=.str) (aV:=.aW) (cq L) nm).getD (dflt .aW)=none from ag) (by rw[hx];intro h;cases h)⟩
 refine⟨_,_,fun N=>nS (b:=d0.ad) rfl (by exact oC hx) N,rfl,?_⟩
 refine⟨_,_,fun N=>nT rfl Tryz.underlying130 rfl rfl iJ (by rw[iK];decide) rfl N,rfl,?_⟩
 refine⟨_,_,fun N=>o4 (q:=1003) rfl Tryz.underlying49 rfl rfl rfl mE rfl N,rfl,?_⟩
 refine⟨_,_,_,_,o5 (MQ d0.im fG a l dU) gG rfl rfl rfl rfl,⟨rfl,trivial⟩,rfl,?_⟩
 show aE _ _ _ _ _ _ _
 refine aE.go aj (aK aj) [7,9,11,12] (by kernel_rfl) (ah.sub (K':=[(0,aI 1001),(1,bN nm),(2,aD (a:Int)),(3,aD (l:Int)),(12,aD 0)]) (B':=bP bits room L) ⟨rfl,rfl,rfl,rfl,rfl,trivial⟩ ⟨rfl,rfl,rfl,rfl,trivial⟩) ?_
 refine⟨fun h=>absurd h (by decide),fun _=>?_⟩
 show aE _ _ _ _ _ _ _
 refine aE.go aj (aK aj) [9,11,12] (by kernel_rfl) (ah.refl _ _) ?_
 show aE _ _ _ _ _ _ _
 refine aE.loop aj (aK aj) [11,12] (by kernel_rfl) (X:=Nat) (Nf nm a l) (fun j=>Ng bits room L (fK bits L nm cR a j)) (fun j=>j≤l) (fun j=>l - j) 0 (Nat.zero_le _) ?_ ?_
 ·exact(ah.nil 13 5002 5 .u8 rfl rfl).trans (ah.sub ⟨rfl,rfl,rfl,rfl,rfl,rfl,trivial⟩ ⟨rfl,rfl,rfl,rfl,rfl,trivial⟩)
 intro j ak
 have bw:(-9223372036854775808:Int)≤(a:Int)+(l:Int)∧(a:Int)+(l:Int)≤9223372036854775807:=by omega
 refine⟨bw,?_⟩
 refine⟨fun h=>?_,fun h=>?_⟩
 ·have h:((a+j:Nat):Int) < (a:Int)+(l:Int):=of_decide_eq_true h
  have oc:j < l:=by omega
  have abq:=D3 bG aC iz a j
  have bU:(a+j)/2 ^bits < d0.im.t.length:=by
   rw[Nat.div_lt_iff_lt_mul (by omega),←V7]
   omega
  have cQ:=Ib bG aC iz ((a+j)/2 ^bits)
  have J3:(a+j) % 2 ^bits < 2 ^bits:=Nat.mod_lt _ (by omega)
  have V8:=H9 bits room L bG nm d0 aC cR iz o6 ((a+j)/2 ^bits) bU
  have bX:(0:Int)≤((a+j:Nat):Int)∧(0:Int)≤(bits:Int)∧(bits:Int)≤64:=by have:=bG.eT;omega
  have fT:(0:Int)≤1∧(0:Int)≤(bits:Int)∧(bits:Int)≤64:=by have:=bG.eT;omega
  have ai:(1:Int)*((2 ^bits:Nat):Int)=((2 ^bits:Nat):Int):=Int.one_mul _
  have kK:(-9223372036854775808:Int)≤1*((2 ^bits:Nat):Int)∧(1:Int)*((2 ^bits:Nat):Int)≤9223372036854775807:=by rw[ai];generalize 2 ^bits=P at*;omega
  have sZ:(-9223372036854775808:Int)≤1*((2 ^bits:Nat):Int) - 1∧(1:Int)*((2 ^bits:Nat):Int) - 1≤9223372036854775807:=by rw[ai];generalize 2 ^bits=P at*;omega
  show aE _ _ _ _ _ _ _
  refine aE.go aj (aK aj) [12] (by kernel_rfl) (ah.refl _ _) ?_
  refine⟨bX,fT,kK,sZ,?_⟩
  have et:(1*((2 ^bits:Nat):Int) - 1).toNat=2 ^bits - 1:=by rw[ai];generalize 2 ^bits=P at*;omega
  have ev:(((((a+j:Nat):Int)).toNat &&& (1*((2 ^bits:Nat):Int) - 1).toNat:Nat):Int)=(((a+j) % 2 ^bits:Nat):Int):=by
   rw[et,show(((a+j:Nat):Int)).toNat=a+j from rfl,Nat.and_two_pow_sub_one_eq_mod]
  have o7:(((((a+j:Nat):Int)).toNat &&& (1*((2 ^bits:Nat):Int) - 1).toNat:Nat):Int)*16=(((a+j) % 2 ^bits*16:Nat):Int):=by rw[ev];omega
  have V9:((a+j:Nat):Int)/((2 ^bits:Nat):Int)=(((a+j)/2 ^bits:Nat):Int):=rfl
  have qR:(-9223372036854775808:Int)≤(((((a+j:Nat):Int)).toNat &&& (1*((2 ^bits:Nat):Int) - 1).toNat:Nat):Int)*16∧(((((a+j:Nat):Int)).toNat &&& (1*((2 ^bits:Nat):Int) - 1).toNat:Nat):Int)*16≤9223372036854775807:=by
   rw[o7]
   generalize(a+j) % 2 ^bits=m at*
   generalize 2 ^bits=P at*
   omega
  refine⟨_,_,fun N=>V3 rfl rfl rfl bX.1 (by omega) (by rw[ai];generalize 2 ^bits=P at*;omega) sZ.2 N,rfl,?_⟩
  refine⟨qR,rfl,?_⟩
  have H7:(-9223372036854775808:Int)≤(((a+j) % 2 ^bits*16:Nat):Int)+16∧(((a+j) % 2 ^bits*16:Nat):Int)+16≤9223372036854775807:=by
   generalize(a+j) % 2 ^bits=m at*
   generalize 2 ^bits=P at*
   omega
  have H8:(0:Int)≤(((a+j) % 2 ^bits*16:Nat):Int)∧(((a+j) % 2 ^bits*16:Nat):Int)≤(((a+j) % 2 ^bits*16:Nat):Int)+16∧(((a+j) % 2 ^bits*16:Nat):Int)+16≤(((m9 bits L nm cR ((a+j)/2 ^bits)).length:Nat):Int):=by
   rw[cQ]
   generalize(a+j) % 2 ^bits=m at*
   generalize 2 ^bits=P at*
   omega
  have Ic:(fK bits L nm cR a j).length+(s5 bits L nm cR (a+j)).length≤4294967296:=by
   have:=D3 bG aC iz a (j+1)
   rw[show fK bits L nm cR a (j+1)=fK bits L nm cR a j++s5 bits L nm cR (a+j) from rfl,List.length_append] at this
   omega
  show aE _ _ _ _ _ _ _
  refine aE.go aj (aK aj) [] (by kernel_rfl) (ah.sub (K':=(15,aD (((a+j)/2 ^bits:Nat):Int))::(16,aD (((a+j) % 2 ^bits*16:Nat):Int))::Nf nm a l j) (B':=Ng bits room L (fK bits L nm cR a j)) ⟨V9,o7,rfl,rfl,rfl,rfl,rfl,rfl,trivial⟩ ⟨rfl,rfl,rfl,rfl,rfl,trivial⟩) ?_
  refine⟨_,_,_,_,V8,⟨rfl,rfl,rfl,rfl,trivial⟩,rfl,?_⟩
  refine⟨H7,H8,?_⟩
  refine⟨Ic,rfl,?_⟩
  have Wa:(-9223372036854775808:Int)≤((a+j:Nat):Int)+1∧((a+j:Nat):Int)+1≤9223372036854775807:=by omega
  refine⟨Wa,j+1,by omega,by omega,?_⟩
  exact ah.trans (ah.sub (K':=V4 nm a l (j+1)) (B':=V5 bits room L (fK bits L nm cR a (j+1))) ⟨rfl,rfl,rfl,rfl,rfl,rfl,trivial⟩ ⟨rfl,rfl,rfl,rfl,rfl,trivial⟩) (ah.ren 70 5002 rfl)
 ·have h: ¬((a+j:Nat):Int) < (a:Int)+(l:Int):=of_decide_eq_false h
  have oc:j=l:=by omega
  subst oc
  exact⟨_,_,_,ah.ren 5002 2001 rfl,rfl,⟨rfl,rfl,trivial⟩,⟨rfl,rfl,rfl,rfl,rfl,trivial⟩,rfl⟩
theorem Wb (bits room:Nat) (L:List aH) (bG:m8 bits room L) (nm:List UInt8) (d0:aH) (aC:dk L nm=some d0) (cR:Nat) (iz:dK L nm cR) (o6:cR≤100) (a l:Nat) (dU:dJ d0.im a l=0):
  Fn Tryz.prog 51 [aI 1001,bN nm,aD (a:Int),aD (l:Int)] (bP bits room L) [] (.c8 [.one (.d (.cW .u8 (fK bits L nm cR a l))),fO 0]) (bP bits room L):=
 Fn.MD (d:=2001) (V6 bits room L bG nm d0 aC cR iz o6 a l dU) rfl rfl rfl
theorem Wc (bits room:Int) (L:List aH) (nm:List UInt8) (aC:dk L nm=none) (a l:Int):
  Fn Tryz.prog 51 [aI 1001,bN nm,aD a,aD l] (bP bits room L) [] (.c8 [.one .ee,fO 140]) (bP bits room L):=by
 have hx:(cz (aO:=.str) (aV:=.aW) (cq L) nm).getD (dflt .aW)=none:=by rw[iA,aC];rfl
 refine Fn.of aj [] _ _ _ _ _ Tryz.func51 rfl rfl (by kernel_rfl) (by kernel_rfl) rfl (aK aj) rfl ?_
 refine⟨fun eX ag=>absurd (show(cz (aO:=.str) (aV:=.aW) (cq L) nm).getD (dflt .aW)=some eX from ag) (by rw[hx];intro h;cases h),fun _=>?_⟩
 exact⟨_,_,_,ah.refl _ _,rfl,⟨rfl,rfl,trivial⟩,⟨rfl,rfl,rfl,rfl,trivial⟩,rfl⟩
theorem Wd (bits room:Nat) (L:List aH) (bG:m8 bits room L) (nm:List UInt8) (d0:aH) (aC:dk L nm=some d0) (a l:Int) (dU:dJ d0.im a l≠0):
  Fn Tryz.prog 51 [aI 1001,bN nm,aD a,aD l] (bP bits room L) [] (.c8 [.one .ee,fO (dJ d0.im a l)]) (bP bits room L):=by
 obtain⟨rU,iJ,iK⟩:=m0 vG
 have hd:=(cT aC).1
 obtain⟨fG,iy,p8⟩:=bG.iU d0 hd
 have mE:=bG.togF.D hd
 have gG:=bG.togF.M hd
 have hx:(cz (aO:=.str) (aV:=.aW) (cq L) nm).getD (dflt .aW)=some d0.ad:=by rw[iA,aC];rfl
 refine Fn.of aj [] _ _ _ _ _ Tryz.func51 rfl rfl (by kernel_rfl) (by kernel_rfl) rfl (aK aj) rfl ?_
 refine⟨fun eX ag=>?_,fun ag=>absurd (show(cz (aO:=.str) (aV:=.aW) (cq L) nm).getD (dflt .aW)=none from ag) (by rw[hx];intro h;cases h)⟩
 refine⟨_,_,fun N=>nS (b:=d0.ad) rfl (by exact oC hx) N,rfl,?_⟩
 refine⟨_,_,fun N=>nT rfl Tryz.underlying130 rfl rfl iJ (by rw[iK];decide) rfl N,rfl,?_⟩
 refine⟨_,_,fun N=>o4 (q:=1003) rfl Tryz.underlying49 rfl rfl rfl mE rfl N,rfl,?_⟩
 refine⟨_,_,_,_,o5 (U5 d0.im fG a l dU) gG rfl rfl rfl rfl,⟨rfl,trivial⟩,rfl,?_⟩
 refine⟨fun _=>?_,fun h=>absurd (show dJ d0.im a l=0 by have h:(!decide (dJ d0.im a l=0))=false:=h;simpa using h) dU⟩
 exact⟨_,_,_,ah.refl _ _,rfl,⟨rfl,rfl,trivial⟩,⟨rfl,rfl,rfl,rfl,trivial⟩,rfl⟩
end Go.Proofs.YteoamepgonpdlaaGreat
namespace Go.Proofs.YteoamepgonpdlaaGreat
set_option linter.unusedVariables false
set_option linter.unusedSimpArgs false
set_option maxRecDepth 10000
open Go.RowKit Go.Proofs Go.Maps Go.Shelf Go.MapKept
open Go.WideElems (Fit rd rg pl rd_val rd_key rg_of)
def We {aV:U} (p:aJ .str×aJ aV):List UInt8:=p.1
def qc {aV:U} (es:List (aJ .str×aJ aV)):List (List UInt8):=es.map We
def s6 {aV:U} (es:List (aJ .str×aJ aV)):List (List UInt8):=(qc es).mergeSort leB
abbrev xK:Value→Option (DataW Unit×List MemPlace):=fun _=>some (.nil,[])
theorem Nh {I:Nat→Prop} {w:World} {aV:U}: ∀{l:List (aJ .str×aJ aV)} {es:List MapEntry},kj I w .str aV l es→es.map (·.key)=(qc l).map encStr
 | [],_,h=>by rw[show _=[] from h];rfl
 |p::l,_,⟨e,r,h,aa,_,aA⟩=>by
  rw[h,List.map_cons,Nh aA,aa]
  rfl
theorem Wf {P:Program} {k:TypeId} (au:P.underlying k=some .string) (s:List UInt8) (h:s.length≤maxLen):keyOf P k (encStr s)=some (.string s):=by
 simp only[keyOf,au,encStr,mapKey,ByteArray.size,List.size_toArray]
 rw[if_pos h]
theorem Ni: ∀{l m:List (List UInt8)},l.map encStr=m.map encStr→l=m
 | [],[],_=>rfl
 | [],_::_,h=>by simp at h
 |_::_,[],h=>by simp at h
 |x::l,y::m,h=>by
  simp only[List.map_cons,List.cons.injEq] at h
  rw[encStr_inj h.1,Ni h.2]
theorem Wg {P:Program} {k:TypeId} (au:P.underlying k=some .string) {I:Nat→Prop} {w:World} {aV:U} {es:List (aJ .str×aJ aV)} {dM:List MapEntry} {clock b:Nat} (ag:w.heap[b]? =some (.map (List.toArray dM) clock))
  (hm:kj I w .str aV es dM) (eA:pK dM clock) (hn:(qc es).Nodup) (aB: ∀s∈qc es,s.length≤maxLen) (hs:es.length≤maxLen):
  ∃xL,w.ownsMap P k xK b es.length xL∧Maps.size xL=es.length∧(strKeys xL).Perm (qc es):=by
 have hlen:=E0 hm
 have Ie:=Nh hm
 have Nj: ∀x∈dM,∃s:List UInt8,x.key=encStr s∧s.length≤maxLen∧rg P k xK x=(.string s,.nil)∧ ∃y,rd P k xK x=some y:=by
  intro x hx
  have:x.key∈(qc es).map encStr:=by rw[←Ie];exact List.mem_map_of_mem hx
  obtain⟨s,hp,he⟩:=List.mem_map.1 this
  have Wh:keyOf P k x.key=some (.string s):=he▸Wf au _ (aB s hp)
  have xJ:rd P k xK x=some (.string s,.nil):=by simp[rd,Wh]
  exact⟨s,he.symm,aB s hp,rg_of xJ,_,xJ⟩
 have D4:=Go.WideShapes.sorted_perm (dM.map (rg P k xK))
 have iz:(dM.map (rg P k xK)).map (fun p=>strOf p.1)=qc es:=by
  refine Ni ?_
  rw[←Ie,List.map_map,List.map_map]
  refine List.map_congr_left fun x hx=>?_
  obtain⟨s,ai,_,aq,_⟩:=Nj x hx
  simp[aq,ai,strOf]
 refine⟨.map ((dM.map (rg P k xK)).foldr DataW.insert []),⟨List.toArray dM,clock,ag,⟨by simp[hlen];exact hs,(stamped_iff _ _).2 ⟨eA.2,eA.1.imp fun h=>by omega,?_⟩,fun x hx=>(Nj x hx).choose_spec.2.2.2⟩,by simp[hlen],rfl⟩,?_,?_⟩
 ·have aa:(dM.map (·.key)).Pairwise (· ≠ ·):=by
   rw[Ie]
   exact List.pairwise_map.2 (hn.imp fun bf e=>bf (encStr_inj e))
  exact List.pairwise_map.1 aa
 ·show List.length _=_
  rw[D4.length_eq,List.length_map,hlen]
 ·show(List.map (fun p=>strOf (Prod.fst p)) _).Perm _
  rw[←iz]
  exact D4.map _
theorem Wi (es:List (aJ .str×aJ .aW)):Fn Tryz.prog 104 [.c (.one (.mp 1001))] [(1001,.map .str .aW es)] [2001] (.c (.one (.eH 130 [.p 2001 0]))) [(2001,.cells [.mp 1001]),(1001,.map .str .aW es)]:=by
 refine Fn.of aj [] _ _ _ _ _ Tryz.func104 rfl rfl (by kernel_rfl) (by kernel_rfl) rfl (aK aj) rfl ?_
 refine⟨rfl,?_⟩
 exact⟨_,_,_,ah.ren 1 2001 rfl,rfl,rfl,⟨rfl,rfl,trivial⟩,rfl⟩
theorem fR.Wj {I D:Nat→Prop} {w:World} {v:Value} {l:List (List UInt8)} (h:fR D w 1 v l.length (l.map encStr)) (bW: ∀b,b < w.heap.size→D b→I b):cg I w (.sl .str) l (fun _=>some v):=by
 obtain⟨_,A,c,aC,aa,af,aA⟩:=h
 refine⟨A,c,congrArg some aC,aa,af,fun hp=>?_⟩
 obtain⟨b,o,hA,ag,bH,hx⟩:=aA hp
 refine⟨b,o,hA,bW b bH ag,fun i x ay=>?_⟩
 have:=hx i (encStr x) (by rw[List.getElem?_map,show l[i]? =some x from ay];rfl)
 simpa[cg,aM,encStr] using this
theorem Wk (m:Nat):AnyZ.SortsIn Tryz.prog Tryz.LU Fence.wide m:=
 ⟨fun bO off cap vI W eo jb ek=>callsIn_wide.2 (AnyM.slices_Sort_string Tryz.LV bO off cap vI W eo jb ek),
  fun p cap W=>callsIn_wide.2 (AnyM.slices_Sort_string_none Tryz.LV p cap W)⟩
theorem Wl (es:List (aJ .str×aJ .aW)) (hn:(qc es).Nodup) (aB: ∀s∈qc es,s.length≤maxLen) (hs:es.length≤4294967296):
  Fn Tryz.prog 103 [.c (.one (.eH 130 [.p 2001 0]))] [(2001,.cells [.mp 1001]),(1001,.map .str .aW es)] [] (cJ .str (s6 es)) [(2001,.cells [.mp 1001]),(1001,.map .str .aW es)]:=by
 refine⟨by kernel_rfl,fun ρ F I w b6 bC eo hF fZ hlen ep=>?_⟩
 match b6,hlen with
 | [v],_=>
  obtain⟨vs,hv,w0,r,rD,Ig,hr⟩:=ep 0 _ v rfl rfl
  have hr:r=[]:=hr
  have Ig:w0= .pointer (some ⟨(ρ 2001).bO,0,none⟩):=Ig
  subst hr Ig rD hv
  obtain⟨_,vs,T,uj,rD⟩:=eo 2001 _ rfl
  obtain⟨x,r,rD,hx,hr⟩:=rD
  have hr:r=[]:=hr
  have hx:x= .map (some (ρ 1001).bO):=hx
  subst hr hx rD
  obtain⟨_,dM,clock,sC,hm,eA⟩:=eo 1001 _ rfl
  have abr:(4294967296:Nat)≤maxLen:=by decide
  obtain⟨xL,dF,ek,D4⟩:=Wg (P:=Tryz.prog) (k:=9) (by kernel_rfl) sC hm eA hn aB (by omega)
  have bH:(ρ 2001).bO < w.heap.size:=q3 uj
  have Wm:SeqGives Fence.wide 2 Tryz.prog 130 #[.pointer (some ⟨(ρ 2001).bO,0,none⟩)] encStr (fun vI=>vI.Perm (strKeys xL)) (Maps.size xL) w:=
   AnyZ.keys_gives (ρ:=Tryz.LS) {Tryz.S4 with} Fence.wide _ trivial rfl (by omega) (ρ 2001).bO (ρ 1001).bO es.length xL w bH (cell_of uj rfl) dF
  have hc:=AnyZ.sorted_in Tryz.S5 Fence.wide 5 trivial trivial trivial trivial rfl (by omega) (Wk _) (enters_of Tryz.func129 (by kernel_rfl) rfl) 130 #[.pointer (some ⟨(ρ 2001).bO,0,none⟩)] trivial (enters_of Tryz.func130 (by kernel_rfl) rfl) _ _ (by rw[ek];omega) (by rw[ek];omega) _ Wm
  refine(callsIn_wide.1 hc).mono ?_
  rintro e w' ⟨v,vI,rfl,hS,jz,abt,uA⟩
  have bA:Ext I w (fun b=>b < w'.heap.size∧(I b∨w.heap.size≤b)) w':=fun b xM=>⟨⟨Nat.lt_of_lt_of_le (bC b xM) uA.size,.inl xM⟩,uA.block b (bC b xM)⟩
  refine⟨v,ρ,F,rfl,Fr.q2 uA,fun _ _=>rfl,_,bA,fun b h=>⟨h.1,h.2.imp id .inr⟩,fun c ch hc=>Holds.cA bA (fun b ag=>uA.block b (hF c ch hc b ag).1) uA.size ch (fun _ _=>rfl) (eo c ch hc),fun c ch hc b ag=>?_,fun c bY ch bg b aa af=>fZ c bY ch bg b aa af,?_⟩
  ·have:=hF c ch hc b ag
   exact⟨Nat.lt_of_lt_of_le this.1 uA.size,fun h=>(by rcases h.2 with h |h;exact this.2 h;omega),.inl ⟨c,ch,hc,ag⟩⟩
  ·have au:vI.mergeSort (fun x y=>decide (x≤y))=s6 es:=Go.mergeSort_of_perm (hS.trans D4)
   rw[au] at jz
   have pS:=fR.wk jz
   have Nk:vI.length=(s6 es).length:=by rw[←au,List.length_mergeSort]
   rw[Nk] at pS
   exact(pS.weaken fun i _ ay=>(jz.lt i ay).1).Wj fun b aa af=>⟨aa,.inr af⟩
theorem vJ (L:List aH):qc (cq L)=L.map (·.nm):=by
 unfold qc cq
 rw[List.map_map]
 rfl
def ic (L:List aH):List (List UInt8):=s6 (cq L)
theorem Ih {L:List aH} {n:List UInt8} (h:n∈ic L): ∃d,dk L n=some d:=by
 unfold ic s6 at h
 rw[List.mem_mergeSort,vJ] at h
 obtain⟨d,hd,e⟩:=List.mem_map.1 h
 cases aq:dk L n with
 |some d=>exact⟨d,rfl⟩
 |none=>
  unfold dk at aq
  have:=List.find?_eq_none.1 aq d hd
  simp[e] at this
theorem D5 (L:List aH):(ic L).length=L.length:=by
 unfold ic s6
 rw[List.length_mergeSort,vJ,List.length_map]
theorem Nl (bits room:Int) (L:List aH) (dn:gF L) (aB: ∀d,d∈L→d.nm.length≤100000) (mF:L.length≤100):Fn Tryz.prog 63 [aI 1001] (bP bits room L) [] (cJ .str (ic L)) (bP bits room L):=by
 have au:(qc (cq L)).Nodup:=by rw[vJ];exact dn.kg
 have hm: ∀s∈qc (cq L),s.length≤maxLen:=fun s hs=>by
  rw[vJ] at hs
  obtain⟨d,hd,rfl⟩:=List.mem_map.1 hs
  exact Nat.le_trans (aB d hd) (by decide)
 have hs:(cq L).length≤4294967296:=by unfold cq;rw[List.length_map];omega
 refine Fn.of aj [] _ _ _ _ _ Tryz.func63 rfl rfl (by kernel_rfl) (by kernel_rfl) rfl (aK aj) rfl ?_
 refine⟨_,_,_,_,Fn.ren [(1001,1002),(2001,5001)] (Wi (cq L)),⟨rfl,trivial⟩,rfl,?_⟩
 refine⟨_,_,_,_,Fn.ren [(1001,1002),(2001,5001)] (Wl (cq L) au hm hs),⟨rfl,rfl,trivial⟩,rfl,?_⟩
 exact⟨_,_,_,ah.refl _ _,rfl,rfl,⟨rfl,rfl,rfl,rfl,trivial⟩,rfl⟩
def kL (L:List aH) (nm n:List UInt8):Bool:= !decide (nm=[])&&decide (((dk L n).map (·.back)).getD []=nm)
def o8 (L:List aH) (nm:List UInt8):List (List UInt8):=(ic L).filter (kL L nm)
@[reducible] def Ii (nm:List UInt8) (l:List (List UInt8)) (j:Nat):aQ:=[(0,aI 1001),(1,bN nm),(5,iL 5002),(9,cJ .str l),(10,aD (l.length:Nat)),(11,aD (j:Nat))]
@[reducible] def Wn (nm:List UInt8) (l:List (List UInt8)) (j:Nat):aQ:=[(0,aI 1001),(1,bN nm),(5,iL 33),(9,cJ .str l),(10,aD (l.length:Nat)),(11,aD (j:Nat))]
@[reducible] def Ij (bits room:Int) (L:List aH) (x:List (List UInt8)):aG:=bP bits room L++[(5002,.row 9 .str x)]
@[reducible] def Wo (bits room:Int) (L:List aH) (x:List (List UInt8)):aG:=bP bits room L++[(33,.row 9 .str x)]
set_option maxHeartbeats 1000000 in
theorem Nm (bits room:Int) (L:List aH) (dn:gF L) (aB: ∀d,d∈L→d.nm.length≤100000) (mF:L.length≤100) (nm:List UInt8):Fn Tryz.prog 68 [aI 1001,bN nm] (bP bits room L) [] (cJ .str (o8 L nm)) (bP bits room L):=by
 obtain⟨rU,iJ,iK⟩:=m0 DY
 have jY:=@Ih L
 have hlen:=D5 L
 have y4:=Nl bits room L dn aB mF
 unfold o8
 generalize ic L=l at*
 refine Fn.of aj [5,6,8] _ _ _ _ _ Tryz.func68 rfl rfl (by kernel_rfl) (by kernel_rfl) rfl (aK aj) rfl ?_
 refine⟨_,_,_,_,y4,⟨rfl,rfl,rfl,rfl,trivial⟩,rfl,?_⟩
 show aE _ _ _ _ _ _ _
 refine aE.loop aj (aK aj) [5,6,8] (by kernel_rfl) (X:=Nat) (Ii nm l) (fun j=>Ij bits room L ((l.take j).filter (kL L nm))) (fun j=>j≤l.length) (fun j=>l.length - j) 0 (Nat.zero_le _) ?_ ?_
 ·exact(ah.nil 5 5002 9 .str rfl rfl).trans (ah.sub ⟨rfl,rfl,rfl,rfl,rfl,rfl,trivial⟩ ⟨rfl,rfl,rfl,rfl,rfl,trivial⟩)
 intro j ak
 refine⟨fun h=>?_,fun h=>?_⟩
 ·have h:decide ((j:Int) < (l.length:Nat))=true:=h
  have fJ:j < l.length:=by simpa using h
  obtain⟨d,hd⟩:=jY (List.getElem_mem fJ)
  have mE:=dn.D (cT hd).1
  have hx:(cz (aO:=.str) (aV:=.aW) (cq L) l[j]).getD (dflt .aW)=some d.ad:=by rw[iA,hd];rfl
  have hu:kL L nm l[j]=(!decide (nm=[])&&decide (d.back=nm)):=by unfold kL;rw[hd];rfl
  have xI:(l.take (j+1)).filter (kL L nm)=(l.take j).filter (kL L nm)++(if kL L nm l[j]=true then[l[j]] else[]):=by
   rw[List.take_succ_eq_append_getElem fJ,List.filter_append]
   congr 1
   by_cases e:kL L nm l[j]=true
   ·rw[if_pos e,List.filter_cons_of_pos e];rfl
   ·rw[if_neg e,List.filter_cons_of_neg e];rfl
  have abu:((l.take j).filter (kL L nm)).length≤j:=Nat.le_trans (List.length_filter_le _ _) (by rw[List.length_take];omega)
  have fT:(0:Int)≤(j:Int):=by omega
  have qR:(-9223372036854775808:Int)≤(j:Int)+1∧(j:Int)+1≤9223372036854775807:=by omega
  have keep:kL L nm l[j]=false→(l.take (j+1)).filter (kL L nm)=(l.take j).filter (kL L nm):=fun e=>by rw[xI,if_neg (by rw[e];decide),List.append_nil]
  refine⟨fT,l[j],eY (n:=j) fJ,?_⟩
  generalize l[j]=n at*
  show aE _ _ _ _ _ _ _
  refine aE.go aj (aK aj) [6,8] (by kernel_rfl) (ah.sub (K':=(7,bN n)::Ii nm l j) (B':=Ij bits room L ((l.take j).filter (kL L nm))) ⟨rfl,rfl,rfl,rfl,rfl,rfl,rfl,trivial⟩ ⟨rfl,rfl,rfl,rfl,rfl,trivial⟩) ?_
  refine⟨fun aa=>?_,fun aa=>?_⟩
  ·have aa: ¬nm=[]:=by
    have aa:(!decide (nm=[]))=true:=aa
    simpa using aa
   refine⟨_,_,fun N=>nS (b:=d.ad) rfl (by exact oC hx) N,rfl,?_⟩
   refine⟨_,_,fun N=>nT rfl Tryz.underlying130 rfl rfl iJ (by rw[iK];decide) rfl N,rfl,?_⟩
   refine⟨_,_,fun N=>o4 (q:=1003) rfl Tryz.underlying9 rfl rfl rfl mE rfl N,rfl,?_⟩
   refine⟨fun af=>?_,fun af=>?_⟩
   ·have af:d.back=nm:=of_decide_eq_true af
    have CK:kL L nm n=true:=by rw[hu,decide_eq_false aa,decide_eq_true af];rfl
    rw[if_pos CK] at xI
    have Ic:((l.take j).filter (kL L nm)).length+1≤4294967296:=by omega
    show aE _ _ _ _ _ _ _
    refine aE.go aj (aK aj) [] (by kernel_rfl) (ah.sub (K':=(7,bN n)::Ii nm l j) (B':=Ij bits room L ((l.take j).filter (kL L nm))) ⟨rfl,rfl,rfl,rfl,rfl,rfl,rfl,trivial⟩ ⟨rfl,rfl,rfl,rfl,rfl,trivial⟩) ?_
    refine⟨Ic,rfl,?_⟩
    refine⟨qR,j+1,fJ,by omega,?_⟩
    exact ah.trans (ah.sub (K':=Wn nm l (j+1)) (B':=Wo bits room L ((l.take (j+1)).filter (kL L nm))) ⟨rfl,rfl,rfl,rfl,rfl,rfl,trivial⟩ ⟨rfl,rfl,rfl,rfl,congrArg (fun l:List (List UInt8)=>some (bF.row 9 .str l)) xI.symm,trivial⟩) (ah.ren 33 5002 rfl)
   ·have af: ¬d.back=nm:=of_decide_eq_false af
    have au:=keep (by rw[hu,decide_eq_false af,Bool.and_false])
    exact⟨qR,j+1,fJ,by omega,ah.sub ⟨rfl,rfl,rfl,rfl,rfl,rfl,trivial⟩ ⟨rfl,rfl,rfl,rfl,congrArg (fun l:List (List UInt8)=>some (bF.row 9 .str l)) au.symm,trivial⟩⟩
  ·have aa:nm=[]:=by
    have aa:(!decide (nm=[]))=false:=aa
    simpa using aa
   have au:=keep (by rw[hu,decide_eq_true aa];rfl)
   exact⟨qR,j+1,fJ,by omega,ah.sub ⟨rfl,rfl,rfl,rfl,rfl,rfl,trivial⟩ ⟨rfl,rfl,rfl,rfl,congrArg (fun l:List (List UInt8)=>some (bF.row 9 .str l)) au.symm,trivial⟩⟩
 ·have h:decide ((j:Int) < (l.length:Nat))=false:=h
  have fJ:j=l.length:=by simp at h;omega
  subst fJ
  have cl:(l.take l.length).filter (kL L nm)=l.filter (kL L nm):=by rw[List.take_length]
  show aE _ _ _ _ _ _ _
  refine aE.go aj (aK aj) [] (by kernel_rfl) (ah.refl _ _) ?_
  exact⟨_,_,_,ah.dV 5002 rfl,rfl,cl,⟨rfl,rfl,rfl,rfl,trivial⟩,rfl⟩
def jH:List aH→List UInt8→List aH
 | [],_=>[]
 |d::L,nm=>if d.nm=nm then L else d::jH L nm
theorem nU (d:aH) (L:List aH) (nm:List UInt8):dk (d::L) nm=if d.nm=nm then some d else dk L nm:=by
 unfold dk
 rw[List.find?_cons]
 by_cases e:d.nm=nm
 ·rw[decide_eq_true e,if_pos e]
 ·rw[decide_eq_false e,if_neg e]
theorem vK {L:List aH} {nm:List UInt8} {d:aH} (h:d∈jH L nm):d∈L:=by
 induction L with
 |nil=>exact h
 |cons e L aY=>
  unfold jH at h
  split at h
  ·exact List.mem_cons_of_mem _ h
  ·rcases List.mem_cons.1 h with rfl |h
   ·exact List.mem_cons_self ..
   ·exact List.mem_cons_of_mem _ (aY h)
theorem D6 (L:List aH) (nm:List UInt8):(jH L nm).Sublist L:=by
 induction L with
 |nil=>exact .slnil
 |cons e L aY=>
  unfold jH
  split
  ·exact List.sublist_cons_self ..
  ·exact aY.cons_cons _
theorem Nn (nm:List UInt8): ∀L:List aH,jT (aO:=.str) (aV:=.aW) (cq L) nm=cq (jH L nm)
 | []=>rfl
 |d::L=>by
  have aY:=Nn nm L
  show jT (aO:=.str) (aV:=.aW) (jo d::cq L) nm=_
  rw[show jT (aO:=.str) (aV:=.aW) (jo d::cq L) nm=match jS .str (nm:aJ .str) (jo d).1 with |true=>cq L |false=>jo d::jT (aO:=.str) (aV:=.aW) (cq L) nm from rfl]
  unfold jH
  by_cases e:d.nm=nm
  ·rw[show jS .str (nm:aJ .str) (jo d).1=true from(Bc _ _).2 e.symm,if_pos e]
  ·rw[show jS .str (nm:aJ .str) (jo d).1=false from sU (aO:=.str) Bc (fun h=>e h.symm),if_neg e]
   simp only
   rw[aY]
   rfl
theorem Ik {f:aH→Nat×bK}: ∀{L:List aH},(L.map fun d=>(f d).1).Nodup→ ∀{nm:List UInt8} {d0:aH},dk L nm=some d0→kz (L.map f) (f d0).1=(jH L nm).map f
 | [],_,nm,d0,h=>by cases h
 |d::L,hn,nm,d0,h=>by
  rw[List.map_cons] at hn
  obtain⟨eM,gj⟩:=List.nodup_cons.1 hn
  rw[nU] at h
  rw[List.map_cons]
  unfold kz jH
  by_cases e:d.nm=nm
  ·rw[if_pos e] at h
   injection h with h
   subst h
   rw[if_pos rfl,if_pos e]
  ·rw[if_neg e] at h
   have bf: ¬(f d).1=(f d0).1:=fun aq=>eM (by rw[aq];exact List.mem_map_of_mem (f:=fun d=>(f d).1) (cT h).1)
   rw[if_neg bf,if_neg e,List.map_cons,Ik gj h]
theorem gF.del {L:List aH} (h:gF L) (nm:List UInt8):gF (jH L nm):=
 ⟨h.kg.sublist ((D6 L nm).map _),h.vF.sublist ((D6 L nm).map _),h.uy.sublist ((D6 L nm).map _)⟩
theorem Wp (bits room:Int) (L:List aH) (nm:List UInt8) (aC:dk L nm=none):Fn Tryz.prog 52 [aI 1001,bN nm] (bP bits room L) [] (aD 140) (bP bits room L):=by
 have hx:(cz (aO:=.str) (aV:=.aW) (cq L) nm).getD (dflt .aW)=none:=by rw[iA,aC];rfl
 refine Fn.of aj [] _ _ _ _ _ Tryz.func52 rfl rfl (by kernel_rfl) (by kernel_rfl) rfl (aK aj) rfl ?_
 refine⟨fun eX ag=>absurd (show(cz (aO:=.str) (aV:=.aW) (cq L) nm).getD (dflt .aW)=some eX from ag) (by rw[hx];intro h;cases h),fun _=>?_⟩
 exact⟨_,_,_,ah.refl _ _,rfl,rfl,⟨rfl,rfl,rfl,rfl,trivial⟩,rfl⟩
theorem Wq (bits room:Int) (L:List aH) (dn:gF L) (aB: ∀d,d∈L→d.nm.length≤100000) (mF:L.length≤100) (nm:List UInt8) (d0:aH) (aC:dk L nm=some d0) (hu:o8 L nm≠[]):Fn Tryz.prog 52 [aI 1001,bN nm] (bP bits room L) [] (aD 143) (bP bits room L):=by
 have hx:(cz (aO:=.str) (aV:=.aW) (cq L) nm).getD (dflt .aW)=some d0.ad:=by rw[iA,aC];rfl
 have D7:=Nm bits room L dn aB mF nm
 have oM:0 < (o8 L nm).length:=List.length_pos_iff.2 hu
 generalize o8 L nm=us at*
 refine Fn.of aj [] _ _ _ _ _ Tryz.func52 rfl rfl (by kernel_rfl) (by kernel_rfl) rfl (aK aj) rfl ?_
 refine⟨fun eX ag=>?_,fun ag=>absurd (show(cz (aO:=.str) (aV:=.aW) (cq L) nm).getD (dflt .aW)=none from ag) (by rw[hx];intro h;cases h)⟩
 refine⟨_,_,_,_,D7,⟨rfl,rfl,rfl,rfl,trivial⟩,rfl,?_⟩
 refine⟨fun _=>?_,fun h=>?_⟩
 ·exact⟨_,_,_,ah.refl _ _,rfl,rfl,⟨rfl,rfl,rfl,rfl,trivial⟩,rfl⟩
 ·exfalso
  have h: ¬(0:Int) < ((us.length:Nat):Int):=of_decide_eq_false h
  omega
theorem Wr (bits room:Int) (L:List aH) (dn:gF L) (aB: ∀d,d∈L→d.nm.length≤100000) (mF:L.length≤100) (nm:List UInt8) (d0:aH) (aC:dk L nm=some d0) (hu:o8 L nm=[]):Fn Tryz.prog 52 [aI 1001,bN nm] (bP bits room L) [] (aD 0) (bP bits room (jH L nm)):=by
 have hx:(cz (aO:=.str) (aV:=.aW) (cq L) nm).getD (dflt .aW)=some d0.ad:=by rw[iA,aC];rfl
 have D7:=Nm bits room L dn aB mF nm
 rw[hu] at D7
 have mE:=dn.D (cT aC).1
 have gG:=dn.M (cT aC).1
 have xN:=Nn nm L
 have Il:kz (iT L) d0.ad=iT (jH L nm):=Ik (f:=fun d=>(d.ad,rT d.am d.back)) dn.vF aC
 have D8:kz (fW L) d0.am=fW (jH L nm):=Ik (f:=fun d=>(d.am,j0 d)) dn.uy aC
 refine Fn.of aj [5] _ _ _ _ _ Tryz.func52 rfl rfl (by kernel_rfl) (by kernel_rfl) rfl (aK aj) rfl ?_
 refine⟨fun eX ag=>?_,fun ag=>absurd (show(cz (aO:=.str) (aV:=.aW) (cq L) nm).getD (dflt .aW)=none from ag) (by rw[hx];intro h;cases h)⟩
 refine⟨_,_,_,_,D7,⟨rfl,rfl,rfl,rfl,trivial⟩,rfl,?_⟩
 refine⟨fun h=>absurd h (by decide),fun _=>?_⟩
 show aE _ _ _ _ _ _ _
 refine aE.go aj (aK aj) [] (by kernel_rfl) (ah.sub (K':=[(0,aI 1001),(1,bN nm)]) (B':=bP bits room L) ⟨rfl,rfl,trivial⟩ ⟨rfl,rfl,rfl,rfl,trivial⟩) ?_
 exact⟨_,_,_,(ah.DW 1003 5001 d0.ad rfl mE rfl).trans (ah.DW 1004 5002 d0.am rfl gG rfl),rfl,rfl,⟨rfl,congrArg (fun e=>some (bF.map .str .aW e)) xN,congrArg (fun e=>some (bF.obj (.cO e))) Il,congrArg (fun e=>some (bF.obj (.cO e))) D8,trivial⟩,rfl⟩
end Go.Proofs.YteoamepgonpdlaaGreat
namespace Go.Proofs.YteoamepgonpdlaaGreat
open Go.RowKit
def k5 (c:UInt8):Bool:=(97≤c.toNat&&c.toNat≤122)||(48≤c.toNat&&c.toNat≤57)||c.toNat == 46||c.toNat == 45
def xO (s:ByteArray):Bool:=decide (1≤s.size)&&decide (s.size≤15)&&s.data.toList.all k5
theorem decode_high (s:ByteArray) (pos:Nat) (h:pos < s.size) (ha: ¬(s[pos]'h).toNat < 128):128≤(Utf8.decode s pos).1∧(Utf8.decode s pos).1≤1114111:=by
 have e:s.get! (pos+0)=s[pos]'h:=by
  show s.get! pos=_
  simp[ByteArray.get!,getElem!_pos,h]
  rfl
 have ag:(s[pos]'h).toNat < 256:=(s[pos]'h).toNat_lt
 unfold Utf8.decode
 simp only[e]
 rw[if_neg (by omega)]
 split
 ·split <;>simp[Utf8.runeError] <;>omega
 ·split
  ·split
   ·rename_i af;simp[Utf8.valid] at af;simp only;omega
   ·simp[Utf8.runeError]
  ·split
   ·split
    ·rename_i af;simp[Utf8.valid] at af;simp only;omega
    ·simp[Utf8.runeError]
   ·simp[Utf8.runeError]
theorem run_next_any {P:Program} (w:World) (s:ByteArray) (pos:Nat) (ty:TypeId) (h:pos < s.size):
  (Instr.next (.pointer (some ⟨w.heap.size,0,none⟩)) true ty).run P (w.iter s pos)=
   .ok (.tuple #[.bool true,.int .i64 pos,.int .i32 (Utf8.decode s pos).1]) (w.iter s (pos+(Utf8.decode s pos).2)):=by
 simp only[Instr.next,getObj,setObj,Sem.run_bind,Sem.run,World.iter_heap,Result.andThen,h,if_true]
 simp[goInt,World.iter_set]
theorem Np {s:ByteArray} {j:Nat} (ak:j < s.size) (h:k5 (s[j]'ak)=false):xO s=false:=by
 unfold xO
 have:s.data.toList.all k5=false:=by
  rw[List.all_eq_false]
  exact⟨s[j]'ak,List.getElem_mem (by simpa using ak),by simp[h]⟩
 rw[this,Bool.and_false]
def Im (B:Nat) (w:World):Nat:=match w.heap[B]? with |some (.stringIter _ p)=>p |_=>0
theorem Nq (w:World) (s:ByteArray) (k:Nat):Im w.heap.size (w.iter s k)=k:=by simp[Im,World.iter_heap]
theorem Io (w:World) (s:ByteArray) (k:Nat):Below w.heap.size w (w.iter s k):=(Below.refl _ _).alloc (Nat.le_refl _) _
theorem Ws {s:ByteArray} {k:Nat} (h: ∀j (ak:j < s.size),j < k→k5 (s[j]'ak)=true) (au:k < s.size) (aa:k5 (s[k]'au)=true): ∀j (ak:j < s.size),j < k+1→k5 (s[j]'ak)=true:=by
 intro j ak bH
 by_cases e:j=k
 ·subst e;exact aa
 ·exact h j ak (by omega)
theorem Wt {s:ByteArray} (h: ∀j (ak:j < s.size),k5 (s[j]'ak)=true):xO s=(decide (1≤s.size)&&decide (s.size≤15)):=by
 unfold xO
 have:s.data.toList.all k5=true:=by
  rw[List.all_eq_true]
  intro x hx
  obtain⟨j,ak,rfl⟩:=List.getElem_of_mem hx
  exact h j (by simpa using ak)
 rw[this,Bool.and_true]
set_option maxHeartbeats 1000000 in
theorem Wu (s:ByteArray) (w:World) (hs:s.size≤maxLen):
  Calls Tryz.prog 87 #[.string s] w fun e w'=>e= .returned (.bool (xO s))∧Below w.heap.size w w':=by
 unfold maxLen at hs
 go_enter Tryz.func87,Tryz.ntmps87
 go_wp2
 go_loopw [4,7,8,9,10,11,12,13,14,15,16,17,18,19,20,21,22,23,24,25,26,27,28,29,30,31] (fun _ _ _ _ _ _ _ _ _ _ _ _ _ _ _ _ _ _ _ _ _ _ _ _ _ _ wr=> ∃k:Nat,k≤s.size∧wr=w.iter s k∧ ∀j (ak:j < s.size),j < k→k5 (s[j]'ak)=true) (fun _ _ _ _ _ _ _ _ _ _ _ _ _ _ _ _ _ _ _ _ _ _ _ _ _ _ wr=>s.size - Im w.heap.size wr)
 case atStart=>exact⟨0,Nat.zero_le _,rfl,fun _ _ h=>absurd h (by omega)⟩
 case round=>
  obtain⟨k,au,rfl,c9⟩:=hrel
  have Ip:=Lib.hid c9
  clear c9
  by_cases bH:k < s.size
  ·by_cases ha:(s[k]'bH).toNat < 128
   ·have hn:=fun ty=>run_next_ascii (P:=Tryz.prog) w s k ty bH ha
    go_wp2
    all_goals first
     |(
      refine⟨⟨k+1,bH,rfl,Ws Ip.out bH ?_⟩,?_⟩
      ·clear hn;simp_all [k5];omega
      ·rw[Nq,Nq];omega)
     |(
      go_ret
      refine⟨?_,Io _ _ _⟩
      rw[Np bH (by clear hn;simp_all [k5];omega)];rfl)
   ·obtain⟨d1,d2⟩:=decode_high s k bH ha
    have hn:=fun ty=>run_next_any (P:=Tryz.prog) w s k ty bH
    generalize Utf8.decode s k=d at*
    have bQ:(((d.1:Nat):Int) != 46)=true:=by rw[bne_iff_ne];omega
    have cn:(((d.1:Nat):Int) != 45)=true:=by rw[bne_iff_ne];omega
    go_wp2
    go_ret
    exact⟨by rw[Np bH (by clear hn;simp[k5];omega)];rfl,Io _ _ _⟩
  ·have hn:=fun ty=>run_next_end (P:=Tryz.prog) w s k ty bH
   have e8:k=s.size:=by omega
   have hr:xO s=(decide (1≤s.size)&&decide (s.size≤15)):=Wt fun j ak=>Ip.out j ak (by omega)
   clear e8 Ip
   have Wv:=Lib.hid hr
   clear hr
   go_wp2
   all_goals
    go_ret
    refine⟨?_,Io _ _ _⟩
    rw[Wv.out]
    refine congrArg (fun b=>Ending.returned (.bool b)) ?_
    rw[Bool.eq_iff_iff]
    simp
    omega
end Go.Proofs.YteoamepgonpdlaaGreat
namespace Go.Proofs.YteoamepgonpdlaaGreat
set_option linter.unusedVariables false
set_option linter.unusedSimpArgs false
open Go.RowKit
theorem Fn.pure {P:Program} {f:FuncId} {args:List aN} {res:aN} (iH:l6 P f=true)
  (h: ∀(ρ:Nat→bn) (I:Nat→Prop) (w:World) (b6:List Value),(∀b,I b→b < w.heap.size)→b6.length=args.length→(∀(i:Nat) (v:aN) (x:Value),args[i]? =some v→b6[i]? =some x→cj ρ I w v x)→
   Calls P f b6.toArray w fun e w'=> ∃x,e= .returned x∧Below w.heap.size w w'∧ ∀I':Nat→Prop,Ext I w I' w'→(∀b,w.heap.size≤b→b < w'.heap.size→I' b)→cj ρ I' w' res x):Fn P f args [] [] res []:=by
 refine⟨iH,?_⟩
 intro ρ F I w b6 bC _ _ _ hlen ep
 refine(h ρ I w b6 bC hlen ep).mono ?_
 rintro e w' ⟨x,rfl,ag,hx⟩
 have bA:Ext I w (fun b=>b < w'.heap.size∧(I b∨w.heap.size≤b)) w':=fun b xM=>⟨⟨Nat.lt_of_lt_of_le (bC b xM) ag.size,.inl xM⟩,ag.block b (bC b xM)⟩
 exact⟨x,ρ,F,rfl,Fr.q2 ag,fun _ _=>rfl,_,bA,fun b h=>⟨h.1,h.2.imp id .inr⟩,fun c ch hc=>(by simp[ax] at hc),fun c ch hc=>(by simp[ax] at hc),fun c bY ch bg b hc=>(by simp[ax] at hc),hx _ bA fun b aa af=>⟨af,.inr aa⟩⟩
theorem Ww {P:Program} {f:FuncId} {s:aN} {res:aN} (iH:l6 P f=true)
  (h: ∀(ρ:Nat→bn) (I:Nat→Prop) (w:World) (v:Value),(∀b,I b→b < w.heap.size)→cj ρ I w s v→
   Calls P f #[v] w fun e w'=> ∃x,e= .returned x∧Below w.heap.size w w'∧ ∀I':Nat→Prop,Ext I w I' w'→(∀b,w.heap.size≤b→b < w'.heap.size→I' b)→cj ρ I' w' res x):Fn P f [s] [] [] res []:=
 Fn.pure iH fun ρ I w b6 bC aB hd=>by
  match b6,aB with
  | [v],_=>exact h ρ I w v bC (hd 0 s v rfl rfl)
theorem cg.bytes {I:Nat→Prop} {w:World} {v:Value} {l:List UInt8} (bC: ∀b,I b→b < w.heap.size) (h:cg I w (.sl .u8) l (fun _=>some v)):Bytes I w v l:=by
 obtain⟨A,cap,aC,aa,af,aA⟩:=h
 injection aC with aC
 refine⟨by simp,A,cap,aC,aa,af,fun hp=>?_⟩
 obtain⟨b,o,hA,ag,hx⟩:=aA hp
 refine⟨b,o,hA,ag,bC b ag,fun j u hu=>?_⟩
 rw[List.getElem?_map] at hu
 obtain⟨x,yD,rfl⟩:=Option.map_eq_some_iff.1 hu
 have:=hx j x yD
 simpa[cg,aM,iC] using this
def iB (s:List UInt8):Bool:=decide (1≤s.length)&&decide (s.length≤15)&&s.all k5
theorem zn (s:List UInt8) (hs:s.length≤4294967296):Fn Tryz.prog 87 [bN s] [] [] (g9 (iB s)) []:=
 Ww (by kernel_rfl) fun ρ I w v bC hv=>by
  rw[show v= .string ⟨s.toArray⟩ from hv]
  refine(Wu ⟨s.toArray⟩ w (by simp only[ByteArray.size,maxLen,List.size_toArray];omega)).mono ?_
  rintro e w' ⟨rfl,ag⟩
  exact⟨_,rfl,ag,fun I' _ _=>show Value.bool _=Value.bool _ by simp[xO,iB,ByteArray.size]⟩
end Go.Proofs.YteoamepgonpdlaaGreat
