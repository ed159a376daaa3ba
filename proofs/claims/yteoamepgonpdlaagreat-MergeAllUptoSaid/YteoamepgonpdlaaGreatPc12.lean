/-
Part 12 of the proof that stands in YteoamepgonpdlaaGreatPcRow, with what it needs from the parts ahead; the parts of this text: Cl, Cm, Names, Pure.
-/
import Derived.Test.YteoamepgonpdlaaGreatProg
import Derived.Test.YteoamepgonpdlaaGreatPc11
set_option linter.unusedVariables false
set_option linter.unusedSimpArgs false
set_option maxRecDepth 10000
namespace Go.Proofs.YteoamepgonpdlaaGreat
open Go.RowKit Go.Proofs
structure aK where
 nm:List UInt8
 back:List UInt8
 ad:Nat
 am:Nat
 im:bE
 cE:Option (Nat→Nat)
def kg (d:aK):bN:=match d.cE with
 |none=>jd d.im
 |some bs=>.nE (di d.im) (fun c=>cond (Nat.beq c 1001) d.am (bs c))
@[reducible] def jz (d:aK):aI .str×aI .aY:=((d.nm:aI .str),(some d.ad:aI .aY))
def cl (L:List aK):List (aI .str×aI .aY):=L.map jz
@[reducible] def Es (am:Nat) (back:List UInt8):List bD:=[.d (.aY (some am)),.d (.str back)]
def sH (am:Nat) (back:List UInt8):bN:=bN.ch (.cells (Es am back)) (fun _=>rfl)
def jg (L:List aK):List (Nat×bN):=L.map fun d=>(d.ad,sH d.am d.back)
def gf (L:List aK):List (Nat×bN):=L.map fun d=>(d.am,kg d)
@[reducible] def NX (bits room:Int):List bD:=[.d (.int .i64 bits),.d (.int .i64 room),.mp 1002]
@[reducible] def bM (bits room:Int) (L:List aK):aG:=[(1001,.cells (NX bits room)),(1002,.map .str .aY (cl L)),(1003,.obj (.cM (jg L))),(1004,.obj (.cM (gf L)))]
def dk (L:List aK) (nm:List UInt8):Option aK:=L.find? fun d=>decide (d.nm=nm)
theorem cA {L:List aK} {nm:List UInt8} {d:aK} (h:dk L nm=some d):d∈L∧d.nm=nm:=⟨List.mem_of_find?_eq_some h,by have:=List.find?_some h;simpa using this⟩
theorem iK (nm:List UInt8): ∀L:List aK,(ct (aN:=.str) (aP:=.aY) (cl L) nm).getD (dflt .aY)=((dk L nm).map (·.ad):Option Nat)
 | []=>rfl
 |d::L=>by
  have aZ:=iK nm L
  show(ct (aN:=.str) (aP:=.aY) (jz d::cl L) nm).getD (dflt .aY)=_
  rw[show dk (d::L) nm=if decide (d.nm=nm)=true then some d else dk L nm by unfold dk;rw[List.find?_cons];split <;>rename_i h <;>rw[h] <;>rfl]
  rw[show ct (aN:=.str) (aP:=.aY) (jz d::cl L) nm=match iu .str (nm:aI .str) (jz d).1 with |true=>some (jz d).2 |false=>ct (aN:=.str) (aP:=.aY) (cl L) nm from rfl]
  by_cases e:d.nm=nm
  ·rw[show iu .str (nm:aI .str) (jz d).1=true from(BH _ _).2 e.symm,show decide (d.nm=nm)=true from decide_eq_true e]
   rfl
  ·rw[show iu .str (nm:aI .str) (jz d).1=false from tK (aN:=.str) BH (fun h=>e h.symm),show decide (d.nm=nm)=false from decide_eq_false e]
   exact aZ
theorem IK {f:aK→Nat×bN}: ∀{L:List aK},(L.map fun d=>(f d).1).Nodup→ ∀{d:aK},d∈L→jr (L.map f) (f d).1=some (f d).2
 | [],_,d,h=>by cases h
 |e::L,hn,d,h=>by
  rw[List.map_cons] at hn
  obtain⟨ee,eO⟩:=List.nodup_cons.1 hn
  rw[List.map_cons]
  unfold jr
  rcases List.mem_cons.1 h with rfl |h
  ·rw[if_pos rfl]
  ·rw[if_neg (fun e=>ee (by rw[e];exact List.mem_map_of_mem (f:=fun d=>(f d).1) h))]
   exact IK eO h
structure gK (L:List aK):Prop where
 jA:(L.map (·.nm)).Nodup
 wC:(L.map (·.ad)).Nodup
 vk:(L.map (·.am)).Nodup
theorem gK.D {L:List aK} (h:gK L) {d:aK} (hd:d∈L):jr (jg L) d.ad=some (sH d.am d.back):=IK (f:=fun d=>(d.ad,sH d.am d.back)) h.wC hd
theorem gK.M {L:List aK} (h:gK L) {d:aK} (hd:d∈L):jr (gf L) d.am=some (kg d):=IK (f:=fun d=>(d.am,kg d)) h.vk hd
theorem wD:(Tryz.prog.info? 49).map (·.size)=some 1:=by kernel_rfl
theorem Et:(Tryz.prog.info? 9).map (·.size)=some 1:=by kernel_rfl
theorem zZ (bits room:Int) (L:List aK) (b:List UInt8):Fn Tryz.prog 88 [aH 1001,bG b] (bM bits room L) [] (iw (decide (b=[])||(dk L b).isSome)) (bM bits room L):=by
 have bk:=iK b L
 refine Fn.of ai [] _ _ _ _ _ Tryz.func88 rfl rfl (by kernel_rfl) (by kernel_rfl) rfl (aJ ai) rfl ?_
 refine⟨fun h=>?_,fun h=>?_⟩
 ·have h:b=[]:=of_decide_eq_true h
  exact⟨_,_,_,ah.refl _ _,rfl,(show true=_ by rw[decide_eq_true h];rfl),⟨rfl,rfl,rfl,rfl,trivial⟩,rfl⟩
 ·have h: ¬b=[]:=of_decide_eq_false h
  refine⟨fun e5 h'=>?_,fun h'=>?_⟩
  ·have h':(ct (aN:=.str) (aP:=.aY) (cl L) b).getD (dflt .aY)=some e5:=h'
   rw[bk] at h'
   exact⟨_,_,_,ah.refl _ _,rfl,(show true=_ by rw[decide_eq_false h];cases e:dk L b with
    |none=>rw[e] at h';cases h'
    |some d=>rfl),⟨rfl,rfl,rfl,rfl,trivial⟩,rfl⟩
  ·have h':(ct (aN:=.str) (aP:=.aY) (cl L) b).getD (dflt .aY)=none:=h'
   rw[bk] at h'
   exact⟨_,_,_,ah.refl _ _,rfl,(show false=_ by rw[decide_eq_false h];cases e:dk L b with
    |none=>rfl
    |some d=>rw[e] at h';cases h'),⟨rfl,rfl,rfl,rfl,trivial⟩,rfl⟩
theorem WL {L:List aK} {nm:List UInt8} {e5:Nat} (h:(ct (aN:=.str) (aP:=.aY) (cl L) nm).getD (dflt .aY)=some e5): ∃d,dk L nm=some d∧d.ad=e5:=by
 rw[iK] at h
 cases e:dk L nm with
 |none=>rw[e] at h;cases h
 |some d=>
  rw[e] at h
  injection h with h
  exact⟨d,rfl,h⟩
theorem o6 {x:Option Nat} {b:Nat} (h:x=some b):aO.c (dL.one (bD.d (D.aY x)))= .c (.one (.d (.aY (some b)))):=by rw[h]
theorem ox (bits room:Int) (L:List aK) (c4:gK L) (nm:List UInt8) (d:aK) (hd:dk L nm=some d):Fn Tryz.prog 15 [aH 1001,bG nm] (bM bits room L) [] (kC d.am) (bM bits room L):=by
 obtain⟨sI,iU,iV⟩:=nC wD
 have cG:=c4.D (cA hd).1
 have h':(ct (aN:=.str) (aP:=.aY) (cl L) nm).getD (dflt .aY)=some d.ad:=by rw[iK,hd];rfl
 refine Fn.of ai [] _ _ _ _ _ Tryz.func15 rfl rfl (by kernel_rfl) (by kernel_rfl) rfl (aJ ai) rfl ?_
 refine⟨fun e5 ag=>?_,fun ag=>absurd (show(ct (aN:=.str) (aP:=.aY) (cl L) nm).getD (dflt .aY)=none from ag) (by rw[h'];intro h;cases h)⟩
 refine⟨_,_,fun N=>ov (b:=d.ad) rfl (by exact o6 h') N,rfl,?_⟩
 refine⟨_,_,fun N=>ow rfl Tryz.underlying130 rfl rfl iU (by rw[iV];decide) rfl N,rfl,?_⟩
 refine⟨_,_,fun N=>p4 (q:=1003) rfl Tryz.underlying49 rfl rfl rfl cG rfl N,rfl,?_⟩
 exact⟨_,_,_,ah.refl _ _,rfl,rfl,⟨rfl,rfl,rfl,rfl,trivial⟩,rfl⟩
theorem WM (bits room:Int) (L:List aK) (nm:List UInt8) (hd:dk L nm=none):Fn Tryz.prog 15 [aH 1001,bG nm] (bM bits room L) [] (.c zz) (bM bits room L):=by
 have h':(ct (aN:=.str) (aP:=.aY) (cl L) nm).getD (dflt .aY)=none:=by rw[iK,hd];rfl
 refine Fn.of ai [] _ _ _ _ _ Tryz.func15 rfl rfl (by kernel_rfl) (by kernel_rfl) rfl (aJ ai) rfl ?_
 refine⟨fun e5 ag=>absurd (show(ct (aN:=.str) (aP:=.aY) (cl L) nm).getD (dflt .aY)=some e5 from ag) (by rw[h'];intro h;cases h),fun _=>?_⟩
 exact⟨_,_,_,ah.refl _ _,rfl,rfl,⟨rfl,rfl,rfl,rfl,trivial⟩,rfl⟩
theorem WN (bits room:Int) (L:List aK) (c4:gK L) (nm:List UInt8) (d:aK) (hd:dk L nm=some d):Fn Tryz.prog 66 [aH 1001,bG nm] (bM bits room L) [] (.c6 [.one (.d (.str d.back)),fh 0]) (bM bits room L):=by
 obtain⟨sI,iU,iV⟩:=nC Et
 have cG:=c4.D (cA hd).1
 have h':(ct (aN:=.str) (aP:=.aY) (cl L) nm).getD (dflt .aY)=some d.ad:=by rw[iK,hd];rfl
 refine Fn.of ai [] _ _ _ _ _ Tryz.func66 rfl rfl (by kernel_rfl) (by kernel_rfl) rfl (aJ ai) rfl ?_
 refine⟨fun e5 ag=>?_,fun ag=>absurd (show(ct (aN:=.str) (aP:=.aY) (cl L) nm).getD (dflt .aY)=none from ag) (by rw[h'];intro h;cases h)⟩
 refine⟨_,_,fun N=>ov (b:=d.ad) rfl (by exact o6 h') N,rfl,?_⟩
 refine⟨_,_,fun N=>ow rfl Tryz.underlying130 rfl rfl iU (by rw[iV];decide) rfl N,rfl,?_⟩
 refine⟨_,_,fun N=>p4 (q:=1003) rfl Tryz.underlying9 rfl rfl rfl cG rfl N,rfl,?_⟩
 exact⟨_,_,_,ah.refl _ _,rfl,⟨rfl,rfl,trivial⟩,⟨rfl,rfl,rfl,rfl,trivial⟩,rfl⟩
theorem WO (bits room:Int) (L:List aK) (nm:List UInt8) (hd:dk L nm=none):Fn Tryz.prog 66 [aH 1001,bG nm] (bM bits room L) [] (.c6 [.one (.d (.str [])),fh 140]) (bM bits room L):=by
 have h':(ct (aN:=.str) (aP:=.aY) (cl L) nm).getD (dflt .aY)=none:=by rw[iK,hd];rfl
 refine Fn.of ai [] _ _ _ _ _ Tryz.func66 rfl rfl (by kernel_rfl) (by kernel_rfl) rfl (aJ ai) rfl ?_
 refine⟨fun e5 ag=>absurd (show(ct (aN:=.str) (aP:=.aY) (cl L) nm).getD (dflt .aY)=some e5 from ag) (by rw[h'];intro h;cases h),fun _=>?_⟩
 exact⟨_,_,_,ah.refl _ _,rfl,⟨rfl,rfl,trivial⟩,⟨rfl,rfl,rfl,rfl,trivial⟩,rfl⟩
inductive ew (L:List aK):List UInt8→Nat→Prop where
 |gone {nm}:dk L nm=none→ew L nm 0
 |base {nm d}:dk L nm=some d→d.back=[]→ew L nm 0
 |step {nm d k}:dk L nm=some d→d.back≠[]→ew L d.back k→ew L nm (k+1)
def ef (L:List aK):Nat→List UInt8→List (List UInt8)
 |0,_=>[]
 |k+1,nm=>match dk L nm with
  |none=>[]
  |some d=>d.back::ef L k d.back
def gL (L:List aK):Nat→List UInt8→List UInt8
 |0,nm=>nm
 |j+1,nm=>match dk L nm with
  |none=>nm
  |some d=>gL L j d.back
theorem Eu (L:List aK): ∀(j:Nat) (nm:List UInt8),gL L (j+1) nm=match dk L (gL L j nm) with
  |none=>gL L j nm
  |some d=>d.back
 |0,nm=>by
  show(match dk L nm with |none=>nm |some d=>d.back)=_
  rfl
 |j+1,nm=>by
  show(match dk L nm with |none=>nm |some d=>gL L (j+1) d.back)=_
  cases e:dk L nm with
  |none=>
   simp only
   rw[show gL L (j+1) nm=nm by show(match dk L nm with |none=>nm |some d=>gL L j d.back)=nm;rw[e]]
   rw[e]
  |some d=>
   simp only
   rw[Eu L j d.back]
   rw[show gL L (j+1) nm=gL L j d.back by show(match dk L nm with |none=>nm |some d=>gL L j d.back)=_;rw[e]]
theorem IL {L:List aK}: ∀{k:Nat} {nm:List UInt8},ew L nm k→ ∀j,j≤k→ew L (gL L j nm) (k - j)
 |_,_,h,0,_=>h
 |k+1,nm,.step (d:=d) aa af ay,j+1,au=>by
  rw[show gL L (j+1) nm=gL L j d.back by show(match dk L nm with |none=>nm |some d=>gL L j d.back)=_;rw[aa]]
  rw[Nat.add_sub_add_right]
  exact IL ay j (by omega)
 |0,_,_,j+1,au=>absurd au (by omega)
theorem sJ {L:List aK} {nm:List UInt8} {k:Nat} (h:ew L nm k):(ef L k nm).length=k:=by
 induction h with
 |gone _=>rfl
 |base _ _=>rfl
 |step aa af _ aZ=>
  unfold ef
  rw[aa]
  simp only[List.length_cons,aZ]
theorem IM {L:List aK}: ∀{k:Nat} {nm:List UInt8},ew L nm k→ ∀j,j < k→(ef L k nm).take (j+1)=(ef L k nm).take j++[gL L (j+1) nm]
 |k+1,nm,.step (d:=d) aa af ay,0,_=>by
  unfold ef
  rw[aa]
  simp only[List.take_succ_cons,List.take_zero,List.nil_append]
  rw[show gL L 1 nm=d.back by show(match dk L nm with |none=>nm |some d=>gL L 0 d.back)=_;rw[aa];rfl]
 |k+1,nm,.step (d:=d) aa af ay,j+1,au=>by
  have aZ:=IM ay j (by omega)
  unfold ef
  rw[aa]
  simp only[List.take_succ_cons,List.cons_append]
  rw[aZ]
  rw[show gL L (j+1+1) nm=gL L (j+1) d.back by show(match dk L nm with |none=>nm |some d=>gL L (j+1) d.back)=_;rw[aa]]
 |0,_,_,j,au=>absurd au (by omega)
@[reducible] def NY (x:Option Nat):aO:=.c (.one (.d (.aY x)))
@[reducible] def NZ (L:List aK) (nm:List UInt8) (j:Nat):aQ:=[(0,aH 1001),(5,iO 5002),(6,NY ((dk L (gL L j nm)).map (·.ad)))]
@[reducible] def N0 (bits room:Int) (L:List aK) (k:Nat) (nm:List UInt8) (j:Nat):aG:=bM bits room L++[(5002,.row 9 .str ((ef L k nm).take j))]
@[reducible] def WQ (L:List aK) (nm:List UInt8) (j:Nat):aQ:=[(0,aH 1001),(5,iO 35),(6,NY ((dk L (gL L j nm)).map (·.ad)))]
@[reducible] def WR (bits room:Int) (L:List aK) (k:Nat) (nm:List UInt8) (j:Nat):aG:=bM bits room L++[(35,.row 9 .str ((ef L k nm).take j))]
theorem z1 (bits room:Int) (L:List aK) (c4:gK L) (nm:List UInt8) (k:Nat) (aq:ew L nm k) (jB:k≤1000000):Fn Tryz.prog 69 [aH 1001,bG nm] (bM bits room L) [] (cI .str (ef L k nm)) (bM bits room L):=by
 obtain⟨sI,iU,iV⟩:=nC Et
 have e6:=sJ aq
 refine Fn.of ai [2,7] _ _ _ _ _ Tryz.func69 rfl rfl (by kernel_rfl) (by kernel_rfl) rfl (aJ ai) rfl ?_
 show av _ _ _ _ _ _ _
 refine av.go ai (aJ ai) [7] (by kernel_rfl) (ah.refl _ _) ?_
 show av _ _ _ _ _ _ _
 refine av.loop ai (aJ ai) [6,4,7] (by kernel_rfl) (X:=Nat) (NZ L nm) (fun j=>N0 bits room L k nm j) (fun j=>j≤k) (fun j=>k - j) 0 (Nat.zero_le _) ?_ ?_
 ·refine(ah.nil 5 5002 9 .str rfl rfl).trans (ah.sub ⟨rfl,rfl,?_,trivial⟩ ⟨rfl,rfl,rfl,rfl,rfl,trivial⟩)
  exact iK nm L
 intro j au
 have vn:=IL aq j au
 have oc:k - j=0→(ef L k nm).take j=ef L k nm:=fun h=>List.take_of_length_le (by omega)
 refine⟨fun e5 h'=>?_,fun h'=>?_⟩
 ·obtain⟨d,hd,rfl⟩: ∃d,dk L (gL L j nm)=some d∧d.ad=e5:=by
   have h':(dk L (gL L j nm)).map (·.ad)=some e5:=h'
   cases e:dk L (gL L j nm) with
   |none=>rw[e] at h';cases h'
   |some d=>rw[e] at h';injection h' with h';exact⟨d,rfl,h'⟩
  have cG:=c4.D (cA hd).1
  have hx:(dk L (gL L j nm)).map (·.ad)=some d.ad:=by rw[hd];rfl
  refine⟨_,_,fun N=>ov (b:=d.ad) rfl (by exact o6 hx) N,rfl,?_⟩
  refine⟨_,_,fun N=>ow rfl Tryz.underlying130 rfl rfl iU (by rw[iV];decide) rfl N,rfl,?_⟩
  refine⟨_,_,fun N=>p4 (q:=1003) rfl Tryz.underlying9 rfl rfl rfl cG rfl N,rfl,?_⟩
  refine⟨fun ag=>?_,fun ag=>?_⟩
  ·have ag:d.back=[]:=of_decide_eq_true ag
   have aE:k - j=0:=by
    generalize k - j=m at vn
    cases vn with
    |gone h=>rfl
    |base _ _=>rfl
    |step aa af _=>rw[hd] at aa;injection aa with aa;rw[←aa] at af;exact absurd ag af
   have cc:=oc aE
   show av _ _ _ _ _ _ _
   refine av.go ai (aJ ai) [] (by kernel_rfl) (ah.refl _ _) ?_
   exact⟨_,_,_,ah.dU 5002 rfl,rfl,cc,⟨rfl,rfl,rfl,rfl,trivial⟩,rfl⟩
  ·have ag: ¬d.back=[]:=of_decide_eq_false ag
   have mz:j < k:=by
    rcases Nat.lt_or_ge j k with h |h
    ·exact h
    ·exfalso
     have aE:k - j=0:=by omega
     rw[aE] at vn
     cases vn with
     |gone h=>rw[hd] at h;cases h
     |base aa af=>rw[hd] at aa;injection aa with aa;rw[←aa] at af;exact ag af
   have N1:gL L (j+1) nm=d.back:=by rw[Eu,hd]
   have xw:=IM aq j mz
   rw[N1] at xw
   have qx:((ef L k nm).take j).length+1≤4294967296:=by rw[List.length_take];omega
   show av _ _ _ _ _ _ _
   refine av.go ai (aJ ai) [4] (by kernel_rfl) (ah.sub (K':=NZ L nm j) (B':=N0 bits room L k nm j) ⟨rfl,rfl,rfl,trivial⟩ ⟨rfl,rfl,rfl,rfl,rfl,trivial⟩) ?_
   refine⟨_,_,fun N=>ov (b:=d.ad) rfl (by exact o6 hx) N,rfl,?_⟩
   refine⟨_,_,fun N=>ow rfl Tryz.underlying130 rfl rfl iU (by rw[iV];decide) rfl N,rfl,?_⟩
   refine⟨_,_,fun N=>p4 (q:=1003) rfl Tryz.underlying9 rfl rfl rfl cG rfl N,rfl,?_⟩
   refine⟨qx,rfl,?_⟩
   show av _ _ _ _ _ _ _
   refine av.go ai (aJ ai) [] (by kernel_rfl) (ah.sub (K':=WQ L nm j) (B':=WR bits room L k nm (j+1)) ⟨rfl,rfl,rfl,trivial⟩ ⟨rfl,rfl,rfl,rfl,congrArg (fun l:List (List UInt8)=>some (bw.row 9 .str l)) xw.symm,trivial⟩) ?_
   refine⟨_,_,fun N=>ov (b:=d.ad) rfl (by exact o6 hx) N,rfl,?_⟩
   refine⟨_,_,fun N=>ow rfl Tryz.underlying130 rfl rfl iU (by rw[iV];decide) rfl N,rfl,?_⟩
   refine⟨_,_,fun N=>p4 (q:=1003) rfl Tryz.underlying9 rfl rfl rfl cG rfl N,rfl,?_⟩
   refine⟨rfl,?_⟩
   refine⟨j+1,by omega,by omega,(ah.ren 35 5002 rfl).trans (ah.sub ⟨rfl,rfl,?_,trivial⟩ ⟨rfl,rfl,rfl,rfl,rfl,trivial⟩)⟩
   rw[N1]
   exact iK d.back L
 ·have hd:dk L (gL L j nm)=none:=by
   have h':(dk L (gL L j nm)).map (·.ad)=none:=h'
   cases e:dk L (gL L j nm) with
   |none=>rfl
   |some d=>rw[e] at h';cases h'
  have aE:k - j=0:=by
   generalize k - j=m at vn
   cases vn with
   |gone h=>rfl
   |base _ _=>rfl
   |step aa af _=>rw[hd] at aa;cases aa
  have cc:=oc aE
  show av _ _ _ _ _ _ _
  refine av.go ai (aJ ai) [] (by kernel_rfl) (ah.refl _ _) ?_
  exact⟨_,_,_,ah.dU 5002 rfl,rfl,cc,⟨rfl,rfl,rfl,rfl,trivial⟩,rfl⟩
theorem jC {f:FuncId} {args:List aO} {res:aO} {d:aK} {M:List (Nat×bN)} (h:Fn Tryz.prog f (aH 1001::args) (di d.im) [] res (di d.im)) (aA:jr M d.am=some (kg d)) (aa:Bt 1001 [1002,1003,1004] (aH 1001::args) (di d.im) [] [] []=true) (af:Bu 1001 (vY [1002,1003,1004] [] []) res (di d.im) []=true)
  (ay:(args.all fun v=>v.among [])=true) (bu:res.among []=true):Fn Tryz.prog f (kC d.am::args) [(1004,.obj (.cM M))] [] res [(1004,.obj (.cM M))]:=by
 have gR: ∀{v:aO},v.among []=true→v.has 1001=false:=fun {v} hv=>by
  cases e:v.has 1001 with
  |false=>rfl
  |true=>exact absurd (aO.kQ hv e) List.not_mem_nil
 cases hp:d.cE with
 |none=>
  rw[show kg d=jd d.im by unfold kg;rw[hp]] at aA
  have hc:Fn Tryz.prog f (aH 1001::args) [(1001,.obj (jd d.im))] [] res [(1001,.obj (jd d.im))]:=Fn.close (bQ:=di d.im) (jT:=di d.im) (aR:=[]) (bl:=[]) [1002,1003,1004] (by simpa using h) (fun _ _ _ _ h=>h) (fun _ _ _ _ h=>h) aa af
  have:=(gV.cM (c:=1001) (q:=1004) (b:=d.am) (args:=args) (aR:=[]) (bA:=[]) (X:=Unit) (res:=fun _=>res) (bl:=fun _=>[]) (o:=jd d.im) (o':=fun _=>jd d.im) (L:=M) hc.x aA (List.all_eq_true.2 fun v hv=>by rw[gR (List.all_eq_true.1 ay v hv)];rfl) ⟨rfl,rfl⟩ rfl (fun _=>by rw[gR bu];rfl)).fn
  rw[II aA] at this
  exact this
 |some bs=>
  rw[show kg d= .nE (di d.im) (fun c=>cond (Nat.beq c 1001) d.am (bs c)) by unfold kg;rw[hp]] at aA
  exact Fn.WJ (c:=1001) h aA rfl rfl ay bu
theorem WS {s:bE} (aV:fP s) {k:Nat} (aq:k < s.t.length):Ih s (k*2 ^s.bits) (2 ^s.bits)=dZ s k none:=by
 have cP:=x5 aV aq none
 have hp:=k5 aV.bits
 have dY:wid s=16*2 ^s.bits:=rfl
 have bx:16*(k*2 ^s.bits)/wid s=k:=by
  rw[dY,show 16*(k*2 ^s.bits)=k*(16*2 ^s.bits) by rw[Nat.mul_left_comm],Nat.mul_div_cancel _ (by omega)]
 have em:16*(k*2 ^s.bits)=k*wid s:=by rw[dY,Nat.mul_left_comm]
 have aj:bU (wid s) (k*2 ^s.bits) (2 ^s.bits)=1:=by
  have aE:=u7 (a:=k*2 ^s.bits) (l:=2 ^s.bits) (k:=0) (o4 aV.bits)
  have aa:=u7 (a:=k*2 ^s.bits) (l:=2 ^s.bits) (k:=1) (o4 aV.bits)
  rw[bx,Nat.mul_add,em] at aE aa
  rw[Nat.add_zero] at aE
  rw[Nat.succ_mul] at aa
  have a0:=aE.1 ⟨by omega,by omega⟩
  have cj: ¬1 < bU (wid s) (k*2 ^s.bits) (2 ^s.bits):=fun h=>by
   have:=(aa.2 h).2
   omega
  omega
 unfold Ih
 rw[aj]
 show[]++zP s (k*2 ^s.bits) (2 ^s.bits) 0=_
 rw[List.nil_append]
 unfold zP
 have HE:(aT (wid s) (k*2 ^s.bits) (2 ^s.bits) 0).c=k:=by unfold aT;simp only[bx,Nat.add_zero]
 have BZ:(aT (wid s) (k*2 ^s.bits) (2 ^s.bits) 0).a=0:=by
  show 16*(k*2 ^s.bits) - (16*(k*2 ^s.bits)/wid s+0)*wid s=0
  rw[bx,Nat.add_zero,em,Nat.sub_self]
 have yf:(aT (wid s) (k*2 ^s.bits) (2 ^s.bits) 0).b=wid s:=by
  show min (16*(k*2 ^s.bits+2 ^s.bits) - (16*(k*2 ^s.bits)/wid s+0)*wid s) (wid s)=wid s
  rw[bx,Nat.add_zero,Nat.mul_add,em,show 16*2 ^s.bits=wid s from rfl,Nat.add_sub_cancel_left,Nat.min_self]
 rw[HE,BZ,yf,List.drop_zero,List.take_of_length_le (by omega)]
theorem WT {s:bE} (aV:fP s) {k:Nat} (aq:k < s.t.length):dK s ((k*2 ^s.bits:Nat):Int) ((2 ^s.bits:Nat):Int)=0:=by
 have h:k*2 ^s.bits+2 ^s.bits≤eV s:=by
  have:=Nat.mul_le_mul_right (2 ^s.bits) (show k+1≤s.t.length from aq)
  rw[Nat.succ_mul] at this
  exact this
 unfold dK
 generalize k*2 ^s.bits=Q at*
 generalize 2 ^s.bits=P at*
 rw[if_neg (by omega),if_neg (by omega)]
structure nF (bits:Nat) (room:Nat) (L:List aK):Prop extends gK L where
 b3:bits≤3
 vo:room≤512
 len:L.length≤16
 hM: ∀d,d∈L→fP d.im∧d.im.bits=bits∧d.im.l.length=room
 jD: ∀d,d∈L→d.back≠[]→ ∃e,dk L d.back=some e
 ne: ∀d,d∈L→d.nm≠[]
 z2: ∀d,d∈L→ ∃k,k≤8∧ew L d.nm k
theorem IN {bits room:Nat} {L:List aK} (h:nF bits room L) {nm:List UInt8} {k:Nat} (aq:ew L nm k): ∀n,n∈ef L k nm→ ∃e,dk L n=some e:=by
 induction aq with
 |gone _=>intro n hn;cases hn
 |base _ _=>intro n hn;cases hn
 | @step nm d k aa af ay aZ=>
  intro n hn
  unfold ef at hn
  rw[aa] at hn
  rcases List.mem_cons.1 hn with rfl |hn
  ·exact h.jD d (cA aa).1 af
  ·exact aZ n hn
def ig (bits:Nat) (L:List aK) (k:Nat):List (List UInt8)→Nat→List UInt8×Nat
 | [],_=>(List.replicate (16*2 ^bits) 0,0)
 |n::ns,i=>match dk L n with
  |none=>([],0)
  |some d=>if k < d.im.t.length∧(d.im.t.getD k s0).1≠0 then(dZ d.im k none,i+1) else ig bits L k ns (i+1)
theorem N2 {bits room:Nat} {L:List aK} (h:nF bits room L) (k:Nat): ∀(ns:List (List UInt8)) (i:Nat),(ig bits L k ns i).1.length≤128
 | [],i=>by
  show(List.replicate (16*2 ^bits) (0:UInt8)).length≤128
  rw[List.length_replicate]
  have:=k5 h.b3
  omega
 |n::ns,i=>by
  unfold ig
  cases e:dk L n with
  |none=>exact Nat.zero_le _
  |some d=>
   simp only
   split
   ·rename_i bZ
    obtain⟨fJ,iJ,_⟩:=h.hM d (cA e).1
    rw[x5 fJ bZ.1 none]
    exact(u0 fJ.bits).2
   ·exact N2 h k ns (i+1)
@[reducible] def Ev (bits:Nat) (k:Nat) (l:List (List UInt8)) (j:Nat):aQ:=[(0,aH 1001),(2,aC (k:Int)),(8,aC ((2 ^bits:Nat):Int)),(24,cI .str l),(25,aC (l.length:Nat)),(26,aC (j:Nat))]
@[reducible] def WU (bits:Nat) (nm:List UInt8) (k:Nat):aQ:=[(1000000+(1000000+20),.undef),(0,aH 1001),(1,bG nm),(2,aC (k:Int)),(8,aC ((2 ^bits:Nat):Int))]
theorem WV:(Tryz.prog.info? 9).map (fun i=>(i.zero,i.size,i.bytes))=some (some (.string ⟨#[]⟩),1,16):=by kernel_rfl
set_option maxHeartbeats 1000000 in
theorem N3 (bits room:Nat) (L:List aK) (bJ:nF bits room L) (nm:List UInt8) (d0:aK) (aE:dk L nm=some d0) (cN:Nat) (fO:ew L nm cN) (p5:cN≤100) (k:Nat) (aq:k≤100000):
  Fn Tryz.prog 70 [aH 1001,bG nm,aC (k:Int)] (bM bits room L) [] (.c6 [.one (.d (.cT .u8 (ig bits L k (nm::ef L cN nm) 0).1)),.one (.d (.int .i64 (((ig bits L k (nm::ef L cN nm) 0).2:Nat):Int)))]) (bM bits room L):=by
 obtain⟨sI,iU,iV⟩:=nC wD
 obtain⟨ade,WW,WX,WY,adf⟩:=info_parts WV
 have hp:=k5 bJ.b3
 have hlen:=sJ fO
 have iA: ∀n,n∈nm::ef L cN nm→ ∃e,dk L n=some e:=fun n hn=>by
  rcases List.mem_cons.1 hn with rfl |hn
  ·exact⟨d0,aE⟩
  ·exact IN bJ fO n hn
 have aj:(1:Int)*((2 ^bits:Nat):Int)=((2 ^bits:Nat):Int):=Int.one_mul _
 obtain⟨l,aB⟩: ∃l,l=nm::ef L cN nm:=⟨_,rfl⟩
 have qx:l.length=cN+1:=by rw[aB,List.length_cons,hlen]
 refine Fn.of ai [2,5,6,7,8,10] _ _ _ _ _ Tryz.func70 rfl rfl (by kernel_rfl) (by kernel_rfl) rfl (aJ ai) rfl ?_
 have m1:(0:Int)≤1∧(0:Int)≤(bits:Int)∧(bits:Int)≤64:=by have:=bJ.b3;omega
 have m2:(-9223372036854775808:Int)≤1*((2 ^bits:Nat):Int)∧(1:Int)*((2 ^bits:Nat):Int)≤9223372036854775807:=by rw[aj];omega
 refine⟨m1,m2,?_⟩
 show av _ _ _ _ _ _ _
 refine av.UX 20 (by decide) ?_
 refine av.go ai (aJ ai) [5,6,7,8,10] (by kernel_rfl) (ah.sub (K':=WU bits nm k) (B':=bM bits room L) ⟨trivial,rfl,rfl,rfl,aj,trivial⟩ ⟨rfl,rfl,rfl,rfl,trivial⟩) ?_
 refine⟨_,_,fun N=>UY (d:=20) rfl Tryz.underlying102 WW WX WY rfl N,rfl,?_⟩
 refine⟨_,_,_,_,z1 bits room L bJ.togK nm cN fO (by omega),⟨rfl,rfl,rfl,rfl,trivial⟩,rfl,?_⟩
 have hle: [nm].length+(ef L cN nm).length≤4294967296:=by rw[hlen];simp;omega
 refine⟨hle,rfl,?_⟩
 show av _ _ _ _ _ _ _
 refine av.loop ai (aJ ai) [5,6,7,8,10] (by kernel_rfl) (X:=Nat) (Ev bits k l) (fun _=>bM bits room L) (fun j=>j≤l.length∧ig bits L k (l.drop j) j=ig bits L k l 0) (fun j=>l.length - j) 0 ⟨Nat.zero_le _,by rw[List.drop_zero]⟩ ?_ ?_
 ·subst aB
  exact(ah.dU (e:=9) (u:=.str) (xs:=nm::ef L cN nm) 24 rfl).trans (ah.sub ⟨rfl,rfl,rfl,rfl,rfl,rfl,trivial⟩ ⟨rfl,rfl,rfl,rfl,trivial⟩)
 rintro j ⟨au,lJ⟩
 rw[←aB]
 refine⟨fun h=>?_,fun h=>?_⟩
 ·have h:decide ((j:Int) < (l.length:Nat))=true:=h
  have fQ:j < l.length:=by simpa using h
  obtain⟨d,hd⟩:=iA l[j] (by rw[←aB];exact List.getElem_mem fQ)
  have IP:=(cA hd).1
  obtain⟨fJ,iJ,qF⟩:=bJ.hM d IP
  have ki:=bJ.togK.D IP
  have fR:=bJ.togK.M IP
  have hx:(ct (aN:=.str) (aP:=.aY) (cl L) l[j]).getD (dflt .aY)=some d.ad:=by rw[iK,hd];rfl
  have HS:l.drop j=l[j]::l.drop (j+1):=List.drop_eq_getElem_cons fQ
  have yg:ig bits L k (l.drop j) j=if k < d.im.t.length∧(d.im.t.getD k s0).1≠0 then(dZ d.im k none,j+1) else ig bits L k (l.drop (j+1)) (j+1):=by
   rw[HS]
   show(match dk L l[j] with |none=>([],0) |some d=>_)=_
   rw[hd]
  have m3:(0:Int)≤(j:Int):=by omega
  have rM:(-9223372036854775808:Int)≤(j:Int)+1∧(j:Int)+1≤9223372036854775807:=by omega
  refine⟨m3,l[j],eA (n:=j) fQ,?_⟩
  generalize l[j]=n at*
  show av _ _ _ _ _ _ _
  refine av.go ai (aJ ai) [6,7,8,10] (by kernel_rfl) (ah.sub (K':=(9,aC (j:Nat))::(10,bG n)::Ev bits k l j) (B':=bM bits room L) ⟨rfl,rfl,rfl,rfl,rfl,rfl,rfl,rfl,trivial⟩ ⟨rfl,rfl,rfl,rfl,trivial⟩) ?_
  refine⟨_,_,fun N=>ov (b:=d.ad) rfl (by exact o6 hx) N,rfl,?_⟩
  refine⟨_,_,fun N=>ow rfl Tryz.underlying130 rfl rfl iU (by rw[iV];decide) rfl N,rfl,?_⟩
  refine⟨_,_,fun N=>p4 (q:=1003) rfl Tryz.underlying49 rfl rfl rfl ki rfl N,rfl,?_⟩
  show av _ _ _ _ _ _ _
  refine av.go ai (aJ ai) [7,8,10] (by kernel_rfl) (ah.sub (K':=(9,aC (j:Nat))::(11,kC d.am)::Ev bits k l j) (B':=bM bits room L) ⟨rfl,rfl,rfl,rfl,rfl,rfl,rfl,rfl,trivial⟩ ⟨rfl,rfl,rfl,rfl,trivial⟩) ?_
  refine⟨_,_,_,_,jC (qD d.im) fR rfl rfl rfl rfl,⟨rfl,trivial⟩,rfl,?_⟩
  refine⟨fun aa=>?_,fun aa=>?_⟩
  ·have aa:(k:Int) < (d.im.t.length:Nat):=of_decide_eq_true aa
   have bP:k < d.im.t.length:=by omega
   refine⟨_,_,_,_,jC (zR d.im fJ.tl k bP) fR rfl rfl rfl rfl,⟨rfl,trivial⟩,rfl,?_⟩
   refine⟨fun af=>?_,fun af=>?_⟩
   ·have af:(d.im.t.getD k s0).1≠0:=by
     have af:(!decide ((d.im.t.getD k s0).1=0))=true:=af
     simpa using af
    rw[yg,if_pos ⟨bP,af⟩] at lJ
    have dz:=WT fJ bP
    have tQ:=NK d.im fJ (k*2 ^d.im.bits) (2 ^d.im.bits) dz
    rw[WS fJ bP] at tQ
    rw[iJ] at tQ dz
    have wh:((k*2 ^bits:Nat):Int)=(k:Int)*((2 ^bits:Nat):Int):=Int.natCast_mul _ _
    rw[wh] at tQ
    have je:(-9223372036854775808:Int)≤(k:Int)*((2 ^bits:Nat):Int)∧(k:Int)*((2 ^bits:Nat):Int)≤9223372036854775807:=by
     rw[←wh]
     have:=Nat.mul_le_mul aq hp.2
     omega
    show av _ _ _ _ _ _ _
    refine av.go ai (aJ ai) [8,10] (by kernel_rfl) (ah.sub (K':=(9,aC (j:Nat))::(11,kC d.am)::Ev bits k l j) (B':=bM bits room L) ⟨rfl,rfl,rfl,rfl,rfl,rfl,rfl,rfl,trivial⟩ ⟨rfl,rfl,rfl,rfl,trivial⟩) ?_
    refine⟨je,?_⟩
    refine⟨_,_,_,_,jC tQ fR rfl rfl rfl rfl,⟨rfl,trivial⟩,rfl,?_⟩
    show av _ _ _ _ _ _ _
    refine av.go ai (aJ ai) [] (by kernel_rfl) (ah.refl _ _) ?_
    have mB:(-9223372036854775808:Int)≤(j:Int)+1∧(j:Int)+1≤9223372036854775807:=by omega
    refine⟨mB,?_⟩
    refine⟨_,_,_,ah.refl _ _,rfl,⟨?_,?_,trivial⟩,⟨rfl,rfl,rfl,rfl,trivial⟩,rfl⟩
    ·exact congrArg Prod.fst lJ
    ·show(j:Int)+1=_
     rw[←lJ]
     rfl
   ·have af:(d.im.t.getD k s0).1=0:=by
     have af:(!decide ((d.im.t.getD k s0).1=0))=false:=af
     simpa using af
    rw[yg,if_neg (fun h=>h.2 af)] at lJ
    exact⟨rM,j+1,⟨fQ,lJ⟩,by omega,ah.sub ⟨rfl,rfl,rfl,rfl,rfl,rfl,trivial⟩ ⟨rfl,rfl,rfl,rfl,trivial⟩⟩
  ·have aa: ¬(k:Int) < (d.im.t.length:Nat):=of_decide_eq_false aa
   rw[yg,if_neg (fun h=>aa (by have:=h.1;omega))] at lJ
   exact⟨rM,j+1,⟨fQ,lJ⟩,by omega,ah.sub ⟨rfl,rfl,rfl,rfl,rfl,rfl,trivial⟩ ⟨rfl,rfl,rfl,rfl,trivial⟩⟩
 ·have h:decide ((j:Int) < (l.length:Nat))=false:=h
  have fQ:j=l.length:=by simp at h;omega
  subst fQ
  rw[List.drop_length] at lJ
  have p6:((2 ^bits:Nat):Int)*16=((16*2 ^bits:Nat):Int):=by omega
  have IQ:(-9223372036854775808:Int)≤((2 ^bits:Nat):Int)*16∧((2 ^bits:Nat):Int)*16≤9223372036854775807:=by rw[p6];omega
  have IU:((2 ^bits:Nat):Int)*16=((2 ^bits:Nat):Int)*16∧(0:Int)≤((2 ^bits:Nat):Int)*16∧((2 ^bits:Nat):Int)*16≤4294967296:=by rw[p6];omega
  show av _ _ _ _ _ _ _
  refine av.go ai (aJ ai) [] (by kernel_rfl) (ah.refl _ _) ?_
  refine⟨IQ,IU,rfl,?_⟩
  refine⟨_,_,_,ah.dU 65 rfl,rfl,⟨?_,?_,trivial⟩,⟨rfl,rfl,rfl,rfl,trivial⟩,rfl⟩
  ·have WZ:List.replicate (((2 ^bits:Nat):Int)*16).toNat (0:UInt8)=(ig bits L k l 0).1:=by
    rw[←lJ,p6]
    rfl
   exact WZ
  ·show(0:Int)=_
   rw[←lJ]
   rfl
theorem W3 {a b:Int} (aa:0≤a) (af:a≤9223372036854775807) (ay:0≤b) (bu:b≤9223372036854775807):
  IntKind.i64.wrap (((BitVec.ofInt 64 a &&& BitVec.ofInt 64 b).toNat:Nat):Int)=((a.toNat &&& b.toNat:Nat):Int):=by
 have aj:(BitVec.ofInt 64 a).toNat=a.toNat:=by rw[BitVec.toNat_ofInt];omega
 have ak:(BitVec.ofInt 64 b).toNat=b.toNat:=by rw[BitVec.toNat_ofInt];omega
 rw[BitVec.toNat_and,aj,ak]
 have h:a.toNat &&& b.toNat < 2 ^63:=Nat.and_lt_two_pow _ (by omega)
 exact yW (by simp only[vN];omega)
theorem W4 {P:Program} {ids:List Nat} {K:aQ} {B:aG} {o:Oper} {T gG:TypeId} {x y:Operand} {a b:Int} (az:o.op= .binOp .and T x y gG) (hx:aU K x= .c (.one (.d (.int .i64 a)))) (aF:aU K y= .c (.one (.d (.int .i64 b)))) (aa:0≤a) (af:a≤9223372036854775807) (ay:0≤b) (bu:b≤9223372036854775807) (N:Nat):
  bH P N ids o K B (.c (.one (.d (.int .i64 ((a.toNat &&& b.toNat:Nat):Int))))) ⟨[],[],[]⟩:=by
 have m1:x∈o.op.operands:=by rw[az];simp[Op.operands]
 have m2:y∈o.op.operands:=by rw[az];simp[Op.operands]
 refine bH.val fun K' B' g1 g2 C ρ F ac w aA hS=>?_
 have aj:=hS.int ((g1 x m1).trans hx)
 have ak:=hS.int ((g1 y m2).trans aF)
 refine⟨_,?_,rfl⟩
 have e:=W3 aa af ay bu
 have hs:Op.intBits .and .i64 a b=pure (.int .i64 ((a.toNat &&& b.toNat:Nat):Int)):=by
  exact congrArg (fun z:Int=>(pure (Value.int .i64 z):Sem Value)) e
 simp only[execOp,az,aj,ak,eqGuard,binOp,hs]
 simp[go_sem]
def nG (bits:Nat) (L:List aK) (nm:List UInt8) (cN k:Nat):List UInt8:=(ig bits L k (nm::ef L cN nm) 0).1
theorem IV (bits room:Nat) (L:List aK) (bJ:nF bits room L) (nm:List UInt8) (d0:aK) (aE:dk L nm=some d0) (cN:Nat) (fO:ew L nm cN) (p5:cN≤100) (k:Nat) (aq:k < d0.im.t.length):
  Fn Tryz.prog 16 [aH 1001,bG nm,aC (k:Int)] (bM bits room L) [] (cI .u8 (nG bits L nm cN k)) (bM bits room L):=by
 obtain⟨sI,iU,iV⟩:=nC wD
 have hd:=(cA aE).1
 obtain⟨fJ,iJ,qF⟩:=bJ.hM d0 hd
 have ki:=bJ.togK.D hd
 have fR:=bJ.togK.M hd
 have hx:(ct (aN:=.str) (aP:=.aY) (cl L) nm).getD (dflt .aY)=some d0.ad:=by rw[iK,aE];rfl
 have lT:=fJ.tl
 refine Fn.of ai [2,4] _ _ _ _ _ Tryz.func16 rfl rfl (by kernel_rfl) (by kernel_rfl) rfl (aJ ai) rfl ?_
 show av _ _ _ _ _ _ _
 refine av.go ai (aJ ai) [4] (by kernel_rfl) (ah.refl _ _) ?_
 refine⟨fun e5 ag=>?_,fun ag=>absurd (show(ct (aN:=.str) (aP:=.aY) (cl L) nm).getD (dflt .aY)=none from ag) (by rw[hx];intro h;cases h)⟩
 refine⟨fun h=>absurd (of_decide_eq_true h) (by omega),fun _=>?_⟩
 refine⟨_,_,fun N=>ov (b:=d0.ad) rfl (by exact o6 hx) N,rfl,?_⟩
 refine⟨_,_,fun N=>ow rfl Tryz.underlying130 rfl rfl iU (by rw[iV];decide) rfl N,rfl,?_⟩
 refine⟨_,_,fun N=>p4 (q:=1003) rfl Tryz.underlying49 rfl rfl rfl ki rfl N,rfl,?_⟩
 refine⟨_,_,_,_,jC (qD d0.im) fR rfl rfl rfl rfl,⟨rfl,trivial⟩,rfl,?_⟩
 refine⟨fun h=>?_,fun _=>?_⟩
 ·exfalso
  have h:((d0.im.t.length:Nat):Int)≤(k:Int):=of_decide_eq_true h
  omega
 show av _ _ _ _ _ _ _
 refine av.go ai (aJ ai) [] (by kernel_rfl) (ah.sub (K':=[(0,aH 1001),(1,bG nm),(2,aC (k:Int))]) (B':=bM bits room L) ⟨rfl,rfl,rfl,trivial⟩ ⟨rfl,rfl,rfl,rfl,trivial⟩) ?_
 refine⟨_,_,_,_,N3 bits room L bJ nm d0 aE cN fO p5 k (by omega),⟨rfl,rfl,rfl,rfl,trivial⟩,rfl,?_⟩
 exact⟨_,_,_,ah.refl _ _,rfl,rfl,⟨rfl,rfl,rfl,rfl,trivial⟩,rfl⟩
theorem N4 (bits room:Nat) (aa:bits≤3) (ay:room≤512):Fn Tryz.prog 6 [aC (bits:Int),aC (room:Int)] [] [1001,1002,1003,1004] (.c6 [.one (.ptr 1001 0),fh 0]) (bM bits room []):=by
 refine Fn.of ai [2] _ _ _ _ _ Tryz.func6 rfl rfl (by kernel_rfl) (by kernel_rfl) rfl (aJ ai) rfl ?_
 refine⟨_,_,_,_,Fn.ren [(1001,2001),(1002,2002),(1003,2003),(1004,2004)] (Wn bits 0 room aa (by decide) ay),trivial,rfl,?_⟩
 show av _ _ _ _ _ _ _
 refine av.go ai (aJ ai) [] (by kernel_rfl) (ah.sub (K':=[(0,aC (bits:Int)),(1,aC (room:Int)),(7,aC 0)]) (B':=[]) ⟨rfl,rfl,rfl,trivial⟩ trivial) ?_
 refine⟨fun h=>absurd h (by decide),fun _=>?_⟩
 refine⟨rfl,?_⟩
 refine⟨rfl,?_⟩
 exact⟨_,_,_,(ah.ren 21 1001 rfl).trans ((ah.ren 19 1002 rfl).trans ((ah.emp 1003 rfl).trans (ah.emp 1004 rfl))),rfl,⟨rfl,rfl,trivial⟩,⟨rfl,rfl,rfl,rfl,trivial⟩,rfl⟩
def tR (bits:Nat) (L:List aK) (nm:List UInt8) (cN s:Nat):List UInt8:=((nG bits L nm cN (s/2 ^bits)).take (s % 2 ^bits*16+16)).drop (s % 2 ^bits*16)
def fS (bits:Nat) (L:List aK) (nm:List UInt8) (cN a:Nat):Nat→List UInt8
 |0=>[]
 |j+1=>fS bits L nm cN a j++tR bits L nm cN (a+j)
theorem IW {bits room:Nat} {L:List aK} (h:nF bits room L) (k:Nat): ∀(ns:List (List UInt8)) (i:Nat),(∀n,n∈ns→ ∃e,dk L n=some e)→(ig bits L k ns i).1.length=16*2 ^bits
 | [],i,_=>List.length_replicate
 |n::ns,i,hn=>by
  obtain⟨d,e⟩:=hn n (List.mem_cons_self ..)
  unfold ig
  rw[e]
  simp only
  split
  ·rename_i bZ
   obtain⟨fJ,iJ,_⟩:=h.hM d (cA e).1
   rw[x5 fJ bZ.1 none]
   show 16*2 ^d.im.bits=_
   rw[iJ]
  ·exact IW h k ns (i+1) fun n hm=>hn n (List.mem_cons_of_mem _ hm)
theorem IX {bits room:Nat} {L:List aK} (h:nF bits room L) {nm:List UInt8} {d0:aK} (aE:dk L nm=some d0) {cN:Nat} (fO:ew L nm cN) (k:Nat):(nG bits L nm cN k).length=16*2 ^bits:=
 IW h k _ 0 fun n hn=>by
  rcases List.mem_cons.1 hn with rfl |hn
  ·exact⟨d0,aE⟩
  ·exact IN h fO n hn
theorem Ew {bits room:Nat} {L:List aK} (h:nF bits room L) {nm:List UInt8} {d0:aK} (aE:dk L nm=some d0) {cN:Nat} (fO:ew L nm cN) (a:Nat): ∀j,(fS bits L nm cN a j).length=16*j
 |0=>rfl
 |j+1=>by
  have aZ:=Ew h aE fO a j
  have hc:=IX h aE fO ((a+j)/2 ^bits)
  have hp:=(k5 h.b3).1
  have hm:(a+j) % 2 ^bits < 2 ^bits:=Nat.mod_lt _ (by omega)
  show(fS bits L nm cN a j++tR bits L nm cN (a+j)).length=_
  rw[List.length_append,aZ]
  unfold tR
  rw[List.length_drop,List.length_take,hc]
  generalize(a+j) % 2 ^bits=m at*
  generalize 2 ^bits=P at*
  omega
@[reducible] def N5 (nm:List UInt8) (a l j:Nat):aQ:=[(0,aH 1001),(1,bG nm),(2,aC (a:Int)),(3,aC (l:Int)),(13,iO 5002),(14,aC ((a+j:Nat):Int))]
@[reducible] def W5 (nm:List UInt8) (a l j:Nat):aQ:=[(0,aH 1001),(1,bG nm),(2,aC (a:Int)),(3,aC (l:Int)),(13,iO 70),(14,aC ((a+j:Nat):Int))]
@[reducible] def N6 (bits room:Int) (L:List aK) (acc:List UInt8):aG:=bM bits room L++[(5002,.row 5 .u8 acc)]
@[reducible] def W6 (bits room:Int) (L:List aK) (acc:List UInt8):aG:=bM bits room L++[(70,.row 5 .u8 acc)]
set_option maxHeartbeats 1000000 in
theorem W7 (bits room:Nat) (L:List aK) (bJ:nF bits room L) (nm:List UInt8) (d0:aK) (aE:dk L nm=some d0) (cN:Nat) (fO:ew L nm cN) (p5:cN≤100) (a l:Nat) (dz:dK d0.im a l=0):
  Fn Tryz.prog 51 [aH 1001,bG nm,aC (a:Int),aC (l:Int)] (bM bits room L) [2001] (.c6 [.one (.own 2001),fh 0]) (bM bits room L++[(2001,.row 5 .u8 (fS bits L nm cN a l))]):=by
 obtain⟨sI,iU,iV⟩:=nC wD
 have hd:=(cA aE).1
 obtain⟨fJ,iJ,qF⟩:=bJ.hM d0 hd
 have ki:=bJ.togK.D hd
 have fR:=bJ.togK.M hd
 have hx:(ct (aN:=.str) (aP:=.aY) (cl L) nm).getD (dflt .aY)=some d0.ad:=by rw[iK,aE];rfl
 have hp:=k5 bJ.b3
 have dh:=rL dz
 have tP:eV d0.im≤2048:=Nat.mul_le_mul fJ.tl (k5 fJ.bits).2
 have N7:eV d0.im=d0.im.t.length*2 ^bits:=by unfold eV;rw[iJ]
 refine Fn.of ai [2,5,7,9,11,12] _ _ _ _ _ Tryz.func51 rfl rfl (by kernel_rfl) (by kernel_rfl) rfl (aJ ai) rfl ?_
 show av _ _ _ _ _ _ _
 refine av.go ai (aJ ai) [5,7,9,11,12] (by kernel_rfl) (ah.refl _ _) ?_
 refine⟨fun e5 ag=>?_,fun ag=>absurd (show(ct (aN:=.str) (aP:=.aY) (cl L) nm).getD (dflt .aY)=none from ag) (by rw[hx];intro h;cases h)⟩
 refine⟨_,_,fun N=>ov (b:=d0.ad) rfl (by exact o6 hx) N,rfl,?_⟩
 refine⟨_,_,fun N=>ow rfl Tryz.underlying130 rfl rfl iU (by rw[iV];decide) rfl N,rfl,?_⟩
 refine⟨_,_,fun N=>p4 (q:=1003) rfl Tryz.underlying49 rfl rfl rfl ki rfl N,rfl,?_⟩
 refine⟨_,_,_,_,jC (NK d0.im fJ a l dz) fR rfl rfl rfl rfl,⟨rfl,trivial⟩,rfl,?_⟩
 show av _ _ _ _ _ _ _
 refine av.go ai (aJ ai) [7,9,11,12] (by kernel_rfl) (ah.sub (K':=[(0,aH 1001),(1,bG nm),(2,aC (a:Int)),(3,aC (l:Int)),(12,aC 0)]) (B':=bM bits room L) ⟨rfl,rfl,rfl,rfl,rfl,trivial⟩ ⟨rfl,rfl,rfl,rfl,trivial⟩) ?_
 refine⟨fun h=>absurd h (by decide),fun _=>?_⟩
 show av _ _ _ _ _ _ _
 refine av.go ai (aJ ai) [9,11,12] (by kernel_rfl) (ah.refl _ _) ?_
 show av _ _ _ _ _ _ _
 refine av.loop ai (aJ ai) [11,12] (by kernel_rfl) (X:=Nat) (N5 nm a l) (fun j=>N6 bits room L (fS bits L nm cN a j)) (fun j=>j≤l) (fun j=>l - j) 0 (Nat.zero_le _) ?_ ?_
 ·exact(ah.nil 13 5002 5 .u8 rfl rfl).trans (ah.sub ⟨rfl,rfl,rfl,rfl,rfl,rfl,trivial⟩ ⟨rfl,rfl,rfl,rfl,rfl,trivial⟩)
 intro j au
 have m1:(-9223372036854775808:Int)≤(a:Int)+(l:Int)∧(a:Int)+(l:Int)≤9223372036854775807:=by omega
 refine⟨m1,?_⟩
 refine⟨fun h=>?_,fun h=>?_⟩
 ·have h:((a+j:Nat):Int) < (a:Int)+(l:Int):=of_decide_eq_true h
  have oK:j < l:=by omega
  have adg:=Ew bJ aE fO a j
  have bP:(a+j)/2 ^bits < d0.im.t.length:=by
   rw[Nat.div_lt_iff_lt_mul (by omega),←N7]
   omega
  have cP:=IX bJ aE fO ((a+j)/2 ^bits)
  have KU:(a+j) % 2 ^bits < 2 ^bits:=Nat.mod_lt _ (by omega)
  have W8:=IV bits room L bJ nm d0 aE cN fO p5 ((a+j)/2 ^bits) bP
  have m2:(0:Int)≤((a+j:Nat):Int)∧(0:Int)≤(bits:Int)∧(bits:Int)≤64:=by have:=bJ.b3;omega
  have m3:(0:Int)≤1∧(0:Int)≤(bits:Int)∧(bits:Int)≤64:=by have:=bJ.b3;omega
  have aj:(1:Int)*((2 ^bits:Nat):Int)=((2 ^bits:Nat):Int):=Int.one_mul _
  have je:(-9223372036854775808:Int)≤1*((2 ^bits:Nat):Int)∧(1:Int)*((2 ^bits:Nat):Int)≤9223372036854775807:=by rw[aj];generalize 2 ^bits=P at*;omega
  have mB:(-9223372036854775808:Int)≤1*((2 ^bits:Nat):Int) - 1∧(1:Int)*((2 ^bits:Nat):Int) - 1≤9223372036854775807:=by rw[aj];generalize 2 ^bits=P at*;omega
  show av _ _ _ _ _ _ _
  refine av.go ai (aJ ai) [12] (by kernel_rfl) (ah.refl _ _) ?_
  refine⟨m2,m3,je,mB,?_⟩
  have et:(1*((2 ^bits:Nat):Int) - 1).toNat=2 ^bits - 1:=by rw[aj];generalize 2 ^bits=P at*;omega
  have ev:(((((a+j:Nat):Int)).toNat &&& (1*((2 ^bits:Nat):Int) - 1).toNat:Nat):Int)=(((a+j) % 2 ^bits:Nat):Int):=by
   rw[et,show(((a+j:Nat):Int)).toNat=a+j from rfl,Nat.and_two_pow_sub_one_eq_mod]
  have p6:(((((a+j:Nat):Int)).toNat &&& (1*((2 ^bits:Nat):Int) - 1).toNat:Nat):Int)*16=(((a+j) % 2 ^bits*16:Nat):Int):=by rw[ev];omega
  have W9:((a+j:Nat):Int)/((2 ^bits:Nat):Int)=(((a+j)/2 ^bits:Nat):Int):=rfl
  have rM:(-9223372036854775808:Int)≤(((((a+j:Nat):Int)).toNat &&& (1*((2 ^bits:Nat):Int) - 1).toNat:Nat):Int)*16∧(((((a+j:Nat):Int)).toNat &&& (1*((2 ^bits:Nat):Int) - 1).toNat:Nat):Int)*16≤9223372036854775807:=by
   rw[p6]
   generalize(a+j) % 2 ^bits=m at*
   generalize 2 ^bits=P at*
   omega
  refine⟨_,_,fun N=>W4 rfl rfl rfl m2.1 (by omega) (by rw[aj];generalize 2 ^bits=P at*;omega) mB.2 N,rfl,?_⟩
  refine⟨rM,rfl,?_⟩
  have IQ:(-9223372036854775808:Int)≤(((a+j) % 2 ^bits*16:Nat):Int)+16∧(((a+j) % 2 ^bits*16:Nat):Int)+16≤9223372036854775807:=by
   generalize(a+j) % 2 ^bits=m at*
   generalize 2 ^bits=P at*
   omega
  have IU:(0:Int)≤(((a+j) % 2 ^bits*16:Nat):Int)∧(((a+j) % 2 ^bits*16:Nat):Int)≤(((a+j) % 2 ^bits*16:Nat):Int)+16∧(((a+j) % 2 ^bits*16:Nat):Int)+16≤(((nG bits L nm cN ((a+j)/2 ^bits)).length:Nat):Int):=by
   rw[cP]
   generalize(a+j) % 2 ^bits=m at*
   generalize 2 ^bits=P at*
   omega
  have IY:(fS bits L nm cN a j).length+(tR bits L nm cN (a+j)).length≤4294967296:=by
   have:=Ew bJ aE fO a (j+1)
   rw[show fS bits L nm cN a (j+1)=fS bits L nm cN a j++tR bits L nm cN (a+j) from rfl,List.length_append] at this
   omega
  show av _ _ _ _ _ _ _
  refine av.go ai (aJ ai) [] (by kernel_rfl) (ah.sub (K':=(15,aC (((a+j)/2 ^bits:Nat):Int))::(16,aC (((a+j) % 2 ^bits*16:Nat):Int))::N5 nm a l j) (B':=N6 bits room L (fS bits L nm cN a j)) ⟨W9,p6,rfl,rfl,rfl,rfl,rfl,rfl,trivial⟩ ⟨rfl,rfl,rfl,rfl,rfl,trivial⟩) ?_
  refine⟨_,_,_,_,W8,⟨rfl,rfl,rfl,rfl,trivial⟩,rfl,?_⟩
  refine⟨IQ,IU,?_⟩
  refine⟨IY,rfl,?_⟩
  have Xa:(-9223372036854775808:Int)≤((a+j:Nat):Int)+1∧((a+j:Nat):Int)+1≤9223372036854775807:=by omega
  refine⟨Xa,j+1,by omega,by omega,?_⟩
  exact ah.trans (ah.sub (K':=W5 nm a l (j+1)) (B':=W6 bits room L (fS bits L nm cN a (j+1))) ⟨rfl,rfl,rfl,rfl,rfl,rfl,trivial⟩ ⟨rfl,rfl,rfl,rfl,rfl,trivial⟩) (ah.ren 70 5002 rfl)
 ·have h: ¬((a+j:Nat):Int) < (a:Int)+(l:Int):=of_decide_eq_false h
  have oK:j=l:=by omega
  subst oK
  exact⟨_,_,_,ah.ren 5002 2001 rfl,rfl,⟨rfl,rfl,trivial⟩,⟨rfl,rfl,rfl,rfl,rfl,trivial⟩,rfl⟩
theorem Xb (bits room:Nat) (L:List aK) (bJ:nF bits room L) (nm:List UInt8) (d0:aK) (aE:dk L nm=some d0) (cN:Nat) (fO:ew L nm cN) (p5:cN≤100) (a l:Nat) (dz:dK d0.im a l=0):
  Fn Tryz.prog 51 [aH 1001,bG nm,aC (a:Int),aC (l:Int)] (bM bits room L) [] (.c6 [.one (.d (.cT .u8 (fS bits L nm cN a l))),fh 0]) (bM bits room L):=
 Fn.Nw (d:=2001) (W7 bits room L bJ nm d0 aE cN fO p5 a l dz) rfl rfl rfl
theorem Xc (bits room:Int) (L:List aK) (nm:List UInt8) (aE:dk L nm=none) (a l:Int):
  Fn Tryz.prog 51 [aH 1001,bG nm,aC a,aC l] (bM bits room L) [] (.c6 [.one .ec,fh 140]) (bM bits room L):=by
 have hx:(ct (aN:=.str) (aP:=.aY) (cl L) nm).getD (dflt .aY)=none:=by rw[iK,aE];rfl
 refine Fn.of ai [] _ _ _ _ _ Tryz.func51 rfl rfl (by kernel_rfl) (by kernel_rfl) rfl (aJ ai) rfl ?_
 refine⟨fun e5 ag=>absurd (show(ct (aN:=.str) (aP:=.aY) (cl L) nm).getD (dflt .aY)=some e5 from ag) (by rw[hx];intro h;cases h),fun _=>?_⟩
 exact⟨_,_,_,ah.refl _ _,rfl,⟨rfl,rfl,trivial⟩,⟨rfl,rfl,rfl,rfl,trivial⟩,rfl⟩
theorem Xd (bits room:Nat) (L:List aK) (bJ:nF bits room L) (nm:List UInt8) (d0:aK) (aE:dk L nm=some d0) (a l:Int) (dz:dK d0.im a l≠0):
  Fn Tryz.prog 51 [aH 1001,bG nm,aC a,aC l] (bM bits room L) [] (.c6 [.one .ec,fh (dK d0.im a l)]) (bM bits room L):=by
 obtain⟨sI,iU,iV⟩:=nC wD
 have hd:=(cA aE).1
 obtain⟨fJ,iJ,qF⟩:=bJ.hM d0 hd
 have ki:=bJ.togK.D hd
 have fR:=bJ.togK.M hd
 have hx:(ct (aN:=.str) (aP:=.aY) (cl L) nm).getD (dflt .aY)=some d0.ad:=by rw[iK,aE];rfl
 refine Fn.of ai [] _ _ _ _ _ Tryz.func51 rfl rfl (by kernel_rfl) (by kernel_rfl) rfl (aJ ai) rfl ?_
 refine⟨fun e5 ag=>?_,fun ag=>absurd (show(ct (aN:=.str) (aP:=.aY) (cl L) nm).getD (dflt .aY)=none from ag) (by rw[hx];intro h;cases h)⟩
 refine⟨_,_,fun N=>ov (b:=d0.ad) rfl (by exact o6 hx) N,rfl,?_⟩
 refine⟨_,_,fun N=>ow rfl Tryz.underlying130 rfl rfl iU (by rw[iV];decide) rfl N,rfl,?_⟩
 refine⟨_,_,fun N=>p4 (q:=1003) rfl Tryz.underlying49 rfl rfl rfl ki rfl N,rfl,?_⟩
 refine⟨_,_,_,_,jC (V0 d0.im fJ a l dz) fR rfl rfl rfl rfl,⟨rfl,trivial⟩,rfl,?_⟩
 refine⟨fun _=>?_,fun h=>absurd (show dK d0.im a l=0 by have h:(!decide (dK d0.im a l=0))=false:=h;simpa using h) dz⟩
 exact⟨_,_,_,ah.refl _ _,rfl,⟨rfl,rfl,trivial⟩,⟨rfl,rfl,rfl,rfl,trivial⟩,rfl⟩
end Go.Proofs.YteoamepgonpdlaaGreat
namespace Go.Proofs.YteoamepgonpdlaaGreat
open Go.RowKit Go.Proofs Go.Maps Go.Shelf Go.MapKept
open Go.WideElems (Fit rd rg pl rd_val rd_key rg_of)
def Xe {aP:U} (p:aI .str×aI aP):List UInt8:=p.1
def oy {aP:U} (es:List (aI .str×aI aP)):List (List UInt8):=es.map Xe
def tS {aP:U} (es:List (aI .str×aI aP)):List (List UInt8):=(oy es).mergeSort leB
abbrev p7:Value→Option (DataW Unit×List MemPlace):=fun _=>some (.nil,[])
theorem N8 {I:Nat→Prop} {w:World} {aP:U}: ∀{l:List (aI .str×aI aP)} {es:List MapEntry},jN I w .str aP l es→es.map (·.key)=(oy l).map encStr
 | [],_,h=>by rw[show _=[] from h];rfl
 |p::l,_,⟨e,r,h,aa,_,ay⟩=>by
  rw[h,List.map_cons,N8 ay,aa]
  rfl
theorem Xf {P:Program} {k:TypeId} (aq:P.underlying k=some .string) (s:List UInt8) (h:s.length≤maxLen):keyOf P k (encStr s)=some (.string s):=by
 simp only[keyOf,aq,encStr,mapKey,ByteArray.size,List.size_toArray]
 rw[if_pos h]
theorem N9: ∀{l m:List (List UInt8)},l.map encStr=m.map encStr→l=m
 | [],[],_=>rfl
 | [],_::_,h=>by simp at h
 |_::_,[],h=>by simp at h
 |x::l,y::m,h=>by
  simp only[List.map_cons,List.cons.injEq] at h
  rw[encStr_inj h.1,N9 h.2]
theorem Xg {P:Program} {k:TypeId} (aq:P.underlying k=some .string) {I:Nat→Prop} {w:World} {aP:U} {es:List (aI .str×aI aP)} {cX:List MapEntry} {clock b:Nat} (ag:w.heap[b]? =some (.map (List.toArray cX) clock))
  (hm:jN I w .str aP es cX) (dy:oN cX clock) (hn:(oy es).Nodup) (aB: ∀s∈oy es,s.length≤maxLen) (hs:es.length≤maxLen):
  ∃o7,w.ownsMap P k p7 b es.length o7∧Maps.size o7=es.length∧(strKeys o7).Perm (oy es):=by
 have hlen:=CR hm
 have yh:=N8 hm
 have B0: ∀x∈cX,∃s:List UInt8,x.key=encStr s∧s.length≤maxLen∧rg P k p7 x=(.string s,.nil)∧ ∃y,rd P k p7 x=some y:=by
  intro x hx
  have:x.key∈(oy es).map encStr:=by rw[←yh];exact List.mem_map_of_mem hx
  obtain⟨s,hp,he⟩:=List.mem_map.1 this
  have B1:keyOf P k x.key=some (.string s):=he▸Xf aq _ (aB s hp)
  have tQ:rd P k p7 x=some (.string s,.nil):=by simp[rd,B1]
  exact⟨s,he.symm,aB s hp,rg_of tQ,_,tQ⟩
 have vp:=Go.WideShapes.sorted_perm (cX.map (rg P k p7))
 have fO:(cX.map (rg P k p7)).map (fun p=>strOf p.1)=oy es:=by
  refine N9 ?_
  rw[←yh,List.map_map,List.map_map]
  refine List.map_congr_left fun x hx=>?_
  obtain⟨s,aj,_,ak,_⟩:=B0 x hx
  simp[ak,aj,strOf]
 refine⟨.map ((cX.map (rg P k p7)).foldr DataW.insert []),⟨List.toArray cX,clock,ag,⟨by simp[hlen];exact hs,(stamped_iff _ _).2 ⟨dy.2,dy.1.imp fun h=>by omega,?_⟩,fun x hx=>(B0 x hx).choose_spec.2.2.2⟩,by simp[hlen],rfl⟩,?_,?_⟩
 ·have aa:(cX.map (·.key)).Pairwise (· ≠ ·):=by
   rw[yh]
   exact List.pairwise_map.2 (hn.imp fun bg e=>bg (encStr_inj e))
  exact List.pairwise_map.1 aa
 ·show List.length _=_
  rw[vp.length_eq,List.length_map,hlen]
 ·show(List.map (fun p=>strOf (Prod.fst p)) _).Perm _
  rw[←fO]
  exact vp.map _
theorem Xh (es:List (aI .str×aI .aY)):Fn Tryz.prog 104 [.c (.one (.mp 1001))] [(1001,.map .str .aY es)] [2001] (.c (.one (.eM 130 [.p 2001 0]))) [(2001,.cells [.mp 1001]),(1001,.map .str .aY es)]:=by
 refine Fn.of ai [] _ _ _ _ _ Tryz.func104 rfl rfl (by kernel_rfl) (by kernel_rfl) rfl (aJ ai) rfl ?_
 refine⟨rfl,?_⟩
 exact⟨_,_,_,ah.ren 1 2001 rfl,rfl,rfl,⟨rfl,rfl,trivial⟩,rfl⟩
theorem fF.Xi {I D:Nat→Prop} {w:World} {v:Value} {l:List (List UInt8)} (h:fF D w 1 v l.length (l.map encStr)) (cq: ∀b,b < w.heap.size→D b→I b):b7 I w (.sl .str) l (fun _=>some v):=by
 obtain⟨_,A,c,aE,aa,af,ay⟩:=h
 refine⟨A,c,congrArg some aE,aa,af,fun hp=>?_⟩
 obtain⟨b,o,hA,ag,bF,hx⟩:=ay hp
 refine⟨b,o,hA,cq b bF ag,fun i x aD=>?_⟩
 have:=hx i (encStr x) (by rw[List.getElem?_map,show l[i]? =some x from aD];rfl)
 simpa[b7,aM,encStr] using this
theorem Xj (m:Nat):AnyZ.SortsIn Tryz.prog Tryz.ML Fence.wide m:=
 ⟨fun bI off cap mZ W dW jq dH=>callsIn_wide.2 (AnyM.slices_Sort_string Tryz.MM bI off cap mZ W dW jq dH),
  fun p cap W=>callsIn_wide.2 (AnyM.slices_Sort_string_none Tryz.MM p cap W)⟩
theorem Xk (es:List (aI .str×aI .aY)) (hn:(oy es).Nodup) (aB: ∀s∈oy es,s.length≤maxLen) (hs:es.length≤4294967296):
  Fn Tryz.prog 103 [.c (.one (.eM 130 [.p 2001 0]))] [(2001,.cells [.mp 1001]),(1001,.map .str .aY es)] [] (cI .str (tS es)) [(2001,.cells [.mp 1001]),(1001,.map .str .aY es)]:=by
 refine⟨by kernel_rfl,fun ρ F I w bW bC dW hF fU hlen eu=>?_⟩
 match bW,hlen with
 | [v],_=>
  obtain⟨vs,hv,w0,r,nx,yj,hr⟩:=eu 0 _ v rfl rfl
  have hr:r=[]:=hr
  have yj:w0= .pointer (some ⟨(ρ 2001).bI,0,none⟩):=yj
  subst hr yj nx hv
  obtain⟨_,vs,T,pW,nx⟩:=dW 2001 _ rfl
  obtain⟨x,r,nx,hx,hr⟩:=nx
  have hr:r=[]:=hr
  have hx:x= .map (some (ρ 1001).bI):=hx
  subst hr hx nx
  obtain⟨_,cX,clock,pO,hm,dy⟩:=dW 1001 _ rfl
  have Xl:(4294967296:Nat)≤maxLen:=by decide
  obtain⟨o7,dD,dH,vp⟩:=Xg (P:=Tryz.prog) (k:=9) (by kernel_rfl) pO hm dy hn aB (by omega)
  have bF:(ρ 2001).bI < w.heap.size:=pE pW
  have IZ:SeqGives Fence.wide 2 Tryz.prog 130 #[.pointer (some ⟨(ρ 2001).bI,0,none⟩)] encStr (fun mZ=>mZ.Perm (strKeys o7)) (Maps.size o7) w:=
   AnyZ.keys_gives (ρ:=Tryz.MK) {Tryz.T2 with} Fence.wide _ trivial rfl (by omega) (ρ 2001).bI (ρ 1001).bI es.length o7 w bF (cell_of pW rfl) dD
  have hc:=AnyZ.sorted_in Tryz.T3 Fence.wide 5 trivial trivial trivial trivial rfl (by omega) (Xj _) (enters_of Tryz.func129 (by kernel_rfl) rfl) 130 #[.pointer (some ⟨(ρ 2001).bI,0,none⟩)] trivial (enters_of Tryz.func130 (by kernel_rfl) rfl) _ _ (by rw[dH];omega) (by rw[dH];omega) _ IZ
  refine(callsIn_wide.1 hc).mono ?_
  rintro e w' ⟨v,mZ,rfl,hS,iZ,Xm,oz⟩
  have bz:Ext I w (fun b=>b < w'.heap.size∧(I b∨w.heap.size≤b)) w':=fun b sK=>⟨⟨Nat.lt_of_lt_of_le (bC b sK) oz.size,.inl sK⟩,oz.block b (bC b sK)⟩
  refine⟨v,ρ,F,rfl,Fr.qU oz,fun _ _=>rfl,_,bz,fun b h=>⟨h.1,h.2.imp id .inr⟩,fun c ch hc=>Holds.cy bz (fun b ag=>oz.block b (hF c ch hc b ag).1) oz.size ch (fun _ _=>rfl) (dW c ch hc),fun c ch hc b ag=>?_,fun c bS ch ch' b aa af=>fU c bS ch ch' b aa af,?_⟩
  ·have:=hF c ch hc b ag
   exact⟨Nat.lt_of_lt_of_le this.1 oz.size,fun h=>(by rcases h.2 with h |h;exact this.2 h;omega),.inl ⟨c,ch,hc,ag⟩⟩
  ·have aq:mZ.mergeSort (fun x y=>decide (x≤y))=tS es:=Go.mergeSort_of_perm (hS.trans vp)
   rw[aq] at iZ
   have nv:=fF.vJ iZ
   have Oa:mZ.length=(tS es).length:=by rw[←aq,List.length_mergeSort]
   rw[Oa] at nv
   exact(nv.weaken fun i _ aD=>(iZ.lt i aD).1).Xi fun b aa af=>⟨aa,.inr af⟩
theorem wE (L:List aK):oy (cl L)=L.map (·.nm):=by
 unfold oy cl
 rw[List.map_map]
 rfl
def iB (L:List aK):List (List UInt8):=tS (cl L)
theorem I0 {L:List aK} {n:List UInt8} (h:n∈iB L): ∃d,dk L n=some d:=by
 unfold iB tS at h
 rw[List.mem_mergeSort,wE] at h
 obtain⟨d,hd,e⟩:=List.mem_map.1 h
 cases ak:dk L n with
 |some d=>exact⟨d,rfl⟩
 |none=>
  unfold dk at ak
  have:=List.find?_eq_none.1 ak d hd
  simp[e] at this
theorem Ex (L:List aK):(iB L).length=L.length:=by
 unfold iB tS
 rw[List.length_mergeSort,wE,List.length_map]
theorem Ob (bits room:Int) (L:List aK) (c4:gK L) (aB: ∀d,d∈L→d.nm.length≤100000) (m0:L.length≤100):Fn Tryz.prog 63 [aH 1001] (bM bits room L) [] (cI .str (iB L)) (bM bits room L):=by
 have aq:(oy (cl L)).Nodup:=by rw[wE];exact c4.jA
 have hm: ∀s∈oy (cl L),s.length≤maxLen:=fun s hs=>by
  rw[wE] at hs
  obtain⟨d,hd,rfl⟩:=List.mem_map.1 hs
  exact Nat.le_trans (aB d hd) (by decide)
 have hs:(cl L).length≤4294967296:=by unfold cl;rw[List.length_map];omega
 refine Fn.of ai [] _ _ _ _ _ Tryz.func63 rfl rfl (by kernel_rfl) (by kernel_rfl) rfl (aJ ai) rfl ?_
 refine⟨_,_,_,_,Fn.ren [(1001,1002),(2001,5001)] (Xh (cl L)),⟨rfl,trivial⟩,rfl,?_⟩
 refine⟨_,_,_,_,Fn.ren [(1001,1002),(2001,5001)] (Xk (cl L) aq hm hs),⟨rfl,rfl,trivial⟩,rfl,?_⟩
 exact⟨_,_,_,ah.refl _ _,rfl,rfl,⟨rfl,rfl,rfl,rfl,trivial⟩,rfl⟩
def kE (L:List aK) (nm n:List UInt8):Bool:= !decide (nm=[])&&decide (((dk L n).map (·.back)).getD []=nm)
def jE (L:List aK) (nm:List UInt8):List (List UInt8):=(iB L).filter (kE L nm)
@[reducible] def I1 (nm:List UInt8) (l:List (List UInt8)) (j:Nat):aQ:=[(0,aH 1001),(1,bG nm),(5,iO 5002),(9,cI .str l),(10,aC (l.length:Nat)),(11,aC (j:Nat))]
@[reducible] def Xn (nm:List UInt8) (l:List (List UInt8)) (j:Nat):aQ:=[(0,aH 1001),(1,bG nm),(5,iO 33),(9,cI .str l),(10,aC (l.length:Nat)),(11,aC (j:Nat))]
@[reducible] def I2 (bits room:Int) (L:List aK) (x:List (List UInt8)):aG:=bM bits room L++[(5002,.row 9 .str x)]
@[reducible] def Xo (bits room:Int) (L:List aK) (x:List (List UInt8)):aG:=bM bits room L++[(33,.row 9 .str x)]
set_option maxHeartbeats 1000000 in
theorem I3 (bits room:Int) (L:List aK) (c4:gK L) (aB: ∀d,d∈L→d.nm.length≤100000) (m0:L.length≤100) (nm:List UInt8):Fn Tryz.prog 68 [aH 1001,bG nm] (bM bits room L) [] (cI .str (jE L nm)) (bM bits room L):=by
 obtain⟨sI,iU,iV⟩:=nC Et
 have kR:=@I0 L
 have hlen:=Ex L
 have zF:=Ob bits room L c4 aB m0
 unfold jE
 generalize iB L=l at*
 refine Fn.of ai [5,6,8] _ _ _ _ _ Tryz.func68 rfl rfl (by kernel_rfl) (by kernel_rfl) rfl (aJ ai) rfl ?_
 refine⟨_,_,_,_,zF,⟨rfl,rfl,rfl,rfl,trivial⟩,rfl,?_⟩
 show av _ _ _ _ _ _ _
 refine av.loop ai (aJ ai) [5,6,8] (by kernel_rfl) (X:=Nat) (I1 nm l) (fun j=>I2 bits room L ((l.take j).filter (kE L nm))) (fun j=>j≤l.length) (fun j=>l.length - j) 0 (Nat.zero_le _) ?_ ?_
 ·exact(ah.nil 5 5002 9 .str rfl rfl).trans (ah.sub ⟨rfl,rfl,rfl,rfl,rfl,rfl,trivial⟩ ⟨rfl,rfl,rfl,rfl,rfl,trivial⟩)
 intro j au
 refine⟨fun h=>?_,fun h=>?_⟩
 ·have h:decide ((j:Int) < (l.length:Nat))=true:=h
  have fQ:j < l.length:=by simpa using h
  obtain⟨d,hd⟩:=kR (List.getElem_mem fQ)
  have ki:=c4.D (cA hd).1
  have hx:(ct (aN:=.str) (aP:=.aY) (cl L) l[j]).getD (dflt .aY)=some d.ad:=by rw[iK,hd];rfl
  have hu:kE L nm l[j]=(!decide (nm=[])&&decide (d.back=nm)):=by unfold kE;rw[hd];rfl
  have yg:(l.take (j+1)).filter (kE L nm)=(l.take j).filter (kE L nm)++(if kE L nm l[j]=true then[l[j]] else[]):=by
   rw[List.take_succ_eq_append_getElem fQ,List.filter_append]
   congr 1
   by_cases e:kE L nm l[j]=true
   ·rw[if_pos e,List.filter_cons_of_pos e];rfl
   ·rw[if_neg e,List.filter_cons_of_neg e];rfl
  have adh:((l.take j).filter (kE L nm)).length≤j:=Nat.le_trans (List.length_filter_le _ _) (by rw[List.length_take];omega)
  have m3:(0:Int)≤(j:Int):=by omega
  have rM:(-9223372036854775808:Int)≤(j:Int)+1∧(j:Int)+1≤9223372036854775807:=by omega
  have keep:kE L nm l[j]=false→(l.take (j+1)).filter (kE L nm)=(l.take j).filter (kE L nm):=fun e=>by rw[yg,if_neg (by rw[e];decide),List.append_nil]
  refine⟨m3,l[j],eA (n:=j) fQ,?_⟩
  generalize l[j]=n at*
  show av _ _ _ _ _ _ _
  refine av.go ai (aJ ai) [6,8] (by kernel_rfl) (ah.sub (K':=(7,bG n)::I1 nm l j) (B':=I2 bits room L ((l.take j).filter (kE L nm))) ⟨rfl,rfl,rfl,rfl,rfl,rfl,rfl,trivial⟩ ⟨rfl,rfl,rfl,rfl,rfl,trivial⟩) ?_
  refine⟨fun aa=>?_,fun aa=>?_⟩
  ·have aa: ¬nm=[]:=by
    have aa:(!decide (nm=[]))=true:=aa
    simpa using aa
   refine⟨_,_,fun N=>ov (b:=d.ad) rfl (by exact o6 hx) N,rfl,?_⟩
   refine⟨_,_,fun N=>ow rfl Tryz.underlying130 rfl rfl iU (by rw[iV];decide) rfl N,rfl,?_⟩
   refine⟨_,_,fun N=>p4 (q:=1003) rfl Tryz.underlying9 rfl rfl rfl ki rfl N,rfl,?_⟩
   refine⟨fun af=>?_,fun af=>?_⟩
   ·have af:d.back=nm:=of_decide_eq_true af
    have Df:kE L nm n=true:=by rw[hu,decide_eq_false aa,decide_eq_true af];rfl
    rw[if_pos Df] at yg
    have IY:((l.take j).filter (kE L nm)).length+1≤4294967296:=by omega
    show av _ _ _ _ _ _ _
    refine av.go ai (aJ ai) [] (by kernel_rfl) (ah.sub (K':=(7,bG n)::I1 nm l j) (B':=I2 bits room L ((l.take j).filter (kE L nm))) ⟨rfl,rfl,rfl,rfl,rfl,rfl,rfl,trivial⟩ ⟨rfl,rfl,rfl,rfl,rfl,trivial⟩) ?_
    refine⟨IY,rfl,?_⟩
    refine⟨rM,j+1,fQ,by omega,?_⟩
    exact ah.trans (ah.sub (K':=Xn nm l (j+1)) (B':=Xo bits room L ((l.take (j+1)).filter (kE L nm))) ⟨rfl,rfl,rfl,rfl,rfl,rfl,trivial⟩ ⟨rfl,rfl,rfl,rfl,congrArg (fun l:List (List UInt8)=>some (bw.row 9 .str l)) yg.symm,trivial⟩) (ah.ren 33 5002 rfl)
   ·have af: ¬d.back=nm:=of_decide_eq_false af
    have aq:=keep (by rw[hu,decide_eq_false af,Bool.and_false])
    exact⟨rM,j+1,fQ,by omega,ah.sub ⟨rfl,rfl,rfl,rfl,rfl,rfl,trivial⟩ ⟨rfl,rfl,rfl,rfl,congrArg (fun l:List (List UInt8)=>some (bw.row 9 .str l)) aq.symm,trivial⟩⟩
  ·have aa:nm=[]:=by
    have aa:(!decide (nm=[]))=false:=aa
    simpa using aa
   have aq:=keep (by rw[hu,decide_eq_true aa];rfl)
   exact⟨rM,j+1,fQ,by omega,ah.sub ⟨rfl,rfl,rfl,rfl,rfl,rfl,trivial⟩ ⟨rfl,rfl,rfl,rfl,congrArg (fun l:List (List UInt8)=>some (bw.row 9 .str l)) aq.symm,trivial⟩⟩
 ·have h:decide ((j:Int) < (l.length:Nat))=false:=h
  have fQ:j=l.length:=by simp at h;omega
  subst fQ
  have cc:(l.take l.length).filter (kE L nm)=l.filter (kE L nm):=by rw[List.take_length]
  show av _ _ _ _ _ _ _
  refine av.go ai (aJ ai) [] (by kernel_rfl) (ah.refl _ _) ?_
  exact⟨_,_,_,ah.dU 5002 rfl,rfl,cc,⟨rfl,rfl,rfl,rfl,trivial⟩,rfl⟩
def jX:List aK→List UInt8→List aK
 | [],_=>[]
 |d::L,nm=>if d.nm=nm then L else d::jX L nm
theorem oA (d:aK) (L:List aK) (nm:List UInt8):dk (d::L) nm=if d.nm=nm then some d else dk L nm:=by
 unfold dk
 rw[List.find?_cons]
 by_cases e:d.nm=nm
 ·rw[decide_eq_true e,if_pos e]
 ·rw[decide_eq_false e,if_neg e]
theorem wF {L:List aK} {nm:List UInt8} {d:aK} (h:d∈jX L nm):d∈L:=by
 induction L with
 |nil=>exact h
 |cons e L aZ=>
  unfold jX at h
  split at h
  ·exact List.mem_cons_of_mem _ h
  ·rcases List.mem_cons.1 h with rfl |h
   ·exact List.mem_cons_self ..
   ·exact List.mem_cons_of_mem _ (aZ h)
theorem Ey (L:List aK) (nm:List UInt8):(jX L nm).Sublist L:=by
 induction L with
 |nil=>exact .slnil
 |cons e L aZ=>
  unfold jX
  split
  ·exact List.sublist_cons_self ..
  ·exact aZ.cons_cons _
theorem Oc (nm:List UInt8): ∀L:List aK,iF (aN:=.str) (aP:=.aY) (cl L) nm=cl (jX L nm)
 | []=>rfl
 |d::L=>by
  have aZ:=Oc nm L
  show iF (aN:=.str) (aP:=.aY) (jz d::cl L) nm=_
  rw[show iF (aN:=.str) (aP:=.aY) (jz d::cl L) nm=match iu .str (nm:aI .str) (jz d).1 with |true=>cl L |false=>jz d::iF (aN:=.str) (aP:=.aY) (cl L) nm from rfl]
  unfold jX
  by_cases e:d.nm=nm
  ·rw[show iu .str (nm:aI .str) (jz d).1=true from(BH _ _).2 e.symm,if_pos e]
  ·rw[show iu .str (nm:aI .str) (jz d).1=false from tK (aN:=.str) BH (fun h=>e h.symm),if_neg e]
   simp only
   rw[aZ]
   rfl
theorem I4 {f:aK→Nat×bN}: ∀{L:List aK},(L.map fun d=>(f d).1).Nodup→ ∀{nm:List UInt8} {d0:aK},dk L nm=some d0→kS (L.map f) (f d0).1=(jX L nm).map f
 | [],_,nm,d0,h=>by cases h
 |d::L,hn,nm,d0,h=>by
  rw[List.map_cons] at hn
  obtain⟨ee,eO⟩:=List.nodup_cons.1 hn
  rw[oA] at h
  rw[List.map_cons]
  unfold kS jX
  by_cases e:d.nm=nm
  ·rw[if_pos e] at h
   injection h with h
   subst h
   rw[if_pos rfl,if_pos e]
  ·rw[if_neg e] at h
   have bg: ¬(f d).1=(f d0).1:=fun ak=>ee (by rw[ak];exact List.mem_map_of_mem (f:=fun d=>(f d).1) (cA h).1)
   rw[if_neg bg,if_neg e,List.map_cons,I4 eO h]
theorem gK.del {L:List aK} (h:gK L) (nm:List UInt8):gK (jX L nm):=
 ⟨h.jA.sublist ((Ey L nm).map _),h.wC.sublist ((Ey L nm).map _),h.vk.sublist ((Ey L nm).map _)⟩
theorem Xp (bits room:Int) (L:List aK) (nm:List UInt8) (aE:dk L nm=none):Fn Tryz.prog 52 [aH 1001,bG nm] (bM bits room L) [] (aC 140) (bM bits room L):=by
 have hx:(ct (aN:=.str) (aP:=.aY) (cl L) nm).getD (dflt .aY)=none:=by rw[iK,aE];rfl
 refine Fn.of ai [] _ _ _ _ _ Tryz.func52 rfl rfl (by kernel_rfl) (by kernel_rfl) rfl (aJ ai) rfl ?_
 refine⟨fun e5 ag=>absurd (show(ct (aN:=.str) (aP:=.aY) (cl L) nm).getD (dflt .aY)=some e5 from ag) (by rw[hx];intro h;cases h),fun _=>?_⟩
 exact⟨_,_,_,ah.refl _ _,rfl,rfl,⟨rfl,rfl,rfl,rfl,trivial⟩,rfl⟩
theorem Xq (bits room:Int) (L:List aK) (c4:gK L) (aB: ∀d,d∈L→d.nm.length≤100000) (m0:L.length≤100) (nm:List UInt8) (d0:aK) (aE:dk L nm=some d0) (hu:jE L nm≠[]):Fn Tryz.prog 52 [aH 1001,bG nm] (bM bits room L) [] (aC 143) (bM bits room L):=by
 have hx:(ct (aN:=.str) (aP:=.aY) (cl L) nm).getD (dflt .aY)=some d0.ad:=by rw[iK,aE];rfl
 have Ez:=I3 bits room L c4 aB m0 nm
 have pL:0 < (jE L nm).length:=List.length_pos_iff.2 hu
 generalize jE L nm=us at*
 refine Fn.of ai [] _ _ _ _ _ Tryz.func52 rfl rfl (by kernel_rfl) (by kernel_rfl) rfl (aJ ai) rfl ?_
 refine⟨fun e5 ag=>?_,fun ag=>absurd (show(ct (aN:=.str) (aP:=.aY) (cl L) nm).getD (dflt .aY)=none from ag) (by rw[hx];intro h;cases h)⟩
 refine⟨_,_,_,_,Ez,⟨rfl,rfl,rfl,rfl,trivial⟩,rfl,?_⟩
 refine⟨fun _=>?_,fun h=>?_⟩
 ·exact⟨_,_,_,ah.refl _ _,rfl,rfl,⟨rfl,rfl,rfl,rfl,trivial⟩,rfl⟩
 ·exfalso
  have h: ¬(0:Int) < ((us.length:Nat):Int):=of_decide_eq_false h
  omega
theorem Xr (bits room:Int) (L:List aK) (c4:gK L) (aB: ∀d,d∈L→d.nm.length≤100000) (m0:L.length≤100) (nm:List UInt8) (d0:aK) (aE:dk L nm=some d0) (hu:jE L nm=[]):Fn Tryz.prog 52 [aH 1001,bG nm] (bM bits room L) [] (aC 0) (bM bits room (jX L nm)):=by
 have hx:(ct (aN:=.str) (aP:=.aY) (cl L) nm).getD (dflt .aY)=some d0.ad:=by rw[iK,aE];rfl
 have Ez:=I3 bits room L c4 aB m0 nm
 rw[hu] at Ez
 have ki:=c4.D (cA aE).1
 have fR:=c4.M (cA aE).1
 have yl:=Oc nm L
 have I5:kS (jg L) d0.ad=jg (jX L nm):=I4 (f:=fun d=>(d.ad,sH d.am d.back)) c4.wC aE
 have EA:kS (gf L) d0.am=gf (jX L nm):=I4 (f:=fun d=>(d.am,kg d)) c4.vk aE
 refine Fn.of ai [5] _ _ _ _ _ Tryz.func52 rfl rfl (by kernel_rfl) (by kernel_rfl) rfl (aJ ai) rfl ?_
 refine⟨fun e5 ag=>?_,fun ag=>absurd (show(ct (aN:=.str) (aP:=.aY) (cl L) nm).getD (dflt .aY)=none from ag) (by rw[hx];intro h;cases h)⟩
 refine⟨_,_,_,_,Ez,⟨rfl,rfl,rfl,rfl,trivial⟩,rfl,?_⟩
 refine⟨fun h=>absurd h (by decide),fun _=>?_⟩
 show av _ _ _ _ _ _ _
 refine av.go ai (aJ ai) [] (by kernel_rfl) (ah.sub (K':=[(0,aH 1001),(1,bG nm)]) (B':=bM bits room L) ⟨rfl,rfl,trivial⟩ ⟨rfl,rfl,rfl,rfl,trivial⟩) ?_
 exact⟨_,_,_,(ah.Er 1003 5001 d0.ad rfl ki rfl).trans (ah.Er 1004 5002 d0.am rfl fR rfl),rfl,rfl,⟨rfl,congrArg (fun e=>some (bw.map .str .aY e)) yl,congrArg (fun e=>some (bw.obj (.cM e))) I5,congrArg (fun e=>some (bw.obj (.cM e))) EA,trivial⟩,rfl⟩
end Go.Proofs.YteoamepgonpdlaaGreat
namespace Go.Proofs.YteoamepgonpdlaaGreat
open Go.RowKit
def lV (c:UInt8):Bool:=(97≤c.toNat&&c.toNat≤122)||(48≤c.toNat&&c.toNat≤57)||c.toNat == 46||c.toNat == 45
def ym (s:ByteArray):Bool:=decide (1≤s.size)&&decide (s.size≤15)&&s.data.toList.all lV
theorem decode_high (s:ByteArray) (pos:Nat) (h:pos < s.size) (ha: ¬(s[pos]'h).toNat < 128):128≤(Utf8.decode s pos).1∧(Utf8.decode s pos).1≤1114111:=by
 have e:s.get! (pos+0)=s[pos]'h:=by
  show s.get! pos=_
  simp[ByteArray.get!,getElem!_pos,h]
  rfl
 have ag:(s[pos]'h).toNat < 256:=(s[pos]'h).toNat_lt
 unfold Utf8.decode
 simp only[e]
 rw[if_neg (by omega)]
 split
 ·split <;>simp[Utf8.runeError] <;>omega
 ·split
  ·split
   ·rename_i af;simp[Utf8.valid] at af;simp only;omega
   ·simp[Utf8.runeError]
  ·split
   ·split
    ·rename_i af;simp[Utf8.valid] at af;simp only;omega
    ·simp[Utf8.runeError]
   ·simp[Utf8.runeError]
theorem run_next_any {P:Program} (w:World) (s:ByteArray) (pos:Nat) (ty:TypeId) (h:pos < s.size):
  (Instr.next (.pointer (some ⟨w.heap.size,0,none⟩)) true ty).run P (w.iter s pos)=
   .ok (.tuple #[.bool true,.int .i64 pos,.int .i32 (Utf8.decode s pos).1]) (w.iter s (pos+(Utf8.decode s pos).2)):=by
 simp only[Instr.next,getObj,setObj,Sem.run_bind,Sem.run,World.iter_heap,Result.andThen,h,if_true]
 simp[goInt,World.iter_set]
theorem Od {s:ByteArray} {j:Nat} (au:j < s.size) (h:lV (s[j]'au)=false):ym s=false:=by
 unfold ym
 have:s.data.toList.all lV=false:=by
  rw[List.all_eq_false]
  exact⟨s[j]'au,List.getElem_mem (by simpa using au),by simp[h]⟩
 rw[this,Bool.and_false]
def I6 (B:Nat) (w:World):Nat:=match w.heap[B]? with |some (.stringIter _ p)=>p |_=>0
theorem Oe (w:World) (s:ByteArray) (k:Nat):I6 w.heap.size (w.iter s k)=k:=by simp[I6,World.iter_heap]
theorem I7 (w:World) (s:ByteArray) (k:Nat):Below w.heap.size w (w.iter s k):=(Below.refl _ _).alloc (Nat.le_refl _) _
theorem Xs {s:ByteArray} {k:Nat} (h: ∀j (au:j < s.size),j < k→lV (s[j]'au)=true) (aq:k < s.size) (aa:lV (s[k]'aq)=true): ∀j (au:j < s.size),j < k+1→lV (s[j]'au)=true:=by
 intro j au bF
 by_cases e:j=k
 ·subst e;exact aa
 ·exact h j au (by omega)
theorem Xt {s:ByteArray} (h: ∀j (au:j < s.size),lV (s[j]'au)=true):ym s=(decide (1≤s.size)&&decide (s.size≤15)):=by
 unfold ym
 have:s.data.toList.all lV=true:=by
  rw[List.all_eq_true]
  intro x hx
  obtain⟨j,au,rfl⟩:=List.getElem_of_mem hx
  exact h j (by simpa using au)
 rw[this,Bool.and_true]
set_option maxHeartbeats 1000000 in
theorem Xu (s:ByteArray) (w:World) (hs:s.size≤maxLen):
  Calls Tryz.prog 87 #[.string s] w fun e w'=>e= .returned (.bool (ym s))∧Below w.heap.size w w':=by
 unfold maxLen at hs
 go_enter Tryz.func87,Tryz.ntmps87
 go_wp2
 go_loopw [4,7,8,9,10,11,12,13,14,15,16,17,18,19,20,21,22,23,24,25,26,27,28,29,30,31] (fun _ _ _ _ _ _ _ _ _ _ _ _ _ _ _ _ _ _ _ _ _ _ _ _ _ _ wr=> ∃k:Nat,k≤s.size∧wr=w.iter s k∧ ∀j (au:j < s.size),j < k→lV (s[j]'au)=true) (fun _ _ _ _ _ _ _ _ _ _ _ _ _ _ _ _ _ _ _ _ _ _ _ _ _ _ wr=>s.size - I6 w.heap.size wr)
 case atStart=>exact⟨0,Nat.zero_le _,rfl,fun _ _ h=>absurd h (by omega)⟩
 case round=>
  obtain⟨k,aq,rfl,dh⟩:=hrel
  have I8:=Lib.hid dh
  clear dh
  by_cases bF:k < s.size
  ·by_cases ha:(s[k]'bF).toNat < 128
   ·have hn:=fun ty=>run_next_ascii (P:=Tryz.prog) w s k ty bF ha
    go_wp2
    all_goals first
     |(
      refine⟨⟨k+1,bF,rfl,Xs I8.out bF ?_⟩,?_⟩
      ·clear hn;simp_all [lV];omega
      ·rw[Oe,Oe];omega)
     |(
      go_ret
      refine⟨?_,I7 _ _ _⟩
      rw[Od bF (by clear hn;simp_all [lV];omega)];rfl)
   ·obtain⟨d1,d2⟩:=decode_high s k bF ha
    have hn:=fun ty=>run_next_any (P:=Tryz.prog) w s k ty bF
    generalize Utf8.decode s k=d at*
    have b1:(((d.1:Nat):Int) != 46)=true:=by rw[bne_iff_ne];omega
    have b2:(((d.1:Nat):Int) != 45)=true:=by rw[bne_iff_ne];omega
    go_wp2
    go_ret
    exact⟨by rw[Od bF (by clear hn;simp[lV];omega)];rfl,I7 _ _ _⟩
  ·have hn:=fun ty=>run_next_end (P:=Tryz.prog) w s k ty bF
   have gx:k=s.size:=by omega
   have hr:ym s=(decide (1≤s.size)&&decide (s.size≤15)):=Xt fun j au=>I8.out j au (by omega)
   clear gx I8
   have Xv:=Lib.hid hr
   clear hr
   go_wp2
   all_goals
    go_ret
    refine⟨?_,I7 _ _ _⟩
    rw[Xv.out]
    refine congrArg (fun b=>Ending.returned (.bool b)) ?_
    rw[Bool.eq_iff_iff]
    simp
    omega
end Go.Proofs.YteoamepgonpdlaaGreat
namespace Go.Proofs.YteoamepgonpdlaaGreat
open Go.RowKit
theorem Fn.pure {P:Program} {f:FuncId} {args:List aO} {res:aO} (iQ:mN P f=true)
  (h: ∀(ρ:Nat→bq) (I:Nat→Prop) (w:World) (bW:List Value),(∀b,I b→b < w.heap.size)→bW.length=args.length→(∀(i:Nat) (v:aO) (x:Value),args[i]? =some v→bW[i]? =some x→b8 ρ I w v x)→
   Calls P f bW.toArray w fun e w'=> ∃x,e= .returned x∧Below w.heap.size w w'∧ ∀I':Nat→Prop,Ext I w I' w'→(∀b,w.heap.size≤b→b < w'.heap.size→I' b)→b8 ρ I' w' res x):Fn P f args [] [] res []:=by
 refine⟨iQ,?_⟩
 intro ρ F I w bW bC _ _ _ hlen eu
 refine(h ρ I w bW bC hlen eu).mono ?_
 rintro e w' ⟨x,rfl,ag,hx⟩
 have bz:Ext I w (fun b=>b < w'.heap.size∧(I b∨w.heap.size≤b)) w':=fun b sK=>⟨⟨Nat.lt_of_lt_of_le (bC b sK) ag.size,.inl sK⟩,ag.block b (bC b sK)⟩
 exact⟨x,ρ,F,rfl,Fr.qU ag,fun _ _=>rfl,_,bz,fun b h=>⟨h.1,h.2.imp id .inr⟩,fun c ch hc=>(by simp[ax] at hc),fun c ch hc=>(by simp[ax] at hc),fun c bS ch ch' b hc=>(by simp[ax] at hc),hx _ bz fun b aa af=>⟨af,.inr aa⟩⟩
theorem Xw {P:Program} {f:FuncId} {s:aO} {res:aO} (iQ:mN P f=true)
  (h: ∀(ρ:Nat→bq) (I:Nat→Prop) (w:World) (v:Value),(∀b,I b→b < w.heap.size)→b8 ρ I w s v→
   Calls P f #[v] w fun e w'=> ∃x,e= .returned x∧Below w.heap.size w w'∧ ∀I':Nat→Prop,Ext I w I' w'→(∀b,w.heap.size≤b→b < w'.heap.size→I' b)→b8 ρ I' w' res x):Fn P f [s] [] [] res []:=
 Fn.pure iQ fun ρ I w bW bC aB hd=>by
  match bW,aB with
  | [v],_=>exact h ρ I w v bC (hd 0 s v rfl rfl)
theorem b7.bytes {I:Nat→Prop} {w:World} {v:Value} {l:List UInt8} (bC: ∀b,I b→b < w.heap.size) (h:b7 I w (.sl .u8) l (fun _=>some v)):Bytes I w v l:=by
 obtain⟨A,cap,aE,aa,af,ay⟩:=h
 injection aE with aE
 refine⟨by simp,A,cap,aE,aa,af,fun hp=>?_⟩
 obtain⟨b,o,hA,ag,hx⟩:=ay hp
 refine⟨b,o,hA,ag,bC b ag,fun j u hu=>?_⟩
 rw[List.getElem?_map] at hu
 obtain⟨x,za,rfl⟩:=Option.map_eq_some_iff.1 hu
 have:=hx j x za
 simpa[b7,aM,iM] using this
def iL (s:List UInt8):Bool:=decide (1≤s.length)&&decide (s.length≤15)&&s.all lV
theorem z6 (s:List UInt8) (hs:s.length≤4294967296):Fn Tryz.prog 87 [bG s] [] [] (iw (iL s)) []:=
 Xw (by kernel_rfl) fun ρ I w v bC hv=>by
  rw[show v= .string ⟨s.toArray⟩ from hv]
  refine(Xu ⟨s.toArray⟩ w (by simp only[ByteArray.size,maxLen,List.size_toArray];omega)).mono ?_
  rintro e w' ⟨rfl,ag⟩
  exact⟨_,rfl,ag,fun I' _ _=>show Value.bool _=Value.bool _ by simp[ym,iL,ByteArray.size]⟩
end Go.Proofs.YteoamepgonpdlaaGreat
