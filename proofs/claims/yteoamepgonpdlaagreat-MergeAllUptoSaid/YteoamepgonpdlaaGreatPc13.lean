/-
Part 13 of the proof that stands in YteoamepgonpdlaaGreatPcRow, with what it needs from the parts ahead; the parts of this text: Co, Dp.
-/
import Derived.Test.YteoamepgonpdlaaGreatPc12
set_option linter.unusedVariables false
set_option linter.unusedSimpArgs false
set_option maxRecDepth 10000
namespace Go.Proofs.YteoamepgonpdlaaGreat
open Go.RowKit Go.Proofs
theorem fW.perm {I:Nat→Prop} {w:World} {L eE:List (Nat×bN)} (h:L.Perm eE): ∀{F:Nat→Prop},fW I w L F→fW I w eE F:=by
 induction h with
 |nil=>exact fun h=>h
 |cons x h aZ=>
  rintro F ⟨cH,cU,p,aa,af,ay,bu,dI⟩
  exact⟨cH,cU,p,aa,af,ay,bu,aZ dI⟩
 |swap x y l=>
  rintro F ⟨cH,cU,p,aa,af,ay,bu,rq,tD,r,g1,g2,bL,gH,uR⟩
  refine⟨rq,fun z=>cH z∨tD z,r,fun z=>by rw[aa,g1];exact IG,fun z aS aF=>?_,bL,gH,cH,tD,p,fun z=>Iff.rfl,fun z aS aF=>af z aS ((g1 z).2 (.inr aF)),ay,bu,uR⟩
  rcases aF with aF |aF
  ·exact af z aF ((g1 z).2 (.inl aS))
  ·exact g2 z aS aF
 |trans _ _ oL oM=>exact fun h=>oM (oL h)
theorem ah.perm {ids:List Nat} {K:aQ} {B:aG} (q:Nat) {L eE:List (Nat×bN)} (hp:L.Perm eE) (bp:ax B q=some (.obj (.cM L))):ah ids K B K ((q,.obj (.cM eE))::B):=by
 rintro N C a w ⟨hn,hd,ρ,F,aA,hS⟩
 obtain⟨bR,bz⟩:=aA.jP (w':=w) (ch:=.obj (.cM eE)) bp (Fr.refl _ _) fun I bC=>((aA.holds q _ bp:fW _ w L (F q)).perm hp).cy bC (Nat.le_refl _) fun _ _=>rfl
 exact⟨hn,hd,ρ,F,bR,hS.mono bz fun _ _ _=>rfl⟩
theorem Xx {s:bE}:(jd s).uU:=by
 rintro I F w p ⟨ρ,G,aa,af,ay,bu⟩
 obtain⟨hF,_⟩:=af 1001 _ rfl
 exact(bu _).2 ⟨1001,_,rfl,(hF _).2 (by rw[aa])⟩
def I9 (L:List aK):Prop:= ∀d,d∈L→d.cE=none
theorem Xy {d:aK} (h:d.cE=none):kg d=jd d.im:=by unfold kg;rw[h]
theorem Xz (L:List aK) (cG:I9 L): ∀p∈gf L,p.2.uU:=fun p hp=>by
 obtain⟨d,hd,rfl⟩:=List.mem_map.1 hp
 show(kg d).uU
 rw[Xy (cG d hd)]
 exact Xx
theorem XA (L:List aK): ∀p∈jg L,p.2.uU:=fun p hp=>by
 obtain⟨d,_,rfl⟩:=List.mem_map.1 hp
 exact fun I F w p h=>(h.1 _).2 rfl
theorem B2 (bits size room:Nat) (aa:bits≤3) (af:size≤256) (ay:room≤512):Fn Tryz.prog 47 [aC (bits:Int),aC (size:Int),aC (room:Int)] [] [1001] (.c6 [.one (.ptr 1001 0),fh 0]) [(1001,.obj (jd (iz bits size room)))]:=by
 refine Fn.of ai [3] _ _ _ _ _ Tryz.func47 rfl rfl (by kernel_rfl) (by kernel_rfl) rfl (aJ ai) rfl ?_
 refine⟨_,_,_,_,Fn.ren [(1001,1002),(1002,2002)] (HX size af),trivial,rfl,?_⟩
 refine⟨_,_,_,_,Fn.ren [(1001,1003),(1002,2003)] (DY (room:Int) (by omega) (by omega)),trivial,rfl,?_⟩
 show av _ _ _ _ _ _ _
 refine av.go ai (aJ ai) [] (by kernel_rfl) (ah.sub (K':=[(0,aC (bits:Int)),(8,aH 1002),(9,aC 0),(10,aH 1003),(11,aC 0)]) (B':=[(1002,.obj (rE (List.replicate size s0))),(1003,.obj (rF (List.replicate room (0:Int))))]) ⟨rfl,rfl,rfl,rfl,rfl,trivial⟩ ⟨rfl,rfl,trivial⟩) ?_
 refine⟨fun h=>absurd h (by decide),fun _=>?_⟩
 refine⟨fun h=>absurd h (by decide),fun _=>?_⟩
 refine⟨fun h=>?_,fun h=>?_⟩
 ·exfalso
  have h:(bits:Int) < 0:=of_decide_eq_true h
  omega
 refine⟨fun h=>?_,fun h=>?_⟩
 ·exfalso
  have h:(3:Int) < (bits:Int):=of_decide_eq_true h
  omega
 refine⟨rfl,?_⟩
 refine⟨rfl,?_⟩
 exact⟨_,_,_,ah.trans (ah.trans (ah.ren 41 1001 rfl) (ah.trans (ah.ren 39 1004 rfl) (ah.Nv 1004 rfl))) (ah.close 1001 (di (iz bits size room)) ⟨rfl,rfl,rfl,rfl,trivial⟩ rfl fun _ _ _ _ h=>h),rfl,⟨rfl,rfl,trivial⟩,⟨rfl,trivial⟩,rfl⟩
@[reducible] def EB (nm:List UInt8) (x:aI .aY):aI .str×aI .aY:=((nm:aI .str),x)
theorem Of (nm:List UInt8) (x:aI .aY): ∀L:List aK,dk L nm=none→fc (aN:=.str) (aP:=.aY) (cl L) (nm:aI .str) x=(cl L++[EB nm x]:List (aI .str×aI .aY))
 | [],_=>rfl
 |d::L,h=>by
  rw[oA] at h
  by_cases e:d.nm=nm
  ·rw[if_pos e] at h;cases h
  ·rw[if_neg e] at h
   have aZ:=Of nm x L h
   show fc (aN:=.str) (aP:=.aY) (jz d::cl L) (nm:aI .str) x=_
   rw[show fc (aN:=.str) (aP:=.aY) (jz d::cl L) (nm:aI .str) x=(match iu .str (nm:aI .str) (jz d).1 with |true=>EB nm x::cl L |false=>jz d::fc (aN:=.str) (aP:=.aY) (cl L) (nm:aI .str) x:List (aI .str×aI .aY)) from rfl]
   rw[show iu .str (nm:aI .str) (jz d).1=false from tK (aN:=.str) BH (fun h=>e h.symm)]
   simp only
   rw[aZ]
   rfl
@[reducible] def o8 (L:List aK) (nm back:List UInt8) (ad am:Nat) (im:bE):List aK:=L++[⟨nm,back,ad,am,im,none⟩]
theorem gK.add {L:List aK} (h:gK L) {nm back:List UInt8} {ad am:Nat} {im:bE} (aE:dk L nm=none) (ha:ad∉L.map (·.ad)) (hm:am∉L.map (·.am)):gK (o8 L nm back ad am im):=by
 have key: ∀{α:Type} (f:aK→α) (d:aK),(L.map f).Nodup→f d∉L.map f→((L++[d]).map f).Nodup:=fun f d aa af=>by
  rw[List.map_append]
  refine List.nodup_append.2 ⟨aa,by simp,fun a ha b ag e=>?_⟩
  rw[List.map_cons,List.map_nil,List.mem_singleton] at ag
  exact af (by rw[←ag,←e];exact ha)
 refine⟨key _ _ h.jA fun hx=>?_,key _ _ h.wC ha,key _ _ h.vk hm⟩
 obtain⟨d,hd,e⟩:=List.mem_map.1 hx
 have:=List.find?_eq_none.1 aE d hd
 exact this (by simpa using e)
@[reducible] def B3 (nm back:List UInt8):aQ:=[(0,aH 1001),(1,bG nm),(3,bG back),(9,aH 2001),(10,aC 0)]
@[reducible] def B4 (bits room:Int) (L:List aK) (im:bE):aG:=bM bits room L++[(2001,.obj (jd im))]
theorem XB (L:List aK) (nm back:List UInt8) (ad am:Nat) (im:bE):cl (o8 L nm back ad am im)=(cl L++[EB nm (some ad:Option Nat)]:List (aI .str×aI .aY)):=by
 induction L with
 |nil=>rfl
 |cons d L aZ=>
  show jz d::cl (o8 L nm back ad am im)=jz d::(cl L++[EB nm (some ad:Option Nat)])
  rw[aZ]
@[reducible] def XC (L:List aK) (nm back:List UInt8) (am:Nat) (im:bE):List aK:=⟨nm,back,0,am,im,none⟩::L
theorem Og {f:aK→Nat×bN} (L:List aK) (d:aK):(f d::L.map f).Perm ((L++[d]).map f):=by
 rw[List.map_append]
 exact List.perm_append_comm (l₁:=[f d]) (l₂:=L.map f)
@[reducible] def XD (nm back:List UInt8) (am:Nat):aQ:=[(0,aH 1001),(1,bG nm),(3,bG back),(9,kC am)]
@[reducible] def XE (bits room:Int) (L:List aK) (am:Nat) (im:bE):aG:=[(1001,.cells (NX bits room)),(1002,.map .str .aY (cl L)),(1003,.obj (.cM (jg L))),(1004,.obj (.cM ((am,jd im)::gf L)))]
theorem XF (bits size room:Nat) (aa:bits≤3) (af:size≤256) (ay:room≤512) (L:List aK) (c4:gK L) (bh:I9 L) (nm back:List UInt8) (aB:nm.length≤4294967296) (hr:iL nm=true) (aE:dk L nm=none) (m0:L.length < 16) (k:Nat) (ag:back=[]∨(dk L back).isSome=true∧ew L back k∧k+1≤8):
  gV Tryz.prog 49 [aH 1001,bG nm,aC (size:Int),bG back] (bM bits room L) [] (X:={p:Nat×Nat//gK (o8 L nm back p.1 p.2 (iz bits size room))}) (fun _=>aC 0) (fun p=>bM bits room (o8 L nm back p.1.1 p.1.2 (iz bits size room))):=by
 have hx:(ct (aN:=.str) (aP:=.aY) (cl L) nm).getD (dflt .aY)=none:=by rw[iK,aE];rfl
 have hlen:(cl L).length=L.length:=List.length_map ..
 have iA:=zZ bits room L back
 have EC:(decide (back=[])||(dk L back).isSome)=true:=by
  rcases ag with ag |⟨ag,_⟩
  ·rw[decide_eq_true ag];rfl
  ·rw[ag,Bool.or_true]
 rw[EC] at iA
 have ql:=B2 bits size room aa af ay
 refine gV.of ai [2,10] _ _ _ _ _ Tryz.func49 rfl rfl (by kernel_rfl) (by kernel_rfl) rfl (aJ ai) rfl ?_
 refine⟨_,_,_,_,Fn.ren [(1001,2001)] ql,trivial,rfl,?_⟩
 refine⟨rfl,?_⟩
 show av _ _ _ _ _ _ _
 refine av.go ai (aJ ai) [10] (by kernel_rfl) (ah.sub (K':=B3 nm back) (B':=B4 bits room L (iz bits size room)) ⟨rfl,rfl,rfl,rfl,rfl,trivial⟩ ⟨rfl,rfl,rfl,rfl,rfl,trivial⟩) ?_
 refine⟨_,_,_,_,z6 _ aB,trivial,rfl,?_⟩
 refine⟨fun aj=>?_,fun aj=>?_⟩
 ·rw[hr] at aj;cases aj
 refine⟨fun ak=>?_,fun ak=>?_⟩
 ·exact absurd ak (by decide)
 refine⟨fun e5 bf=>?_,fun bf=>?_⟩
 ·exfalso
  have:(ct (aN:=.str) (aP:=.aY) (cl L) nm).getD (dflt .aY)=some e5:=bf
  rw[hx] at this
  cases this
 refine⟨fun cF=>?_,fun cF=>?_⟩
 ·exfalso
  have cF:(16:Int)≤((cl L).length:Int):=of_decide_eq_true cF
  omega
 refine⟨_,_,_,_,iA,⟨rfl,rfl,rfl,rfl,trivial⟩,rfl,?_⟩
 refine⟨fun eY=>absurd eY (by decide),fun _=>?_⟩
 refine⟨fun iH=>?_,fun iH=>?_⟩
 focus
  have iH: ¬back=[]:=by simpa using iH
  obtain⟨_,aq,p5⟩:=ag.resolve_left iH
  have e6:=z1 bits room L c4 back k aq (by omega)
  have yo:=sJ aq
  generalize ef L k back=bs at e6 yo
  refine⟨_,_,_,_,e6,⟨rfl,rfl,rfl,rfl,trivial⟩,rfl,?_⟩
  have m1: -9223372036854775808≤(bs.length:Int)+1∧(bs.length:Int)+1≤9223372036854775807:=by omega
  refine⟨m1,?_⟩
  refine⟨fun p8=>?_,fun _=>?_⟩
  ·exfalso
   have p8:(8:Int) < (bs.length:Int)+1:=of_decide_eq_true p8
   omega
 all_goals
  show av _ _ _ _ _ _ _
  refine av.og (gI.name 9 2001 rfl rfl) fun am=>?_
  refine av.le (K':=XD nm back am) (B':=XE bits room L am (iz bits size room)) (ah.trans (ah.put 1004 2001 (by decide) rfl rfl) (ah.sub ⟨rfl,rfl,rfl,rfl,trivial⟩ ⟨rfl,rfl,rfl,rfl,trivial⟩)) ?_
  refine av.og (gI.Uv 1004 (L:=(am,jd (iz bits size room))::gf L) (Xz (XC L nm back am (iz bits size room)) (fun d hd=>(List.mem_cons.1 hd).elim (fun e=>by rw[e]) (bh d))) rfl) fun dJ=>?_
  refine av.uP ai (by kernel_rfl) ?_
  refine⟨rfl,?_⟩
  refine⟨_,Wy (c:=1002) (d:=72) (q:=1003) (aN:=.str) (l:=Es am back) (h:=fun _=>rfl) rfl Tryz.underlying97 (dk:=.string) (by kernel_rfl) rfl rfl rfl rfl rfl rfl rfl (by decide) (by decide) (by decide) (XA L),fun v e hv=>?_⟩
  obtain⟨ad,Iz,rfl,rfl⟩:=hv
  have XG:ad∉L.map (·.ad):=fun h=>Iz (by unfold jg;rw[List.map_map];exact h)
  have XH:am∉L.map (·.am):=fun h=>(List.nodup_cons.1 dJ.down).1 (by show am∈(gf L).map (·.1);unfold gf;rw[List.map_map];exact h)
  have yl:fc (aN:=.str) (aP:=.aY) (cl L) (nm:aI .str) (some ad:Option Nat)=cl (o8 L nm back ad am (iz bits size room)):=(Of nm _ L aE).trans (XB L nm back ad am (iz bits size room)).symm
  exact⟨⟨(ad,am),c4.add aE XG XH⟩,_,_,_,ah.trans (ah.perm 1003 (Og (f:=fun d=>(d.ad,sH d.am d.back)) L ⟨nm,back,ad,am,iz bits size room,none⟩) rfl) (ah.perm 1004 (Og (f:=fun d=>(d.am,kg d)) L ⟨nm,back,ad,am,iz bits size room,none⟩) rfl),rfl,rfl,⟨rfl,congrArg (fun e=>some (bw.map .str .aY e)) yl,rfl,rfl,trivial⟩,rfl⟩
theorem XI (bits room:Int) (size:Int) (L:List aK) (nm back:List UInt8) (aB:nm.length≤4294967296) (h:(iL nm&&jf bits size room)=false):Fn Tryz.prog 49 [aH 1001,bG nm,aC size,bG back] (bM bits room L) [] (aC 1) (bM bits room L):=by
 rcases Bool.eq_false_or_eq_true (jf bits size room) with af |af
 ·have hr:iL nm=false:=by rw[af,Bool.and_true] at h;exact h
  unfold jf at af
  simp only[Bool.and_eq_true,decide_eq_true_eq] at af
  obtain⟨⟨⟨cj,cu⟩,a3,a4⟩,a5,g5⟩:=af
  obtain⟨b,rfl⟩:=Int.eq_ofNat_of_zero_le a5
  obtain⟨z,rfl⟩:=Int.eq_ofNat_of_zero_le cj
  obtain⟨r,rfl⟩:=Int.eq_ofNat_of_zero_le a3
  have ql:=B2 b z r (by omega) (by omega) (by omega)
  refine Fn.of ai [2] _ _ _ _ _ Tryz.func49 rfl rfl (by kernel_rfl) (by kernel_rfl) rfl (aJ ai) rfl ?_
  refine⟨_,_,_,_,Fn.ren [(1001,2001)] ql,trivial,rfl,?_⟩
  refine⟨rfl,?_⟩
  show av _ _ _ _ _ _ _
  refine av.go ai (aJ ai) [] (by kernel_rfl) (ah.sub (K':=B3 nm back) (B':=B4 b r L (iz b z r)) ⟨rfl,rfl,rfl,rfl,rfl,trivial⟩ ⟨rfl,rfl,rfl,rfl,rfl,trivial⟩) ?_
  refine⟨_,_,_,_,z6 _ aB,trivial,rfl,?_⟩
  refine⟨fun aj=>?_,fun aj=>?_⟩
  ·exact⟨_,_,_,ah.refl _ _,rfl,rfl,⟨rfl,rfl,rfl,rfl,trivial⟩,rfl⟩
  ·rw[hr] at aj;cases aj
 ·have ql:=Wp bits size room af
  refine Fn.of ai [2] _ _ _ _ _ Tryz.func49 rfl rfl (by kernel_rfl) (by kernel_rfl) rfl (aJ ai) rfl ?_
  refine⟨_,_,_,_,ql,trivial,rfl,?_⟩
  refine⟨rfl,?_⟩
  show av _ _ _ _ _ _ _
  refine av.go ai (aJ ai) [] (by kernel_rfl) (ah.sub (K':=[(0,aH 1001),(1,bG nm),(3,bG back),(10,aC 1)]) (B':=bM bits room L) ⟨rfl,rfl,rfl,rfl,trivial⟩ ⟨rfl,rfl,rfl,rfl,trivial⟩) ?_
  refine⟨_,_,_,_,z6 _ aB,trivial,rfl,?_⟩
  refine⟨fun aj=>?_,fun aj=>?_⟩
  ·exact⟨_,_,_,ah.refl _ _,rfl,rfl,⟨rfl,rfl,rfl,rfl,trivial⟩,rfl⟩
  refine⟨fun ak=>?_,fun ak=>?_⟩
  ·exact⟨_,_,_,ah.refl _ _,rfl,rfl,⟨rfl,rfl,rfl,rfl,trivial⟩,rfl⟩
  ·exact absurd ak (by decide)
theorem XJ (bits size room:Nat) (aa:bits≤3) (af:size≤256) (ay:room≤512) (L:List aK) (nm back:List UInt8) (aB:nm.length≤4294967296) (hr:iL nm=true) (aE:(dk L nm).isSome=true∨16≤L.length):
  Fn Tryz.prog 49 [aH 1001,bG nm,aC (size:Int),bG back] (bM bits room L) [] (aC 143) (bM bits room L):=by
 have hx:(ct (aN:=.str) (aP:=.aY) (cl L) nm).getD (dflt .aY)=((dk L nm).map (·.ad):Option Nat):=iK nm L
 have hlen:(cl L).length=L.length:=List.length_map ..
 have ql:=B2 bits size room aa af ay
 refine Fn.of ai [2] _ _ _ _ _ Tryz.func49 rfl rfl (by kernel_rfl) (by kernel_rfl) rfl (aJ ai) rfl ?_
 refine⟨_,_,_,_,Fn.ren [(1001,2001)] ql,trivial,rfl,?_⟩
 refine⟨rfl,?_⟩
 show av _ _ _ _ _ _ _
 refine av.go ai (aJ ai) [] (by kernel_rfl) (ah.sub (K':=B3 nm back) (B':=B4 bits room L (iz bits size room)) ⟨rfl,rfl,rfl,rfl,rfl,trivial⟩ ⟨rfl,rfl,rfl,rfl,rfl,trivial⟩) ?_
 refine⟨_,_,_,_,z6 _ aB,trivial,rfl,?_⟩
 refine⟨fun aj=>?_,fun aj=>?_⟩
 ·rw[hr] at aj;cases aj
 refine⟨fun ak=>?_,fun ak=>?_⟩
 ·exact absurd ak (by decide)
 refine⟨fun e5 bf=>?_,fun bf=>?_⟩
 ·exact⟨_,_,_,ah.refl _ _,rfl,rfl,⟨rfl,rfl,rfl,rfl,trivial⟩,rfl⟩
 refine⟨fun cF=>?_,fun cF=>?_⟩
 ·exact⟨_,_,_,ah.refl _ _,rfl,rfl,⟨rfl,rfl,rfl,rfl,trivial⟩,rfl⟩
 ·exfalso
  have cF: ¬(16:Int)≤((cl L).length:Int):=of_decide_eq_false cF
  have bf:(ct (aN:=.str) (aP:=.aY) (cl L) nm).getD (dflt .aY)=none:=bf
  rw[hx] at bf
  rcases aE with aE |aE
  ·obtain⟨d,hd⟩:=Option.isSome_iff_exists.1 aE
   rw[hd] at bf
   cases bf
  ·omega
theorem XK (bits size room:Nat) (aa:bits≤3) (af:size≤256) (ay:room≤512) (L:List aK) (nm back:List UInt8) (aB:nm.length≤4294967296) (hr:iL nm=true) (aE:dk L nm=none) (m0:L.length < 16) (ag:(decide (back=[])||(dk L back).isSome)=false):
  Fn Tryz.prog 49 [aH 1001,bG nm,aC (size:Int),bG back] (bM bits room L) [] (aC 140) (bM bits room L):=by
 have hx:(ct (aN:=.str) (aP:=.aY) (cl L) nm).getD (dflt .aY)=none:=by rw[iK,aE];rfl
 have hlen:(cl L).length=L.length:=List.length_map ..
 have iA:=zZ bits room L back
 rw[ag] at iA
 have ql:=B2 bits size room aa af ay
 refine Fn.of ai [2] _ _ _ _ _ Tryz.func49 rfl rfl (by kernel_rfl) (by kernel_rfl) rfl (aJ ai) rfl ?_
 refine⟨_,_,_,_,Fn.ren [(1001,2001)] ql,trivial,rfl,?_⟩
 refine⟨rfl,?_⟩
 show av _ _ _ _ _ _ _
 refine av.go ai (aJ ai) [] (by kernel_rfl) (ah.sub (K':=B3 nm back) (B':=B4 bits room L (iz bits size room)) ⟨rfl,rfl,rfl,rfl,rfl,trivial⟩ ⟨rfl,rfl,rfl,rfl,rfl,trivial⟩) ?_
 refine⟨_,_,_,_,z6 _ aB,trivial,rfl,?_⟩
 refine⟨fun aj=>?_,fun aj=>?_⟩
 ·rw[hr] at aj;cases aj
 refine⟨fun ak=>?_,fun ak=>?_⟩
 ·exact absurd ak (by decide)
 refine⟨fun e5 bf=>?_,fun bf=>?_⟩
 ·exfalso
  have:(ct (aN:=.str) (aP:=.aY) (cl L) nm).getD (dflt .aY)=some e5:=bf
  rw[hx] at this
  cases this
 refine⟨fun cF=>?_,fun cF=>?_⟩
 ·exfalso
  have cF:(16:Int)≤((cl L).length:Int):=of_decide_eq_true cF
  omega
 refine⟨_,_,_,_,iA,⟨rfl,rfl,rfl,rfl,trivial⟩,rfl,?_⟩
 refine⟨fun _=>?_,fun eY=>absurd eY (by decide)⟩
 exact⟨_,_,_,ah.refl _ _,rfl,rfl,⟨rfl,rfl,rfl,rfl,trivial⟩,rfl⟩
theorem XL (bits size room:Nat) (aa:bits≤3) (af:size≤256) (ay:room≤512) (L:List aK) (c4:gK L) (nm back:List UInt8) (aB:nm.length≤4294967296) (hr:iL nm=true) (aE:dk L nm=none) (m0:L.length < 16) (XM:back≠[]) (ag:(dk L back).isSome=true) (k:Nat) (aq:ew L back k) (jB:k≤1000000) (p5:8 < k+1):
  Fn Tryz.prog 49 [aH 1001,bG nm,aC (size:Int),bG back] (bM bits room L) [] (aC 142) (bM bits room L):=by
 have hx:(ct (aN:=.str) (aP:=.aY) (cl L) nm).getD (dflt .aY)=none:=by rw[iK,aE];rfl
 have hlen:(cl L).length=L.length:=List.length_map ..
 have iA:=zZ bits room L back
 rw[ag,Bool.or_true] at iA
 have ql:=B2 bits size room aa af ay
 refine Fn.of ai [2] _ _ _ _ _ Tryz.func49 rfl rfl (by kernel_rfl) (by kernel_rfl) rfl (aJ ai) rfl ?_
 refine⟨_,_,_,_,Fn.ren [(1001,2001)] ql,trivial,rfl,?_⟩
 refine⟨rfl,?_⟩
 show av _ _ _ _ _ _ _
 refine av.go ai (aJ ai) [] (by kernel_rfl) (ah.sub (K':=B3 nm back) (B':=B4 bits room L (iz bits size room)) ⟨rfl,rfl,rfl,rfl,rfl,trivial⟩ ⟨rfl,rfl,rfl,rfl,rfl,trivial⟩) ?_
 refine⟨_,_,_,_,z6 _ aB,trivial,rfl,?_⟩
 refine⟨fun aj=>?_,fun aj=>?_⟩
 ·rw[hr] at aj;cases aj
 refine⟨fun ak=>?_,fun ak=>?_⟩
 ·exact absurd ak (by decide)
 refine⟨fun e5 bf=>?_,fun bf=>?_⟩
 ·exfalso
  have:(ct (aN:=.str) (aP:=.aY) (cl L) nm).getD (dflt .aY)=some e5:=bf
  rw[hx] at this
  cases this
 refine⟨fun cF=>?_,fun cF=>?_⟩
 ·exfalso
  have cF:(16:Int)≤((cl L).length:Int):=of_decide_eq_true cF
  omega
 refine⟨_,_,_,_,iA,⟨rfl,rfl,rfl,rfl,trivial⟩,rfl,?_⟩
 refine⟨fun eY=>absurd eY (by decide),fun _=>?_⟩
 refine⟨fun iH=>?_,fun iH=>absurd (by simpa using iH) XM⟩
 have e6:=z1 bits room L c4 back k aq jB
 have yo:=sJ aq
 generalize ef L k back=bs at e6 yo
 refine⟨_,_,_,_,e6,⟨rfl,rfl,rfl,rfl,trivial⟩,rfl,?_⟩
 have m1: -9223372036854775808≤(bs.length:Int)+1∧(bs.length:Int)+1≤9223372036854775807:=by omega
 refine⟨m1,?_⟩
 refine⟨fun _=>?_,fun p8=>?_⟩
 ·exact⟨_,_,_,ah.refl _ _,rfl,rfl,⟨rfl,rfl,rfl,rfl,trivial⟩,rfl⟩
 ·exfalso
  have p8: ¬(8:Int) < (bs.length:Int)+1:=of_decide_eq_false p8
  omega
def yp (l:List (List UInt8)) (v:List UInt8):Int:=match l.idxOf? v with
 |some i=>(i:Nat)
 |none=> -1
theorem XN (l:List (List UInt8)) (v:List UInt8) (aB:l.length≤4294967296):Fn Tryz.prog 121 [cI .str l,bG v] [] [] (aC (yp l v)) []:=by
 refine Fn.of ai [] _ _ _ _ _ Tryz.func121 rfl rfl (by kernel_rfl) (by kernel_rfl) rfl (aJ ai) rfl ?_
 show av _ _ _ _ _ _ _
 refine av.loop ai (aJ ai) [] (by kernel_rfl) (X:=Nat) (fun k=>[(0,cI .str l),(1,bG v),(7,aC (l.length:Nat)),(8,aC (k:Nat))]) (fun _=>[]) (fun k=>k≤l.length∧ ∀(i:Nat),i < k→l[i]? ≠some v) (fun k=>l.length - k) 0 ⟨Nat.zero_le _,fun i h=>absurd h (Nat.not_lt_zero _)⟩ ?_ ?_
 ·exact ah.sub ⟨rfl,rfl,rfl,rfl,trivial⟩ trivial
 intro k ⟨aq,hp⟩
 refine⟨fun h=>?_,fun h=>?_⟩
 ·have bP:k < l.length:=by
   have h:decide ((k:Int) < (l.length:Int))=true:=h
   simpa using h
  refine⟨by omega,l[k],eA (n:=k) bP,?_⟩
  refine⟨fun af=>?_,fun af=>?_⟩
  ·have af:v=l[k]:=of_decide_eq_true af
   refine⟨_,_,_,ah.refl _ _,rfl,(show((k:Nat):Int)=yp l v from ?_),trivial,rfl⟩
   have:l.idxOf? v=some k:=by
    rw[List.idxOf?_eq_some_iff]
    refine⟨bP,by simp[af],fun j au=>?_⟩
    have:=hp j au
    rw[List.getElem?_eq_getElem (by omega)] at this
    simpa using this
   rw[yp,this]
  ·have af: ¬v=l[k]:=of_decide_eq_false af
   have m1: -9223372036854775808≤(k:Int)+1∧(k:Int)+1≤9223372036854775807:=by omega
   have m2:k+1≤l.length:=by omega
   have m3:l.length - (k+1) < l.length - k:=by omega
   refine⟨m1,k+1,⟨m2,fun i aD=>?_⟩,m3,ah.sub ⟨rfl,rfl,rfl,rfl,trivial⟩ trivial⟩
   rcases Nat.lt_or_ge i k with bu |bu
   ·exact hp i bu
   ·have:i=k:=by omega
    subst this
    rw[List.getElem?_eq_getElem bP]
    intro e
    injection e with e
    exact af e.symm
 ·have h:decide ((k:Int) < (l.length:Int))=false:=h
  have gx:k=l.length:=by simp at h;omega
  refine⟨_,_,_,ah.refl _ _,rfl,(show(-1:Int)=yp l v from ?_),trivial,rfl⟩
  have:l.idxOf? v=none:=by
   rw[List.idxOf?_eq_none_iff]
   intro hm
   obtain⟨i,aD,e⟩:=List.getElem_of_mem hm
   have:=hp i (by omega)
   rw[List.getElem?_eq_getElem aD] at this
   exact this (by rw[e])
  rw[yp,this]
theorem Oh (l:List (List UInt8)) (v:List UInt8) (aB:l.length≤4294967296):Fn Tryz.prog 93 [cI .str l,bG v] [] [] (iw (l.contains v)) []:=by
 refine Fn.of ai [] _ _ _ _ _ Tryz.func93 rfl rfl (by kernel_rfl) (by kernel_rfl) rfl (aJ ai) rfl ?_
 refine⟨_,_,_,_,XN l v aB,trivial,rfl,?_⟩
 refine⟨_,_,_,ah.refl _ _,rfl,(show decide (0≤yp l v)=l.contains v from ?_),trivial,rfl⟩
 unfold yp
 cases h:l.idxOf? v with
 |none=>
  rw[List.idxOf?_eq_none_iff] at h
  simp[h]
 |some i=>
  obtain⟨aD,e,_⟩:=List.idxOf?_eq_some_iff.1 h
  have:v∈l:=by
   have:=List.getElem_mem aD
   rwa[show l[i]=v by simpa using e] at this
  simp[this]
theorem XO (bits room:Int) (L:List aK) (nm back:List UInt8) (h:(dk L nm).isSome=false∨(decide (back=[])||(dk L back).isSome)=false):Fn Tryz.prog 53 [aH 1001,bG nm,bG back] (bM bits room L) [] (aC 140) (bM bits room L):=by
 have iA:=zZ bits room L back
 refine Fn.of ai [] _ _ _ _ _ Tryz.func53 rfl rfl (by kernel_rfl) (by kernel_rfl) rfl (aJ ai) rfl ?_
 refine⟨fun e5 bf=>?_,fun bf=>?_⟩
 ·obtain⟨d,hd,_⟩:=WL bf
  have ag:(decide (back=[])||(dk L back).isSome)=false:=h.resolve_left (by rw[hd];intro h;cases h)
  rw[ag] at iA
  refine⟨_,_,_,_,iA,⟨rfl,rfl,rfl,rfl,trivial⟩,rfl,?_⟩
  refine⟨fun _=>?_,fun eY=>absurd eY (by decide)⟩
  exact⟨_,_,_,ah.refl _ _,rfl,rfl,⟨rfl,rfl,rfl,rfl,trivial⟩,rfl⟩
 ·exact⟨_,_,_,ah.refl _ _,rfl,rfl,⟨rfl,rfl,rfl,rfl,trivial⟩,rfl⟩
theorem XP (bits room:Int) (L:List aK) (c4:gK L) (nm back:List UInt8) (d:aK) (hd:dk L nm=some d) (aq:(decide (back=[])||(dk L back).isSome)=true) (k:Nat) (cq:ew L back k) (jB:k≤1000000) (h:nm=back∨nm∈ef L k back):Fn Tryz.prog 53 [aH 1001,bG nm,bG back] (bM bits room L) [] (aC 141) (bM bits room L):=by
 have iA:=zZ bits room L back
 rw[aq] at iA
 have hx:(ct (aN:=.str) (aP:=.aY) (cl L) nm).getD (dflt .aY)=some d.ad:=by rw[iK,hd];rfl
 have e6:=z1 bits room L c4 back k cq jB
 have yo:=sJ cq
 generalize ef L k back=bs at e6 yo h
 have nu:=Oh bs nm (by omega)
 refine Fn.of ai [] _ _ _ _ _ Tryz.func53 rfl rfl (by kernel_rfl) (by kernel_rfl) rfl (aJ ai) rfl ?_
 refine⟨fun e5 bf=>?_,fun ag=>absurd (show(ct (aN:=.str) (aP:=.aY) (cl L) nm).getD (dflt .aY)=none from ag) (by rw[hx];intro h;cases h)⟩
 refine⟨_,_,_,_,iA,⟨rfl,rfl,rfl,rfl,trivial⟩,rfl,?_⟩
 refine⟨fun eY=>absurd eY (by decide),fun _=>?_⟩
 refine⟨fun iH=>?_,fun iH=>?_⟩
 ·exact⟨_,_,_,ah.refl _ _,rfl,rfl,⟨rfl,rfl,rfl,rfl,trivial⟩,rfl⟩
 ·have iH: ¬nm=back:=of_decide_eq_false iH
  have hm:bs.contains nm=true:=by simpa using h.resolve_left iH
  rw[hm] at nu
  refine⟨_,_,_,_,e6,⟨rfl,rfl,rfl,rfl,trivial⟩,rfl,?_⟩
  refine⟨_,_,_,_,nu,trivial,rfl,?_⟩
  refine⟨fun _=>?_,fun eY=>absurd eY (by decide)⟩
  exact⟨_,_,_,ah.refl _ _,rfl,rfl,⟨rfl,rfl,rfl,rfl,trivial⟩,rfl⟩
def fK (nm back:List UInt8) (d:aK):aK:=if d.nm=nm then {d with back:=back} else d
def ey (L:List aK) (nm back:List UInt8):List aK:=L.map (fK nm back)
theorem yq (nm back:List UInt8) (d:aK):(fK nm back d).nm=d.nm:=by unfold fK;split <;>rfl
theorem ED (nm back:List UInt8) (d:aK):(fK nm back d).ad=d.ad:=by unfold fK;split <;>rfl
theorem EE (nm back:List UInt8) (d:aK):(fK nm back d).am=d.am:=by unfold fK;split <;>rfl
theorem Oi (nm back:List UInt8) (d:aK):(fK nm back d).im=d.im:=by unfold fK;split <;>rfl
theorem Oj (nm back:List UInt8) (d:aK):(fK nm back d).cE=d.cE:=by unfold fK;split <;>rfl
theorem XQ (L:List aK) (nm back:List UInt8):cl (ey L nm back)=cl L:=by
 unfold cl ey
 rw[List.map_map]
 refine List.map_congr_left fun d _=>?_
 show jz (fK nm back d)=jz d
 unfold jz
 rw[yq,ED]
theorem XR (L:List aK) (nm back:List UInt8):gf (ey L nm back)=gf L:=by
 unfold gf ey
 rw[List.map_map]
 refine List.map_congr_left fun d _=>?_
 show((fK nm back d).am,kg (fK nm back d))=_
 unfold kg
 rw[EE,Oi,Oj]
theorem gK.ey {L:List aK} (h:gK L) (nm back:List UInt8):gK (ey L nm back):=by
 have key: ∀{α:Type} (f:aK→α),(∀d,f (fK nm back d)=f d)→(Go.Proofs.YteoamepgonpdlaaGreat.ey L nm back).map f=L.map f:=fun f hf=>by
  unfold Go.Proofs.YteoamepgonpdlaaGreat.ey
  rw[List.map_map]
  exact List.map_congr_left fun d _=>hf d
 exact⟨by rw[key _ (yq nm back)];exact h.jA,by rw[key _ (ED nm back)];exact h.wC,by rw[key _ (EE nm back)];exact h.vk⟩
theorem Ja {L:List aK} {nm:List UInt8} (back:List UInt8) (h:nm∉L.map (·.nm)):ey L nm back=L:=by
 unfold ey
 refine(List.map_congr_left fun d hd=>?_).trans (List.map_id' L)
 unfold fK
 rw[if_neg fun e=>h (by rw[←e];exact List.mem_map_of_mem hd)]
theorem Jb {back:List UInt8} {nm:List UInt8}: ∀{L:List aK},(L.map (·.nm)).Nodup→(L.map (·.ad)).Nodup→ ∀{d:aK},dk L nm=some d→jc (jg L) d.ad (sH d.am back)=jg (ey L nm back)
 | [],_,_,d,h=>by cases h
 |e::L,hn,ha,d,h=>by
  rw[List.map_cons] at hn ha
  obtain⟨ee,eO⟩:=List.nodup_cons.1 hn
  obtain⟨cj,cu⟩:=List.nodup_cons.1 ha
  rw[oA] at h
  show jc ((e.ad,sH e.am e.back)::jg L) d.ad (sH d.am back)=jg (fK nm back e::ey L nm back)
  unfold jc
  by_cases c:e.nm=nm
  ·rw[if_pos c] at h
   injection h with h
   subst h
   rw[if_pos rfl,Ja back (by rw[←c];exact ee)]
   unfold fK
   rw[if_pos c]
   rfl
  ·rw[if_neg c] at h
   have bg: ¬e.ad=d.ad:=fun x=>cj (by rw[x];exact List.mem_map_of_mem (f:=fun d:aK=>d.ad) (cA h).1)
   rw[if_neg bg,Jb eO cu h]
   unfold fK
   rw[if_neg c]
   rfl
theorem sL (nm back n:List UInt8): ∀L:List aK,dk (ey L nm back) n=(dk L n).map (fK nm back)
 | []=>rfl
 |d::L=>by
  show dk (fK nm back d::ey L nm back) n=_
  rw[oA,oA,yq,sL nm back n L]
  split <;>rfl
theorem XS {L:List aK} (hn:(L.map (·.nm)).Nodup) {nm back:List UInt8} {d:aK} (h:dk L nm=some d):ey (ey L nm back) nm d.back=L:=by
 induction L with
 |nil=>cases h
 |cons e L aZ=>
  rw[List.map_cons] at hn
  obtain⟨ee,eO⟩:=List.nodup_cons.1 hn
  rw[oA] at h
  show fK nm d.back (fK nm back e)::ey (ey L nm back) nm d.back=e::L
  by_cases c:e.nm=nm
  ·rw[if_pos c] at h
   injection h with h
   subst h
   have cG:nm∉L.map (·.nm):=by rw[←c];exact ee
   rw[Ja back cG,Ja _ cG]
   congr 1
   unfold fK
   rw[if_pos c,if_pos c]
  ·rw[if_neg c] at h
   rw[aZ eO h]
   congr 1
   unfold fK
   rw[if_neg c,if_neg c]
@[reducible] def XT (nm back qY:List UInt8) (ad:Nat):aQ:=[(0,aH 1001),(1,bG nm),(2,bG back),(7,kC ad),(8,bG qY)]
@[reducible] def XU (qY:List UInt8) (ad:Nat) (l:List (List UInt8)) (j:Nat):aQ:=[(0,aH 1001),(7,kC ad),(8,bG qY),(46,cI .str l),(47,aC (l.length:Nat)),(48,aC (j:Nat))]
theorem Ol {I:Nat→Prop} {w:World} {s:List UInt8} {z:Value} (h:Den I w (.str s) z):z.cells=List.toArray [z]∧z.oneCell'=true:=by
 have h:z= .string ⟨s.toArray⟩:=h
 subst h
 exact⟨rfl,rfl⟩
theorem XV (bits room:Int) (L:List aK) (c4:gK L) (aB: ∀d,d∈L→d.nm.length≤100000) (m0:L.length≤100) (nm back:List UInt8) (d:aK) (hd:dk L nm=some d) (aq:(decide (back=[])||(dk L back).isSome)=true) (k:Nat) (cq:ew L back k) (jB:k≤1000000) (h: ¬(nm=back∨nm∈ef L k back))
  (z7:List UInt8→Nat) (XW: ∀n∈iB L,ew (ey L nm back) n (z7 n)∧z7 n≤1000000) (r:Int) (EF:List aK) (bB:(∀n∈iB L,z7 n≤8)→r=0∧EF=ey L nm back) (gR:(∃n∈iB L,8 < z7 n)→r=142∧EF=L):
  Fn Tryz.prog 53 [aH 1001,bG nm,bG back] (bM bits room L) [] (aC r) (bM bits room EF):=by
 obtain⟨sI,iU,iV⟩:=nC Et
 have iA:=zZ bits room L back
 rw[aq] at iA
 have hx:(ct (aN:=.str) (aP:=.aY) (cl L) nm).getD (dflt .aY)=some d.ad:=by rw[iK,hd];rfl
 have e6:=z1 bits room L c4 back k cq jB
 have yo:=sJ cq
 generalize ef L k back=bs at e6 yo h
 have nu:=Oh bs nm (by omega)
 have Bk:bs.contains nm=false:=by
  have:=fun e=>h (.inr e)
  simpa using this
 rw[Bk] at nu
 have ki:=c4.D (cA hd).1
 have B5:=c4.ey nm back
 have ku:dk (ey L nm back) nm=some (fK nm back d):=by rw[sL,hd];rfl
 have Om:=B5.D (cA ku).1
 rw[ED,EE,show(fK nm back d).back=back by unfold fK;rw[if_pos (cA hd).2]] at Om
 have yl:=XQ L nm back
 have EA:=XR L nm back
 have I5:jc (jg L) d.ad (sH d.am back)=jg (ey L nm back):=Jb c4.jA c4.wC hd
 have XX:jc (jg (ey L nm back)) d.ad (sH d.am d.back)=jg L:=by
  have:=Jb (back:=d.back) B5.jA B5.wC ku
  rw[ED,EE,XS c4.jA hd] at this
  exact this
 have zF:=Ob bits room (ey L nm back) B5 (fun x hx=>by
  obtain⟨y,aF,rfl⟩:=List.mem_map.1 hx
  rw[yq]
  exact aB y aF) (by unfold ey;rw[List.length_map];exact m0)
 have XY:iB (ey L nm back)=iB L:=by unfold iB;rw[yl]
 rw[XY] at zF
 have hlen:=Ex L
 generalize iB L=l at*
 refine Fn.of ai [6,8,12] _ _ _ _ _ Tryz.func53 rfl rfl (by kernel_rfl) (by kernel_rfl) rfl (aJ ai) rfl ?_
 refine⟨fun e5 bf=>?_,fun ag=>absurd (show(ct (aN:=.str) (aP:=.aY) (cl L) nm).getD (dflt .aY)=none from ag) (by rw[hx];intro h;cases h)⟩
 refine⟨_,_,_,_,iA,⟨rfl,rfl,rfl,rfl,trivial⟩,rfl,?_⟩
 refine⟨fun eY=>absurd eY (by decide),fun _=>?_⟩
 refine⟨fun iH=>?_,fun iH=>?_⟩
 ·exact absurd (.inl (of_decide_eq_true iH)) h
 refine⟨_,_,_,_,e6,⟨rfl,rfl,rfl,rfl,trivial⟩,rfl,?_⟩
 refine⟨_,_,_,_,nu,trivial,rfl,?_⟩
 refine⟨fun eY=>absurd eY (by decide),fun _=>?_⟩
 show av _ _ _ _ _ _ _
 refine av.go ai (aJ ai) [8,12] (by kernel_rfl) (ah.refl _ _) ?_
 refine⟨_,_,fun N=>ov (b:=d.ad) rfl (by exact o6 hx) N,rfl,?_⟩
 refine⟨_,_,fun N=>ow rfl Tryz.underlying130 rfl rfl iU (by rw[iV];decide) rfl N,rfl,?_⟩
 refine⟨_,_,fun N=>p4 (q:=1003) rfl Tryz.underlying9 rfl rfl rfl ki rfl N,rfl,?_⟩
 refine⟨_,_,fun N=>ov (b:=d.ad) rfl (by exact o6 hx) N,rfl,?_⟩
 refine⟨_,_,fun N=>ow rfl Tryz.underlying130 rfl rfl iU (by rw[iV];decide) rfl N,rfl,?_⟩
 refine⟨_,_,fun N=>NU (q:=1003) (b:=d.ad) (j:=1) (y:=.str back) (l:=Es d.am d.back) (h':=fun _=>rfl) rfl iU iV rfl rfl rfl ki (Nat.lt_succ_self 1) Ol N,rfl,?_⟩
 show av _ _ _ _ _ _ _
 refine av.go ai (aJ ai) [12] (by kernel_rfl) (ah.sub (K':=XT nm back d.back d.ad) (B':=bM bits room (ey L nm back)) ⟨rfl,rfl,rfl,hx,rfl,trivial⟩ ⟨rfl,congrArg (fun e=>some (bw.map .str .aY e)) yl.symm,congrArg (fun e=>some (bw.obj (.cM e))) I5,congrArg (fun e=>some (bw.obj (.cM e))) EA.symm,trivial⟩) ?_
 refine⟨_,_,_,_,zF,⟨rfl,rfl,rfl,rfl,trivial⟩,rfl,?_⟩
 show av _ _ _ _ _ _ _
 refine av.loop ai (aJ ai) [12] (by kernel_rfl) (X:=Nat) (XU d.back d.ad l) (fun _=>bM bits room (ey L nm back)) (fun j=>j≤l.length∧ ∀n∈l.take j,z7 n≤8) (fun j=>l.length - j) 0 ⟨Nat.zero_le _,fun n hn=>by rw[List.take_zero] at hn;cases hn⟩ ?_ ?_
 ·exact ah.sub ⟨rfl,rfl,rfl,rfl,rfl,rfl,trivial⟩ ⟨rfl,rfl,rfl,rfl,trivial⟩
 intro j ⟨au,Jc⟩
 refine⟨fun h=>?_,fun h=>?_⟩
 ·have h:decide ((j:Int) < (l.length:Nat))=true:=h
  have fQ:j < l.length:=by simpa using h
  have m3:(0:Int)≤(j:Int):=by omega
  have rM:(-9223372036854775808:Int)≤(j:Int)+1∧(j:Int)+1≤9223372036854775807:=by omega
  obtain⟨On,HG⟩:=XW _ (List.getElem_mem fQ)
  have kR:=List.getElem_mem fQ
  have xw:=List.take_succ_eq_append_getElem fQ
  have pO:=z1 bits room (ey L nm back) B5 _ _ On HG
  have XZ:=sJ On
  refine⟨m3,l[j],eA (n:=j) fQ,?_⟩
  generalize l[j]=n at*
  generalize ef (ey L nm back) (z7 n) n=ns at pO XZ
  refine⟨_,_,_,_,pO,⟨rfl,rfl,rfl,rfl,trivial⟩,rfl,?_⟩
  refine⟨fun p8=>?_,fun p8=>?_⟩
  ·have p8:(8:Int) < (ns.length:Int):=of_decide_eq_true p8
   obtain⟨rfl,rfl⟩:=gR ⟨n,kR,by omega⟩
   show av _ _ _ _ _ _ _
   refine av.go ai (aJ ai) [] (by kernel_rfl) (ah.sub (K':=[(7,kC d.ad),(8,bG d.back)]) (B':=bM bits room (ey EF nm back)) ⟨rfl,rfl,trivial⟩ ⟨rfl,rfl,rfl,rfl,trivial⟩) ?_
   refine⟨_,_,fun N=>ov (b:=d.ad) rfl rfl N,rfl,?_⟩
   refine⟨_,_,fun N=>ow rfl Tryz.underlying130 rfl rfl iU (by rw[iV];decide) rfl N,rfl,?_⟩
   refine⟨_,_,fun N=>NU (q:=1003) (b:=d.ad) (j:=1) (y:=.str d.back) (l:=Es d.am back) (h':=fun _=>rfl) rfl iU iV rfl rfl rfl Om (Nat.lt_succ_self 1) Ol N,rfl,?_⟩
   exact⟨_,_,_,ah.refl _ _,rfl,rfl,⟨rfl,congrArg (fun e=>some (bw.map .str .aY e)) yl,congrArg (fun e=>some (bw.obj (.cM e))) XX,congrArg (fun e=>some (bw.obj (.cM e))) EA,trivial⟩,rfl⟩
  ·have p8: ¬(8:Int) < (ns.length:Int):=of_decide_eq_false p8
   refine⟨rM,j+1,⟨fQ,fun xj vg=>?_⟩,by omega,ah.sub ⟨rfl,rfl,rfl,rfl,rfl,rfl,trivial⟩ ⟨rfl,rfl,rfl,rfl,trivial⟩⟩
   rw[xw] at vg
   rcases List.mem_append.1 vg with vg |vg
   ·exact Jc xj vg
   ·rw[List.mem_singleton] at vg
    subst vg
    omega
 ·have h:decide ((j:Int) < (l.length:Nat))=false:=h
  have fQ:j=l.length:=by simp at h;omega
  subst fQ
  rw[List.take_length] at Jc
  obtain⟨rfl,rfl⟩:=bB Jc
  exact⟨_,_,_,ah.refl _ _,rfl,rfl,⟨rfl,rfl,rfl,rfl,trivial⟩,rfl⟩
end Go.Proofs.YteoamepgonpdlaaGreat
namespace Go.Proofs.YteoamepgonpdlaaGreat
open Go.RowKit Go.Proofs
@[reducible] def X0 (nm:List UInt8):aG:=[(2001,.cells [.ptr 1001 0]),(2002,.cells [.d (.str nm)])]
@[reducible] def Oo (bits room:Int) (L:List aK) (nm:List UInt8):aG:=bM bits room L++X0 nm
theorem X3 (bits room:Nat) (L:List aK) (bJ:nF bits room L) (nm:List UInt8) (d0:aK) (aE:dk L nm=some d0) (cN:Nat) (fO:ew L nm cN) (p5:cN≤100) (k:Nat) (aq:k < d0.im.t.length):
  Fn Tryz.prog 114 [aC (k:Int),aH 2001,aH 2002] (Oo bits room L nm) [] (cI .u8 (nG bits L nm cN k)) (Oo bits room L nm):=by
 have cP:=IV bits room L bJ nm d0 aE cN fO p5 k aq
 generalize nG bits L nm cN k=y at cP
 refine Fn.of ai [] _ _ _ _ _ Tryz.func114 rfl rfl (by kernel_rfl) (by kernel_rfl) rfl (aJ ai) rfl ?_
 refine⟨_,_,_,_,cP,⟨rfl,rfl,rfl,rfl,trivial⟩,rfl,?_⟩
 exact⟨_,_,_,ah.refl _ _,rfl,rfl,⟨rfl,rfl,rfl,rfl,rfl,rfl,trivial⟩,rfl⟩
theorem Jd (bits room:Int) (L:List aK) (nm:List UInt8) (aE:dk L nm=none) (g:Nat) (x y:D):
  Fn Tryz.prog 89 [aH 1001,bG nm,.c (.one (.eM g [.p 3001 0,.p 3002 0]))] (bM bits room L++[(3001,.cells [.d x]),(3002,.cells [.d y])]) [] (aC 140) (bM bits room L++[(3001,.cells [.d x]),(3002,.cells [.d y])]):=by
 have hx:(ct (aN:=.str) (aP:=.aY) (cl L) nm).getD (dflt .aY)=none:=by rw[iK,aE];rfl
 refine Fn.of ai [2] _ _ _ _ _ Tryz.func89 rfl rfl (by kernel_rfl) (by kernel_rfl) rfl (aJ ai) rfl ?_
 refine⟨rfl,?_⟩
 refine⟨rfl,?_⟩
 refine⟨rfl,?_⟩
 show av _ _ _ _ _ _ _
 refine av.go ai (aJ ai) [] (by kernel_rfl) (ah.refl _ _) ?_
 refine⟨fun e5 ag=>absurd (show(ct (aN:=.str) (aP:=.aY) (cl L) nm).getD (dflt .aY)=some e5 from ag) (by rw[hx];intro h;cases h),fun _=>?_⟩
 exact⟨_,_,_,ah.refl _ _,rfl,rfl,⟨rfl,rfl,rfl,rfl,rfl,rfl,trivial⟩,rfl⟩
theorem Sat.sub {N:Nat} {ids:List Nat} {C:Ctx} {K K':aQ} {B B':aG} {a:Act} {w:World} (h:Sat N ids C K B a w) (hK:Ba K K') (dy:nT B B'):Sat N ids C K' B' a w:=ah.sub hK dy N C a w h
theorem X4 (t:List eG):jW (.obj (rE t)):=by
 rintro mK sy I F w p j9 _ hp ⟨es,h,bk⟩
 exact⟨es,h,jW.uQ (c:=1001) (BX (bQ:=oZ (t.length:Nat) es) ⟨jW.cells rfl,jW.map,trivial⟩) mK sy I F w p j9 (fun _ h=>by cases h) hp bk⟩
theorem X5 (l:List Int):jW (.obj (rF l)):=by
 rintro mK sy I F w p j9 _ hp ⟨ρ,G,aa,af,ay,bu⟩
 refine⟨dA ρ 1001 j9,G,dR ..,fun d ch hd=>?_,ay,bu⟩
 have dW:=af d ch hd
 rw[cD] at hd
 split at hd
 ·rename_i e
  injection hd with hd
  subst hd e
  obtain⟨g1,vs,T,g2,bL⟩:=dW
  rw[dR]
  rw[aa] at g1 g2
  exact⟨fun b=>by rw[hp];exact g1 b,vs,T,by rw[hp];exact g2,bV.mono (Ext.refl _ _) _ vs (fun c hc=>dP _ _ (fun e=>by subst e;cases hc)) bL⟩
 ·rename_i e
  rw[dP _ _ (Ne.symm e)]
  rw[cD] at hd
  split at hd
  ·injection hd with hd
   subst hd
   exact Holds.cy (Ext.refl _ _) (fun _ _=>rfl) (Nat.le_refl _) _ (fun c hc=>by cases hc) dW
  ·cases hd
theorem X6 (f:k3):jW (.obj (mX f)):=by
 intro mK sy I F w p j9 _ hp h
 have h:wj (fun _=>none) f I F w p:=h
 show wj (fun _=>none) f I F w j9
 unfold wj at*
 rw[hp]
 exact h
theorem X7 (s:bE):En (di s):=⟨jW.cells rfl,X4 _,X5 _,X6 _,trivial⟩
def hO (nm:List UInt8) (im:bE) (cE:Option (Nat→Nat)) (d:aK):aK:=if d.nm=nm then {d with im:=im,cE:=cE} else d
def lim (L:List aK) (nm:List UInt8) (im:bE) (cE:Option (Nat→Nat)):List aK:=L.map (hO nm im cE)
section
variable (nm:List UInt8) (im:bE) (cE:Option (Nat→Nat)) (d:aK)
theorem z8:(hO nm im cE d).nm=d.nm:=by unfold hO;split <;>rfl
theorem Je:(hO nm im cE d).ad=d.ad:=by unfold hO;split <;>rfl
theorem Oq:(hO nm im cE d).am=d.am:=by unfold hO;split <;>rfl
theorem yt:(hO nm im cE d).back=d.back:=by unfold hO;split <;>rfl
theorem EG (L:List aK):cl (lim L nm im cE)=cl L:=by
 unfold cl lim
 rw[List.map_map]
 refine List.map_congr_left fun d _=>?_
 show jz (hO nm im cE d)=jz d
 unfold jz
 rw[z8,Je]
theorem EH (L:List aK):jg (lim L nm im cE)=jg L:=by
 unfold jg lim
 rw[List.map_map]
 refine List.map_congr_left fun d _=>?_
 show((hO nm im cE d).ad,sH (hO nm im cE d).am (hO nm im cE d).back)=_
 rw[Je,Oq,yt]
theorem vq (n:List UInt8): ∀L:List aK,dk (lim L nm im cE) n=(dk L n).map (hO nm im cE)
 | []=>rfl
 |d::L=>by
  show dk (hO nm im cE d::lim L nm im cE) n=_
  rw[oA,oA,z8,vq n L]
  split <;>rfl
end
theorem B6 {L:List aK} {nm:List UInt8} {d:aK} (h:dk L nm=some d) (im:bE) (cE:Option (Nat→Nat)):dk (lim L nm im cE) nm=some {d with im:=im,cE:=cE}:=by
 rw[vq,h]
 show some (hO nm im cE d)=_
 unfold hO
 rw[if_pos (cA h).2]
theorem Jf {L:List aK} {nm n:List UInt8} (bg:n≠nm) (im:bE) (cE:Option (Nat→Nat)):dk (lim L nm im cE) n=dk L n:=by
 rw[vq]
 cases h:dk L n with
 |none=>rfl
 |some d=>
  show some (hO nm im cE d)=_
  unfold hO
  rw[if_neg (fun e=>bg ((cA h).2.symm.trans e))]
theorem X8 {L:List aK} {nm:List UInt8} (im:bE) (cE:Option (Nat→Nat)) (h:nm∉L.map (·.nm)):lim L nm im cE=L:=by
 unfold lim
 refine(List.map_congr_left fun d hd=>?_).trans (List.map_id' L)
 unfold hO
 rw[if_neg fun e=>h (by rw[←e];exact List.mem_map_of_mem hd)]
theorem EI {nm:List UInt8} {im:bE} {cE:Option (Nat→Nat)}: ∀{L:List aK},(L.map (·.nm)).Nodup→(L.map (·.am)).Nodup→ ∀{d:aK},dk L nm=some d→jc (gf L) d.am (kg {d with im:=im,cE:=cE})=gf (lim L nm im cE)
 | [],_,_,d,h=>by cases h
 |e::L,hn,ha,d,h=>by
  rw[List.map_cons] at hn ha
  obtain⟨ee,eO⟩:=List.nodup_cons.1 hn
  obtain⟨cj,cu⟩:=List.nodup_cons.1 ha
  rw[oA] at h
  show jc ((e.am,kg e)::gf L) d.am _=gf (hO nm im cE e::lim L nm im cE)
  unfold jc
  by_cases c:e.nm=nm
  ·rw[if_pos c] at h
   injection h with h
   subst h
   rw[if_pos rfl,X8 im cE (by rw[←c];exact ee)]
   unfold hO
   rw[if_pos c]
   rfl
  ·rw[if_neg c] at h
   have bg: ¬e.am=d.am:=fun x=>cj (by rw[x];exact List.mem_map_of_mem (f:=fun d:aK=>d.am) (cA h).1)
   rw[if_neg bg,EI eO cu h]
   unfold hO
   rw[if_neg c]
   rfl
theorem Ot {b:Nat} {o:bN}: ∀L:List (Nat×bN),kS (jc L b o) b=kS L b
 | []=>rfl
 |(a,q)::L=>by
  unfold jc
  by_cases e:a=b
  ·rw[if_pos e]
   show(if a=b then L else _)=if a=b then L else _
   rw[if_pos e,if_pos e]
  ·rw[if_neg e]
   show(if a=b then _ else(a,q)::kS (jc L b o) b)=if a=b then L else(a,q)::kS L b
   rw[if_neg e,if_neg e,Ot L]
theorem Ou {L:List aK} (nm:List UInt8) (im:bE) (cE:Option (Nat→Nat)) {n:List UInt8} {k:Nat} (h:ew L n k):ew (lim L nm im cE) n k:=by
 induction h with
 |gone h=>exact .gone (by rw[vq,h];rfl)
 |base aa af=>exact .base (d:=hO nm im cE _) (by rw[vq,aa];rfl) (by rw[yt];exact af)
 |step aa af ay aZ=>exact .step (d:=hO nm im cE _) (by rw[vq,aa];rfl) (by rw[yt];exact af) (by rw[yt];exact aZ)
theorem Ov (L:List aK) (nm:List UInt8) (im:bE) (cE:Option (Nat→Nat)): ∀(k:Nat) (n:List UInt8),ef (lim L nm im cE) k n=ef L k n
 |0,_=>rfl
 |k+1,n=>by
  show(match dk (lim L nm im cE) n with |none=>[] |some d=>d.back::ef (lim L nm im cE) k d.back)=match dk L n with |none=>[] |some d=>d.back::ef L k d.back
  rw[vq]
  cases h:dk L n with
  |none=>rfl
  |some d=>
   show(hO nm im cE d).back::ef (lim L nm im cE) k (hO nm im cE d).back=d.back::ef L k d.back
   rw[yt,Ov L nm im cE k]
theorem gK.lim {L:List aK} (h:gK L) (nm:List UInt8) (im:bE) (cE:Option (Nat→Nat)):gK (lim L nm im cE):=by
 have key: ∀{α:Type} (f:aK→α),(∀d,f (hO nm im cE d)=f d)→(Go.Proofs.YteoamepgonpdlaaGreat.lim L nm im cE).map f=L.map f:=fun f hf=>by
  unfold Go.Proofs.YteoamepgonpdlaaGreat.lim
  rw[List.map_map]
  exact List.map_congr_left fun d _=>hf d
 exact⟨by rw[key _ (z8 nm im cE)];exact h.jA,by rw[key _ (Je nm im cE)];exact h.wC,by rw[key _ (Oq nm im cE)];exact h.vk⟩
theorem nF.lim {bits room:Nat} {L:List aK} (h:nF bits room L) {nm:List UInt8} {d0:aK} (aE:dk L nm=some d0) {im:bE} (hs:ju d0.im im) (cE:Option (Nat→Nat)):nF bits room (lim L nm im cE):=by
 obtain⟨fJ,iJ,qF⟩:=h.hM d0 (cA aE).1
 have key: ∀d,d∈Go.Proofs.YteoamepgonpdlaaGreat.lim L nm im cE→ ∃e,e∈L∧hO nm im cE e=d:=fun d hd=>by
  obtain⟨e,he,rfl⟩:=List.mem_map.1 hd
  exact⟨e,he,rfl⟩
 refine⟨h.togK.lim nm im cE,h.b3,h.vo,by unfold Go.Proofs.YteoamepgonpdlaaGreat.lim;rw[List.length_map];exact h.len,fun d hd=>?_,fun d hd ag=>?_,fun d hd=>?_,fun d hd=>?_⟩
 ·obtain⟨e,he,rfl⟩:=key d hd
  unfold hO
  split
  ·exact⟨hs.ok,hs.bits.trans iJ,hs.lS.trans qF⟩
  ·exact h.hM e he
 ·obtain⟨e,he,rfl⟩:=key d hd
  rw[yt] at ag⊢
  obtain⟨e',h'⟩:=h.jD e he ag
  exact⟨hO nm im cE e',by rw[vq,h'];rfl⟩
 ·obtain⟨e,he,rfl⟩:=key d hd
  rw[z8]
  exact h.ne e he
 ·obtain⟨e,he,rfl⟩:=key d hd
  rw[z8]
  obtain⟨k,aq,hd⟩:=h.z2 e he
  exact⟨k,aq,Ou nm im cE hd⟩
theorem Ow {L:List aK} {n:List UInt8} {k k':Nat} (h:ew L n k) (h':ew L n k'):k=k':=by
 induction h generalizing k' with
 |gone h=>
  cases h' with
  |gone _=>rfl
  |base _ _=>rfl
  |step aa _ _=>rw[h] at aa;cases aa
 |base aa af=>
  cases h' with
  |gone _=>rfl
  |base _ _=>rfl
  |step g1 g2 _=>rw[aa] at g1;injection g1 with g1;rw[←g1] at g2;exact absurd af g2
 |step aa af ay aZ=>
  cases h' with
  |gone h=>rw[aa] at h;cases h
  |base g1 g2=>rw[aa] at g1;injection g1 with g1;rw[←g1] at g2;exact absurd g2 af
  |step g1 g2 bL=>rw[aa] at g1;injection g1 with g1;rw[←g1] at bL;rw[aZ bL]
theorem X9 {L:List aK} {n:List UInt8} {k:Nat} (h:ew L n k): ∀x,x∈ef L k n→ ∃j,j < k∧ew L x j:=by
 induction h with
 |gone _=>intro x hx;cases hx
 |base _ _=>intro x hx;cases hx
 | @step n d k aa af ay aZ=>
  intro x hx
  unfold ef at hx
  rw[aa] at hx
  rcases List.mem_cons.1 hx with rfl |hx
  ·exact⟨k,Nat.lt_succ_self k,ay⟩
  ·obtain⟨j,au,hd⟩:=aZ x hx
   exact⟨j,by omega,hd⟩
theorem Ya {L:List aK} {n:List UInt8} {k:Nat} (h:ew L n k):n∉ef L k n:=fun hx=>by
 obtain⟨j,au,hd⟩:=X9 h n hx
 have:=Ow h hd
 omega
theorem Ox {bits:Nat} {L:List aK} {nm:List UInt8} {im:bE} {cE:Option (Nat→Nat)} {c:Nat}: ∀(ns:List (List UInt8)) (i:Nat),nm∉ns→ig bits (lim L nm im cE) c ns i=ig bits L c ns i
 | [],_,_=>rfl
 |n::ns,i,h=>by
  have bg:n≠nm:=fun e=>h (by rw[e];exact List.mem_cons_self ..)
  have aZ:=Ox (bits:=bits) (L:=L) (nm:=nm) (im:=im) (cE:=cE) (c:=c) ns (i+1) fun hm=>h (List.mem_cons_of_mem _ hm)
  unfold ig
  rw[Jf bg,aZ]
def mE (bits:Nat) (L:List aK) (nm:List UInt8) (cN c:Nat):List UInt8:=(ig bits L c (ef L cN nm) 1).1
theorem Yb {bits:Nat} {L:List aK} {nm:List UInt8} {d0:aK} (aE:dk L nm=some d0) {cN:Nat} (fO:ew L nm cN) (im:bE) (cE:Option (Nat→Nat)) (c:Nat):
  nG bits (lim L nm im cE) nm cN c=if c < im.t.length∧(im.t.getD c s0).1≠0 then dZ im c none else mE bits L nm cN c:=by
 unfold nG mE
 rw[Ov]
 conv=>lhs;unfold ig
 rw[B6 aE]
 simp only
 split
 ·rfl
 ·rw[Ox _ _ (Ya fO)]
@[reducible] def Aa (bits room:Int) (L:List aK) (nm:List UInt8) (am:Nat):aG:=[(8001,.cells [.d (.int .i64 bits),.d (.int .i64 room),.mp 8002]),(8002,.map .str .aY (cl L)),(8003,.obj (.cM (jg L))),(8004,.obj (.cM (kS (gf L) am))),(8005,.cells [.ptr 8001 0]),(8006,.cells [.d (.str nm)])]
def sM (bits room:Int) (L:List aK) (nm:List UInt8) (am:Nat) (bs:Nat→Nat):bq→bN:=.tie am (.nE (Aa bits room L nm am) bs)
theorem Oy (bits room:Int) (L:List aK) (nm:List UInt8) (am:Nat):En (Aa bits room L nm am):=⟨jW.cells rfl,jW.map,jW.cM,jW.cM,jW.cells rfl,jW.cells rfl,trivial⟩
@[reducible] def lW (bits room:Int) (L:List aK) (nm:List UInt8):aG:=[(8001,.cells [.d (.int .i64 bits),.d (.int .i64 room),.mp 8002]),(8002,.map .str .aY (cl L)),(8003,.obj (.cM (jg L))),(8004,.obj (.cM (gf L))),(8005,.cells [.ptr 8001 0]),(8006,.cells [.d (.str nm)])]
@[reducible] def B7 (am cW dF dG:Nat):Nat→Nat:=fun c=>cond (Nat.beq c 1001) am (cond (Nat.beq c 1002) cW (cond (Nat.beq c 1003) dF dG))
@[reducible] def p9 (cW dF dG:Nat):Nat→Nat:=fun c=>cond (Nat.beq c 1002) cW (cond (Nat.beq c 1003) dF dG)
@[reducible] def Oz (am cW dF dG:Nat):aG:=[(9001,.dep 1001 (gy am)),(9002,.dep 1002 (gy cW)),(9003,.dep 1003 (gy dF)),(9004,.dep 1004 (gy dG))]
@[reducible] def Jg (bs:Nat→Nat):aG:=[(7001,.dep 8001 (gy (bs 8001))),(7002,.dep 8002 (gy (bs 8002))),(7003,.dep 8003 (gy (bs 8003))),(7004,.dep 8004 (gy (bs 8004))),(7005,.dep 8005 (gy (bs 8005))),(7006,.dep 8006 (gy (bs 8006)))]
theorem Yc (bits room:Nat) (L:List aK) (bJ:nF bits room L) (nm:List UInt8) (d0:aK) (aE:dk L nm=some d0) (cN:Nat) (fO:ew L nm cN) (p5:cN≤100) (k:Nat) (aq:k < d0.im.t.length):
  Fn Tryz.prog 114 [aC (k:Int),aH 8005,aH 8006] (lW bits room L nm) [] (cI .u8 (nG bits L nm cN k)) (lW bits room L nm):=
 Fn.ren [(1001,8001),(1002,8002),(1003,8003),(1004,8004),(2001,8005),(2002,8006)] (X3 bits room L bJ nm d0 aE cN fO p5 k aq)
theorem Yd (bits room:Nat) (L:List aK) (bJ:nF bits room L) (nm:List UInt8) (d0:aK) (aE:dk L nm=some d0) (cN:Nat) (fO:ew L nm cN) (p5:cN≤100) (s:bE) (hs:ju d0.im s) (bs:Nat→Nat) (c:Nat) (hc:c < s.t.length) (aS:(s.t[c]).1=0):
  D8 s (sM bits room L nm d0.am bs) (bs 8005) (bs 8006) c (mE bits L nm cN c):=by
 have hlen:(mE bits L nm cN c).length≤1000000:=by
  have:=N2 bJ c (ef L cN nm) 1
  unfold mE
  omega
 refine⟨hlen,?_⟩
 have fR:=bJ.togK.M (cA aE).1
 have Gq: ∀cE,nG bits (lim L nm s cE) nm cN c=mE bits L nm cN c:=fun cE=>by
  rw[Yb aE fO,if_neg fun h=>h.2 (by rw[List.getD_eq_getElem?_getD,List.getElem?_eq_getElem hc];exact aS)]
 have kW: ∀cE,Fn Tryz.prog 114 [aC (c:Int),aH 8005,aH 8006] (lW bits room (lim L nm s cE) nm) [] (cI .u8 (mE bits L nm cN c)) (lW bits room (lim L nm s cE) nm):=fun cE=>by
  have:=Yc bits room (lim L nm s cE) (bJ.lim aE hs cE) nm _ (B6 aE s cE) cN (Ou nm s cE fO) p5 c hc
  rw[Gq cE] at this
  exact this
 have OA: ∀cW dF dG,kg {d0 with im:=s,cE:=some (p9 cW dF dG)}= .nE (di s) (B7 d0.am cW dF dG):=fun cW dF dG=>rfl
 have oa: ∀cW dF dG,jc (gf L) d0.am (.nE (di s) (B7 d0.am cW dF dG))=gf (lim L nm s (some (p9 cW dF dG))):=fun cW dF dG=>by
  rw[←OA]
  exact EI bJ.jA bJ.vk aE
 have Ye: ∀cW dF dG,jr (gf (lim L nm s (some (p9 cW dF dG)))) d0.am=some (.nE (di s) (B7 d0.am cW dF dG)):=fun cW dF dG=>by
  have:=(bJ.togK.lim nm s (some (p9 cW dF dG))).M (cA (B6 aE s (some (p9 cW dF dG)))).1
  rw[OA] at this
  exact this
 have Yf: ∀cW dF dG,kS (gf (lim L nm s (some (p9 cW dF dG)))) d0.am=kS (gf L) d0.am:=fun cW dF dG=>by
  rw[←oa,Ot]
 refine Fn.via (X:=Nat×Nat×Nat) (args':=fun _=>[aC (c:Int),aH 8005,aH 8006]) (yc:=fun x=>lW bits room (lim L nm s (some (p9 x.1 x.2.1 x.2.2))) nm++(Jg bs++Oz d0.am x.1 x.2.1 x.2.2)) (q9:=fun x=>lW bits room (lim L nm s (some (p9 x.1 x.2.1 x.2.2))) nm) (jS:=fun _=>[]) (res':=fun _=>cI .u8 (mE bits L nm cN c)) (yd:=fun x=>lW bits room (lim L nm s (some (p9 x.1 x.2.1 x.2.2))) nm)
  (by kernel_rfl) 3 rfl ?_ (fun x=>kW _) (fun x=>⟨rfl,rfl,rfl,rfl,rfl,rfl,trivial⟩) (fun x=>rfl) (fun x=>rfl) ?_
 ·intro N C a w Jh
  have aa:=ah.loose 9000 1001 d0.am rfl N C a w (ah.WD 9000 1001 9001 d0.am rfl rfl (by decide) N C a w Jh)
  obtain⟨cW,af⟩:=gI.mark 1002 9002 rfl (by decide) N C a w aa
  obtain⟨dF,ay⟩:=gI.mark 1003 9003 rfl (by decide) N C a w af
  obtain⟨dG,bu⟩:=gI.mark 1004 9004 rfl (by decide) N C a w ay
  have dI:=ah.IC 9100 (di s) (fun c=>c+8000) (B7 d0.am cW dF dG) ⟨rfl,rfl,rfl,rfl,trivial⟩ ⟨rfl,rfl,rfl,rfl,trivial⟩ rfl N C a w bu
  have kr:=ah.place 8006 7006 (bs 8006) rfl rfl (by decide) N C a w (ah.place 8005 7005 (bs 8005) rfl rfl (by decide) N C a w (ah.place 8004 7004 (bs 8004) rfl rfl (by decide) N C a w (ah.place 8003 7003 (bs 8003) rfl rfl (by decide) N C a w (ah.place 8002 7002 (bs 8002) rfl rfl (by decide) N C a w (ah.place 8001 7001 (bs 8001) rfl rfl (by decide) N C a w dI)))))
  have xk:=ah.IF 9000 (Aa bits room L nm d0.am) (fun c=>c - 1000) bs rfl ⟨rfl,rfl,rfl,rfl,rfl,rfl,trivial⟩ rfl rfl (BX (Oy bits room L nm d0.am)) N C a w kr
  have kL:=ah.WI 8004 9100 d0.am rfl rfl fR (by decide) N C a w xk
  have rX:=ah.NW 1 8005 7005 (bs 8005) rfl rfl N C a w kL
  have AP:=ah.NW 2 8006 7006 (bs 8006) rfl rfl N C a w rX
  have bz:=EG nm s (some (p9 cW dF dG)) L
  have cq:=EH nm s (some (p9 cW dF dG)) L
  refine⟨(cW,dF,dG),Sat.sub AP ⟨rfl,rfl,rfl,trivial⟩ ⟨rfl,congrArg (fun e=>some (bw.map .str .aY e)) bz.symm,congrArg (fun e=>some (bw.obj (.cM e))) cq.symm,congrArg (fun e=>some (bw.obj (.cM e))) (oa cW dF dG),rfl,rfl,rfl,rfl,rfl,rfl,rfl,rfl,rfl,rfl,rfl,rfl,trivial⟩⟩
 ·rintro⟨cW,dF,dG⟩
  have bz:=EG nm s (some (p9 cW dF dG)) L
  have cq:=EH nm s (some (p9 cW dF dG)) L
  refine⟨cI .u8 (mE bits L nm cN c),_,ah.trans (ah.sub (K':=[(3,cI .u8 (mE bits L nm cN c))]) (B':=lW bits room (lim L nm s (some (p9 cW dF dG))) nm++(Jg bs++Oz d0.am cW dF dG)) ⟨rfl,trivial⟩ ⟨rfl,rfl,rfl,rfl,rfl,rfl,rfl,rfl,rfl,rfl,rfl,rfl,rfl,rfl,rfl,rfl,trivial⟩)
   (ah.trans (ah.Er 8004 9100 d0.am rfl (Ye cW dF dG) rfl) (ah.trans (ah.forget 9100 d0.am rfl)
   (ah.trans (ah.IC 9000 (Aa bits room L nm d0.am) (fun c=>c - 1000) bs ⟨rfl,congrArg (fun e=>some (bw.map .str .aY e)) bz,congrArg (fun e=>some (bw.obj (.cM e))) cq,congrArg (fun e=>some (bw.obj (.cM e))) (Yf cW dF dG),rfl,rfl,trivial⟩ ⟨rfl,rfl,rfl,rfl,rfl,rfl,trivial⟩ rfl)
   (ah.trans (ah.WE 9000 1001 9001 d0.am rfl rfl) (ah.IF 9100 (di s) (fun c=>c+8000) (B7 d0.am cW dF dG) rfl ⟨rfl,rfl,rfl,rfl,trivial⟩ rfl rfl (BX (X7 s))))))),?_,?_,?_⟩
  ·exact rfl
  ·exact⟨rfl,rfl,rfl,rfl,rfl,trivial⟩
  ·rfl
theorem OB {f:FuncId} {args:List aO} {res:aO} {s s':bE} {R:bq→bN} (h:Fn Tryz.prog f (aH 1001::args) (fE s R) [] res (fE s' R)) (aa:Bt 1001 [1002,1003,1004] (aH 1001::args) (di s) [(9000,.dep 1001 R)] [] []=true) (af:Bu 1001 (vY [1002,1003,1004] [] []) res (di s') [(9000,.dep 1001 R)]=true):
  Fn Tryz.prog f (aH 1001::args) [(1001,.obj (jd s)),(9000,.dep 1001 R)] [] res [(1001,.obj (jd s')),(9000,.dep 1001 R)]:=
 Fn.close (bQ:=di s) (jT:=di s') (aR:=[(9000,.dep 1001 R)]) (bl:=[(9000,.dep 1001 R)]) [1002,1003,1004] h (fun _ _ _ _ h=>h) (fun _ _ _ _ h=>h) aa af
@[reducible] def k6 (x y:D):aG:=[(3001,.cells [.d x]),(3002,.cells [.d y])]
@[reducible] def Ab (dS cW dF dG k7 k8:Nat):Nat→Nat:=fun c=>cond (Nat.beq c 8001) dS (cond (Nat.beq c 8002) cW (cond (Nat.beq c 8003) dF (cond (Nat.beq c 8004) dG (cond (Nat.beq c 8005) k7 k8))))
@[reducible] def B8:aO:=.c (.one (.eM 114 [.p 8005 0,.p 8006 0]))
@[reducible] def EJ (bits room:Int) (L:List aK) (nm:List UInt8) (am:Nat) (s:bE) (dS cW dF dG k7 k8:Nat) (x y:D):aG:=[(7000,.obj (jd s)),(9000,.dep 7000 (sM bits room L nm am (Ab dS cW dF dG k7 k8)))]++(Jg (Ab dS cW dF dG k7 k8)++k6 x y)
@[reducible] def OC:List Nat:=[8001,8002,8003,8004,8005,8006,3001,3002]
@[reducible] def Ji (am:Nat):aQ:=[(0,kC am),(1,B8),(2,aH 3001),(3,aH 3002)]
@[reducible] def Yg (k7 k8:Nat):aQ:=[(0,aH 7000),(1,nD k7 k8),(2,aH 3001),(3,aH 3002)]
theorem ah.OD (bits room:Int) (L:List aK) (nm:List UInt8) (am:Nat) (im:bE) (cG:jr (gf L) am=some (jd im)) (x y:D):
  gI (X:=Nat×Nat×Nat×Nat×Nat×Nat) OC (Ji am) (lW bits room L nm++k6 x y) (fun p=>Yg p.2.2.2.2.1 p.2.2.2.2.2) (fun p=>EJ bits room L nm am im p.1 p.2.1 p.2.2.1 p.2.2.2.1 p.2.2.2.2.1 p.2.2.2.2.2 x y):=by
 intro N C a w Jh
 have aa:=ah.Er 8004 7000 am rfl cG rfl N C a w Jh
 obtain⟨dS,af⟩:=gI.mark 8001 7001 rfl (by decide) N C a w aa
 obtain⟨cW,ay⟩:=gI.mark 8002 7002 rfl (by decide) N C a w af
 obtain⟨dF,bu⟩:=gI.mark 8003 7003 rfl (by decide) N C a w ay
 obtain⟨dG,dI⟩:=gI.mark 8004 7004 rfl (by decide) N C a w bu
 obtain⟨k7,kr⟩:=gI.mark 8005 7005 rfl (by decide) N C a w dI
 obtain⟨k8,xk⟩:=gI.mark 8006 7006 rfl (by decide) N C a w kr
 have kL:=ah.IC 9000 (Aa bits room L nm am) (fun c=>c - 1000) (Ab dS cW dF dG k7 k8) ⟨rfl,rfl,rfl,rfl,rfl,rfl,trivial⟩ ⟨rfl,rfl,rfl,rfl,rfl,rfl,trivial⟩ rfl N C a w xk
 have rX:=ah.WH 1 114 8005 8006 7005 7006 k7 k8 rfl rfl rfl N C a w kL
 have AP:=ah.WG 0 7000 am rfl rfl N C a w rX
 have Yh:=ah.tie 9000 7000 am rfl rfl (by decide) N C a w AP
 exact⟨(dS,cW,dF,dG,k7,k8),Sat.sub Yh ⟨rfl,rfl,rfl,rfl,trivial⟩ ⟨rfl,rfl,rfl,rfl,rfl,rfl,rfl,rfl,rfl,rfl,trivial⟩⟩
theorem ah.OE (bits room:Int) (L:List aK) (c4:gK L) (nm:List UInt8) (d0:aK) (aE:dk L nm=some d0) (hp:d0.cE=none) (s:bE) (dS cW dF dG k7 k8:Nat) (x y:D) (r:Int):
  ah OC [(6,aC r)] (EJ bits room L nm d0.am s dS cW dF dG k7 k8 x y) [(6,aC r)] (lW bits room (lim L nm s none) nm++k6 x y):=by
 have fR:=c4.M (cA aE).1
 have bz:=EG nm s none L
 have cq:=EH nm s none L
 have aA:jc (gf L) d0.am (jd s)=gf (lim L nm s none):=EI (cE:=none) (im:=s) c4.jA c4.vk aE
 exact ah.trans (ah.WC 9000 7000 d0.am rfl rfl (by decide)) (ah.trans (ah.IF 9000 (Aa bits room L nm d0.am) (fun c=>c - 1000) (Ab dS cW dF dG k7 k8) rfl ⟨rfl,rfl,rfl,rfl,rfl,rfl,trivial⟩ rfl rfl (BX (Oy bits room L nm d0.am)))
  (ah.trans (ah.putAt 8004 7000 d0.am rfl rfl fR (by decide)) (ah.sub ⟨rfl,trivial⟩ ⟨rfl,congrArg (fun e=>some (bw.map .str .aY e)) bz.symm,congrArg (fun e=>some (bw.obj (.cM e))) cq.symm,congrArg (fun e=>some (bw.obj (.cM e))) aA,rfl,rfl,rfl,rfl,trivial⟩)))
theorem Yi (bits room:Int) (L:List aK) (c4:gK L) (nm:List UInt8) (d0:aK) (aE:dk L nm=some d0) (hp:d0.cE=none) (a:Int) (bs:List UInt8) (r:Int) (s':bE)
  (h: ∀ps:Nat→Nat,Fn Tryz.prog 91 [aH 1001,aC a,cI .u8 bs,nD (ps 8005) (ps 8006)] (fE d0.im (sM bits room L nm d0.am ps)) [] (aC r) (fE s' (sM bits room L nm d0.am ps))):
  Fn Tryz.prog 90 [kC d0.am,B8,aH 3001,aH 3002] (lW bits room L nm++k6 (.int .i64 a) (.cT .u8 bs)) [] (aC r) (lW bits room (lim L nm s' none) nm++k6 (.int .i64 a) (.cT .u8 bs)):=by
 have fR:jr (gf L) d0.am=some (jd d0.im):=by
  have:=c4.M (cA aE).1
  rwa[show kg d0=jd d0.im by unfold kg;rw[hp]] at this
 refine Fn.of ai [1] _ _ _ _ _ Tryz.func90 rfl rfl (by kernel_rfl) (by kernel_rfl) rfl (aJ ai) rfl ?_
 show av _ _ _ _ _ _ _
 refine av.le (ah.sub (K':=Ji d0.am) (B':=lW bits room L nm++k6 (.int .i64 a) (.cT .u8 bs)) ⟨rfl,rfl,rfl,rfl,trivial⟩ ⟨rfl,rfl,rfl,rfl,rfl,rfl,rfl,rfl,trivial⟩) ?_
 refine av.og (ah.OD bits room L nm d0.am d0.im fR _ _) fun p=>?_
 obtain⟨dS,cW,dF,dG,k7,k8⟩:=p
 refine av.go ai (aJ ai) [] (by kernel_rfl) (ah.refl _ _) ?_
 refine⟨_,_,_,_,Fn.ren [(1001,7000)] (OB (h (Ab dS cW dF dG k7 k8)) rfl rfl),⟨rfl,rfl,trivial⟩,rfl,?_⟩
 exact⟨_,_,_,ah.trans (ah.sub (K':=[(6,aC r)]) (B':=EJ bits room L nm d0.am s' dS cW dF dG k7 k8 (.int .i64 a) (.cT .u8 bs)) ⟨rfl,trivial⟩ ⟨rfl,rfl,rfl,rfl,rfl,rfl,rfl,rfl,rfl,rfl,trivial⟩) (ah.OE bits room L c4 nm d0 aE hp s' dS cW dF dG k7 k8 _ _ r),rfl,rfl,⟨rfl,rfl,rfl,rfl,rfl,rfl,rfl,rfl,trivial⟩,rfl⟩
theorem Yj (bits room:Int) (L:List aK) (c4:gK L) (nm:List UInt8) (d0:aK) (aE:dk L nm=some d0) (hp:d0.cE=none) (a l:Int) (r:Int) (s':bE)
  (h: ∀ps:Nat→Nat,Fn Tryz.prog 100 [aH 1001,aC a,aC l,nD (ps 8005) (ps 8006)] (fE d0.im (sM bits room L nm d0.am ps)) [] (aC r) (fE s' (sM bits room L nm d0.am ps))):
  Fn Tryz.prog 99 [kC d0.am,B8,aH 3001,aH 3002] (lW bits room L nm++k6 (.int .i64 a) (.int .i64 l)) [] (aC r) (lW bits room (lim L nm s' none) nm++k6 (.int .i64 a) (.int .i64 l)):=by
 have fR:jr (gf L) d0.am=some (jd d0.im):=by
  have:=c4.M (cA aE).1
  rwa[show kg d0=jd d0.im by unfold kg;rw[hp]] at this
 refine Fn.of ai [1] _ _ _ _ _ Tryz.func99 rfl rfl (by kernel_rfl) (by kernel_rfl) rfl (aJ ai) rfl ?_
 show av _ _ _ _ _ _ _
 refine av.le (ah.sub (K':=Ji d0.am) (B':=lW bits room L nm++k6 (.int .i64 a) (.int .i64 l)) ⟨rfl,rfl,rfl,rfl,trivial⟩ ⟨rfl,rfl,rfl,rfl,rfl,rfl,rfl,rfl,trivial⟩) ?_
 refine av.og (ah.OD bits room L nm d0.am d0.im fR _ _) fun p=>?_
 obtain⟨dS,cW,dF,dG,k7,k8⟩:=p
 refine av.go ai (aJ ai) [] (by kernel_rfl) (ah.refl _ _) ?_
 refine⟨_,_,_,_,Fn.ren [(1001,7000)] (OB (h (Ab dS cW dF dG k7 k8)) rfl rfl),⟨rfl,rfl,trivial⟩,rfl,?_⟩
 exact⟨_,_,_,ah.trans (ah.sub (K':=[(6,aC r)]) (B':=EJ bits room L nm d0.am s' dS cW dF dG k7 k8 (.int .i64 a) (.int .i64 l)) ⟨rfl,trivial⟩ ⟨rfl,rfl,rfl,rfl,rfl,rfl,rfl,rfl,rfl,rfl,trivial⟩) (ah.OE bits room L c4 nm d0 aE hp s' dS cW dF dG k7 k8 _ _ r),rfl,rfl,⟨rfl,rfl,rfl,rfl,rfl,rfl,rfl,rfl,trivial⟩,rfl⟩
theorem Yk (bits room:Int) (L:List aK) (c4:gK L) (nm:List UInt8) (d0:aK) (aE:dk L nm=some d0) (hp:d0.cE=none) (a l:Int) (r:Int) (s':bE)
  (h:Fn Tryz.prog 102 [aH 1001,aC a,aC l] (di d0.im) [] (aC r) (di s')):
  Fn Tryz.prog 101 [kC d0.am,B8,aH 3001,aH 3002] (lW bits room L nm++k6 (.int .i64 a) (.int .i64 l)) [] (aC r) (lW bits room (lim L nm s' none) nm++k6 (.int .i64 a) (.int .i64 l)):=by
 have fR:jr (gf L) d0.am=some (jd d0.im):=by
  have:=c4.M (cA aE).1
  rwa[show kg d0=jd d0.im by unfold kg;rw[hp]] at this
 have bz:=EG nm s' none L
 have cq:=EH nm s' none L
 have aA:jc (gf L) d0.am (jd s')=gf (lim L nm s' none):=EI (cE:=none) (im:=s') c4.jA c4.vk aE
 have hc:Fn Tryz.prog 102 [aH 1001,aC a,aC l] [(1001,.obj (jd d0.im))] [] (aC r) [(1001,.obj (jd s'))]:=Fn.close (bQ:=di d0.im) (jT:=di s') (aR:=[]) (bl:=[]) [1002,1003,1004] h (fun _ _ _ _ h=>h) (fun _ _ _ _ h=>h) rfl rfl
 have bp:=(gV.cM (c:=1001) (q:=8004) (b:=d0.am) (args:=[aC a,aC l]) (aR:=[]) (bA:=[]) (X:=Unit) (res:=fun _=>aC r) (bl:=fun _=>[]) (o:=jd d0.im) (o':=fun _=>jd s') (L:=gf L) hc.x fR rfl ⟨rfl,rfl⟩ rfl (fun _=>rfl)).fn
 refine Fn.of ai [] _ _ _ _ _ Tryz.func101 rfl rfl (by kernel_rfl) (by kernel_rfl) rfl (aJ ai) rfl ?_
 refine⟨_,_,_,_,bp,⟨rfl,trivial⟩,rfl,?_⟩
 exact⟨_,_,_,ah.refl _ _,rfl,rfl,⟨rfl,congrArg (fun e=>some (bw.map .str .aY e)) bz.symm,congrArg (fun e=>some (bw.obj (.cM e))) cq.symm,congrArg (fun e=>some (bw.obj (.cM e))) aA,rfl,rfl,rfl,rfl,trivial⟩,rfl⟩
theorem Jj (bits room:Int) (L eE:List aK) (c4:gK L) (nm:List UInt8) (d0:aK) (aE:dk L nm=some d0) (f:Nat) (r:Int) (x y:D)
  (hf:Fn Tryz.prog f [kC d0.am,B8,aH 3001,aH 3002] (lW bits room L nm++k6 x y) [] (aC r) (lW bits room eE nm++k6 x y)):
  Fn Tryz.prog 89 [aH 1001,bG nm,.c (.one (.eM f [.p 3001 0,.p 3002 0]))] (bM bits room L++k6 x y) [] (aC r) (bM bits room eE++k6 x y):=by
 obtain⟨sI,iU,iV⟩:=nC wD
 have cG:=c4.D (cA aE).1
 have hx:(ct (aN:=.str) (aP:=.aY) (cl L) nm).getD (dflt .aY)=some d0.ad:=by rw[iK,aE];rfl
 refine Fn.of ai [2] _ _ _ _ _ Tryz.func89 rfl rfl (by kernel_rfl) (by kernel_rfl) rfl (aJ ai) rfl ?_
 refine⟨rfl,?_⟩
 refine⟨rfl,?_⟩
 refine⟨rfl,?_⟩
 show av _ _ _ _ _ _ _
 refine av.go ai (aJ ai) [] (by kernel_rfl) (ah.refl _ _) ?_
 refine⟨fun e5 ag=>?_,fun ag=>absurd (show(ct (aN:=.str) (aP:=.aY) (cl L) nm).getD (dflt .aY)=none from ag) (by rw[hx];intro h;cases h)⟩
 refine⟨_,_,fun N=>ov (b:=d0.ad) rfl (by exact o6 hx) N,rfl,?_⟩
 refine⟨_,_,fun N=>ow rfl Tryz.underlying130 rfl rfl iU (by rw[iV];decide) rfl N,rfl,?_⟩
 refine⟨_,_,fun N=>p4 (q:=1003) rfl Tryz.underlying49 rfl rfl rfl cG rfl N,rfl,?_⟩
 refine⟨_,_,_,_,Fn.ren [(8001,1001),(8002,1002),(8003,1003),(8004,1004),(8005,3),(8006,4)] hf,⟨rfl,rfl,rfl,rfl,rfl,rfl,rfl,rfl,trivial⟩,rfl,?_⟩
 exact⟨_,_,_,ah.refl _ _,rfl,rfl,⟨rfl,rfl,rfl,rfl,rfl,rfl,trivial⟩,rfl⟩
theorem OG (bits room:Int) (L eE:List aK) (nm:List UInt8) (a:Int) (bs:List UInt8) (r:Int)
  (h:Fn Tryz.prog 89 [aH 1001,bG nm,.c (.one (.eM 90 [.p 3001 0,.p 3002 0]))] (bM bits room L++k6 (.int .i64 a) (.cT .u8 bs)) [] (aC r) (bM bits room eE++k6 (.int .i64 a) (.cT .u8 bs))):
  Fn Tryz.prog 50 [aH 1001,bG nm,aC a,cI .u8 bs] (bM bits room L) [] (aC r) (bM bits room eE):=by
 refine Fn.of ai [] _ _ _ _ _ Tryz.func50 rfl rfl (by kernel_rfl) (by kernel_rfl) rfl (aJ ai) rfl ?_
 refine⟨rfl,?_⟩
 refine⟨rfl,?_⟩
 refine⟨_,_,_,_,Fn.ren [(3001,6),(3002,7)] h,⟨rfl,rfl,rfl,rfl,rfl,rfl,trivial⟩,rfl,?_⟩
 exact⟨_,_,_,ah.refl _ _,rfl,rfl,⟨rfl,rfl,rfl,rfl,trivial⟩,rfl⟩
theorem OH (bits room:Int) (L eE:List aK) (nm:List UInt8) (a l:Int) (r:Int)
  (h:Fn Tryz.prog 89 [aH 1001,bG nm,.c (.one (.eM 99 [.p 3001 0,.p 3002 0]))] (bM bits room L++k6 (.int .i64 a) (.int .i64 l)) [] (aC r) (bM bits room eE++k6 (.int .i64 a) (.int .i64 l))):
  Fn Tryz.prog 59 [aH 1001,bG nm,aC a,aC l] (bM bits room L) [] (aC r) (bM bits room eE):=by
 refine Fn.of ai [] _ _ _ _ _ Tryz.func59 rfl rfl (by kernel_rfl) (by kernel_rfl) rfl (aJ ai) rfl ?_
 refine⟨rfl,?_⟩
 refine⟨rfl,?_⟩
 refine⟨_,_,_,_,Fn.ren [(3001,6),(3002,7)] h,⟨rfl,rfl,rfl,rfl,rfl,rfl,trivial⟩,rfl,?_⟩
 exact⟨_,_,_,ah.refl _ _,rfl,rfl,⟨rfl,rfl,rfl,rfl,trivial⟩,rfl⟩
theorem OI (bits room:Int) (L eE:List aK) (nm:List UInt8) (a l:Int) (r:Int)
  (h:Fn Tryz.prog 89 [aH 1001,bG nm,.c (.one (.eM 101 [.p 3001 0,.p 3002 0]))] (bM bits room L++k6 (.int .i64 a) (.int .i64 l)) [] (aC r) (bM bits room eE++k6 (.int .i64 a) (.int .i64 l))):
  Fn Tryz.prog 60 [aH 1001,bG nm,aC a,aC l] (bM bits room L) [] (aC r) (bM bits room eE):=by
 refine Fn.of ai [] _ _ _ _ _ Tryz.func60 rfl rfl (by kernel_rfl) (by kernel_rfl) rfl (aJ ai) rfl ?_
 refine⟨rfl,?_⟩
 refine⟨rfl,?_⟩
 refine⟨_,_,_,_,Fn.ren [(3001,6),(3002,7)] h,⟨rfl,rfl,rfl,rfl,rfl,rfl,trivial⟩,rfl,?_⟩
 exact⟨_,_,_,ah.refl _ _,rfl,rfl,⟨rfl,rfl,rfl,rfl,trivial⟩,rfl⟩
theorem Fn.res {P:Program} {f:FuncId} {args:List aO} {aR:aG} {bA:List Nat} {res res':aO} {bl:aG} (h:Fn P f args aR bA res bl) (aB:s4 res res'):Fn P f args aR bA res' bl:=
 ⟨h.1,fun ρ F I w bW cj cu a3 a4 a5 g5=>(h.2 ρ F I w bW cj cu a3 a4 a5 g5).mono fun e w' ⟨x,ρ',F',r1,r2,gv,I',mU,nB,oh,mV,om,pU⟩=>⟨x,ρ',F',r1,r2,gv,I',mU,nB,oh,mV,om,xC aB pU⟩⟩
theorem gV.to {P:Program} {f:FuncId} {args:List aO} {aR:aG} {bA:List Nat} {X Y:Type} {res:X→aO} {bl:X→aG} {res':Y→aO} {yd:Y→aG} (h:gV P f args aR bA res bl) (g:X→Y) (aa: ∀x,res x=res' (g x)) (af: ∀x,bl x=yd (g x)):gV P f args aR bA res' yd:=
 ⟨h.1,fun ρ F I w bW cj cu a3 a4 a5 g5=>(h.2 ρ F I w bW cj cu a3 a4 a5 g5).mono fun e w' ⟨y,x,ρ',F',r1,r2,gv,I',mU,nB,oh,mV,om,pU⟩=>by
  rw[af] at oh mV om
  rw[aa] at pU
  exact⟨g y,x,ρ',F',r1,r2,gv,I',mU,nB,oh,mV,om,pU⟩⟩
def Ac (L:List aK):Nat→List UInt8→Nat
 |0,_=>0
 |f+1,nm=>match dk L nm with
  |none=>0
  |some d=>if d.back=[] then 0 else Ac L f d.back+1
def c7 (L:List aK) (nm:List UInt8):Nat:=Ac L 100 nm
theorem Yl {L:List aK} {nm:List UInt8} {k:Nat} (h:ew L nm k): ∀f,k≤f→Ac L f nm=k:=by
 induction h with
 |gone h=>
  intro f _
  cases f with
  |zero=>rfl
  |succ f=>unfold Ac;rw[h]
 |base aa af=>
  intro f _
  cases f with
  |zero=>rfl
  |succ f=>unfold Ac;rw[aa];simp only;rw[if_pos af]
 |step aa af _ aZ=>
  intro f hf
  cases f with
  |zero=>omega
  |succ f=>unfold Ac;rw[aa];simp only;rw[if_neg af,aZ f (by omega)]
theorem Jk {L:List aK} {nm:List UInt8} {k:Nat} (h:ew L nm k) (aq:k≤100):c7 L nm=k:=Yl h 100 aq
structure bX (bits room:Nat) (L:List aK):Prop extends nF bits room L where
 tT:I9 L
 yu: ∀d,d∈L→iL d.nm=true
theorem EK {s:List UInt8} (h:iL s=true):1≤s.length∧s.length≤15:=by
 unfold iL at h
 simp only[Bool.and_eq_true] at h
 exact⟨of_decide_eq_true h.1.1,of_decide_eq_true h.1.2⟩
section
variable {bits room:Nat} {L:List aK}
theorem bX.EL (h:bX bits room L): ∀d,d∈L→d.nm.length≤100000:=fun d hd=>by
 have:=EK (h.yu d hd)
 omega
theorem bX.dep (h:bX bits room L) (nm:List UInt8):ew L nm (c7 L nm)∧c7 L nm≤8:=by
 cases e:dk L nm with
 |none=>
  have:=ew.gone e
  rw[Jk this (by omega)]
  exact⟨this,by omega⟩
 |some d=>
  obtain⟨k,aq,hd⟩:=h.z2 d (cA e).1
  rw[(cA e).2] at hd
  rw[Jk hd (by omega)]
  exact⟨hd,aq⟩
theorem bX.nil (aa:bits≤3) (af:room≤512):bX bits room []:=
 ⟨⟨⟨List.nodup_nil,List.nodup_nil,List.nodup_nil⟩,aa,af,Nat.zero_le _,(fun _ h=>by cases h),(fun _ h=>by cases h),(fun _ h=>by cases h),(fun _ h=>by cases h)⟩,(fun _ h=>by cases h),(fun _ h=>by cases h)⟩
theorem Ad: ∀{L:List aK},(L.map (·.nm)).Nodup→ ∀{d:aK},d∈L→dk L d.nm=some d
 | [],_,d,h=>by cases h
 |e::L,hn,d,h=>by
  rw[List.map_cons] at hn
  obtain⟨ee,eO⟩:=List.nodup_cons.1 hn
  rw[oA]
  rcases List.mem_cons.1 h with rfl |h
  ·rw[if_pos rfl]
  ·rw[if_neg fun x=>ee (by rw[x];exact List.mem_map_of_mem (f:=fun d:aK=>d.nm) h),Ad eO h]
theorem Ae (hn:(L.map (·.nm)).Nodup) {nm:List UInt8} {d:aK} (h:dk L nm=some d) (hp:d.cE=none):lim L nm d.im none=L:=by
 unfold lim
 refine(List.map_congr_left fun e he=>?_).trans (List.map_id' L)
 unfold hO
 split
 ·rename_i c
  have:=Ad hn he
  rw[c,h] at this
  injection this with this
  subst this
  rw[←hp]
 ·rfl
theorem bX.lim (h:bX bits room L) {nm:List UInt8} {d0:aK} (aE:dk L nm=some d0) {im:bE} (hs:ju d0.im im):bX bits room (lim L nm im none):=by
 refine⟨h.tonF.lim aE hs none,fun d hd=>?_,fun d hd=>?_⟩
 ·obtain⟨e,he,rfl⟩:=List.mem_map.1 hd
  unfold hO
  split
  ·rfl
  ·exact h.tT e he
 ·obtain⟨e,he,rfl⟩:=List.mem_map.1 hd
  rw[z8]
  exact h.yu e he
end
structure iW where
 e:Int
 L:List aK
def jh (bits:Nat) (L:List aK) (nm:List UInt8) (a:Int) (bs:List UInt8):iW:=match dk L nm with
 |none=>⟨140,L⟩
 |some d=>if bs.length % 16≠0 then⟨1,L⟩ else if dK d.im a ((bs.length/16:Nat):Int)≠0 then⟨dK d.im a ((bs.length/16:Nat):Int),L⟩ else
  ⟨BV d.im a.toNat (bs.length/16),lim L nm (ya d.im a.toNat (bs.length/16) bs (mE bits L nm (c7 L nm))) none⟩
def ji (bits:Nat) (L:List aK) (nm:List UInt8) (a l:Int):iW:=match dk L nm with
 |none=>⟨140,L⟩
 |some d=>if dK d.im a l≠0 then⟨dK d.im a l,L⟩ else
  ⟨yb d.im a.toNat l.toNat,lim L nm (ve d.im a.toNat l.toNat (mE bits L nm (c7 L nm))) none⟩
def mF (L:List aK) (nm:List UInt8) (a l:Int):iW:=match dk L nm with
 |none=>⟨140,L⟩
 |some d=>if dK d.im a l≠0 then⟨dK d.im a l,L⟩ else⟨0,lim L nm (Iv d.im a.toNat l.toNat) none⟩
theorem rN {s:bE} {a l:Int} (h:dK s a l=0):a=((a.toNat:Nat):Int)∧l=((l.toNat:Nat):Int):=by
 unfold dK at h
 split at h
 ·cases h
 ·split at h
  ·cases h
  ·omega
section
variable {bits room:Nat} {L:List aK}
theorem Jl (h:bX bits room L) (nm:List UInt8) (a:Int) (bs:List UInt8):bX bits room (jh bits L nm a bs).L:=by
 unfold jh
 cases aE:dk L nm with
 |none=>exact h
 |some d=>
  simp only
  split
  ·exact h
  ·rename_i aa
   split
   ·exact h
   ·rename_i af
    have af:dK d.im a ((bs.length/16:Nat):Int)=0:=Decidable.byContradiction af
    have e:=(rN af).1
    rw[e] at af
    exact h.lim aE (NP (h.hM d (cA aE).1).1 (by omega) af _)
theorem OJ (h:bX bits room L) (nm:List UInt8) (a l:Int):bX bits room (ji bits L nm a l).L:=by
 unfold ji
 cases aE:dk L nm with
 |none=>exact h
 |some d=>
  simp only
  split
  ·exact h
  ·rename_i af
   have af:dK d.im a l=0:=Decidable.byContradiction af
   obtain⟨aj,ak⟩:=rN af
   rw[aj,ak] at af
   exact h.lim aE (NS (h.hM d (cA aE).1).1 af _)
theorem EM (h:bX bits room L) (nm:List UInt8) (a l:Int):bX bits room (mF L nm a l).L:=by
 unfold mF
 cases aE:dk L nm with
 |none=>exact h
 |some d=>
  simp only
  split
  ·exact h
  ·rename_i af
   have af:dK d.im a l=0:=Decidable.byContradiction af
   obtain⟨aj,ak⟩:=rN af
   rw[aj,ak] at af
   exact h.lim aE (zU (h.hM d (cA aE).1).1 (rL af) _ (Nat.le_refl _)).eD
theorem OK (h:bX bits room L) {nm:List UInt8} {d0:aK} (aE:dk L nm=some d0) (ps:Nat→Nat):It d0.im (sM bits room L nm d0.am ps) (ps 8005) (ps 8006) (mE bits L nm (c7 L nm)):=fun s' hs c hc aS=>by
 have hd:=h.dep nm
 exact Yd bits room L h.tonF nm d0 aE (c7 L nm) hd.1 (by omega) s' hs ps c hc aS
theorem EN (h:bX bits room L) (nm:List UInt8) (a:Int) (bs:List UInt8) (e6:bs.length≤1000000000):
  Fn Tryz.prog 50 [aH 1001,bG nm,aC a,cI .u8 bs] (bM bits room L) [] (aC (jh bits L nm a bs).e) (bM bits room (jh bits L nm a bs).L):=by
 unfold jh
 cases aE:dk L nm with
 |none=>exact OG bits room L L nm a bs 140 (Jd bits room L nm aE _ _ _)
 |some d=>
  have hp:=h.tT d (cA aE).1
  have az:=(h.hM d (cA aE).1).1
  have key: ∀(r:Int) (s':bE),(∀ps:Nat→Nat,Fn Tryz.prog 91 [aH 1001,aC a,cI .u8 bs,nD (ps 8005) (ps 8006)] (fE d.im (sM bits room L nm d.am ps)) [] (aC r) (fE s' (sM bits room L nm d.am ps)))→
    Fn Tryz.prog 50 [aH 1001,bG nm,aC a,cI .u8 bs] (bM bits room L) [] (aC r) (bM bits room (lim L nm s' none)):=fun r s' aD=>
   OG bits room L _ nm a bs r (Jj bits room L _ h.togK nm d aE _ r _ _ (Yi bits room L h.togK nm d aE hp a bs r s' aD))
  simp only
  split
  ·rename_i aa
   have:=key 1 d.im fun ps=>V4 d.im _ _ _ a bs aa e6
   rwa[Ae h.jA aE hp] at this
  ·rename_i aa
   have aa:bs.length=16*(bs.length/16):=by omega
   split
   ·rename_i af
    have:=key _ d.im fun ps=>V5 d.im _ _ _ az a _ bs aa (by omega) af
    rwa[Ae h.jA aE hp] at this
   ·rename_i af
    have af:dK d.im a ((bs.length/16:Nat):Int)=0:=Decidable.byContradiction af
    have e:=(rN af).1
    have ay:=af
    rw[e] at ay
    refine key _ _ fun ps=>?_
    have:=Wi d.im _ _ _ az a.toNat _ bs aa ay _ (OK h aE ps)
    rwa[←e] at this
theorem Jm (h:bX bits room L) (nm:List UInt8) (a l:Int):
  Fn Tryz.prog 59 [aH 1001,bG nm,aC a,aC l] (bM bits room L) [] (aC (ji bits L nm a l).e) (bM bits room (ji bits L nm a l).L):=by
 unfold ji
 cases aE:dk L nm with
 |none=>exact OH bits room L L nm a l 140 (Jd bits room L nm aE _ _ _)
 |some d=>
  have hp:=h.tT d (cA aE).1
  have az:=(h.hM d (cA aE).1).1
  have key: ∀(r:Int) (s':bE),(∀ps:Nat→Nat,Fn Tryz.prog 100 [aH 1001,aC a,aC l,nD (ps 8005) (ps 8006)] (fE d.im (sM bits room L nm d.am ps)) [] (aC r) (fE s' (sM bits room L nm d.am ps)))→
    Fn Tryz.prog 59 [aH 1001,bG nm,aC a,aC l] (bM bits room L) [] (aC r) (bM bits room (lim L nm s' none)):=fun r s' aD=>
   OH bits room L _ nm a l r (Jj bits room L _ h.togK nm d aE _ r _ _ (Yj bits room L h.togK nm d aE hp a l r s' aD))
  simp only
  split
  ·rename_i af
   have:=key _ d.im fun ps=>Wm d.im _ _ _ az a l af
   rwa[Ae h.jA aE hp] at this
  ·rename_i af
   have af:dK d.im a l=0:=Decidable.byContradiction af
   obtain⟨aj,ak⟩:=rN af
   have ay:=af
   rw[aj,ak] at ay
   refine key _ _ fun ps=>?_
   have:=Wl d.im _ _ _ az a.toNat l.toNat ay _ (OK h aE ps)
   rwa[←aj,←ak] at this
theorem OL (h:bX bits room L) (nm:List UInt8) (a l:Int):
  Fn Tryz.prog 60 [aH 1001,bG nm,aC a,aC l] (bM bits room L) [] (aC (mF L nm a l).e) (bM bits room (mF L nm a l).L):=by
 unfold mF
 cases aE:dk L nm with
 |none=>exact OI bits room L L nm a l 140 (Jd bits room L nm aE _ _ _)
 |some d=>
  have hp:=h.tT d (cA aE).1
  have az:=(h.hM d (cA aE).1).1
  have key: ∀(r:Int) (s':bE),Fn Tryz.prog 102 [aH 1001,aC a,aC l] (di d.im) [] (aC r) (di s')→
    Fn Tryz.prog 60 [aH 1001,bG nm,aC a,aC l] (bM bits room L) [] (aC r) (bM bits room (lim L nm s' none)):=fun r s' aD=>
   OI bits room L _ nm a l r (Jj bits room L _ h.togK nm d aE _ r _ _ (Yk bits room L h.togK nm d aE hp a l r s' aD))
  simp only
  split
  ·rename_i af
   have:=key _ d.im (V7 d.im az a l af)
   rwa[Ae h.jA aE hp] at this
  ·rename_i af
   have af:dK d.im a l=0:=Decidable.byContradiction af
   obtain⟨aj,ak⟩:=rN af
   have ay:=af
   rw[aj,ak] at ay
   have:=Wj d.im az a.toNat l.toNat ay
   rw[←aj,←ak] at this
   exact key _ _ this
def tU (bits:Nat) (L:List aK) (nm:List UInt8) (a l:Int):List UInt8×Int:=match dk L nm with
 |none=>([],140)
 |some d=>if dK d.im a l=0 then(fS bits L nm (c7 L nm) a.toNat l.toNat,0) else([],dK d.im a l)
theorem OM (h:bX bits room L) (nm:List UInt8) (a l:Int):
  Fn Tryz.prog 51 [aH 1001,bG nm,aC a,aC l] (bM bits room L) [] (.c6 [.one (.d (.cT .u8 (tU bits L nm a l).1)),fh (tU bits L nm a l).2]) (bM bits room L):=by
 unfold tU
 cases aE:dk L nm with
 |none=>exact(Xc bits room L nm aE a l).res ⟨rfl,rfl,trivial⟩
 |some d=>
  simp only
  split
  ·rename_i af
   obtain⟨aj,ak⟩:=rN af
   have ay:=af
   rw[aj,ak] at ay
   have hd:=h.dep nm
   have:=Xb bits room L h.tonF nm d aE (c7 L nm) hd.1 (by omega) a.toNat l.toNat ay
   rwa[←aj,←ak] at this
  ·rename_i af
   exact(Xd bits room L h.tonF nm d aE a l af).res ⟨rfl,rfl,trivial⟩
def fu (L:List aK) (nm:List UInt8):List UInt8×Int:=match dk L nm with
 |none=>([],140)
 |some d=>(d.back,0)
theorem ON (h:bX bits room L) (nm:List UInt8):Fn Tryz.prog 66 [aH 1001,bG nm] (bM bits room L) [] (.c6 [.one (.d (.str (fu L nm).1)),fh (fu L nm).2]) (bM bits room L):=by
 unfold fu
 cases aE:dk L nm with
 |none=>exact WO bits room L nm aE
 |some d=>exact WN bits room L h.togK nm d aE
theorem OO (h:bX bits room L) (nm:List UInt8):Fn Tryz.prog 68 [aH 1001,bG nm] (bM bits room L) [] (cI .str (jE L nm)) (bM bits room L):=I3 bits room L h.togK h.EL (by have:=h.len;omega) nm
def nH (bits room:Nat) (L:List aK) (nm:List UInt8) (size:Int) (back:List UInt8) (p:Nat×Nat):iW:=
 if(iL nm&&jf bits size room)=false then⟨1,L⟩ else if(dk L nm).isSome=true∨16≤L.length then⟨143,L⟩ else if(decide (back=[])||(dk L back).isSome)=false then⟨140,L⟩
 else if back≠[]∧8 < c7 L back+1 then⟨142,L⟩ else⟨0,o8 L nm back p.1 p.2 (iz bits size.toNat room)⟩
theorem Ym (L M:List aK) (nm:List UInt8):dk (L++M) nm=(dk L nm).or (dk M nm):=by
 unfold dk
 rw[List.find?_append]
theorem Jn {nm back:List UInt8} {ad am:Nat} {im:bE} (n:List UInt8):dk (o8 L nm back ad am im) n=(dk L n).or (if nm=n then some ⟨nm,back,ad,am,im,none⟩ else none):=by
 show dk (L++_) n=_
 rw[Ym,oA]
 rfl
theorem Yn {eE:List aK} (aq: ∀n d,dk L n=some d→ ∃d',dk eE n=some d'∧d'.back=d.back) (iA: ∀d,d∈L→d.back≠[]→ ∃e,dk L d.back=some e) {n:List UInt8} {k:Nat} (h:ew L n k):(∃d,dk L n=some d)→ew eE n k:=by
 induction h with
 |gone h=>rintro⟨d,hd⟩;rw[h] at hd;cases hd
 |base aa af=>
  intro _
  obtain⟨d',aj,ak⟩:=aq _ _ aa
  exact .base aj (by rw[ak];exact af)
 |step aa af ay aZ=>
  intro _
  obtain⟨d',aj,ak⟩:=aq _ _ aa
  exact .step aj (by rw[ak];exact af) (by rw[ak];exact aZ (iA _ (cA aa).1 af))
theorem EO {bits size room:Int} (h:jf bits size room=true):(0≤size∧size≤256)∧(0≤room∧room≤512)∧0≤bits∧bits≤3:=by
 unfold jf at h
 simp only[Bool.and_eq_true,decide_eq_true_eq] at h
 omega
theorem bX.add (h:bX bits room L) {nm back:List UInt8} {size ad am:Nat} (c4:gK (o8 L nm back ad am (iz bits size room))) (hs:size≤256) (hn:iL nm=true) (aE:dk L nm=none) (m0:L.length < 16) (ag:back=[]∨(dk L back).isSome=true∧c7 L back+1≤8):bX bits room (o8 L nm back ad am (iz bits size room)):=by
 have tV: ∀n d,dk L n=some d→dk (o8 L nm back ad am (iz bits size room)) n=some d:=fun n d hd=>by rw[Jn,hd];rfl
 have B9:dk (o8 L nm back ad am (iz bits size room)) nm=some ⟨nm,back,ad,am,iz bits size room,none⟩:=by rw[Jn,aE,if_pos rfl];rfl
 have pQ: ∀d,d∈o8 L nm back ad am (iz bits size room)→d∈L∨d=⟨nm,back,ad,am,iz bits size room,none⟩:=fun d hd=>by
  rcases List.mem_append.1 hd with hd |hd
  ·exact .inl hd
  ·exact .inr (List.mem_singleton.1 hd)
 have hold: ∀n k,(∃d,dk L n=some d)→ew L n k→ew (o8 L nm back ad am (iz bits size room)) n k:=fun n k hd aq=>Yn (fun n d hd=>⟨d,tV n d hd,rfl⟩) h.jD aq hd
 refine⟨⟨c4,h.b3,h.vo,by rw[List.length_append];exact m0,fun d hd=>?_,fun d hd pP=>?_,fun d hd=>?_,fun d hd=>?_⟩,fun d hd=>?_,fun d hd=>?_⟩
 ·rcases pQ d hd with hd |rfl
  ·exact h.hM d hd
  ·exact⟨NT h.b3 hs h.vo,rfl,List.length_replicate ..⟩
 ·rcases pQ d hd with hd |rfl
  ·obtain⟨e,he⟩:=h.jD d hd pP
   exact⟨e,tV _ _ he⟩
  ·rcases ag with ag |⟨ag,_⟩
   ·exact absurd ag pP
   ·obtain⟨e,he⟩:=Option.isSome_iff_exists.1 ag
    exact⟨e,tV _ _ he⟩
 ·rcases pQ d hd with hd |rfl
  ·exact h.ne d hd
  ·intro e
   have:=(EK hn).1
   have e:nm=[]:=e
   rw[e] at this
   exact absurd this (by decide)
 ·rcases pQ d hd with hd |rfl
  ·obtain⟨k,aq,Jo⟩:=h.z2 d hd
   exact⟨k,aq,hold _ _ ⟨d,Ad h.jA hd⟩ Jo⟩
  ·by_cases Jp:back=[]
   ·exact⟨0,Nat.zero_le _,.base B9 Jp⟩
   ·rcases ag with ag |⟨ag,Yo⟩
    ·exact absurd ag Jp
    ·exact⟨c7 L back+1,Yo,.step B9 Jp (hold _ _ (Option.isSome_iff_exists.1 ag) (h.dep back).1)⟩
 ·rcases pQ d hd with hd |rfl
  ·exact h.tT d hd
  ·rfl
 ·rcases pQ d hd with hd |rfl
  ·exact h.yu d hd
  ·exact hn
theorem Jq (h:bX bits room L) (nm:List UInt8) (size:Int) (back:List UInt8) (aB:nm.length≤4294967296):
  gV Tryz.prog 49 [aH 1001,bG nm,aC size,bG back] (bM bits room L) [] (X:={p:Nat×Nat//bX bits room (nH bits room L nm size back p).L}) (fun p=>aC (nH bits room L nm size back p.1).e) (fun p=>bM bits room (nH bits room L nm size back p.1).L):=by
 have err: ∀e:Int,(∀p,nH bits room L nm size back p=⟨e,L⟩)→Fn Tryz.prog 49 [aH 1001,bG nm,aC size,bG back] (bM bits room L) [] (aC e) (bM bits room L)→
   gV Tryz.prog 49 [aH 1001,bG nm,aC size,bG back] (bM bits room L) [] (X:={p:Nat×Nat//bX bits room (nH bits room L nm size back p).L}) (fun p=>aC (nH bits room L nm size back p.1).e) (fun p=>bM bits room (nH bits room L nm size back p.1).L):=fun e he hf=>
  hf.x.to (fun _=>⟨(0,0),by rw[he];exact h⟩) (fun _=>by rw[he]) (fun _=>by rw[he])
 by_cases aa:(iL nm&&jf bits size room)=false
 ·exact err 1 (fun p=>if_pos aa) (XI bits room size L nm back aB aa)
 have td:iL nm=true∧jf bits size room=true:=by
  rw[Bool.not_eq_false,Bool.and_eq_true] at aa
  exact aa
 obtain⟨⟨s0,s1⟩,_⟩:=EO td.2
 obtain⟨sn,rfl⟩: ∃n:Nat,size=(n:Int):=⟨size.toNat,by omega⟩
 have hs:sn≤256:=by omega
 by_cases af:(dk L nm).isSome=true∨16≤L.length
 ·exact err 143 (fun p=>(if_neg aa).trans (if_pos af)) (XJ bits sn room h.b3 hs h.vo L nm back aB td.1 af)
 have aE:dk L nm=none:=by
  cases e:dk L nm with
  |none=>rfl
  |some d=>exact absurd (.inl (by rw[e];rfl)) af
 have m0:L.length < 16:=by
  rcases Nat.lt_or_ge L.length 16 with bZ |bZ
  ·exact bZ
  ·exact absurd (.inr bZ) af
 by_cases ay:(decide (back=[])||(dk L back).isSome)=false
 ·exact err 140 (fun p=>(if_neg aa).trans ((if_neg af).trans (if_pos ay))) (XK bits sn room h.b3 hs h.vo L nm back aB td.1 aE m0 ay)
 have hd:=h.dep back
 by_cases bu:back≠[]∧8 < c7 L back+1
 ·have ag:(dk L back).isSome=true:=by
   rw[Bool.not_eq_false,Bool.or_eq_true] at ay
   exact ay.resolve_left fun e=>bu.1 (of_decide_eq_true e)
  exact err 142 (fun p=>(if_neg aa).trans ((if_neg af).trans ((if_neg ay).trans (if_pos bu)))) (XL bits sn room h.b3 hs h.vo L h.togK nm back aB td.1 aE m0 bu.1 ag _ hd.1 (by omega) bu.2)
 have ag:back=[]∨(dk L back).isSome=true∧c7 L back+1≤8:=by
  by_cases e:back=[]
  ·exact .inl e
  ·rw[Bool.not_eq_false,Bool.or_eq_true] at ay
   have kL: ¬8 < c7 L back+1:=fun x=>bu ⟨e,x⟩
   exact .inr ⟨ay.resolve_left fun x=>e (of_decide_eq_true x),by omega⟩
 have bz: ∀p,nH bits room L nm (sn:Int) back p=⟨0,o8 L nm back p.1 p.2 (iz bits sn room)⟩:=fun p=>(if_neg aa).trans ((if_neg af).trans ((if_neg ay).trans (if_neg bu)))
 exact(XF bits sn room h.b3 hs h.vo L h.togK h.tT nm back aB td.1 aE m0 (c7 L back) (ag.imp id fun x=>⟨x.1,hd.1,x.2⟩)).to (fun p=>⟨p.1,by rw[bz];exact h.add p.2 hs td.1 aE m0 ag⟩) (fun p=>by rw[bz]) (fun p=>by rw[bz])
def sN (L:List aK) (nm:List UInt8):iW:=match dk L nm with
 |none=>⟨140,L⟩
 |some _=>if jE L nm=[] then⟨0,jX L nm⟩ else⟨143,L⟩
theorem Ca {nm n:List UInt8} (bg:n≠nm): ∀L:List aK,dk (jX L nm) n=dk L n
 | []=>rfl
 |d::L=>by
  unfold jX
  by_cases c:d.nm=nm
  ·rw[if_pos c,oA,if_neg fun e=>bg (e.symm.trans c)]
  ·rw[if_neg c,oA,oA,Ca bg L]
theorem Yp (h:bX bits room L) {nm:List UInt8} (bg:nm≠[]) {d:aK} (hd:d∈L):d.nm∈jE L nm↔d.back=nm:=by
 unfold jE
 rw[List.mem_filter]
 have hm:d.nm∈iB L:=by
  unfold iB tS
  rw[List.mem_mergeSort,wE]
  exact List.mem_map_of_mem hd
 unfold kE
 rw[Ad h.jA hd,decide_eq_false bg]
 simp[hm]
theorem bX.del (h:bX bits room L) {nm:List UInt8} {d0:aK} (aE:dk L nm=some d0) (hu:jE L nm=[]):bX bits room (jX L nm):=by
 have qq:nm≠[]:=by rw[←(cA aE).2];exact h.ne d0 (cA aE).1
 have gR: ∀d,d∈L→d.back≠nm:=fun d hd e=>by
  have:=(Yp h qq hd).2 e
  rw[hu] at this
  cases this
 have tV: ∀d,d∈L→d.back≠[]→dk (jX L nm) d.back=dk L d.back:=fun d hd _=>Ca (gR d hd) L
 have c4:=h.togK.del nm
 have tE: ∀d,d∈jX L nm→d.nm≠nm:=fun d hd e=>by
  have key: ∀{M:List aK},(M.map (·.nm)).Nodup→d∈jX M nm→d.nm=nm→(∃e,dk M nm=some e)→False:=by
   intro M
   induction M with
   |nil=>intro _ hd _ _;cases hd
   |cons x M aZ=>
    intro hn hd e hx
    rw[List.map_cons] at hn
    obtain⟨ee,eO⟩:=List.nodup_cons.1 hn
    unfold jX at hd
    by_cases c:x.nm=nm
    ·rw[if_pos c] at hd
     exact ee (by rw[c,←e];exact List.mem_map_of_mem (f:=fun d:aK=>d.nm) hd)
    ·rw[if_neg c] at hd
     rcases List.mem_cons.1 hd with rfl |hd
     ·exact c e
     ·refine aZ eO hd e ?_
      obtain⟨y,aF⟩:=hx
      rw[oA,if_neg c] at aF
      exact⟨y,aF⟩
  exact key h.jA hd e ⟨d0,aE⟩
 have Jo: ∀{n:List UInt8} {k:Nat},ew L n k→n≠nm→(∃d,dk L n=some d)→ew (jX L nm) n k:=by
  intro n k bZ
  induction bZ with
  |gone bk=>rintro _ ⟨d,hd⟩;rw[bk] at hd;cases hd
  |base aa af=>intro bg _;exact .base (by rw[Ca bg];exact aa) af
  |step aa af ay aZ=>intro bg _;exact .step (by rw[Ca bg];exact aa) af (aZ (gR _ (cA aa).1) (h.jD _ (cA aa).1 af))
 refine⟨⟨c4,h.b3,h.vo,Nat.le_trans (Ey L nm).length_le h.len,fun d hd=>h.hM d (wF hd),fun d hd ag=>?_,fun d hd=>h.ne d (wF hd),fun d hd=>?_⟩,fun d hd=>h.tT d (wF hd),fun d hd=>h.yu d (wF hd)⟩
 ·rw[tV d (wF hd) ag]
  exact h.jD d (wF hd) ag
 ·obtain⟨k,aq,bZ⟩:=h.z2 d (wF hd)
  exact⟨k,aq,Jo bZ (tE d hd) ⟨d,Ad h.jA (wF hd)⟩⟩
theorem OP (h:bX bits room L) (nm:List UInt8):bX bits room (sN L nm).L:=by
 unfold sN
 cases aE:dk L nm with
 |none=>exact h
 |some d=>
  simp only
  split
  ·rename_i hu
   exact h.del aE hu
  ·exact h
theorem Yq (h:bX bits room L) (nm:List UInt8):Fn Tryz.prog 52 [aH 1001,bG nm] (bM bits room L) [] (aC (sN L nm).e) (bM bits room (sN L nm).L):=by
 unfold sN
 cases aE:dk L nm with
 |none=>exact Xp bits room L nm aE
 |some d=>
  simp only
  split
  ·rename_i hu
   exact Xr bits room L h.togK h.EL (by have:=h.len;omega) nm d aE hu
  ·rename_i hu
   exact Xq bits room L h.togK h.EL (by have:=h.len;omega) nm d aE hu
def qa (L:List aK) (nm back:List UInt8):iW:=
 if(dk L nm).isSome=false∨(decide (back=[])||(dk L back).isSome)=false then⟨140,L⟩ else if nm=back∨nm∈ef L (c7 L back) back then⟨141,L⟩
 else if∀n∈iB L,c7 (ey L nm back) n≤8 then⟨0,ey L nm back⟩ else⟨142,L⟩
theorem Af {nm back:List UInt8} {d:aK} (h:d.nm≠nm):fK nm back d=d:=by unfold fK;rw[if_neg h]
theorem OQ {nm back:List UInt8} {d:aK} (h:d.nm=nm):(fK nm back d).back=back:=by unfold fK;rw[if_pos h]
theorem Yr {nm back:List UInt8} {n:List UInt8} {k:Nat} (h:ew L n k):n≠nm→nm∉ef L k n→ew (ey L nm back) n k:=by
 induction h with
 |gone h=>intro _ _;exact .gone (by rw[sL,h];rfl)
 | @base n d aa af=>
  intro bg _
  have e:=(cA aa).2
  exact .base (d:=d) (by rw[sL,aa];show some (fK nm back d)=_;rw[Af (by rw[e];exact bg)]) af
 | @step n d k aa af ay aZ=>
  intro bg ag
  have e:=(cA aa).2
  unfold ef at ag
  rw[aa] at ag
  simp only[List.mem_cons,not_or] at ag
  exact .step (d:=d) (by rw[sL,aa];show some (fK nm back d)=_;rw[Af (by rw[e];exact bg)]) af (aZ (fun x=>ag.1 x.symm) ag.2)
theorem Ys {nm back:List UInt8} {k:Nat} (cq:ew L back k) (aa:nm≠back) (af:nm∉ef L k back) {n:List UInt8} {j:Nat} (h:ew L n j): ∃i,i≤j+k+1∧ew (ey L nm back) n i:=by
 have BW:ew (ey L nm back) back k:=Yr cq (Ne.symm aa) af
 have B9: ∀d,dk L nm=some d→ ∃i,i≤k+1∧ew (ey L nm back) nm i:=fun d hd=>by
  have e:dk (ey L nm back) nm=some (fK nm back d):=by rw[sL,hd];rfl
  have yf:=OQ (back:=back) (cA hd).2
  by_cases ag:back=[]
  ·exact⟨0,Nat.zero_le _,.base e (by rw[yf];exact ag)⟩
  ·exact⟨k+1,Nat.le_refl _,.step e (by rw[yf];exact ag) (by rw[yf];exact BW)⟩
 induction h with
 |gone h=>exact⟨0,Nat.zero_le _,.gone (by rw[sL,h];rfl)⟩
 | @base n d g1 g2=>
  have e:=(cA g1).2
  by_cases c:n=nm
  ·subst c
   obtain⟨i,aD,hd⟩:=B9 d g1
   exact⟨i,by omega,hd⟩
  ·exact⟨0,Nat.zero_le _,.base (d:=d) (by rw[sL,g1];show some (fK nm back d)=_;rw[Af (by rw[e];exact c)]) g2⟩
 | @step n d j g1 g2 bL aZ=>
  have e:=(cA g1).2
  by_cases c:n=nm
  ·subst c
   obtain⟨i,aD,hd⟩:=B9 d g1
   exact⟨i,by omega,hd⟩
  ·obtain⟨i,aD,hd⟩:=aZ
   exact⟨i+1,by omega,.step (d:=d) (by rw[sL,g1];show some (fK nm back d)=_;rw[Af (by rw[e];exact c)]) g2 hd⟩
theorem bX.EP (h:bX bits room L) {nm back:List UInt8} (aa:nm≠back) (af:nm∉ef L (c7 L back) back) (n:List UInt8):ew (ey L nm back) n (c7 (ey L nm back) n)∧c7 (ey L nm back) n≤20:=by
 have ag:=h.dep back
 have hn:=h.dep n
 obtain⟨i,aD,hd⟩:=Ys ag.1 aa af hn.1
 rw[Jk hd (by omega)]
 exact⟨hd,by omega⟩
theorem OR {nm back:List UInt8} (h: ¬((dk L nm).isSome=false∨(decide (back=[])||(dk L back).isSome)=false)):(∃d,dk L nm=some d)∧(decide (back=[])||(dk L back).isSome)=true:=by
 constructor
 ·cases e:dk L nm with
  |none=>exact absurd (.inl (by rw[e];rfl)) h
  |some d=>exact⟨d,rfl⟩
 ·cases e:(decide (back=[])||(dk L back).isSome) with
  |false=>exact absurd (.inr e) h
  |true=>rfl
theorem bX.set (h:bX bits room L) {nm back:List UInt8} (aq:(decide (back=[])||(dk L back).isSome)=true) (aa:nm≠back) (af:nm∉ef L (c7 L back) back) (kL: ∀n∈iB L,c7 (ey L nm back) n≤8):bX bits room (ey L nm back):=by
 have key: ∀d,d∈ey L nm back→ ∃e,e∈L∧fK nm back e=d:=fun d hd=>by
  obtain⟨e,he,rfl⟩:=List.mem_map.1 hd
  exact⟨e,he,rfl⟩
 refine⟨⟨h.togK.ey nm back,h.b3,h.vo,by unfold ey;rw[List.length_map];exact h.len,fun d hd=>?_,fun d hd ag=>?_,fun d hd=>?_,fun d hd=>?_⟩,fun d hd=>?_,fun d hd=>?_⟩
 ·obtain⟨e,he,rfl⟩:=key d hd
  rw[Oi]
  exact h.hM e he
 ·obtain⟨e,he,rfl⟩:=key d hd
  have jD: ∃x,dk L (fK nm back e).back=some x:=by
   by_cases c:e.nm=nm
   ·rw[OQ c] at ag⊢
    rw[Bool.or_eq_true] at aq
    exact Option.isSome_iff_exists.1 (aq.resolve_left fun x=>ag (of_decide_eq_true x))
   ·rw[Af c] at ag⊢
    exact h.jD e he ag
  obtain⟨x,hx⟩:=jD
  exact⟨fK nm back x,by rw[sL,hx];rfl⟩
 ·obtain⟨e,he,rfl⟩:=key d hd
  rw[yq]
  exact h.ne e he
 ·obtain⟨e,he,rfl⟩:=key d hd
  rw[yq]
  have hm:e.nm∈iB L:=by
   unfold iB tS
   rw[List.mem_mergeSort,wE]
   exact List.mem_map_of_mem he
  exact⟨_,kL _ hm,(h.EP aa af e.nm).1⟩
 ·obtain⟨e,he,rfl⟩:=key d hd
  rw[Oj]
  exact h.tT e he
 ·obtain⟨e,he,rfl⟩:=key d hd
  rw[yq]
  exact h.yu e he
theorem OS (h:bX bits room L) (nm back:List UInt8):bX bits room (qa L nm back).L:=by
 unfold qa
 split
 ·exact h
 ·rename_i aa
  split
  ·exact h
  ·rename_i af
   split
   ·rename_i ay
    exact h.set (OR aa).2 (fun e=>af (.inl e)) (fun e=>af (.inr e)) ay
   ·exact h
theorem Yt (h:bX bits room L) (nm back:List UInt8):Fn Tryz.prog 53 [aH 1001,bG nm,bG back] (bM bits room L) [] (aC (qa L nm back).e) (bM bits room (qa L nm back).L):=by
 have hd:=h.dep back
 by_cases aa:(dk L nm).isSome=false∨(decide (back=[])||(dk L back).isSome)=false
 ·rw[show qa L nm back=⟨140,L⟩ from if_pos aa]
  exact XO bits room L nm back aa
 obtain⟨⟨d,rG⟩,aq⟩:=OR aa
 by_cases af:nm=back∨nm∈ef L (c7 L back) back
 ·rw[show qa L nm back=⟨141,L⟩ from(if_neg aa).trans (if_pos af)]
  exact XP bits room L h.togK nm back d rG aq _ hd.1 (by omega) af
 have hR:=fun n=>h.EP (back:=back) (fun e=>af (.inl e)) (fun e=>af (.inr e)) n
 refine XV bits room L h.togK h.EL (by have:=h.len;omega) nm back d rG aq _ hd.1 (by omega) af (fun n=>c7 (ey L nm back) n) (fun n _=>⟨(hR n).1,by have:=(hR n).2;omega⟩) _ _ (fun bZ=>?_) (fun bZ=>?_)
 ·rw[show qa L nm back=⟨0,ey L nm back⟩ from(if_neg aa).trans ((if_neg af).trans (if_pos bZ))]
  exact⟨rfl,rfl⟩
 ·have gR: ¬ ∀n∈iB L,c7 (ey L nm back) n≤8:=fun dh=>by
   obtain⟨n,hn,kL⟩:=bZ
   have:=dh n hn
   omega
  rw[show qa L nm back=⟨142,L⟩ from(if_neg aa).trans ((if_neg af).trans (if_neg gR))]
  exact⟨rfl,rfl⟩
end
end Go.Proofs.YteoamepgonpdlaaGreat
