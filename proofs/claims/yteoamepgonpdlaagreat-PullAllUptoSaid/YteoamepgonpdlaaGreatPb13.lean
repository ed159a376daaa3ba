/-
Part 13 of the proof that stands in YteoamepgonpdlaaGreatPbRow, with what it needs from the parts ahead; the parts of this text: Co, Dp.
-/
import Derived.Test.YteoamepgonpdlaaGreatPb12
namespace Go.Proofs.YteoamepgonpdlaaGreat
set_option linter.unusedVariables false
set_option linter.unusedSimpArgs false
set_option maxRecDepth 10000
open Go.RowKit Go.Proofs
theorem fN.perm {I:Nat→Prop} {w:World} {L gl:List (Nat×bK)} (h:L.Perm gl): ∀{F:Nat→Prop},fN I w L F→fN I w gl F:=by
 induction h with
 |nil=>exact fun h=>h
 |cons x h aY=>
  rintro F ⟨cG,cY,p,aa,af,aA,bE,ec⟩
  exact⟨cG,cY,p,aa,af,aA,bE,aY ec⟩
 |swap x y l=>
  rintro F ⟨cG,cY,p,aa,af,aA,bE,qD,sK,r,g1,g2,bL,gU,xb⟩
  refine⟨qD,fun z=>cG z∨sK z,r,fun z=>by rw[aa,g1];exact HW,fun z aS aF=>?_,bL,gU,cG,sK,p,fun z=>Iff.rfl,fun z aS aF=>af z aS ((g1 z).2 (.inr aF)),aA,bE,xb⟩
  rcases aF with aF |aF
  ·exact af z aF ((g1 z).2 (.inl aS))
  ·exact g2 z aS aF
 |trans _ _ od oe=>exact fun h=>oe (od h)
theorem ah.perm {ids:List Nat} {K:aQ} {B:aG} (q:Nat) {L gl:List (Nat×bK)} (hp:L.Perm gl) (bh:ax B q=some (.obj (.cO L))):ah ids K B K ((q,.obj (.cO gl))::B):=by
 rintro N C a w ⟨hn,hd,ρ,F,az,hS⟩
 obtain⟨bT,bA⟩:=az.jV (w':=w) (ch:=.obj (.cO gl)) bh (Fr.refl _ _) fun I bC=>((az.holds q _ bh:fN _ w L (F q)).perm hp).cA bC (Nat.le_refl _) fun _ _=>rfl
 exact⟨hn,hd,ρ,F,bT,hS.mono bA fun _ _ _=>rfl⟩
theorem Wx {s:bz}:(iQ s).ug:=by
 rintro I F w p ⟨ρ,G,aa,af,aA,bE⟩
 obtain⟨hF,_⟩:=af 1001 _ rfl
 exact(bE _).2 ⟨1001,_,rfl,(hF _).2 (by rw[aa])⟩
def Iq (L:List aH):Prop:= ∀d,d∈L→d.cF=none
theorem Wy {d:aH} (h:d.cF=none):j0 d=iQ d.im:=by unfold j0;rw[h]
theorem Wz (L:List aH) (cL:Iq L): ∀p∈fW L,p.2.ug:=fun p hp=>by
 obtain⟨d,hd,rfl⟩:=List.mem_map.1 hp
 show(j0 d).ug
 rw[Wy (cL d hd)]
 exact Wx
theorem WA (L:List aH): ∀p∈iT L,p.2.ug:=fun p hp=>by
 obtain⟨d,_,rfl⟩:=List.mem_map.1 hp
 exact fun I F w p h=>(h.1 _).2 rfl
theorem Bx (bits size room:Nat) (aa:bits≤3) (af:size≤256) (aA:room≤512):Fn Tryz.prog 47 [aD (bits:Int),aD (size:Int),aD (room:Int)] [] [1001] (.c8 [.one (.ptr 1001 0),fO 0]) [(1001,.obj (iQ (ia bits size room)))]:=by
 refine Fn.of aj [3] _ _ _ _ _ Tryz.func47 rfl rfl (by kernel_rfl) (by kernel_rfl) rfl (aK aj) rfl ?_
 refine⟨_,_,_,_,Fn.ren [(1001,1002),(1002,2002)] (Hi size af),trivial,rfl,?_⟩
 refine⟨_,_,_,_,Fn.ren [(1001,1003),(1002,2003)] (Du (room:Int) (by omega) (by omega)),trivial,rfl,?_⟩
 show aE _ _ _ _ _ _ _
 refine aE.go aj (aK aj) [] (by kernel_rfl) (ah.sub (K':=[(0,aD (bits:Int)),(8,aI 1002),(9,aD 0),(10,aI 1003),(11,aD 0)]) (B':=[(1002,.obj (qK (List.replicate size s0))),(1003,.obj (qL (List.replicate room (0:Int))))]) ⟨rfl,rfl,rfl,rfl,rfl,trivial⟩ ⟨rfl,rfl,trivial⟩) ?_
 refine⟨fun h=>absurd h (by decide),fun _=>?_⟩
 refine⟨fun h=>absurd h (by decide),fun _=>?_⟩
 refine⟨fun h=>?_,fun h=>?_⟩
 ·exfalso
  have h:(bits:Int) < 0:=of_decide_eq_true h
  omega
 refine⟨fun h=>?_,fun h=>?_⟩
 ·exfalso
  have h:(3:Int) < (bits:Int):=of_decide_eq_true h
  omega
 refine⟨rfl,?_⟩
 refine⟨rfl,?_⟩
 exact⟨_,_,_,ah.trans (ah.trans (ah.ren 41 1001 rfl) (ah.trans (ah.ren 39 1004 rfl) (ah.MC 1004 rfl))) (ah.close 1001 (dh (ia bits size room)) ⟨rfl,rfl,rfl,rfl,trivial⟩ rfl fun _ _ _ _ h=>h),rfl,⟨rfl,rfl,trivial⟩,⟨rfl,trivial⟩,rfl⟩
@[reducible] def D9 (nm:List UInt8) (x:aJ .aW):aJ .str×aJ .aW:=((nm:aJ .str),x)
theorem Nr (nm:List UInt8) (x:aJ .aW): ∀L:List aH,dk L nm=none→gI (aO:=.str) (aV:=.aW) (cq L) (nm:aJ .str) x=(cq L++[D9 nm x]:List (aJ .str×aJ .aW))
 | [],_=>rfl
 |d::L,h=>by
  rw[nU] at h
  by_cases e:d.nm=nm
  ·rw[if_pos e] at h;cases h
  ·rw[if_neg e] at h
   have aY:=Nr nm x L h
   show gI (aO:=.str) (aV:=.aW) (jo d::cq L) (nm:aJ .str) x=_
   rw[show gI (aO:=.str) (aV:=.aW) (jo d::cq L) (nm:aJ .str) x=(match jS .str (nm:aJ .str) (jo d).1 with |true=>D9 nm x::cq L |false=>jo d::gI (aO:=.str) (aV:=.aW) (cq L) (nm:aJ .str) x:List (aJ .str×aJ .aW)) from rfl]
   rw[show jS .str (nm:aJ .str) (jo d).1=false from sU (aO:=.str) Bc (fun h=>e h.symm)]
   simp only
   rw[aY]
   rfl
@[reducible] def oD (L:List aH) (nm back:List UInt8) (ad am:Nat) (im:bz):List aH:=L++[⟨nm,back,ad,am,im,none⟩]
theorem gF.add {L:List aH} (h:gF L) {nm back:List UInt8} {ad am:Nat} {im:bz} (aC:dk L nm=none) (ha:ad∉L.map (·.ad)) (hm:am∉L.map (·.am)):gF (oD L nm back ad am im):=by
 have key: ∀{α:Type} (f:aH→α) (d:aH),(L.map f).Nodup→f d∉L.map f→((L++[d]).map f).Nodup:=fun f d aa af=>by
  rw[List.map_append]
  refine List.nodup_append.2 ⟨aa,by simp,fun a ha b ag e=>?_⟩
  rw[List.map_cons,List.map_nil,List.mem_singleton] at ag
  exact af (by rw[←ag,←e];exact ha)
 refine⟨key _ _ h.kg fun hx=>?_,key _ _ h.vF ha,key _ _ h.uy hm⟩
 obtain⟨d,hd,e⟩:=List.mem_map.1 hx
 have:=List.find?_eq_none.1 aC d hd
 exact this (by simpa using e)
@[reducible] def By (nm back:List UInt8):aQ:=[(0,aI 1001),(1,bN nm),(3,bN back),(9,aI 2001),(10,aD 0)]
@[reducible] def Bz (bits room:Int) (L:List aH) (im:bz):aG:=bP bits room L++[(2001,.obj (iQ im))]
theorem WB (L:List aH) (nm back:List UInt8) (ad am:Nat) (im:bz):cq (oD L nm back ad am im)=(cq L++[D9 nm (some ad:Option Nat)]:List (aJ .str×aJ .aW)):=by
 induction L with
 |nil=>rfl
 |cons d L aY=>
  show jo d::cq (oD L nm back ad am im)=jo d::(cq L++[D9 nm (some ad:Option Nat)])
  rw[aY]
@[reducible] def WC (L:List aH) (nm back:List UInt8) (am:Nat) (im:bz):List aH:=⟨nm,back,0,am,im,none⟩::L
theorem Ns {f:aH→Nat×bK} (L:List aH) (d:aH):(f d::L.map f).Perm ((L++[d]).map f):=by
 rw[List.map_append]
 exact List.perm_append_comm (l₁:=[f d]) (l₂:=L.map f)
@[reducible] def WD (nm back:List UInt8) (am:Nat):aQ:=[(0,aI 1001),(1,bN nm),(3,bN back),(9,mY am)]
@[reducible] def WE (bits room:Int) (L:List aH) (am:Nat) (im:bz):aG:=[(1001,.cells (M5 bits room)),(1002,.map .str .aW (cq L)),(1003,.obj (.cO (iT L))),(1004,.obj (.cO ((am,iQ im)::fW L)))]
theorem WG (bits size room:Nat) (aa:bits≤3) (af:size≤256) (aA:room≤512) (L:List aH) (dn:gF L) (aX:Iq L) (nm back:List UInt8) (aB:nm.length≤4294967296) (hr:iB nm=true) (aC:dk L nm=none) (mF:L.length < 16) (k:Nat) (ag:back=[]∨(dk L back).isSome=true∧dK L back k∧k+1≤8):
  hM Tryz.prog 49 [aI 1001,bN nm,aD (size:Int),bN back] (bP bits room L) [] (X:={p:Nat×Nat//gF (oD L nm back p.1 p.2 (ia bits size room))}) (fun _=>aD 0) (fun p=>bP bits room (oD L nm back p.1.1 p.1.2 (ia bits size room))):=by
 have hx:(cz (aO:=.str) (aV:=.aW) (cq L) nm).getD (dflt .aW)=none:=by rw[iA,aC];rfl
 have hlen:(cq L).length=L.length:=List.length_map ..
 have gP:=zk bits room L back
 have Nt:(decide (back=[])||(dk L back).isSome)=true:=by
  rcases ag with ag |⟨ag,_⟩
  ·rw[decide_eq_true ag];rfl
  ·rw[ag,Bool.or_true]
 rw[Nt] at gP
 have pM:=Bx bits size room aa af aA
 refine hM.of aj [2,10] _ _ _ _ _ Tryz.func49 rfl rfl (by kernel_rfl) (by kernel_rfl) rfl (aK aj) rfl ?_
 refine⟨_,_,_,_,Fn.ren [(1001,2001)] pM,trivial,rfl,?_⟩
 refine⟨rfl,?_⟩
 show aE _ _ _ _ _ _ _
 refine aE.go aj (aK aj) [10] (by kernel_rfl) (ah.sub (K':=By nm back) (B':=Bz bits room L (ia bits size room)) ⟨rfl,rfl,rfl,rfl,rfl,trivial⟩ ⟨rfl,rfl,rfl,rfl,rfl,trivial⟩) ?_
 refine⟨_,_,_,_,zn _ aB,trivial,rfl,?_⟩
 refine⟨fun ai=>?_,fun ai=>?_⟩
 ·rw[hr] at ai;cases ai
 refine⟨fun aq=>?_,fun aq=>?_⟩
 ·exact absurd aq (by decide)
 refine⟨fun eX bk=>?_,fun bk=>?_⟩
 ·exfalso
  have:(cz (aO:=.str) (aV:=.aW) (cq L) nm).getD (dflt .aW)=some eX:=bk
  rw[hx] at this
  cases this
 refine⟨fun cX=>?_,fun cX=>?_⟩
 ·exfalso
  have cX:(16:Int)≤((cq L).length:Int):=of_decide_eq_true cX
  omega
 refine⟨_,_,_,_,gP,⟨rfl,rfl,rfl,rfl,trivial⟩,rfl,?_⟩
 refine⟨fun eR=>absurd eR (by decide),fun _=>?_⟩
 refine⟨fun gW=>?_,fun gW=>?_⟩
 focus
  have gW: ¬back=[]:=by simpa using gW
  obtain⟨_,au,o6⟩:=ag.resolve_left gW
  have eC:=zl bits room L dn back k au (by omega)
  have xP:=mD au
  generalize cH L k back=bs at eC xP
  refine⟨_,_,_,_,eC,⟨rfl,rfl,rfl,rfl,trivial⟩,rfl,?_⟩
  have bw: -9223372036854775808≤(bs.length:Int)+1∧(bs.length:Int)+1≤9223372036854775807:=by omega
  refine⟨bw,?_⟩
  refine⟨fun o9=>?_,fun _=>?_⟩
  ·exfalso
   have o9:(8:Int) < (bs.length:Int)+1:=of_decide_eq_true o9
   omega
 all_goals
  show aE _ _ _ _ _ _ _
  refine aE.Dl (j9.name 9 2001 rfl rfl) fun am=>?_
  refine aE.le (K':=WD nm back am) (B':=WE bits room L am (ia bits size room)) (ah.trans (ah.put 1004 2001 (by decide) rfl rfl) (ah.sub ⟨rfl,rfl,rfl,rfl,trivial⟩ ⟨rfl,rfl,rfl,rfl,trivial⟩)) ?_
  refine aE.Dl (j9.Tw 1004 (L:=(am,iQ (ia bits size room))::fW L) (Wz (WC L nm back am (ia bits size room)) (fun d hd=>(List.mem_cons.1 hd).elim (fun e=>by rw[e]) (aX d))) rfl) fun dD=>?_
  refine aE.sJ aj (by kernel_rfl) ?_
  refine⟨rfl,?_⟩
  refine⟨_,VC (c:=1002) (d:=72) (q:=1003) (aO:=.str) (l:=DX am back) (h:=fun _=>rfl) rfl Tryz.underlying97 (dk:=.string) (by kernel_rfl) rfl rfl rfl rfl rfl rfl rfl (by decide) (by decide) (by decide) (WA L),fun v e hv=>?_⟩
  obtain⟨ad,HP,rfl,rfl⟩:=hv
  have WH:ad∉L.map (·.ad):=fun h=>HP (by unfold iT;rw[List.map_map];exact h)
  have WI:am∉L.map (·.am):=fun h=>(List.nodup_cons.1 dD.down).1 (by show am∈(fW L).map (·.1);unfold fW;rw[List.map_map];exact h)
  have xN:gI (aO:=.str) (aV:=.aW) (cq L) (nm:aJ .str) (some ad:Option Nat)=cq (oD L nm back ad am (ia bits size room)):=(Nr nm _ L aC).trans (WB L nm back ad am (ia bits size room)).symm
  exact⟨⟨(ad,am),dn.add aC WH WI⟩,_,_,_,ah.trans (ah.perm 1003 (Ns (f:=fun d=>(d.ad,rT d.am d.back)) L ⟨nm,back,ad,am,ia bits size room,none⟩) rfl) (ah.perm 1004 (Ns (f:=fun d=>(d.am,j0 d)) L ⟨nm,back,ad,am,ia bits size room,none⟩) rfl),rfl,rfl,⟨rfl,congrArg (fun e=>some (bF.map .str .aW e)) xN,rfl,rfl,trivial⟩,rfl⟩
theorem WJ (bits room:Int) (size:Int) (L:List aH) (nm back:List UInt8) (aB:nm.length≤4294967296) (h:(iB nm&&iR bits size room)=false):Fn Tryz.prog 49 [aI 1001,bN nm,aD size,bN back] (bP bits room L) [] (aD 1) (bP bits room L):=by
 rcases Bool.eq_false_or_eq_true (iR bits size room) with af |af
 ·have hr:iB nm=false:=by rw[af,Bool.and_true] at h;exact h
  unfold iR at af
  simp only[Bool.and_eq_true,decide_eq_true_eq] at af
  obtain⟨⟨⟨ct,cB⟩,a3,a4⟩,a5,gT⟩:=af
  obtain⟨b,rfl⟩:=Int.eq_ofNat_of_zero_le a5
  obtain⟨z,rfl⟩:=Int.eq_ofNat_of_zero_le ct
  obtain⟨r,rfl⟩:=Int.eq_ofNat_of_zero_le a3
  have pM:=Bx b z r (by omega) (by omega) (by omega)
  refine Fn.of aj [2] _ _ _ _ _ Tryz.func49 rfl rfl (by kernel_rfl) (by kernel_rfl) rfl (aK aj) rfl ?_
  refine⟨_,_,_,_,Fn.ren [(1001,2001)] pM,trivial,rfl,?_⟩
  refine⟨rfl,?_⟩
  show aE _ _ _ _ _ _ _
  refine aE.go aj (aK aj) [] (by kernel_rfl) (ah.sub (K':=By nm back) (B':=Bz b r L (ia b z r)) ⟨rfl,rfl,rfl,rfl,rfl,trivial⟩ ⟨rfl,rfl,rfl,rfl,rfl,trivial⟩) ?_
  refine⟨_,_,_,_,zn _ aB,trivial,rfl,?_⟩
  refine⟨fun ai=>?_,fun ai=>?_⟩
  ·exact⟨_,_,_,ah.refl _ _,rfl,rfl,⟨rfl,rfl,rfl,rfl,trivial⟩,rfl⟩
  ·rw[hr] at ai;cases ai
 ·have pM:=Vt bits size room af
  refine Fn.of aj [2] _ _ _ _ _ Tryz.func49 rfl rfl (by kernel_rfl) (by kernel_rfl) rfl (aK aj) rfl ?_
  refine⟨_,_,_,_,pM,trivial,rfl,?_⟩
  refine⟨rfl,?_⟩
  show aE _ _ _ _ _ _ _
  refine aE.go aj (aK aj) [] (by kernel_rfl) (ah.sub (K':=[(0,aI 1001),(1,bN nm),(3,bN back),(10,aD 1)]) (B':=bP bits room L) ⟨rfl,rfl,rfl,rfl,trivial⟩ ⟨rfl,rfl,rfl,rfl,trivial⟩) ?_
  refine⟨_,_,_,_,zn _ aB,trivial,rfl,?_⟩
  refine⟨fun ai=>?_,fun ai=>?_⟩
  ·exact⟨_,_,_,ah.refl _ _,rfl,rfl,⟨rfl,rfl,rfl,rfl,trivial⟩,rfl⟩
  refine⟨fun aq=>?_,fun aq=>?_⟩
  ·exact⟨_,_,_,ah.refl _ _,rfl,rfl,⟨rfl,rfl,rfl,rfl,trivial⟩,rfl⟩
  ·exact absurd aq (by decide)
theorem WK (bits size room:Nat) (aa:bits≤3) (af:size≤256) (aA:room≤512) (L:List aH) (nm back:List UInt8) (aB:nm.length≤4294967296) (hr:iB nm=true) (aC:(dk L nm).isSome=true∨16≤L.length):
  Fn Tryz.prog 49 [aI 1001,bN nm,aD (size:Int),bN back] (bP bits room L) [] (aD 143) (bP bits room L):=by
 have hx:(cz (aO:=.str) (aV:=.aW) (cq L) nm).getD (dflt .aW)=((dk L nm).map (·.ad):Option Nat):=iA nm L
 have hlen:(cq L).length=L.length:=List.length_map ..
 have pM:=Bx bits size room aa af aA
 refine Fn.of aj [2] _ _ _ _ _ Tryz.func49 rfl rfl (by kernel_rfl) (by kernel_rfl) rfl (aK aj) rfl ?_
 refine⟨_,_,_,_,Fn.ren [(1001,2001)] pM,trivial,rfl,?_⟩
 refine⟨rfl,?_⟩
 show aE _ _ _ _ _ _ _
 refine aE.go aj (aK aj) [] (by kernel_rfl) (ah.sub (K':=By nm back) (B':=Bz bits room L (ia bits size room)) ⟨rfl,rfl,rfl,rfl,rfl,trivial⟩ ⟨rfl,rfl,rfl,rfl,rfl,trivial⟩) ?_
 refine⟨_,_,_,_,zn _ aB,trivial,rfl,?_⟩
 refine⟨fun ai=>?_,fun ai=>?_⟩
 ·rw[hr] at ai;cases ai
 refine⟨fun aq=>?_,fun aq=>?_⟩
 ·exact absurd aq (by decide)
 refine⟨fun eX bk=>?_,fun bk=>?_⟩
 ·exact⟨_,_,_,ah.refl _ _,rfl,rfl,⟨rfl,rfl,rfl,rfl,trivial⟩,rfl⟩
 refine⟨fun cX=>?_,fun cX=>?_⟩
 ·exact⟨_,_,_,ah.refl _ _,rfl,rfl,⟨rfl,rfl,rfl,rfl,trivial⟩,rfl⟩
 ·exfalso
  have cX: ¬(16:Int)≤((cq L).length:Int):=of_decide_eq_false cX
  have bk:(cz (aO:=.str) (aV:=.aW) (cq L) nm).getD (dflt .aW)=none:=bk
  rw[hx] at bk
  rcases aC with aC |aC
  ·obtain⟨d,hd⟩:=Option.isSome_iff_exists.1 aC
   rw[hd] at bk
   cases bk
  ·omega
theorem WL (bits size room:Nat) (aa:bits≤3) (af:size≤256) (aA:room≤512) (L:List aH) (nm back:List UInt8) (aB:nm.length≤4294967296) (hr:iB nm=true) (aC:dk L nm=none) (mF:L.length < 16) (ag:(decide (back=[])||(dk L back).isSome)=false):
  Fn Tryz.prog 49 [aI 1001,bN nm,aD (size:Int),bN back] (bP bits room L) [] (aD 140) (bP bits room L):=by
 have hx:(cz (aO:=.str) (aV:=.aW) (cq L) nm).getD (dflt .aW)=none:=by rw[iA,aC];rfl
 have hlen:(cq L).length=L.length:=List.length_map ..
 have gP:=zk bits room L back
 rw[ag] at gP
 have pM:=Bx bits size room aa af aA
 refine Fn.of aj [2] _ _ _ _ _ Tryz.func49 rfl rfl (by kernel_rfl) (by kernel_rfl) rfl (aK aj) rfl ?_
 refine⟨_,_,_,_,Fn.ren [(1001,2001)] pM,trivial,rfl,?_⟩
 refine⟨rfl,?_⟩
 show aE _ _ _ _ _ _ _
 refine aE.go aj (aK aj) [] (by kernel_rfl) (ah.sub (K':=By nm back) (B':=Bz bits room L (ia bits size room)) ⟨rfl,rfl,rfl,rfl,rfl,trivial⟩ ⟨rfl,rfl,rfl,rfl,rfl,trivial⟩) ?_
 refine⟨_,_,_,_,zn _ aB,trivial,rfl,?_⟩
 refine⟨fun ai=>?_,fun ai=>?_⟩
 ·rw[hr] at ai;cases ai
 refine⟨fun aq=>?_,fun aq=>?_⟩
 ·exact absurd aq (by decide)
 refine⟨fun eX bk=>?_,fun bk=>?_⟩
 ·exfalso
  have:(cz (aO:=.str) (aV:=.aW) (cq L) nm).getD (dflt .aW)=some eX:=bk
  rw[hx] at this
  cases this
 refine⟨fun cX=>?_,fun cX=>?_⟩
 ·exfalso
  have cX:(16:Int)≤((cq L).length:Int):=of_decide_eq_true cX
  omega
 refine⟨_,_,_,_,gP,⟨rfl,rfl,rfl,rfl,trivial⟩,rfl,?_⟩
 refine⟨fun _=>?_,fun eR=>absurd eR (by decide)⟩
 exact⟨_,_,_,ah.refl _ _,rfl,rfl,⟨rfl,rfl,rfl,rfl,trivial⟩,rfl⟩
theorem WM (bits size room:Nat) (aa:bits≤3) (af:size≤256) (aA:room≤512) (L:List aH) (dn:gF L) (nm back:List UInt8) (aB:nm.length≤4294967296) (hr:iB nm=true) (aC:dk L nm=none) (mF:L.length < 16) (Ir:back≠[]) (ag:(dk L back).isSome=true) (k:Nat) (au:dK L back k) (xH:k≤1000000) (o6:8 < k+1):
  Fn Tryz.prog 49 [aI 1001,bN nm,aD (size:Int),bN back] (bP bits room L) [] (aD 142) (bP bits room L):=by
 have hx:(cz (aO:=.str) (aV:=.aW) (cq L) nm).getD (dflt .aW)=none:=by rw[iA,aC];rfl
 have hlen:(cq L).length=L.length:=List.length_map ..
 have gP:=zk bits room L back
 rw[ag,Bool.or_true] at gP
 have pM:=Bx bits size room aa af aA
 refine Fn.of aj [2] _ _ _ _ _ Tryz.func49 rfl rfl (by kernel_rfl) (by kernel_rfl) rfl (aK aj) rfl ?_
 refine⟨_,_,_,_,Fn.ren [(1001,2001)] pM,trivial,rfl,?_⟩
 refine⟨rfl,?_⟩
 show aE _ _ _ _ _ _ _
 refine aE.go aj (aK aj) [] (by kernel_rfl) (ah.sub (K':=By nm back) (B':=Bz bits room L (ia bits size room)) ⟨rfl,rfl,rfl,rfl,rfl,trivial⟩ ⟨rfl,rfl,rfl,rfl,rfl,trivial⟩) ?_
 refine⟨_,_,_,_,zn _ aB,trivial,rfl,?_⟩
 refine⟨fun ai=>?_,fun ai=>?_⟩
 ·rw[hr] at ai;cases ai
 refine⟨fun aq=>?_,fun aq=>?_⟩
 ·exact absurd aq (by decide)
 refine⟨fun eX bk=>?_,fun bk=>?_⟩
 ·exfalso
  have:(cz (aO:=.str) (aV:=.aW) (cq L) nm).getD (dflt .aW)=some eX:=bk
  rw[hx] at this
  cases this
 refine⟨fun cX=>?_,fun cX=>?_⟩
 ·exfalso
  have cX:(16:Int)≤((cq L).length:Int):=of_decide_eq_true cX
  omega
 refine⟨_,_,_,_,gP,⟨rfl,rfl,rfl,rfl,trivial⟩,rfl,?_⟩
 refine⟨fun eR=>absurd eR (by decide),fun _=>?_⟩
 refine⟨fun gW=>?_,fun gW=>absurd (by simpa using gW) Ir⟩
 have eC:=zl bits room L dn back k au xH
 have xP:=mD au
 generalize cH L k back=bs at eC xP
 refine⟨_,_,_,_,eC,⟨rfl,rfl,rfl,rfl,trivial⟩,rfl,?_⟩
 have bw: -9223372036854775808≤(bs.length:Int)+1∧(bs.length:Int)+1≤9223372036854775807:=by omega
 refine⟨bw,?_⟩
 refine⟨fun _=>?_,fun o9=>?_⟩
 ·exact⟨_,_,_,ah.refl _ _,rfl,rfl,⟨rfl,rfl,rfl,rfl,trivial⟩,rfl⟩
 ·exfalso
  have o9: ¬(8:Int) < (bs.length:Int)+1:=of_decide_eq_false o9
  omega
def xQ (l:List (List UInt8)) (v:List UInt8):Int:=match l.idxOf? v with
 |some i=>(i:Nat)
 |none=> -1
theorem WN (l:List (List UInt8)) (v:List UInt8) (aB:l.length≤4294967296):Fn Tryz.prog 121 [cJ .str l,bN v] [] [] (aD (xQ l v)) []:=by
 refine Fn.of aj [] _ _ _ _ _ Tryz.func121 rfl rfl (by kernel_rfl) (by kernel_rfl) rfl (aK aj) rfl ?_
 show aE _ _ _ _ _ _ _
 refine aE.loop aj (aK aj) [] (by kernel_rfl) (X:=Nat) (fun k=>[(0,cJ .str l),(1,bN v),(7,aD (l.length:Nat)),(8,aD (k:Nat))]) (fun _=>[]) (fun k=>k≤l.length∧ ∀(i:Nat),i < k→l[i]? ≠some v) (fun k=>l.length - k) 0 ⟨Nat.zero_le _,fun i h=>absurd h (Nat.not_lt_zero _)⟩ ?_ ?_
 ·exact ah.sub ⟨rfl,rfl,rfl,rfl,trivial⟩ trivial
 intro k ⟨au,hp⟩
 refine⟨fun h=>?_,fun h=>?_⟩
 ·have bU:k < l.length:=by
   have h:decide ((k:Int) < (l.length:Int))=true:=h
   simpa using h
  refine⟨by omega,l[k],eY (n:=k) bU,?_⟩
  refine⟨fun af=>?_,fun af=>?_⟩
  ·have af:v=l[k]:=of_decide_eq_true af
   refine⟨_,_,_,ah.refl _ _,rfl,(show((k:Nat):Int)=xQ l v from ?_),trivial,rfl⟩
   have:l.idxOf? v=some k:=by
    rw[List.idxOf?_eq_some_iff]
    refine⟨bU,by simp[af],fun j ak=>?_⟩
    have:=hp j ak
    rw[List.getElem?_eq_getElem (by omega)] at this
    simpa using this
   rw[xQ,this]
  ·have af: ¬v=l[k]:=of_decide_eq_false af
   have bw: -9223372036854775808≤(k:Int)+1∧(k:Int)+1≤9223372036854775807:=by omega
   have bX:k+1≤l.length:=by omega
   have fT:l.length - (k+1) < l.length - k:=by omega
   refine⟨bw,k+1,⟨bX,fun i ay=>?_⟩,fT,ah.sub ⟨rfl,rfl,rfl,rfl,trivial⟩ trivial⟩
   rcases Nat.lt_or_ge i k with bE |bE
   ·exact hp i bE
   ·have:i=k:=by omega
    subst this
    rw[List.getElem?_eq_getElem bU]
    intro e
    injection e with e
    exact af e.symm
 ·have h:decide ((k:Int) < (l.length:Int))=false:=h
  have e8:k=l.length:=by simp at h;omega
  refine⟨_,_,_,ah.refl _ _,rfl,(show(-1:Int)=xQ l v from ?_),trivial,rfl⟩
  have:l.idxOf? v=none:=by
   rw[List.idxOf?_eq_none_iff]
   intro hm
   obtain⟨i,ay,e⟩:=List.getElem_of_mem hm
   have:=hp i (by omega)
   rw[List.getElem?_eq_getElem ay] at this
   exact this (by rw[e])
  rw[xQ,this]
theorem Nu (l:List (List UInt8)) (v:List UInt8) (aB:l.length≤4294967296):Fn Tryz.prog 93 [cJ .str l,bN v] [] [] (g9 (l.contains v)) []:=by
 refine Fn.of aj [] _ _ _ _ _ Tryz.func93 rfl rfl (by kernel_rfl) (by kernel_rfl) rfl (aK aj) rfl ?_
 refine⟨_,_,_,_,WN l v aB,trivial,rfl,?_⟩
 refine⟨_,_,_,ah.refl _ _,rfl,(show decide (0≤xQ l v)=l.contains v from ?_),trivial,rfl⟩
 unfold xQ
 cases h:l.idxOf? v with
 |none=>
  rw[List.idxOf?_eq_none_iff] at h
  simp[h]
 |some i=>
  obtain⟨ay,e,_⟩:=List.idxOf?_eq_some_iff.1 h
  have:v∈l:=by
   have:=List.getElem_mem ay
   rwa[show l[i]=v by simpa using e] at this
  simp[this]
theorem WO (bits room:Int) (L:List aH) (nm back:List UInt8) (h:(dk L nm).isSome=false∨(decide (back=[])||(dk L back).isSome)=false):Fn Tryz.prog 53 [aI 1001,bN nm,bN back] (bP bits room L) [] (aD 140) (bP bits room L):=by
 have gP:=zk bits room L back
 refine Fn.of aj [] _ _ _ _ _ Tryz.func53 rfl rfl (by kernel_rfl) (by kernel_rfl) rfl (aK aj) rfl ?_
 refine⟨fun eX bk=>?_,fun bk=>?_⟩
 ·obtain⟨d,hd,_⟩:=VP bk
  have ag:(decide (back=[])||(dk L back).isSome)=false:=h.resolve_left (by rw[hd];intro h;cases h)
  rw[ag] at gP
  refine⟨_,_,_,_,gP,⟨rfl,rfl,rfl,rfl,trivial⟩,rfl,?_⟩
  refine⟨fun _=>?_,fun eR=>absurd eR (by decide)⟩
  exact⟨_,_,_,ah.refl _ _,rfl,rfl,⟨rfl,rfl,rfl,rfl,trivial⟩,rfl⟩
 ·exact⟨_,_,_,ah.refl _ _,rfl,rfl,⟨rfl,rfl,rfl,rfl,trivial⟩,rfl⟩
theorem WQ (bits room:Int) (L:List aH) (dn:gF L) (nm back:List UInt8) (d:aH) (hd:dk L nm=some d) (au:(decide (back=[])||(dk L back).isSome)=true) (k:Nat) (bW:dK L back k) (xH:k≤1000000) (h:nm=back∨nm∈cH L k back):Fn Tryz.prog 53 [aI 1001,bN nm,bN back] (bP bits room L) [] (aD 141) (bP bits room L):=by
 have gP:=zk bits room L back
 rw[au] at gP
 have hx:(cz (aO:=.str) (aV:=.aW) (cq L) nm).getD (dflt .aW)=some d.ad:=by rw[iA,hd];rfl
 have eC:=zl bits room L dn back k bW xH
 have xP:=mD bW
 generalize cH L k back=bs at eC xP h
 have mU:=Nu bs nm (by omega)
 refine Fn.of aj [] _ _ _ _ _ Tryz.func53 rfl rfl (by kernel_rfl) (by kernel_rfl) rfl (aK aj) rfl ?_
 refine⟨fun eX bk=>?_,fun ag=>absurd (show(cz (aO:=.str) (aV:=.aW) (cq L) nm).getD (dflt .aW)=none from ag) (by rw[hx];intro h;cases h)⟩
 refine⟨_,_,_,_,gP,⟨rfl,rfl,rfl,rfl,trivial⟩,rfl,?_⟩
 refine⟨fun eR=>absurd eR (by decide),fun _=>?_⟩
 refine⟨fun gW=>?_,fun gW=>?_⟩
 ·exact⟨_,_,_,ah.refl _ _,rfl,rfl,⟨rfl,rfl,rfl,rfl,trivial⟩,rfl⟩
 ·have gW: ¬nm=back:=of_decide_eq_false gW
  have hm:bs.contains nm=true:=by simpa using h.resolve_left gW
  rw[hm] at mU
  refine⟨_,_,_,_,eC,⟨rfl,rfl,rfl,rfl,trivial⟩,rfl,?_⟩
  refine⟨_,_,_,_,mU,trivial,rfl,?_⟩
  refine⟨fun _=>?_,fun eR=>absurd eR (by decide)⟩
  exact⟨_,_,_,ah.refl _ _,rfl,rfl,⟨rfl,rfl,rfl,rfl,trivial⟩,rfl⟩
def fc (nm back:List UInt8) (d:aH):aH:=if d.nm=nm then {d with back:=back} else d
def dS (L:List aH) (nm back:List UInt8):List aH:=L.map (fc nm back)
theorem xR (nm back:List UInt8) (d:aH):(fc nm back d).nm=d.nm:=by unfold fc;split <;>rfl
theorem Ea (nm back:List UInt8) (d:aH):(fc nm back d).ad=d.ad:=by unfold fc;split <;>rfl
theorem Eb (nm back:List UInt8) (d:aH):(fc nm back d).am=d.am:=by unfold fc;split <;>rfl
theorem Nv (nm back:List UInt8) (d:aH):(fc nm back d).im=d.im:=by unfold fc;split <;>rfl
theorem Nw (nm back:List UInt8) (d:aH):(fc nm back d).cF=d.cF:=by unfold fc;split <;>rfl
theorem WR (L:List aH) (nm back:List UInt8):cq (dS L nm back)=cq L:=by
 unfold cq dS
 rw[List.map_map]
 refine List.map_congr_left fun d _=>?_
 show jo (fc nm back d)=jo d
 unfold jo
 rw[xR,Ea]
theorem WS (L:List aH) (nm back:List UInt8):fW (dS L nm back)=fW L:=by
 unfold fW dS
 rw[List.map_map]
 refine List.map_congr_left fun d _=>?_
 show((fc nm back d).am,j0 (fc nm back d))=_
 unfold j0
 rw[Eb,Nv,Nw]
theorem gF.dS {L:List aH} (h:gF L) (nm back:List UInt8):gF (dS L nm back):=by
 have key: ∀{α:Type} (f:aH→α),(∀d,f (fc nm back d)=f d)→(Go.Proofs.YteoamepgonpdlaaGreat.dS L nm back).map f=L.map f:=fun f hf=>by
  unfold Go.Proofs.YteoamepgonpdlaaGreat.dS
  rw[List.map_map]
  exact List.map_congr_left fun d _=>hf d
 exact⟨by rw[key _ (xR nm back)];exact h.kg,by rw[key _ (Ea nm back)];exact h.vF,by rw[key _ (Eb nm back)];exact h.uy⟩
theorem Is {L:List aH} {nm:List UInt8} (back:List UInt8) (h:nm∉L.map (·.nm)):dS L nm back=L:=by
 unfold dS
 refine(List.map_congr_left fun d hd=>?_).trans (List.map_id' L)
 unfold fc
 rw[if_neg fun e=>h (by rw[←e];exact List.mem_map_of_mem hd)]
theorem It {back:List UInt8} {nm:List UInt8}: ∀{L:List aH},(L.map (·.nm)).Nodup→(L.map (·.ad)).Nodup→ ∀{d:aH},dk L nm=some d→iP (iT L) d.ad (rT d.am back)=iT (dS L nm back)
 | [],_,_,d,h=>by cases h
 |e::L,hn,ha,d,h=>by
  rw[List.map_cons] at hn ha
  obtain⟨eM,gj⟩:=List.nodup_cons.1 hn
  obtain⟨ct,cB⟩:=List.nodup_cons.1 ha
  rw[nU] at h
  show iP ((e.ad,rT e.am e.back)::iT L) d.ad (rT d.am back)=iT (fc nm back e::dS L nm back)
  unfold iP
  by_cases c:e.nm=nm
  ·rw[if_pos c] at h
   injection h with h
   subst h
   rw[if_pos rfl,Is back (by rw[←c];exact eM)]
   unfold fc
   rw[if_pos c]
   rfl
  ·rw[if_neg c] at h
   have bf: ¬e.ad=d.ad:=fun x=>ct (by rw[x];exact List.mem_map_of_mem (f:=fun d:aH=>d.ad) (cT h).1)
   rw[if_neg bf,It gj cB h]
   unfold fc
   rw[if_neg c]
   rfl
theorem nV (nm back n:List UInt8): ∀L:List aH,dk (dS L nm back) n=(dk L n).map (fc nm back)
 | []=>rfl
 |d::L=>by
  show dk (fc nm back d::dS L nm back) n=_
  rw[nU,nU,xR,nV nm back n L]
  split <;>rfl
theorem WT {L:List aH} (hn:(L.map (·.nm)).Nodup) {nm back:List UInt8} {d:aH} (h:dk L nm=some d):dS (dS L nm back) nm d.back=L:=by
 induction L with
 |nil=>cases h
 |cons e L aY=>
  rw[List.map_cons] at hn
  obtain⟨eM,gj⟩:=List.nodup_cons.1 hn
  rw[nU] at h
  show fc nm d.back (fc nm back e)::dS (dS L nm back) nm d.back=e::L
  by_cases c:e.nm=nm
  ·rw[if_pos c] at h
   injection h with h
   subst h
   have cL:nm∉L.map (·.nm):=by rw[←c];exact eM
   rw[Is back cL,Is _ cL]
   congr 1
   unfold fc
   rw[if_pos c,if_pos c]
  ·rw[if_neg c] at h
   rw[aY gj h]
   congr 1
   unfold fc
   rw[if_neg c,if_neg c]
@[reducible] def WU (nm back qp:List UInt8) (ad:Nat):aQ:=[(0,aI 1001),(1,bN nm),(2,bN back),(7,mY ad),(8,bN qp)]
@[reducible] def WV (qp:List UInt8) (ad:Nat) (l:List (List UInt8)) (j:Nat):aQ:=[(0,aI 1001),(7,mY ad),(8,bN qp),(46,cJ .str l),(47,aD (l.length:Nat)),(48,aD (j:Nat))]
theorem Nx {I:Nat→Prop} {w:World} {s:List UInt8} {z:Value} (h:Den I w (.str s) z):z.cells=List.toArray [z]∧z.oneCell'=true:=by
 have h:z= .string ⟨s.toArray⟩:=h
 subst h
 exact⟨rfl,rfl⟩
theorem WW (bits room:Int) (L:List aH) (dn:gF L) (aB: ∀d,d∈L→d.nm.length≤100000) (mF:L.length≤100) (nm back:List UInt8) (d:aH) (hd:dk L nm=some d) (au:(decide (back=[])||(dk L back).isSome)=true) (k:Nat) (bW:dK L back k) (xH:k≤1000000) (h: ¬(nm=back∨nm∈cH L k back))
  (zo:List UInt8→Nat) (WX: ∀n∈ic L,dK (dS L nm back) n (zo n)∧zo n≤1000000) (r:Int) (Ec:List aH) (bD:(∀n∈ic L,zo n≤8)→r=0∧Ec=dS L nm back) (eS:(∃n∈ic L,8 < zo n)→r=142∧Ec=L):
  Fn Tryz.prog 53 [aI 1001,bN nm,bN back] (bP bits room L) [] (aD r) (bP bits room Ec):=by
 obtain⟨rU,iJ,iK⟩:=m0 DY
 have gP:=zk bits room L back
 rw[au] at gP
 have hx:(cz (aO:=.str) (aV:=.aW) (cq L) nm).getD (dflt .aW)=some d.ad:=by rw[iA,hd];rfl
 have eC:=zl bits room L dn back k bW xH
 have xP:=mD bW
 generalize cH L k back=bs at eC xP h
 have mU:=Nu bs nm (by omega)
 have AQ:bs.contains nm=false:=by
  have:=fun e=>h (.inr e)
  simpa using this
 rw[AQ] at mU
 have mE:=dn.D (cT hd).1
 have BA:=dn.dS nm back
 have jk:dk (dS L nm back) nm=some (fc nm back d):=by rw[nV,hd];rfl
 have Ny:=BA.D (cT jk).1
 rw[Ea,Eb,show(fc nm back d).back=back by unfold fc;rw[if_pos (cT hd).2]] at Ny
 have xN:=WR L nm back
 have D8:=WS L nm back
 have Il:iP (iT L) d.ad (rT d.am back)=iT (dS L nm back):=It dn.kg dn.vF hd
 have WY:iP (iT (dS L nm back)) d.ad (rT d.am d.back)=iT L:=by
  have:=It (back:=d.back) BA.kg BA.vF jk
  rw[Ea,Eb,WT dn.kg hd] at this
  exact this
 have y4:=Nl bits room (dS L nm back) BA (fun x hx=>by
  obtain⟨y,aF,rfl⟩:=List.mem_map.1 hx
  rw[xR]
  exact aB y aF) (by unfold dS;rw[List.length_map];exact mF)
 have WZ:ic (dS L nm back)=ic L:=by unfold ic;rw[xN]
 rw[WZ] at y4
 have hlen:=D5 L
 generalize ic L=l at*
 refine Fn.of aj [6,8,12] _ _ _ _ _ Tryz.func53 rfl rfl (by kernel_rfl) (by kernel_rfl) rfl (aK aj) rfl ?_
 refine⟨fun eX bk=>?_,fun ag=>absurd (show(cz (aO:=.str) (aV:=.aW) (cq L) nm).getD (dflt .aW)=none from ag) (by rw[hx];intro h;cases h)⟩
 refine⟨_,_,_,_,gP,⟨rfl,rfl,rfl,rfl,trivial⟩,rfl,?_⟩
 refine⟨fun eR=>absurd eR (by decide),fun _=>?_⟩
 refine⟨fun gW=>?_,fun gW=>?_⟩
 ·exact absurd (.inl (of_decide_eq_true gW)) h
 refine⟨_,_,_,_,eC,⟨rfl,rfl,rfl,rfl,trivial⟩,rfl,?_⟩
 refine⟨_,_,_,_,mU,trivial,rfl,?_⟩
 refine⟨fun eR=>absurd eR (by decide),fun _=>?_⟩
 show aE _ _ _ _ _ _ _
 refine aE.go aj (aK aj) [8,12] (by kernel_rfl) (ah.refl _ _) ?_
 refine⟨_,_,fun N=>nS (b:=d.ad) rfl (by exact oC hx) N,rfl,?_⟩
 refine⟨_,_,fun N=>nT rfl Tryz.underlying130 rfl rfl iJ (by rw[iK];decide) rfl N,rfl,?_⟩
 refine⟨_,_,fun N=>o4 (q:=1003) rfl Tryz.underlying9 rfl rfl rfl mE rfl N,rfl,?_⟩
 refine⟨_,_,fun N=>nS (b:=d.ad) rfl (by exact oC hx) N,rfl,?_⟩
 refine⟨_,_,fun N=>nT rfl Tryz.underlying130 rfl rfl iJ (by rw[iK];decide) rfl N,rfl,?_⟩
 refine⟨_,_,fun N=>M0 (q:=1003) (b:=d.ad) (j:=1) (y:=.str back) (l:=DX d.am d.back) (h':=fun _=>rfl) rfl iJ iK rfl rfl rfl mE (Nat.lt_succ_self 1) Nx N,rfl,?_⟩
 show aE _ _ _ _ _ _ _
 refine aE.go aj (aK aj) [12] (by kernel_rfl) (ah.sub (K':=WU nm back d.back d.ad) (B':=bP bits room (dS L nm back)) ⟨rfl,rfl,rfl,hx,rfl,trivial⟩ ⟨rfl,congrArg (fun e=>some (bF.map .str .aW e)) xN.symm,congrArg (fun e=>some (bF.obj (.cO e))) Il,congrArg (fun e=>some (bF.obj (.cO e))) D8.symm,trivial⟩) ?_
 refine⟨_,_,_,_,y4,⟨rfl,rfl,rfl,rfl,trivial⟩,rfl,?_⟩
 show aE _ _ _ _ _ _ _
 refine aE.loop aj (aK aj) [12] (by kernel_rfl) (X:=Nat) (WV d.back d.ad l) (fun _=>bP bits room (dS L nm back)) (fun j=>j≤l.length∧ ∀n∈l.take j,zo n≤8) (fun j=>l.length - j) 0 ⟨Nat.zero_le _,fun n hn=>by rw[List.take_zero] at hn;cases hn⟩ ?_ ?_
 ·exact ah.sub ⟨rfl,rfl,rfl,rfl,rfl,rfl,trivial⟩ ⟨rfl,rfl,rfl,rfl,trivial⟩
 intro j ⟨ak,Iu⟩
 refine⟨fun h=>?_,fun h=>?_⟩
 ·have h:decide ((j:Int) < (l.length:Nat))=true:=h
  have fJ:j < l.length:=by simpa using h
  have fT:(0:Int)≤(j:Int):=by omega
  have qR:(-9223372036854775808:Int)≤(j:Int)+1∧(j:Int)+1≤9223372036854775807:=by omega
  obtain⟨Nz,GW⟩:=WX _ (List.getElem_mem fJ)
  have jY:=List.getElem_mem fJ
  have wM:=List.take_succ_eq_append_getElem fJ
  have sC:=zl bits room (dS L nm back) BA _ _ Nz GW
  have W3:=mD Nz
  refine⟨fT,l[j],eY (n:=j) fJ,?_⟩
  generalize l[j]=n at*
  generalize cH (dS L nm back) (zo n) n=ns at sC W3
  refine⟨_,_,_,_,sC,⟨rfl,rfl,rfl,rfl,trivial⟩,rfl,?_⟩
  refine⟨fun o9=>?_,fun o9=>?_⟩
  ·have o9:(8:Int) < (ns.length:Int):=of_decide_eq_true o9
   obtain⟨rfl,rfl⟩:=eS ⟨n,jY,by omega⟩
   show aE _ _ _ _ _ _ _
   refine aE.go aj (aK aj) [] (by kernel_rfl) (ah.sub (K':=[(7,mY d.ad),(8,bN d.back)]) (B':=bP bits room (dS Ec nm back)) ⟨rfl,rfl,trivial⟩ ⟨rfl,rfl,rfl,rfl,trivial⟩) ?_
   refine⟨_,_,fun N=>nS (b:=d.ad) rfl rfl N,rfl,?_⟩
   refine⟨_,_,fun N=>nT rfl Tryz.underlying130 rfl rfl iJ (by rw[iK];decide) rfl N,rfl,?_⟩
   refine⟨_,_,fun N=>M0 (q:=1003) (b:=d.ad) (j:=1) (y:=.str d.back) (l:=DX d.am back) (h':=fun _=>rfl) rfl iJ iK rfl rfl rfl Ny (Nat.lt_succ_self 1) Nx N,rfl,?_⟩
   exact⟨_,_,_,ah.refl _ _,rfl,rfl,⟨rfl,congrArg (fun e=>some (bF.map .str .aW e)) xN,congrArg (fun e=>some (bF.obj (.cO e))) WY,congrArg (fun e=>some (bF.obj (.cO e))) D8,trivial⟩,rfl⟩
  ·have o9: ¬(8:Int) < (ns.length:Int):=of_decide_eq_false o9
   refine⟨qR,j+1,⟨fJ,fun wF ux=>?_⟩,by omega,ah.sub ⟨rfl,rfl,rfl,rfl,rfl,rfl,trivial⟩ ⟨rfl,rfl,rfl,rfl,trivial⟩⟩
   rw[wM] at ux
   rcases List.mem_append.1 ux with ux |ux
   ·exact Iu wF ux
   ·rw[List.mem_singleton] at ux
    subst ux
    omega
 ·have h:decide ((j:Int) < (l.length:Nat))=false:=h
  have fJ:j=l.length:=by simp at h;omega
  subst fJ
  rw[List.take_length] at Iu
  obtain⟨rfl,rfl⟩:=bD Iu
  exact⟨_,_,_,ah.refl _ _,rfl,rfl,⟨rfl,rfl,rfl,rfl,trivial⟩,rfl⟩
end Go.Proofs.YteoamepgonpdlaaGreat
namespace Go.Proofs.YteoamepgonpdlaaGreat
set_option linter.unusedVariables false
set_option linter.unusedSimpArgs false
set_option maxRecDepth 10000
open Go.RowKit Go.Proofs
@[reducible] def W4 (nm:List UInt8):aG:=[(2001,.cells [.ptr 1001 0]),(2002,.cells [.d (.str nm)])]
@[reducible] def NA (bits room:Int) (L:List aH) (nm:List UInt8):aG:=bP bits room L++W4 nm
theorem W5 (bits room:Nat) (L:List aH) (bG:m8 bits room L) (nm:List UInt8) (d0:aH) (aC:dk L nm=some d0) (cR:Nat) (iz:dK L nm cR) (o6:cR≤100) (k:Nat) (au:k < d0.im.t.length):
  Fn Tryz.prog 114 [aD (k:Int),aI 2001,aI 2002] (NA bits room L nm) [] (cJ .u8 (m9 bits L nm cR k)) (NA bits room L nm):=by
 have cQ:=H9 bits room L bG nm d0 aC cR iz o6 k au
 generalize m9 bits L nm cR k=y at cQ
 refine Fn.of aj [] _ _ _ _ _ Tryz.func114 rfl rfl (by kernel_rfl) (by kernel_rfl) rfl (aK aj) rfl ?_
 refine⟨_,_,_,_,cQ,⟨rfl,rfl,rfl,rfl,trivial⟩,rfl,?_⟩
 exact⟨_,_,_,ah.refl _ _,rfl,rfl,⟨rfl,rfl,rfl,rfl,rfl,rfl,trivial⟩,rfl⟩
theorem Iv (bits room:Int) (L:List aH) (nm:List UInt8) (aC:dk L nm=none) (g:Nat) (x y:D):
  Fn Tryz.prog 89 [aI 1001,bN nm,.c (.one (.eH g [.p 3001 0,.p 3002 0]))] (bP bits room L++[(3001,.cells [.d x]),(3002,.cells [.d y])]) [] (aD 140) (bP bits room L++[(3001,.cells [.d x]),(3002,.cells [.d y])]):=by
 have hx:(cz (aO:=.str) (aV:=.aW) (cq L) nm).getD (dflt .aW)=none:=by rw[iA,aC];rfl
 refine Fn.of aj [2] _ _ _ _ _ Tryz.func89 rfl rfl (by kernel_rfl) (by kernel_rfl) rfl (aK aj) rfl ?_
 refine⟨rfl,?_⟩
 refine⟨rfl,?_⟩
 refine⟨rfl,?_⟩
 show aE _ _ _ _ _ _ _
 refine aE.go aj (aK aj) [] (by kernel_rfl) (ah.refl _ _) ?_
 refine⟨fun eX ag=>absurd (show(cz (aO:=.str) (aV:=.aW) (cq L) nm).getD (dflt .aW)=some eX from ag) (by rw[hx];intro h;cases h),fun _=>?_⟩
 exact⟨_,_,_,ah.refl _ _,rfl,rfl,⟨rfl,rfl,rfl,rfl,rfl,rfl,trivial⟩,rfl⟩
theorem Sat.sub {N:Nat} {ids:List Nat} {C:Ctx} {K K':aQ} {B B':aG} {a:Act} {w:World} (h:Sat N ids C K B a w) (hK:AH K K') (eA:nA B B'):Sat N ids C K' B' a w:=ah.sub hK eA N C a w h
theorem W6 (t:List eD):jG (.obj (qK t)):=by
 rintro lY rK I F w p jW _ hp ⟨es,h,bl⟩
 exact⟨es,h,jG.ud (c:=1001) (Bu (bR:=oz (t.length:Nat) es) ⟨jG.cells rfl,jG.map,trivial⟩) lY rK I F w p jW (fun _ h=>by cases h) hp bl⟩
theorem W7 (l:List Int):jG (.obj (qL l)):=by
 rintro lY rK I F w p jW _ hp ⟨ρ,G,aa,af,aA,bE⟩
 refine⟨dx ρ 1001 jW,G,dN ..,fun d ch hd=>?_,aA,bE⟩
 have eo:=af d ch hd
 rw[cC] at hd
 split at hd
 ·rename_i e
  injection hd with hd
  subst hd e
  obtain⟨g1,vs,T,g2,bL⟩:=eo
  rw[dN]
  rw[aa] at g1 g2
  exact⟨fun b=>by rw[hp];exact g1 b,vs,T,by rw[hp];exact g2,bZ.mono (Ext.refl _ _) _ vs (fun c hc=>dL _ _ (fun e=>by subst e;cases hc)) bL⟩
 ·rename_i e
  rw[dL _ _ (Ne.symm e)]
  rw[cC] at hd
  split at hd
  ·injection hd with hd
   subst hd
   exact Holds.cA (Ext.refl _ _) (fun _ _=>rfl) (Nat.le_refl _) _ (fun c hc=>by cases hc) eo
  ·cases hd
theorem W8 (f:kI):jG (.obj (mz f)):=by
 intro lY rK I F w p jW _ hp h
 have h:vr (fun _=>none) f I F w p:=h
 show vr (fun _=>none) f I F w jW
 unfold vr at*
 rw[hp]
 exact h
theorem W9 (s:bz):DT (dh s):=⟨jG.cells rfl,W6 _,W7 _,W8 _,trivial⟩
def g5 (nm:List UInt8) (im:bz) (cF:Option (Nat→Nat)) (d:aH):aH:=if d.nm=nm then {d with im:=im,cF:=cF} else d
def lim (L:List aH) (nm:List UInt8) (im:bz) (cF:Option (Nat→Nat)):List aH:=L.map (g5 nm im cF)
section
variable (nm:List UInt8) (im:bz) (cF:Option (Nat→Nat)) (d:aH)
theorem zq:(g5 nm im cF d).nm=d.nm:=by unfold g5;split <;>rfl
theorem Iw:(g5 nm im cF d).ad=d.ad:=by unfold g5;split <;>rfl
theorem NB:(g5 nm im cF d).am=d.am:=by unfold g5;split <;>rfl
theorem zu:(g5 nm im cF d).back=d.back:=by unfold g5;split <;>rfl
theorem Ed (L:List aH):cq (lim L nm im cF)=cq L:=by
 unfold cq lim
 rw[List.map_map]
 refine List.map_congr_left fun d _=>?_
 show jo (g5 nm im cF d)=jo d
 unfold jo
 rw[zq,Iw]
theorem Ee (L:List aH):iT (lim L nm im cF)=iT L:=by
 unfold iT lim
 rw[List.map_map]
 refine List.map_congr_left fun d _=>?_
 show((g5 nm im cF d).ad,rT (g5 nm im cF d).am (g5 nm im cF d).back)=_
 rw[Iw,NB,zu]
theorem vL (n:List UInt8): ∀L:List aH,dk (lim L nm im cF) n=(dk L n).map (g5 nm im cF)
 | []=>rfl
 |d::L=>by
  show dk (g5 nm im cF d::lim L nm im cF) n=_
  rw[nU,nU,zq,vL n L]
  split <;>rfl
end
theorem BB {L:List aH} {nm:List UInt8} {d:aH} (h:dk L nm=some d) (im:bz) (cF:Option (Nat→Nat)):dk (lim L nm im cF) nm=some {d with im:=im,cF:=cF}:=by
 rw[vL,h]
 show some (g5 nm im cF d)=_
 unfold g5
 rw[if_pos (cT h).2]
theorem Ix {L:List aH} {nm n:List UInt8} (bf:n≠nm) (im:bz) (cF:Option (Nat→Nat)):dk (lim L nm im cF) n=dk L n:=by
 rw[vL]
 cases h:dk L n with
 |none=>rfl
 |some d=>
  show some (g5 nm im cF d)=_
  unfold g5
  rw[if_neg (fun e=>bf ((cT h).2.symm.trans e))]
theorem Xa {L:List aH} {nm:List UInt8} (im:bz) (cF:Option (Nat→Nat)) (h:nm∉L.map (·.nm)):lim L nm im cF=L:=by
 unfold lim
 refine(List.map_congr_left fun d hd=>?_).trans (List.map_id' L)
 unfold g5
 rw[if_neg fun e=>h (by rw[←e];exact List.mem_map_of_mem hd)]
theorem Ef {nm:List UInt8} {im:bz} {cF:Option (Nat→Nat)}: ∀{L:List aH},(L.map (·.nm)).Nodup→(L.map (·.am)).Nodup→ ∀{d:aH},dk L nm=some d→iP (fW L) d.am (j0 {d with im:=im,cF:=cF})=fW (lim L nm im cF)
 | [],_,_,d,h=>by cases h
 |e::L,hn,ha,d,h=>by
  rw[List.map_cons] at hn ha
  obtain⟨eM,gj⟩:=List.nodup_cons.1 hn
  obtain⟨ct,cB⟩:=List.nodup_cons.1 ha
  rw[nU] at h
  show iP ((e.am,j0 e)::fW L) d.am _=fW (g5 nm im cF e::lim L nm im cF)
  unfold iP
  by_cases c:e.nm=nm
  ·rw[if_pos c] at h
   injection h with h
   subst h
   rw[if_pos rfl,Xa im cF (by rw[←c];exact eM)]
   unfold g5
   rw[if_pos c]
   rfl
  ·rw[if_neg c] at h
   have bf: ¬e.am=d.am:=fun x=>ct (by rw[x];exact List.mem_map_of_mem (f:=fun d:aH=>d.am) (cT h).1)
   rw[if_neg bf,Ef gj cB h]
   unfold g5
   rw[if_neg c]
   rfl
theorem NC {b:Nat} {o:bK}: ∀L:List (Nat×bK),kz (iP L b o) b=kz L b
 | []=>rfl
 |(a,q)::L=>by
  unfold iP
  by_cases e:a=b
  ·rw[if_pos e]
   show(if a=b then L else _)=if a=b then L else _
   rw[if_pos e,if_pos e]
  ·rw[if_neg e]
   show(if a=b then _ else(a,q)::kz (iP L b o) b)=if a=b then L else(a,q)::kz L b
   rw[if_neg e,if_neg e,NC L]
theorem ND {L:List aH} (nm:List UInt8) (im:bz) (cF:Option (Nat→Nat)) {n:List UInt8} {k:Nat} (h:dK L n k):dK (lim L nm im cF) n k:=by
 induction h with
 |gone h=>exact .gone (by rw[vL,h];rfl)
 |base aa af=>exact .base (d:=g5 nm im cF _) (by rw[vL,aa];rfl) (by rw[zu];exact af)
 |step aa af aA aY=>exact .step (d:=g5 nm im cF _) (by rw[vL,aa];rfl) (by rw[zu];exact af) (by rw[zu];exact aY)
theorem NF (L:List aH) (nm:List UInt8) (im:bz) (cF:Option (Nat→Nat)): ∀(k:Nat) (n:List UInt8),cH (lim L nm im cF) k n=cH L k n
 |0,_=>rfl
 |k+1,n=>by
  show(match dk (lim L nm im cF) n with |none=>[] |some d=>d.back::cH (lim L nm im cF) k d.back)=match dk L n with |none=>[] |some d=>d.back::cH L k d.back
  rw[vL]
  cases h:dk L n with
  |none=>rfl
  |some d=>
   show(g5 nm im cF d).back::cH (lim L nm im cF) k (g5 nm im cF d).back=d.back::cH L k d.back
   rw[zu,NF L nm im cF k]
theorem gF.lim {L:List aH} (h:gF L) (nm:List UInt8) (im:bz) (cF:Option (Nat→Nat)):gF (lim L nm im cF):=by
 have key: ∀{α:Type} (f:aH→α),(∀d,f (g5 nm im cF d)=f d)→(Go.Proofs.YteoamepgonpdlaaGreat.lim L nm im cF).map f=L.map f:=fun f hf=>by
  unfold Go.Proofs.YteoamepgonpdlaaGreat.lim
  rw[List.map_map]
  exact List.map_congr_left fun d _=>hf d
 exact⟨by rw[key _ (zq nm im cF)];exact h.kg,by rw[key _ (Iw nm im cF)];exact h.vF,by rw[key _ (NB nm im cF)];exact h.uy⟩
theorem m8.lim {bits room:Nat} {L:List aH} (h:m8 bits room L) {nm:List UInt8} {d0:aH} (aC:dk L nm=some d0) {im:bz} (hs:jg d0.im im) (cF:Option (Nat→Nat)):m8 bits room (lim L nm im cF):=by
 obtain⟨fG,iy,p8⟩:=h.iU d0 (cT aC).1
 have key: ∀d,d∈Go.Proofs.YteoamepgonpdlaaGreat.lim L nm im cF→ ∃e,e∈L∧g5 nm im cF e=d:=fun d hd=>by
  obtain⟨e,he,rfl⟩:=List.mem_map.1 hd
  exact⟨e,he,rfl⟩
 refine⟨h.togF.lim nm im cF,h.eT,h.uz,by unfold Go.Proofs.YteoamepgonpdlaaGreat.lim;rw[List.length_map];exact h.len,fun d hd=>?_,fun d hd ag=>?_,fun d hd=>?_,fun d hd=>?_⟩
 ·obtain⟨e,he,rfl⟩:=key d hd
  unfold g5
  split
  ·exact⟨hs.ok,hs.bits.trans iy,hs.k3.trans p8⟩
  ·exact h.iU e he
 ·obtain⟨e,he,rfl⟩:=key d hd
  rw[zu] at ag⊢
  obtain⟨e',h'⟩:=h.qT e he ag
  exact⟨g5 nm im cF e',by rw[vL,h'];rfl⟩
 ·obtain⟨e,he,rfl⟩:=key d hd
  rw[zq]
  exact h.ne e he
 ·obtain⟨e,he,rfl⟩:=key d hd
  rw[zq]
  obtain⟨k,au,hd⟩:=h.zm e he
  exact⟨k,au,ND nm im cF hd⟩
theorem BC {L:List aH} {n:List UInt8} {k k':Nat} (h:dK L n k) (h':dK L n k'):k=k':=by
 induction h generalizing k' with
 |gone h=>
  cases h' with
  |gone _=>rfl
  |base _ _=>rfl
  |step aa _ _=>rw[h] at aa;cases aa
 |base aa af=>
  cases h' with
  |gone _=>rfl
  |base _ _=>rfl
  |step g1 g2 _=>rw[aa] at g1;injection g1 with g1;rw[←g1] at g2;exact absurd af g2
 |step aa af aA aY=>
  cases h' with
  |gone h=>rw[aa] at h;cases h
  |base g1 g2=>rw[aa] at g1;injection g1 with g1;rw[←g1] at g2;exact absurd g2 af
  |step g1 g2 bL=>rw[aa] at g1;injection g1 with g1;rw[←g1] at bL;rw[aY bL]
theorem NG {L:List aH} {n:List UInt8} {k:Nat} (h:dK L n k): ∀x,x∈cH L k n→ ∃j,j < k∧dK L x j:=by
 induction h with
 |gone _=>intro x hx;cases hx
 |base _ _=>intro x hx;cases hx
 | @step n d k aa af aA aY=>
  intro x hx
  unfold cH at hx
  rw[aa] at hx
  rcases List.mem_cons.1 hx with rfl |hx
  ·exact⟨k,Nat.lt_succ_self k,aA⟩
  ·obtain⟨j,ak,hd⟩:=aY x hx
   exact⟨j,by omega,hd⟩
theorem NH {L:List aH} {n:List UInt8} {k:Nat} (h:dK L n k):n∉cH L k n:=fun hx=>by
 obtain⟨j,ak,hd⟩:=NG h n hx
 have:=BC h hd
 omega
theorem NI {bits:Nat} {L:List aH} {nm:List UInt8} {im:bz} {cF:Option (Nat→Nat)} {c:Nat}: ∀(ns:List (List UInt8)) (i:Nat),nm∉ns→eZ bits (lim L nm im cF) c ns i=eZ bits L c ns i
 | [],_,_=>rfl
 |n::ns,i,h=>by
  have bf:n≠nm:=fun e=>h (by rw[e];exact List.mem_cons_self ..)
  have aY:=NI (bits:=bits) (L:=L) (nm:=nm) (im:=im) (cF:=cF) (c:=c) ns (i+1) fun hm=>h (List.mem_cons_of_mem _ hm)
  unfold eZ
  rw[Ix bf,aY]
def mG (bits:Nat) (L:List aH) (nm:List UInt8) (cR c:Nat):List UInt8:=(eZ bits L c (cH L cR nm) 1).1
theorem Xb {bits:Nat} {L:List aH} {nm:List UInt8} {d0:aH} (aC:dk L nm=some d0) {cR:Nat} (iz:dK L nm cR) (im:bz) (cF:Option (Nat→Nat)) (c:Nat):
  m9 bits (lim L nm im cF) nm cR c=if c < im.t.length∧(im.t.getD c s0).1≠0 then dR im c none else mG bits L nm cR c:=by
 unfold m9 mG
 rw[NF]
 conv=>lhs;unfold eZ
 rw[BB aC]
 simp only
 split
 ·rfl
 ·rw[NI _ _ (NH iz)]
@[reducible] def zv (bits room:Int) (L:List aH) (nm:List UInt8) (am:Nat):aG:=[(8001,.cells [.d (.int .i64 bits),.d (.int .i64 room),.mp 8002]),(8002,.map .str .aW (cq L)),(8003,.obj (.cO (iT L))),(8004,.obj (.cO (kz (fW L) am))),(8005,.cells [.ptr 8001 0]),(8006,.cells [.d (.str nm)])]
def rW (bits room:Int) (L:List aH) (nm:List UInt8) (am:Nat) (bs:Nat→Nat):bn→bK:=.tie am (.m6 (zv bits room L nm am) bs)
theorem NJ (bits room:Int) (L:List aH) (nm:List UInt8) (am:Nat):DT (zv bits room L nm am):=⟨jG.cells rfl,jG.map,jG.cO,jG.cO,jG.cells rfl,jG.cells rfl,trivial⟩
@[reducible] def k6 (bits room:Int) (L:List aH) (nm:List UInt8):aG:=[(8001,.cells [.d (.int .i64 bits),.d (.int .i64 room),.mp 8002]),(8002,.map .str .aW (cq L)),(8003,.obj (.cO (iT L))),(8004,.obj (.cO (fW L))),(8005,.cells [.ptr 8001 0]),(8006,.cells [.d (.str nm)])]
@[reducible] def BD (am cZ dA dB:Nat):Nat→Nat:=fun c=>cond (Nat.beq c 1001) am (cond (Nat.beq c 1002) cZ (cond (Nat.beq c 1003) dA dB))
@[reducible] def pg (cZ dA dB:Nat):Nat→Nat:=fun c=>cond (Nat.beq c 1002) cZ (cond (Nat.beq c 1003) dA dB)
@[reducible] def NK (am cZ dA dB:Nat):aG:=[(9001,.dep 1001 (jh am)),(9002,.dep 1002 (jh cZ)),(9003,.dep 1003 (jh dA)),(9004,.dep 1004 (jh dB))]
@[reducible] def Iy (bs:Nat→Nat):aG:=[(7001,.dep 8001 (jh (bs 8001))),(7002,.dep 8002 (jh (bs 8002))),(7003,.dep 8003 (jh (bs 8003))),(7004,.dep 8004 (jh (bs 8004))),(7005,.dep 8005 (jh (bs 8005))),(7006,.dep 8006 (jh (bs 8006)))]
theorem Xc (bits room:Nat) (L:List aH) (bG:m8 bits room L) (nm:List UInt8) (d0:aH) (aC:dk L nm=some d0) (cR:Nat) (iz:dK L nm cR) (o6:cR≤100) (k:Nat) (au:k < d0.im.t.length):
  Fn Tryz.prog 114 [aD (k:Int),aI 8005,aI 8006] (k6 bits room L nm) [] (cJ .u8 (m9 bits L nm cR k)) (k6 bits room L nm):=
 Fn.ren [(1001,8001),(1002,8002),(1003,8003),(1004,8004),(2001,8005),(2002,8006)] (W5 bits room L bG nm d0 aC cR iz o6 k au)
theorem Xd (bits room:Nat) (L:List aH) (bG:m8 bits room L) (nm:List UInt8) (d0:aH) (aC:dk L nm=some d0) (cR:Nat) (iz:dK L nm cR) (o6:cR≤100) (s:bz) (hs:jg d0.im s) (bs:Nat→Nat) (c:Nat) (hc:c < s.t.length) (aS:(s.t[c]).1=0):
  DD s (rW bits room L nm d0.am bs) (bs 8005) (bs 8006) c (mG bits L nm cR c):=by
 have hlen:(mG bits L nm cR c).length≤1000000:=by
  have:=Nb bG c (cH L cR nm) 1
  unfold mG
  omega
 refine⟨hlen,?_⟩
 have gG:=bG.togF.M (cT aC).1
 have FK: ∀cF,m9 bits (lim L nm s cF) nm cR c=mG bits L nm cR c:=fun cF=>by
  rw[Xb aC iz,if_neg fun h=>h.2 (by rw[List.getD_eq_getElem?_getD,List.getElem?_eq_getElem hc];exact aS)]
 have nJ: ∀cF,Fn Tryz.prog 114 [aD (c:Int),aI 8005,aI 8006] (k6 bits room (lim L nm s cF) nm) [] (cJ .u8 (mG bits L nm cR c)) (k6 bits room (lim L nm s cF) nm):=fun cF=>by
  have:=Xc bits room (lim L nm s cF) (bG.lim aC hs cF) nm _ (BB aC s cF) cR (ND nm s cF iz) o6 c hc
  rw[FK cF] at this
  exact this
 have NL: ∀cZ dA dB,j0 {d0 with im:=s,cF:=some (pg cZ dA dB)}= .m6 (dh s) (BD d0.am cZ dA dB):=fun cZ dA dB=>rfl
 have nH: ∀cZ dA dB,iP (fW L) d0.am (.m6 (dh s) (BD d0.am cZ dA dB))=fW (lim L nm s (some (pg cZ dA dB))):=fun cZ dA dB=>by
  rw[←NL]
  exact Ef bG.kg bG.uy aC
 have Xe: ∀cZ dA dB,jd (fW (lim L nm s (some (pg cZ dA dB)))) d0.am=some (.m6 (dh s) (BD d0.am cZ dA dB)):=fun cZ dA dB=>by
  have:=(bG.togF.lim nm s (some (pg cZ dA dB))).M (cT (BB aC s (some (pg cZ dA dB)))).1
  rw[NL] at this
  exact this
 have Xf: ∀cZ dA dB,kz (fW (lim L nm s (some (pg cZ dA dB)))) d0.am=kz (fW L) d0.am:=fun cZ dA dB=>by
  rw[←nH,NC]
 refine Fn.via (X:=Nat×Nat×Nat) (args':=fun _=>[aD (c:Int),aI 8005,aI 8006]) (xC:=fun x=>k6 bits room (lim L nm s (some (pg x.1 x.2.1 x.2.2))) nm++(Iy bs++NK d0.am x.1 x.2.1 x.2.2)) (qA:=fun x=>k6 bits room (lim L nm s (some (pg x.1 x.2.1 x.2.2))) nm) (jC:=fun _=>[]) (res':=fun _=>cJ .u8 (mG bits L nm cR c)) (xD:=fun x=>k6 bits room (lim L nm s (some (pg x.1 x.2.1 x.2.2))) nm)
  (by kernel_rfl) 3 rfl ?_ (fun x=>nJ _) (fun x=>⟨rfl,rfl,rfl,rfl,rfl,rfl,trivial⟩) (fun x=>rfl) (fun x=>rfl) ?_
 ·intro N C a w Iz
  have aa:=ah.loose 9000 1001 d0.am rfl N C a w (ah.VI 9000 1001 9001 d0.am rfl rfl (by decide) N C a w Iz)
  obtain⟨cZ,af⟩:=j9.mark 1002 9002 rfl (by decide) N C a w aa
  obtain⟨dA,aA⟩:=j9.mark 1003 9003 rfl (by decide) N C a w af
  obtain⟨dB,bE⟩:=j9.mark 1004 9004 rfl (by decide) N C a w aA
  have ec:=ah.HS 9100 (dh s) (fun c=>c+8000) (BD d0.am cZ dA dB) ⟨rfl,rfl,rfl,rfl,trivial⟩ ⟨rfl,rfl,rfl,rfl,trivial⟩ rfl N C a w bE
  have j5:=ah.place 8006 7006 (bs 8006) rfl rfl (by decide) N C a w (ah.place 8005 7005 (bs 8005) rfl rfl (by decide) N C a w (ah.place 8004 7004 (bs 8004) rfl rfl (by decide) N C a w (ah.place 8003 7003 (bs 8003) rfl rfl (by decide) N C a w (ah.place 8002 7002 (bs 8002) rfl rfl (by decide) N C a w (ah.place 8001 7001 (bs 8001) rfl rfl (by decide) N C a w ec)))))
  have wG:=ah.HU 9000 (zv bits room L nm d0.am) (fun c=>c - 1000) bs rfl ⟨rfl,rfl,rfl,rfl,rfl,rfl,trivial⟩ rfl rfl (Bu (NJ bits room L nm d0.am)) N C a w j5
  have j6:=ah.VM 8004 9100 d0.am rfl rfl gG (by decide) N C a w wG
  have q6:=ah.M4 1 8005 7005 (bs 8005) rfl rfl N C a w j6
  have Ah:=ah.M4 2 8006 7006 (bs 8006) rfl rfl N C a w q6
  have bA:=Ed nm s (some (pg cZ dA dB)) L
  have bW:=Ee nm s (some (pg cZ dA dB)) L
  refine⟨(cZ,dA,dB),Sat.sub Ah ⟨rfl,rfl,rfl,trivial⟩ ⟨rfl,congrArg (fun e=>some (bF.map .str .aW e)) bA.symm,congrArg (fun e=>some (bF.obj (.cO e))) bW.symm,congrArg (fun e=>some (bF.obj (.cO e))) (nH cZ dA dB),rfl,rfl,rfl,rfl,rfl,rfl,rfl,rfl,rfl,rfl,rfl,rfl,trivial⟩⟩
 ·rintro⟨cZ,dA,dB⟩
  have bA:=Ed nm s (some (pg cZ dA dB)) L
  have bW:=Ee nm s (some (pg cZ dA dB)) L
  refine⟨cJ .u8 (mG bits L nm cR c),_,ah.trans (ah.sub (K':=[(3,cJ .u8 (mG bits L nm cR c))]) (B':=k6 bits room (lim L nm s (some (pg cZ dA dB))) nm++(Iy bs++NK d0.am cZ dA dB)) ⟨rfl,trivial⟩ ⟨rfl,rfl,rfl,rfl,rfl,rfl,rfl,rfl,rfl,rfl,rfl,rfl,rfl,rfl,rfl,rfl,trivial⟩)
   (ah.trans (ah.DW 8004 9100 d0.am rfl (Xe cZ dA dB) rfl) (ah.trans (ah.forget 9100 d0.am rfl)
   (ah.trans (ah.HS 9000 (zv bits room L nm d0.am) (fun c=>c - 1000) bs ⟨rfl,congrArg (fun e=>some (bF.map .str .aW e)) bA,congrArg (fun e=>some (bF.obj (.cO e))) bW,congrArg (fun e=>some (bF.obj (.cO e))) (Xf cZ dA dB),rfl,rfl,trivial⟩ ⟨rfl,rfl,rfl,rfl,rfl,rfl,trivial⟩ rfl)
   (ah.trans (ah.VJ 9000 1001 9001 d0.am rfl rfl) (ah.HU 9100 (dh s) (fun c=>c+8000) (BD d0.am cZ dA dB) rfl ⟨rfl,rfl,rfl,rfl,trivial⟩ rfl rfl (Bu (W9 s))))))),?_,?_,?_⟩
  ·exact rfl
  ·exact⟨rfl,rfl,rfl,rfl,rfl,trivial⟩
  ·rfl
theorem NM {f:FuncId} {args:List aN} {res:aN} {s s':bz} {R:bn→bK} (h:Fn Tryz.prog f (aI 1001::args) (fy s R) [] res (fy s' R)) (aa:AW 1001 [1002,1003,1004] (aI 1001::args) (dh s) [(9000,.dep 1001 R)] [] []=true) (af:AX 1001 (vg [1002,1003,1004] [] []) res (dh s') [(9000,.dep 1001 R)]=true):
  Fn Tryz.prog f (aI 1001::args) [(1001,.obj (iQ s)),(9000,.dep 1001 R)] [] res [(1001,.obj (iQ s')),(9000,.dep 1001 R)]:=
 Fn.close (bR:=dh s) (jD:=dh s') (aP:=[(9000,.dep 1001 R)]) (aZ:=[(9000,.dep 1001 R)]) [1002,1003,1004] h (fun _ _ _ _ h=>h) (fun _ _ _ _ h=>h) aa af
@[reducible] def kM (x y:D):aG:=[(3001,.cells [.d x]),(3002,.cells [.d y])]
@[reducible] def zw (dO cZ dA dB kN kO:Nat):Nat→Nat:=fun c=>cond (Nat.beq c 8001) dO (cond (Nat.beq c 8002) cZ (cond (Nat.beq c 8003) dA (cond (Nat.beq c 8004) dB (cond (Nat.beq c 8005) kN kO))))
@[reducible] def BE:aN:=.c (.one (.eH 114 [.p 8005 0,.p 8006 0]))
@[reducible] def Eg (bits room:Int) (L:List aH) (nm:List UInt8) (am:Nat) (s:bz) (dO cZ dA dB kN kO:Nat) (x y:D):aG:=[(7000,.obj (iQ s)),(9000,.dep 7000 (rW bits room L nm am (zw dO cZ dA dB kN kO)))]++(Iy (zw dO cZ dA dB kN kO)++kM x y)
@[reducible] def NN:List Nat:=[8001,8002,8003,8004,8005,8006,3001,3002]
@[reducible] def IA (am:Nat):aQ:=[(0,mY am),(1,BE),(2,aI 3001),(3,aI 3002)]
@[reducible] def Xg (kN kO:Nat):aQ:=[(0,aI 7000),(1,m4 kN kO),(2,aI 3001),(3,aI 3002)]
theorem ah.NO (bits room:Int) (L:List aH) (nm:List UInt8) (am:Nat) (im:bz) (cL:jd (fW L) am=some (iQ im)) (x y:D):
  j9 (X:=Nat×Nat×Nat×Nat×Nat×Nat) NN (IA am) (k6 bits room L nm++kM x y) (fun p=>Xg p.2.2.2.2.1 p.2.2.2.2.2) (fun p=>Eg bits room L nm am im p.1 p.2.1 p.2.2.1 p.2.2.2.1 p.2.2.2.2.1 p.2.2.2.2.2 x y):=by
 intro N C a w Iz
 have aa:=ah.DW 8004 7000 am rfl cL rfl N C a w Iz
 obtain⟨dO,af⟩:=j9.mark 8001 7001 rfl (by decide) N C a w aa
 obtain⟨cZ,aA⟩:=j9.mark 8002 7002 rfl (by decide) N C a w af
 obtain⟨dA,bE⟩:=j9.mark 8003 7003 rfl (by decide) N C a w aA
 obtain⟨dB,ec⟩:=j9.mark 8004 7004 rfl (by decide) N C a w bE
 obtain⟨kN,j5⟩:=j9.mark 8005 7005 rfl (by decide) N C a w ec
 obtain⟨kO,wG⟩:=j9.mark 8006 7006 rfl (by decide) N C a w j5
 have j6:=ah.HS 9000 (zv bits room L nm am) (fun c=>c - 1000) (zw dO cZ dA dB kN kO) ⟨rfl,rfl,rfl,rfl,rfl,rfl,trivial⟩ ⟨rfl,rfl,rfl,rfl,rfl,rfl,trivial⟩ rfl N C a w wG
 have q6:=ah.VL 1 114 8005 8006 7005 7006 kN kO rfl rfl rfl N C a w j6
 have Ah:=ah.VK 0 7000 am rfl rfl N C a w q6
 have Xh:=ah.tie 9000 7000 am rfl rfl (by decide) N C a w Ah
 exact⟨(dO,cZ,dA,dB,kN,kO),Sat.sub Xh ⟨rfl,rfl,rfl,rfl,trivial⟩ ⟨rfl,rfl,rfl,rfl,rfl,rfl,rfl,rfl,rfl,rfl,trivial⟩⟩
theorem ah.NP (bits room:Int) (L:List aH) (dn:gF L) (nm:List UInt8) (d0:aH) (aC:dk L nm=some d0) (hp:d0.cF=none) (s:bz) (dO cZ dA dB kN kO:Nat) (x y:D) (r:Int):
  ah NN [(6,aD r)] (Eg bits room L nm d0.am s dO cZ dA dB kN kO x y) [(6,aD r)] (k6 bits room (lim L nm s none) nm++kM x y):=by
 have gG:=dn.M (cT aC).1
 have bA:=Ed nm s none L
 have bW:=Ee nm s none L
 have az:iP (fW L) d0.am (iQ s)=fW (lim L nm s none):=Ef (cF:=none) (im:=s) dn.kg dn.uy aC
 exact ah.trans (ah.VH 9000 7000 d0.am rfl rfl (by decide)) (ah.trans (ah.HU 9000 (zv bits room L nm d0.am) (fun c=>c - 1000) (zw dO cZ dA dB kN kO) rfl ⟨rfl,rfl,rfl,rfl,rfl,rfl,trivial⟩ rfl rfl (Bu (NJ bits room L nm d0.am)))
  (ah.trans (ah.putAt 8004 7000 d0.am rfl rfl gG (by decide)) (ah.sub ⟨rfl,trivial⟩ ⟨rfl,congrArg (fun e=>some (bF.map .str .aW e)) bA.symm,congrArg (fun e=>some (bF.obj (.cO e))) bW.symm,congrArg (fun e=>some (bF.obj (.cO e))) az,rfl,rfl,rfl,rfl,trivial⟩)))
theorem Xi (bits room:Int) (L:List aH) (dn:gF L) (nm:List UInt8) (d0:aH) (aC:dk L nm=some d0) (hp:d0.cF=none) (a:Int) (bs:List UInt8) (r:Int) (s':bz)
  (h: ∀ps:Nat→Nat,Fn Tryz.prog 91 [aI 1001,aD a,cJ .u8 bs,m4 (ps 8005) (ps 8006)] (fy d0.im (rW bits room L nm d0.am ps)) [] (aD r) (fy s' (rW bits room L nm d0.am ps))):
  Fn Tryz.prog 90 [mY d0.am,BE,aI 3001,aI 3002] (k6 bits room L nm++kM (.int .i64 a) (.cW .u8 bs)) [] (aD r) (k6 bits room (lim L nm s' none) nm++kM (.int .i64 a) (.cW .u8 bs)):=by
 have gG:jd (fW L) d0.am=some (iQ d0.im):=by
  have:=dn.M (cT aC).1
  rwa[show j0 d0=iQ d0.im by unfold j0;rw[hp]] at this
 refine Fn.of aj [1] _ _ _ _ _ Tryz.func90 rfl rfl (by kernel_rfl) (by kernel_rfl) rfl (aK aj) rfl ?_
 show aE _ _ _ _ _ _ _
 refine aE.le (ah.sub (K':=IA d0.am) (B':=k6 bits room L nm++kM (.int .i64 a) (.cW .u8 bs)) ⟨rfl,rfl,rfl,rfl,trivial⟩ ⟨rfl,rfl,rfl,rfl,rfl,rfl,rfl,rfl,trivial⟩) ?_
 refine aE.Dl (ah.NO bits room L nm d0.am d0.im gG _ _) fun p=>?_
 obtain⟨dO,cZ,dA,dB,kN,kO⟩:=p
 refine aE.go aj (aK aj) [] (by kernel_rfl) (ah.refl _ _) ?_
 refine⟨_,_,_,_,Fn.ren [(1001,7000)] (NM (h (zw dO cZ dA dB kN kO)) rfl rfl),⟨rfl,rfl,trivial⟩,rfl,?_⟩
 exact⟨_,_,_,ah.trans (ah.sub (K':=[(6,aD r)]) (B':=Eg bits room L nm d0.am s' dO cZ dA dB kN kO (.int .i64 a) (.cW .u8 bs)) ⟨rfl,trivial⟩ ⟨rfl,rfl,rfl,rfl,rfl,rfl,rfl,rfl,rfl,rfl,trivial⟩) (ah.NP bits room L dn nm d0 aC hp s' dO cZ dA dB kN kO _ _ r),rfl,rfl,⟨rfl,rfl,rfl,rfl,rfl,rfl,rfl,rfl,trivial⟩,rfl⟩
theorem Xj (bits room:Int) (L:List aH) (dn:gF L) (nm:List UInt8) (d0:aH) (aC:dk L nm=some d0) (hp:d0.cF=none) (a l:Int) (r:Int) (s':bz)
  (h: ∀ps:Nat→Nat,Fn Tryz.prog 100 [aI 1001,aD a,aD l,m4 (ps 8005) (ps 8006)] (fy d0.im (rW bits room L nm d0.am ps)) [] (aD r) (fy s' (rW bits room L nm d0.am ps))):
  Fn Tryz.prog 99 [mY d0.am,BE,aI 3001,aI 3002] (k6 bits room L nm++kM (.int .i64 a) (.int .i64 l)) [] (aD r) (k6 bits room (lim L nm s' none) nm++kM (.int .i64 a) (.int .i64 l)):=by
 have gG:jd (fW L) d0.am=some (iQ d0.im):=by
  have:=dn.M (cT aC).1
  rwa[show j0 d0=iQ d0.im by unfold j0;rw[hp]] at this
 refine Fn.of aj [1] _ _ _ _ _ Tryz.func99 rfl rfl (by kernel_rfl) (by kernel_rfl) rfl (aK aj) rfl ?_
 show aE _ _ _ _ _ _ _
 refine aE.le (ah.sub (K':=IA d0.am) (B':=k6 bits room L nm++kM (.int .i64 a) (.int .i64 l)) ⟨rfl,rfl,rfl,rfl,trivial⟩ ⟨rfl,rfl,rfl,rfl,rfl,rfl,rfl,rfl,trivial⟩) ?_
 refine aE.Dl (ah.NO bits room L nm d0.am d0.im gG _ _) fun p=>?_
 obtain⟨dO,cZ,dA,dB,kN,kO⟩:=p
 refine aE.go aj (aK aj) [] (by kernel_rfl) (ah.refl _ _) ?_
 refine⟨_,_,_,_,Fn.ren [(1001,7000)] (NM (h (zw dO cZ dA dB kN kO)) rfl rfl),⟨rfl,rfl,trivial⟩,rfl,?_⟩
 exact⟨_,_,_,ah.trans (ah.sub (K':=[(6,aD r)]) (B':=Eg bits room L nm d0.am s' dO cZ dA dB kN kO (.int .i64 a) (.int .i64 l)) ⟨rfl,trivial⟩ ⟨rfl,rfl,rfl,rfl,rfl,rfl,rfl,rfl,rfl,rfl,trivial⟩) (ah.NP bits room L dn nm d0 aC hp s' dO cZ dA dB kN kO _ _ r),rfl,rfl,⟨rfl,rfl,rfl,rfl,rfl,rfl,rfl,rfl,trivial⟩,rfl⟩
theorem Xk (bits room:Int) (L:List aH) (dn:gF L) (nm:List UInt8) (d0:aH) (aC:dk L nm=some d0) (hp:d0.cF=none) (a l:Int) (r:Int) (s':bz)
  (h:Fn Tryz.prog 102 [aI 1001,aD a,aD l] (dh d0.im) [] (aD r) (dh s')):
  Fn Tryz.prog 101 [mY d0.am,BE,aI 3001,aI 3002] (k6 bits room L nm++kM (.int .i64 a) (.int .i64 l)) [] (aD r) (k6 bits room (lim L nm s' none) nm++kM (.int .i64 a) (.int .i64 l)):=by
 have gG:jd (fW L) d0.am=some (iQ d0.im):=by
  have:=dn.M (cT aC).1
  rwa[show j0 d0=iQ d0.im by unfold j0;rw[hp]] at this
 have bA:=Ed nm s' none L
 have bW:=Ee nm s' none L
 have az:iP (fW L) d0.am (iQ s')=fW (lim L nm s' none):=Ef (cF:=none) (im:=s') dn.kg dn.uy aC
 have hc:Fn Tryz.prog 102 [aI 1001,aD a,aD l] [(1001,.obj (iQ d0.im))] [] (aD r) [(1001,.obj (iQ s'))]:=Fn.close (bR:=dh d0.im) (jD:=dh s') (aP:=[]) (aZ:=[]) [1002,1003,1004] h (fun _ _ _ _ h=>h) (fun _ _ _ _ h=>h) rfl rfl
 have bh:=(hM.cO (c:=1001) (q:=8004) (b:=d0.am) (args:=[aD a,aD l]) (aP:=[]) (bu:=[]) (X:=Unit) (res:=fun _=>aD r) (aZ:=fun _=>[]) (o:=iQ d0.im) (o':=fun _=>iQ s') (L:=fW L) hc.x gG rfl ⟨rfl,rfl⟩ rfl (fun _=>rfl)).fn
 refine Fn.of aj [] _ _ _ _ _ Tryz.func101 rfl rfl (by kernel_rfl) (by kernel_rfl) rfl (aK aj) rfl ?_
 refine⟨_,_,_,_,bh,⟨rfl,trivial⟩,rfl,?_⟩
 exact⟨_,_,_,ah.refl _ _,rfl,rfl,⟨rfl,congrArg (fun e=>some (bF.map .str .aW e)) bA.symm,congrArg (fun e=>some (bF.obj (.cO e))) bW.symm,congrArg (fun e=>some (bF.obj (.cO e))) az,rfl,rfl,rfl,rfl,trivial⟩,rfl⟩
theorem IB (bits room:Int) (L gl:List aH) (dn:gF L) (nm:List UInt8) (d0:aH) (aC:dk L nm=some d0) (f:Nat) (r:Int) (x y:D)
  (hf:Fn Tryz.prog f [mY d0.am,BE,aI 3001,aI 3002] (k6 bits room L nm++kM x y) [] (aD r) (k6 bits room gl nm++kM x y)):
  Fn Tryz.prog 89 [aI 1001,bN nm,.c (.one (.eH f [.p 3001 0,.p 3002 0]))] (bP bits room L++kM x y) [] (aD r) (bP bits room gl++kM x y):=by
 obtain⟨rU,iJ,iK⟩:=m0 vG
 have cL:=dn.D (cT aC).1
 have hx:(cz (aO:=.str) (aV:=.aW) (cq L) nm).getD (dflt .aW)=some d0.ad:=by rw[iA,aC];rfl
 refine Fn.of aj [2] _ _ _ _ _ Tryz.func89 rfl rfl (by kernel_rfl) (by kernel_rfl) rfl (aK aj) rfl ?_
 refine⟨rfl,?_⟩
 refine⟨rfl,?_⟩
 refine⟨rfl,?_⟩
 show aE _ _ _ _ _ _ _
 refine aE.go aj (aK aj) [] (by kernel_rfl) (ah.refl _ _) ?_
 refine⟨fun eX ag=>?_,fun ag=>absurd (show(cz (aO:=.str) (aV:=.aW) (cq L) nm).getD (dflt .aW)=none from ag) (by rw[hx];intro h;cases h)⟩
 refine⟨_,_,fun N=>nS (b:=d0.ad) rfl (by exact oC hx) N,rfl,?_⟩
 refine⟨_,_,fun N=>nT rfl Tryz.underlying130 rfl rfl iJ (by rw[iK];decide) rfl N,rfl,?_⟩
 refine⟨_,_,fun N=>o4 (q:=1003) rfl Tryz.underlying49 rfl rfl rfl cL rfl N,rfl,?_⟩
 refine⟨_,_,_,_,Fn.ren [(8001,1001),(8002,1002),(8003,1003),(8004,1004),(8005,3),(8006,4)] hf,⟨rfl,rfl,rfl,rfl,rfl,rfl,rfl,rfl,trivial⟩,rfl,?_⟩
 exact⟨_,_,_,ah.refl _ _,rfl,rfl,⟨rfl,rfl,rfl,rfl,rfl,rfl,trivial⟩,rfl⟩
theorem NQ (bits room:Int) (L gl:List aH) (nm:List UInt8) (a:Int) (bs:List UInt8) (r:Int)
  (h:Fn Tryz.prog 89 [aI 1001,bN nm,.c (.one (.eH 90 [.p 3001 0,.p 3002 0]))] (bP bits room L++kM (.int .i64 a) (.cW .u8 bs)) [] (aD r) (bP bits room gl++kM (.int .i64 a) (.cW .u8 bs))):
  Fn Tryz.prog 50 [aI 1001,bN nm,aD a,cJ .u8 bs] (bP bits room L) [] (aD r) (bP bits room gl):=by
 refine Fn.of aj [] _ _ _ _ _ Tryz.func50 rfl rfl (by kernel_rfl) (by kernel_rfl) rfl (aK aj) rfl ?_
 refine⟨rfl,?_⟩
 refine⟨rfl,?_⟩
 refine⟨_,_,_,_,Fn.ren [(3001,6),(3002,7)] h,⟨rfl,rfl,rfl,rfl,rfl,rfl,trivial⟩,rfl,?_⟩
 exact⟨_,_,_,ah.refl _ _,rfl,rfl,⟨rfl,rfl,rfl,rfl,trivial⟩,rfl⟩
theorem NR (bits room:Int) (L gl:List aH) (nm:List UInt8) (a l:Int) (r:Int)
  (h:Fn Tryz.prog 89 [aI 1001,bN nm,.c (.one (.eH 99 [.p 3001 0,.p 3002 0]))] (bP bits room L++kM (.int .i64 a) (.int .i64 l)) [] (aD r) (bP bits room gl++kM (.int .i64 a) (.int .i64 l))):
  Fn Tryz.prog 59 [aI 1001,bN nm,aD a,aD l] (bP bits room L) [] (aD r) (bP bits room gl):=by
 refine Fn.of aj [] _ _ _ _ _ Tryz.func59 rfl rfl (by kernel_rfl) (by kernel_rfl) rfl (aK aj) rfl ?_
 refine⟨rfl,?_⟩
 refine⟨rfl,?_⟩
 refine⟨_,_,_,_,Fn.ren [(3001,6),(3002,7)] h,⟨rfl,rfl,rfl,rfl,rfl,rfl,trivial⟩,rfl,?_⟩
 exact⟨_,_,_,ah.refl _ _,rfl,rfl,⟨rfl,rfl,rfl,rfl,trivial⟩,rfl⟩
theorem NS (bits room:Int) (L gl:List aH) (nm:List UInt8) (a l:Int) (r:Int)
  (h:Fn Tryz.prog 89 [aI 1001,bN nm,.c (.one (.eH 101 [.p 3001 0,.p 3002 0]))] (bP bits room L++kM (.int .i64 a) (.int .i64 l)) [] (aD r) (bP bits room gl++kM (.int .i64 a) (.int .i64 l))):
  Fn Tryz.prog 60 [aI 1001,bN nm,aD a,aD l] (bP bits room L) [] (aD r) (bP bits room gl):=by
 refine Fn.of aj [] _ _ _ _ _ Tryz.func60 rfl rfl (by kernel_rfl) (by kernel_rfl) rfl (aK aj) rfl ?_
 refine⟨rfl,?_⟩
 refine⟨rfl,?_⟩
 refine⟨_,_,_,_,Fn.ren [(3001,6),(3002,7)] h,⟨rfl,rfl,rfl,rfl,rfl,rfl,trivial⟩,rfl,?_⟩
 exact⟨_,_,_,ah.refl _ _,rfl,rfl,⟨rfl,rfl,rfl,rfl,trivial⟩,rfl⟩
theorem Fn.res {P:Program} {f:FuncId} {args:List aN} {aP:aG} {bu:List Nat} {res res':aN} {aZ:aG} (h:Fn P f args aP bu res aZ) (aB:sq res res'):Fn P f args aP bu res' aZ:=
 ⟨h.1,fun ρ F I w b6 ct cB a3 a4 a5 gT=>(h.2 ρ F I w b6 ct cB a3 a4 a5 gT).mono fun e w' ⟨x,ρ',F',r1,r2,gv,I',mm,mZ,nM,mo,nN,oT⟩=>⟨x,ρ',F',r1,r2,gv,I',mm,mZ,nM,mo,nN,wS aB oT⟩⟩
theorem hM.to {P:Program} {f:FuncId} {args:List aN} {aP:aG} {bu:List Nat} {X Y:Type} {res:X→aN} {aZ:X→aG} {res':Y→aN} {xD:Y→aG} (h:hM P f args aP bu res aZ) (g:X→Y) (aa: ∀x,res x=res' (g x)) (af: ∀x,aZ x=xD (g x)):hM P f args aP bu res' xD:=
 ⟨h.1,fun ρ F I w b6 ct cB a3 a4 a5 gT=>(h.2 ρ F I w b6 ct cB a3 a4 a5 gT).mono fun e w' ⟨y,x,ρ',F',r1,r2,gv,I',mm,mZ,nM,mo,nN,oT⟩=>by
  rw[af] at nM mo nN
  rw[aa] at oT
  exact⟨g y,x,ρ',F',r1,r2,gv,I',mm,mZ,nM,mo,nN,oT⟩⟩
def zx (L:List aH):Nat→List UInt8→Nat
 |0,_=>0
 |f+1,nm=>match dk L nm with
  |none=>0
  |some d=>if d.back=[] then 0 else zx L f d.back+1
def cm (L:List aH) (nm:List UInt8):Nat:=zx L 100 nm
theorem Xl {L:List aH} {nm:List UInt8} {k:Nat} (h:dK L nm k): ∀f,k≤f→zx L f nm=k:=by
 induction h with
 |gone h=>
  intro f _
  cases f with
  |zero=>rfl
  |succ f=>unfold zx;rw[h]
 |base aa af=>
  intro f _
  cases f with
  |zero=>rfl
  |succ f=>unfold zx;rw[aa];simp only;rw[if_pos af]
 |step aa af _ aY=>
  intro f hf
  cases f with
  |zero=>omega
  |succ f=>unfold zx;rw[aa];simp only;rw[if_neg af,aY f (by omega)]
theorem zy {L:List aH} {nm:List UInt8} {k:Nat} (h:dK L nm k) (au:k≤100):cm L nm=k:=Xl h 100 au
structure bV (bits room:Nat) (L:List aH):Prop extends m8 bits room L where
 vM:Iq L
 zz: ∀d,d∈L→iB d.nm=true
theorem IC {s:List UInt8} (h:iB s=true):1≤s.length∧s.length≤15:=by
 unfold iB at h
 simp only[Bool.and_eq_true] at h
 exact⟨of_decide_eq_true h.1.1,of_decide_eq_true h.1.2⟩
section
variable {bits room:Nat} {L:List aH}
theorem bV.ID (h:bV bits room L): ∀d,d∈L→d.nm.length≤100000:=fun d hd=>by
 have:=IC (h.zz d hd)
 omega
theorem bV.dep (h:bV bits room L) (nm:List UInt8):dK L nm (cm L nm)∧cm L nm≤8:=by
 cases e:dk L nm with
 |none=>
  have:=dK.gone e
  rw[zy this (by omega)]
  exact⟨this,by omega⟩
 |some d=>
  obtain⟨k,au,hd⟩:=h.zm d (cT e).1
  rw[(cT e).2] at hd
  rw[zy hd (by omega)]
  exact⟨hd,au⟩
theorem bV.nil (aa:bits≤3) (af:room≤512):bV bits room []:=
 ⟨⟨⟨List.nodup_nil,List.nodup_nil,List.nodup_nil⟩,aa,af,Nat.zero_le _,(fun _ h=>by cases h),(fun _ h=>by cases h),(fun _ h=>by cases h),(fun _ h=>by cases h)⟩,(fun _ h=>by cases h),(fun _ h=>by cases h)⟩
theorem BF: ∀{L:List aH},(L.map (·.nm)).Nodup→ ∀{d:aH},d∈L→dk L d.nm=some d
 | [],_,d,h=>by cases h
 |e::L,hn,d,h=>by
  rw[List.map_cons] at hn
  obtain⟨eM,gj⟩:=List.nodup_cons.1 hn
  rw[nU]
  rcases List.mem_cons.1 h with rfl |h
  ·rw[if_pos rfl]
  ·rw[if_neg fun x=>eM (by rw[x];exact List.mem_map_of_mem (f:=fun d:aH=>d.nm) h),BF gj h]
theorem Eh (hn:(L.map (·.nm)).Nodup) {nm:List UInt8} {d:aH} (h:dk L nm=some d) (hp:d.cF=none):lim L nm d.im none=L:=by
 unfold lim
 refine(List.map_congr_left fun e he=>?_).trans (List.map_id' L)
 unfold g5
 split
 ·rename_i c
  have:=BF hn he
  rw[c,h] at this
  injection this with this
  subst this
  rw[←hp]
 ·rfl
theorem bV.lim (h:bV bits room L) {nm:List UInt8} {d0:aH} (aC:dk L nm=some d0) {im:bz} (hs:jg d0.im im):bV bits room (lim L nm im none):=by
 refine⟨h.tom8.lim aC hs none,fun d hd=>?_,fun d hd=>?_⟩
 ·obtain⟨e,he,rfl⟩:=List.mem_map.1 hd
  unfold g5
  split
  ·rfl
  ·exact h.vM e he
 ·obtain⟨e,he,rfl⟩:=List.mem_map.1 hd
  rw[zq]
  exact h.zz e he
end
structure jq where
 e:Int
 L:List aH
def iV (bits:Nat) (L:List aH) (nm:List UInt8) (a:Int) (bs:List UInt8):jq:=match dk L nm with
 |none=>⟨140,L⟩
 |some d=>if bs.length % 16≠0 then⟨1,L⟩ else if dJ d.im a ((bs.length/16:Nat):Int)≠0 then⟨dJ d.im a ((bs.length/16:Nat):Int),L⟩ else
  ⟨HI d.im a.toNat (bs.length/16),lim L nm (Br d.im a.toNat (bs.length/16) bs (mG bits L nm (cm L nm))) none⟩
def rX (bits:Nat) (L:List aH) (nm:List UInt8) (a l:Int):jq:=match dk L nm with
 |none=>⟨140,L⟩
 |some d=>if dJ d.im a l≠0 then⟨dJ d.im a l,L⟩ else
  ⟨HM d.im a.toNat l.toNat,lim L nm (Bt d.im a.toNat l.toNat (mG bits L nm (cm L nm))) none⟩
def rY (L:List aH) (nm:List UInt8) (a l:Int):jq:=match dk L nm with
 |none=>⟨140,L⟩
 |some d=>if dJ d.im a l≠0 then⟨dJ d.im a l,L⟩ else⟨0,lim L nm (HK d.im a.toNat l.toNat) none⟩
theorem rZ {s:bz} {a l:Int} (h:dJ s a l=0):a=((a.toNat:Nat):Int)∧l=((l.toNat:Nat):Int):=by
 unfold dJ at h
 split at h
 ·cases h
 ·split at h
  ·cases h
  ·omega
section
variable {bits room:Nat} {L:List aH}
theorem zA (h:bV bits room L) (nm:List UInt8) (a:Int) (bs:List UInt8):bV bits room (iV bits L nm a bs).L:=by
 unfold iV
 cases aC:dk L nm with
 |none=>exact h
 |some d=>
  simp only
  split
  ·exact h
  ·rename_i aa
   split
   ·exact h
   ·rename_i af
    have af:dJ d.im a ((bs.length/16:Nat):Int)=0:=Decidable.byContradiction af
    have e:=(rZ af).1
    rw[e] at af
    exact h.lim aC (MV (h.iU d (cT aC).1).1 (by omega) af _)
theorem NT (h:bV bits room L) (nm:List UInt8) (a l:Int):bV bits room (rX bits L nm a l).L:=by
 unfold rX
 cases aC:dk L nm with
 |none=>exact h
 |some d=>
  simp only
  split
  ·exact h
  ·rename_i af
   have af:dJ d.im a l=0:=Decidable.byContradiction af
   obtain⟨ai,aq⟩:=rZ af
   rw[ai,aq] at af
   exact h.lim aC (MY (h.iU d (cT aC).1).1 af _)
theorem NU (h:bV bits room L) (nm:List UInt8) (a l:Int):bV bits room (rY L nm a l).L:=by
 unfold rY
 cases aC:dk L nm with
 |none=>exact h
 |some d=>
  simp only
  split
  ·exact h
  ·rename_i af
   have af:dJ d.im a l=0:=Decidable.byContradiction af
   obtain⟨ai,aq⟩:=rZ af
   rw[ai,aq] at af
   exact h.lim aC (zh (h.iU d (cT aC).1).1 (rR af) _ (Nat.le_refl _)).ez
theorem NV (h:bV bits room L) {nm:List UInt8} {d0:aH} (aC:dk L nm=some d0) (ps:Nat→Nat):HH d0.im (rW bits room L nm d0.am ps) (ps 8005) (ps 8006) (mG bits L nm (cm L nm)):=fun s' hs c hc aS=>by
 have hd:=h.dep nm
 exact Xd bits room L h.tom8 nm d0 aC (cm L nm) hd.1 (by omega) s' hs ps c hc aS
theorem IE (h:bV bits room L) (nm:List UInt8) (a:Int) (bs:List UInt8) (eC:bs.length≤1000000000):
  Fn Tryz.prog 50 [aI 1001,bN nm,aD a,cJ .u8 bs] (bP bits room L) [] (aD (iV bits L nm a bs).e) (bP bits room (iV bits L nm a bs).L):=by
 unfold iV
 cases aC:dk L nm with
 |none=>exact NQ bits room L L nm a bs 140 (Iv bits room L nm aC _ _ _)
 |some d=>
  have hp:=h.vM d (cT aC).1
  have av:=(h.iU d (cT aC).1).1
  have key: ∀(r:Int) (s':bz),(∀ps:Nat→Nat,Fn Tryz.prog 91 [aI 1001,aD a,cJ .u8 bs,m4 (ps 8005) (ps 8006)] (fy d.im (rW bits room L nm d.am ps)) [] (aD r) (fy s' (rW bits room L nm d.am ps)))→
    Fn Tryz.prog 50 [aI 1001,bN nm,aD a,cJ .u8 bs] (bP bits room L) [] (aD r) (bP bits room (lim L nm s' none)):=fun r s' ay=>
   NQ bits room L _ nm a bs r (IB bits room L _ h.togF nm d aC _ r _ _ (Xi bits room L h.togF nm d aC hp a bs r s' ay))
  simp only
  split
  ·rename_i aa
   have:=key 1 d.im fun ps=>U9 d.im _ _ _ a bs aa eC
   rwa[Eh h.kg aC hp] at this
  ·rename_i aa
   have aa:bs.length=16*(bs.length/16):=by omega
   split
   ·rename_i af
    have:=key _ d.im fun ps=>U' d.im _ _ _ av a _ bs aa (by omega) af
    rwa[Eh h.kg aC hp] at this
   ·rename_i af
    have af:dJ d.im a ((bs.length/16:Nat):Int)=0:=Decidable.byContradiction af
    have e:=(rZ af).1
    have aA:=af
    rw[e] at aA
    refine key _ _ fun ps=>?_
    have:=Vm d.im _ _ _ av a.toNat _ bs aa aA _ (NV h aC ps)
    rwa[←e] at this
theorem Xm (h:bV bits room L) (nm:List UInt8) (a l:Int):
  Fn Tryz.prog 59 [aI 1001,bN nm,aD a,aD l] (bP bits room L) [] (aD (rX bits L nm a l).e) (bP bits room (rX bits L nm a l).L):=by
 unfold rX
 cases aC:dk L nm with
 |none=>exact NR bits room L L nm a l 140 (Iv bits room L nm aC _ _ _)
 |some d=>
  have hp:=h.vM d (cT aC).1
  have av:=(h.iU d (cT aC).1).1
  have key: ∀(r:Int) (s':bz),(∀ps:Nat→Nat,Fn Tryz.prog 100 [aI 1001,aD a,aD l,m4 (ps 8005) (ps 8006)] (fy d.im (rW bits room L nm d.am ps)) [] (aD r) (fy s' (rW bits room L nm d.am ps)))→
    Fn Tryz.prog 59 [aI 1001,bN nm,aD a,aD l] (bP bits room L) [] (aD r) (bP bits room (lim L nm s' none)):=fun r s' ay=>
   NR bits room L _ nm a l r (IB bits room L _ h.togF nm d aC _ r _ _ (Xj bits room L h.togF nm d aC hp a l r s' ay))
  simp only
  split
  ·rename_i af
   have:=key _ d.im fun ps=>Vq d.im _ _ _ av a l af
   rwa[Eh h.kg aC hp] at this
  ·rename_i af
   have af:dJ d.im a l=0:=Decidable.byContradiction af
   obtain⟨ai,aq⟩:=rZ af
   have aA:=af
   rw[ai,aq] at aA
   refine key _ _ fun ps=>?_
   have:=Vp d.im _ _ _ av a.toNat l.toNat aA _ (NV h aC ps)
   rwa[←ai,←aq] at this
theorem Xn (h:bV bits room L) (nm:List UInt8) (a l:Int):
  Fn Tryz.prog 60 [aI 1001,bN nm,aD a,aD l] (bP bits room L) [] (aD (rY L nm a l).e) (bP bits room (rY L nm a l).L):=by
 unfold rY
 cases aC:dk L nm with
 |none=>exact NS bits room L L nm a l 140 (Iv bits room L nm aC _ _ _)
 |some d=>
  have hp:=h.vM d (cT aC).1
  have av:=(h.iU d (cT aC).1).1
  have key: ∀(r:Int) (s':bz),Fn Tryz.prog 102 [aI 1001,aD a,aD l] (dh d.im) [] (aD r) (dh s')→
    Fn Tryz.prog 60 [aI 1001,bN nm,aD a,aD l] (bP bits room L) [] (aD r) (bP bits room (lim L nm s' none)):=fun r s' ay=>
   NS bits room L _ nm a l r (IB bits room L _ h.togF nm d aC _ r _ _ (Xk bits room L h.togF nm d aC hp a l r s' ay))
  simp only
  split
  ·rename_i af
   have:=key _ d.im (Vb d.im av a l af)
   rwa[Eh h.kg aC hp] at this
  ·rename_i af
   have af:dJ d.im a l=0:=Decidable.byContradiction af
   obtain⟨ai,aq⟩:=rZ af
   have aA:=af
   rw[ai,aq] at aA
   have:=Vn d.im av a.toNat l.toNat aA
   rw[←ai,←aq] at this
   exact key _ _ this
def s7 (bits:Nat) (L:List aH) (nm:List UInt8) (a l:Int):List UInt8×Int:=match dk L nm with
 |none=>([],140)
 |some d=>if dJ d.im a l=0 then(fK bits L nm (cm L nm) a.toNat l.toNat,0) else([],dJ d.im a l)
theorem NW (h:bV bits room L) (nm:List UInt8) (a l:Int):
  Fn Tryz.prog 51 [aI 1001,bN nm,aD a,aD l] (bP bits room L) [] (.c8 [.one (.d (.cW .u8 (s7 bits L nm a l).1)),fO (s7 bits L nm a l).2]) (bP bits room L):=by
 unfold s7
 cases aC:dk L nm with
 |none=>exact(Wc bits room L nm aC a l).res ⟨rfl,rfl,trivial⟩
 |some d=>
  simp only
  split
  ·rename_i af
   obtain⟨ai,aq⟩:=rZ af
   have aA:=af
   rw[ai,aq] at aA
   have hd:=h.dep nm
   have:=Wb bits room L h.tom8 nm d aC (cm L nm) hd.1 (by omega) a.toNat l.toNat aA
   rwa[←ai,←aq] at this
  ·rename_i af
   exact(Wd bits room L h.tom8 nm d aC a l af).res ⟨rfl,rfl,trivial⟩
def vN (L:List aH) (nm:List UInt8):List UInt8×Int:=match dk L nm with
 |none=>([],140)
 |some d=>(d.back,0)
theorem IF (h:bV bits room L) (nm:List UInt8):Fn Tryz.prog 66 [aI 1001,bN nm] (bP bits room L) [] (.c8 [.one (.d (.str (vN L nm).1)),fO (vN L nm).2]) (bP bits room L):=by
 unfold vN
 cases aC:dk L nm with
 |none=>exact VR bits room L nm aC
 |some d=>exact VQ bits room L h.togF nm d aC
def mH (bits room:Nat) (L:List aH) (nm:List UInt8) (size:Int) (back:List UInt8) (p:Nat×Nat):jq:=
 if(iB nm&&iR bits size room)=false then⟨1,L⟩ else if(dk L nm).isSome=true∨16≤L.length then⟨143,L⟩ else if(decide (back=[])||(dk L back).isSome)=false then⟨140,L⟩
 else if back≠[]∧8 < cm L back+1 then⟨142,L⟩ else⟨0,oD L nm back p.1 p.2 (ia bits size.toNat room)⟩
theorem Xo (L M:List aH) (nm:List UInt8):dk (L++M) nm=(dk L nm).or (dk M nm):=by
 unfold dk
 rw[List.find?_append]
theorem IG {nm back:List UInt8} {ad am:Nat} {im:bz} (n:List UInt8):dk (oD L nm back ad am im) n=(dk L n).or (if nm=n then some ⟨nm,back,ad,am,im,none⟩ else none):=by
 show dk (L++_) n=_
 rw[Xo,nU]
 rfl
theorem Xp {gl:List aH} (au: ∀n d,dk L n=some d→ ∃d',dk gl n=some d'∧d'.back=d.back) (gP: ∀d,d∈L→d.back≠[]→ ∃e,dk L d.back=some e) {n:List UInt8} {k:Nat} (h:dK L n k):(∃d,dk L n=some d)→dK gl n k:=by
 induction h with
 |gone h=>rintro⟨d,hd⟩;rw[h] at hd;cases hd
 |base aa af=>
  intro _
  obtain⟨d',ai,aq⟩:=au _ _ aa
  exact .base ai (by rw[aq];exact af)
 |step aa af aA aY=>
  intro _
  obtain⟨d',ai,aq⟩:=au _ _ aa
  exact .step ai (by rw[aq];exact af) (by rw[aq];exact aY (gP _ (cT aa).1 af))
theorem Ei {bits size room:Int} (h:iR bits size room=true):(0≤size∧size≤256)∧(0≤room∧room≤512)∧0≤bits∧bits≤3:=by
 unfold iR at h
 simp only[Bool.and_eq_true,decide_eq_true_eq] at h
 omega
theorem bV.add (h:bV bits room L) {nm back:List UInt8} {size ad am:Nat} (dn:gF (oD L nm back ad am (ia bits size room))) (hs:size≤256) (hn:iB nm=true) (aC:dk L nm=none) (mF:L.length < 16) (ag:back=[]∨(dk L back).isSome=true∧cm L back+1≤8):bV bits room (oD L nm back ad am (ia bits size room)):=by
 have s8: ∀n d,dk L n=some d→dk (oD L nm back ad am (ia bits size room)) n=some d:=fun n d hd=>by rw[IG,hd];rfl
 have vO:dk (oD L nm back ad am (ia bits size room)) nm=some ⟨nm,back,ad,am,ia bits size room,none⟩:=by rw[IG,aC,if_pos rfl];rfl
 have oP: ∀d,d∈oD L nm back ad am (ia bits size room)→d∈L∨d=⟨nm,back,ad,am,ia bits size room,none⟩:=fun d hd=>by
  rcases List.mem_append.1 hd with hd |hd
  ·exact .inl hd
  ·exact .inr (List.mem_singleton.1 hd)
 have hold: ∀n k,(∃d,dk L n=some d)→dK L n k→dK (oD L nm back ad am (ia bits size room)) n k:=fun n k hd au=>Xp (fun n d hd=>⟨d,s8 n d hd,rfl⟩) h.qT au hd
 refine⟨⟨dn,h.eT,h.uz,by rw[List.length_append];exact mF,fun d hd=>?_,fun d hd tQ=>?_,fun d hd=>?_,fun d hd=>?_⟩,fun d hd=>?_,fun d hd=>?_⟩
 ·rcases oP d hd with hd |rfl
  ·exact h.iU d hd
  ·exact⟨MZ h.eT hs h.uz,rfl,List.length_replicate ..⟩
 ·rcases oP d hd with hd |rfl
  ·obtain⟨e,he⟩:=h.qT d hd tQ
   exact⟨e,s8 _ _ he⟩
  ·rcases ag with ag |⟨ag,_⟩
   ·exact absurd ag tQ
   ·obtain⟨e,he⟩:=Option.isSome_iff_exists.1 ag
    exact⟨e,s8 _ _ he⟩
 ·rcases oP d hd with hd |rfl
  ·exact h.ne d hd
  ·intro e
   have:=(IC hn).1
   have e:nm=[]:=e
   rw[e] at this
   exact absurd this (by decide)
 ·rcases oP d hd with hd |rfl
  ·obtain⟨k,au,BG⟩:=h.zm d hd
   exact⟨k,au,hold _ _ ⟨d,BF h.kg hd⟩ BG⟩
  ·by_cases vP:back=[]
   ·exact⟨0,Nat.zero_le _,.base vO vP⟩
   ·rcases ag with ag |⟨ag,Xq⟩
    ·exact absurd ag vP
    ·exact⟨cm L back+1,Xq,.step vO vP (hold _ _ (Option.isSome_iff_exists.1 ag) (h.dep back).1)⟩
 ·rcases oP d hd with hd |rfl
  ·exact h.vM d hd
  ·rfl
 ·rcases oP d hd with hd |rfl
  ·exact h.zz d hd
  ·exact hn
theorem Ej (h:bV bits room L) (nm:List UInt8) (size:Int) (back:List UInt8) (aB:nm.length≤4294967296):
  hM Tryz.prog 49 [aI 1001,bN nm,aD size,bN back] (bP bits room L) [] (X:={p:Nat×Nat//bV bits room (mH bits room L nm size back p).L}) (fun p=>aD (mH bits room L nm size back p.1).e) (fun p=>bP bits room (mH bits room L nm size back p.1).L):=by
 have err: ∀e:Int,(∀p,mH bits room L nm size back p=⟨e,L⟩)→Fn Tryz.prog 49 [aI 1001,bN nm,aD size,bN back] (bP bits room L) [] (aD e) (bP bits room L)→
   hM Tryz.prog 49 [aI 1001,bN nm,aD size,bN back] (bP bits room L) [] (X:={p:Nat×Nat//bV bits room (mH bits room L nm size back p).L}) (fun p=>aD (mH bits room L nm size back p.1).e) (fun p=>bP bits room (mH bits room L nm size back p.1).L):=fun e he hf=>
  hf.x.to (fun _=>⟨(0,0),by rw[he];exact h⟩) (fun _=>by rw[he]) (fun _=>by rw[he])
 by_cases aa:(iB nm&&iR bits size room)=false
 ·exact err 1 (fun p=>if_pos aa) (WJ bits room size L nm back aB aa)
 have sy:iB nm=true∧iR bits size room=true:=by
  rw[Bool.not_eq_false,Bool.and_eq_true] at aa
  exact aa
 obtain⟨⟨s0,s1⟩,_⟩:=Ei sy.2
 obtain⟨sn,rfl⟩: ∃n:Nat,size=(n:Int):=⟨size.toNat,by omega⟩
 have hs:sn≤256:=by omega
 by_cases af:(dk L nm).isSome=true∨16≤L.length
 ·exact err 143 (fun p=>(if_neg aa).trans (if_pos af)) (WK bits sn room h.eT hs h.uz L nm back aB sy.1 af)
 have aC:dk L nm=none:=by
  cases e:dk L nm with
  |none=>rfl
  |some d=>exact absurd (.inl (by rw[e];rfl)) af
 have mF:L.length < 16:=by
  rcases Nat.lt_or_ge L.length 16 with bM |bM
  ·exact bM
  ·exact absurd (.inr bM) af
 by_cases aA:(decide (back=[])||(dk L back).isSome)=false
 ·exact err 140 (fun p=>(if_neg aa).trans ((if_neg af).trans (if_pos aA))) (WL bits sn room h.eT hs h.uz L nm back aB sy.1 aC mF aA)
 have hd:=h.dep back
 by_cases bE:back≠[]∧8 < cm L back+1
 ·have ag:(dk L back).isSome=true:=by
   rw[Bool.not_eq_false,Bool.or_eq_true] at aA
   exact aA.resolve_left fun e=>bE.1 (of_decide_eq_true e)
  exact err 142 (fun p=>(if_neg aa).trans ((if_neg af).trans ((if_neg aA).trans (if_pos bE)))) (WM bits sn room h.eT hs h.uz L h.togF nm back aB sy.1 aC mF bE.1 ag _ hd.1 (by omega) bE.2)
 have ag:back=[]∨(dk L back).isSome=true∧cm L back+1≤8:=by
  by_cases e:back=[]
  ·exact .inl e
  ·rw[Bool.not_eq_false,Bool.or_eq_true] at aA
   have j6: ¬8 < cm L back+1:=fun x=>bE ⟨e,x⟩
   exact .inr ⟨aA.resolve_left fun x=>e (of_decide_eq_true x),by omega⟩
 have bA: ∀p,mH bits room L nm (sn:Int) back p=⟨0,oD L nm back p.1 p.2 (ia bits sn room)⟩:=fun p=>(if_neg aa).trans ((if_neg af).trans ((if_neg aA).trans (if_neg bE)))
 exact(WG bits sn room h.eT hs h.uz L h.togF h.vM nm back aB sy.1 aC mF (cm L back) (ag.imp id fun x=>⟨x.1,hd.1,x.2⟩)).to (fun p=>⟨p.1,by rw[bA];exact h.add p.2 hs sy.1 aC mF ag⟩) (fun p=>by rw[bA]) (fun p=>by rw[bA])
def r0 (L:List aH) (nm:List UInt8):jq:=match dk L nm with
 |none=>⟨140,L⟩
 |some _=>if o8 L nm=[] then⟨0,jH L nm⟩ else⟨143,L⟩
theorem BH {nm n:List UInt8} (bf:n≠nm): ∀L:List aH,dk (jH L nm) n=dk L n
 | []=>rfl
 |d::L=>by
  unfold jH
  by_cases c:d.nm=nm
  ·rw[if_pos c,nU,if_neg fun e=>bf (e.symm.trans c)]
  ·rw[if_neg c,nU,nU,BH bf L]
theorem Xr (h:bV bits room L) {nm:List UInt8} (bf:nm≠[]) {d:aH} (hd:d∈L):d.nm∈o8 L nm↔d.back=nm:=by
 unfold o8
 rw[List.mem_filter]
 have hm:d.nm∈ic L:=by
  unfold ic s6
  rw[List.mem_mergeSort,vJ]
  exact List.mem_map_of_mem hd
 unfold kL
 rw[BF h.kg hd,decide_eq_false bf]
 simp[hm]
theorem bV.del (h:bV bits room L) {nm:List UInt8} {d0:aH} (aC:dk L nm=some d0) (hu:o8 L nm=[]):bV bits room (jH L nm):=by
 have pR:nm≠[]:=by rw[←(cT aC).2];exact h.ne d0 (cT aC).1
 have eS: ∀d,d∈L→d.back≠nm:=fun d hd e=>by
  have:=(Xr h pR hd).2 e
  rw[hu] at this
  cases this
 have s8: ∀d,d∈L→d.back≠[]→dk (jH L nm) d.back=dk L d.back:=fun d hd _=>BH (eS d hd) L
 have dn:=h.togF.del nm
 have sL: ∀d,d∈jH L nm→d.nm≠nm:=fun d hd e=>by
  have key: ∀{M:List aH},(M.map (·.nm)).Nodup→d∈jH M nm→d.nm=nm→(∃e,dk M nm=some e)→False:=by
   intro M
   induction M with
   |nil=>intro _ hd _ _;cases hd
   |cons x M aY=>
    intro hn hd e hx
    rw[List.map_cons] at hn
    obtain⟨eM,gj⟩:=List.nodup_cons.1 hn
    unfold jH at hd
    by_cases c:x.nm=nm
    ·rw[if_pos c] at hd
     exact eM (by rw[c,←e];exact List.mem_map_of_mem (f:=fun d:aH=>d.nm) hd)
    ·rw[if_neg c] at hd
     rcases List.mem_cons.1 hd with rfl |hd
     ·exact c e
     ·refine aY gj hd e ?_
      obtain⟨y,aF⟩:=hx
      rw[nU,if_neg c] at aF
      exact⟨y,aF⟩
  exact key h.kg hd e ⟨d0,aC⟩
 have BG: ∀{n:List UInt8} {k:Nat},dK L n k→n≠nm→(∃d,dk L n=some d)→dK (jH L nm) n k:=by
  intro n k bM
  induction bM with
  |gone bl=>rintro _ ⟨d,hd⟩;rw[bl] at hd;cases hd
  |base aa af=>intro bf _;exact .base (by rw[BH bf];exact aa) af
  |step aa af aA aY=>intro bf _;exact .step (by rw[BH bf];exact aa) af (aY (eS _ (cT aa).1) (h.qT _ (cT aa).1 af))
 refine⟨⟨dn,h.eT,h.uz,Nat.le_trans (D6 L nm).length_le h.len,fun d hd=>h.iU d (vK hd),fun d hd ag=>?_,fun d hd=>h.ne d (vK hd),fun d hd=>?_⟩,fun d hd=>h.vM d (vK hd),fun d hd=>h.zz d (vK hd)⟩
 ·rw[s8 d (vK hd) ag]
  exact h.qT d (vK hd) ag
 ·obtain⟨k,au,bM⟩:=h.zm d (vK hd)
  exact⟨k,au,BG bM (sL d hd) ⟨d,BF h.kg (vK hd)⟩⟩
theorem NX (h:bV bits room L) (nm:List UInt8):bV bits room (r0 L nm).L:=by
 unfold r0
 cases aC:dk L nm with
 |none=>exact h
 |some d=>
  simp only
  split
  ·rename_i hu
   exact h.del aC hu
  ·exact h
theorem Xs (h:bV bits room L) (nm:List UInt8):Fn Tryz.prog 52 [aI 1001,bN nm] (bP bits room L) [] (aD (r0 L nm).e) (bP bits room (r0 L nm).L):=by
 unfold r0
 cases aC:dk L nm with
 |none=>exact Wp bits room L nm aC
 |some d=>
  simp only
  split
  ·rename_i hu
   exact Wr bits room L h.togF h.ID (by have:=h.len;omega) nm d aC hu
  ·rename_i hu
   exact Wq bits room L h.togF h.ID (by have:=h.len;omega) nm d aC hu
def gx (L:List aH) (nm back:List UInt8):jq:=
 if(dk L nm).isSome=false∨(decide (back=[])||(dk L back).isSome)=false then⟨140,L⟩ else if nm=back∨nm∈cH L (cm L back) back then⟨141,L⟩
 else if∀n∈ic L,cm (dS L nm back) n≤8 then⟨0,dS L nm back⟩ else⟨142,L⟩
theorem vQ {nm back:List UInt8} {d:aH} (h:d.nm≠nm):fc nm back d=d:=by unfold fc;rw[if_neg h]
theorem II {nm back:List UInt8} {d:aH} (h:d.nm=nm):(fc nm back d).back=back:=by unfold fc;rw[if_pos h]
theorem NY {nm back:List UInt8} {n:List UInt8} {k:Nat} (h:dK L n k):n≠nm→nm∉cH L k n→dK (dS L nm back) n k:=by
 induction h with
 |gone h=>intro _ _;exact .gone (by rw[nV,h];rfl)
 | @base n d aa af=>
  intro bf _
  have e:=(cT aa).2
  exact .base (d:=d) (by rw[nV,aa];show some (fc nm back d)=_;rw[vQ (by rw[e];exact bf)]) af
 | @step n d k aa af aA aY=>
  intro bf ag
  have e:=(cT aa).2
  unfold cH at ag
  rw[aa] at ag
  simp only[List.mem_cons,not_or] at ag
  exact .step (d:=d) (by rw[nV,aa];show some (fc nm back d)=_;rw[vQ (by rw[e];exact bf)]) af (aY (fun x=>ag.1 x.symm) ag.2)
theorem Xt {nm back:List UInt8} {k:Nat} (bW:dK L back k) (aa:nm≠back) (af:nm∉cH L k back) {n:List UInt8} {j:Nat} (h:dK L n j): ∃i,i≤j+k+1∧dK (dS L nm back) n i:=by
 have xE:dK (dS L nm back) back k:=NY bW (Ne.symm aa) af
 have vO: ∀d,dk L nm=some d→ ∃i,i≤k+1∧dK (dS L nm back) nm i:=fun d hd=>by
  have e:dk (dS L nm back) nm=some (fc nm back d):=by rw[nV,hd];rfl
  have rV:=II (back:=back) (cT hd).2
  by_cases ag:back=[]
  ·exact⟨0,Nat.zero_le _,.base e (by rw[rV];exact ag)⟩
  ·exact⟨k+1,Nat.le_refl _,.step e (by rw[rV];exact ag) (by rw[rV];exact xE)⟩
 induction h with
 |gone h=>exact⟨0,Nat.zero_le _,.gone (by rw[nV,h];rfl)⟩
 | @base n d g1 g2=>
  have e:=(cT g1).2
  by_cases c:n=nm
  ·subst c
   obtain⟨i,ay,hd⟩:=vO d g1
   exact⟨i,by omega,hd⟩
  ·exact⟨0,Nat.zero_le _,.base (d:=d) (by rw[nV,g1];show some (fc nm back d)=_;rw[vQ (by rw[e];exact c)]) g2⟩
 | @step n d j g1 g2 bL aY=>
  have e:=(cT g1).2
  by_cases c:n=nm
  ·subst c
   obtain⟨i,ay,hd⟩:=vO d g1
   exact⟨i,by omega,hd⟩
  ·obtain⟨i,ay,hd⟩:=aY
   exact⟨i+1,by omega,.step (d:=d) (by rw[nV,g1];show some (fc nm back d)=_;rw[vQ (by rw[e];exact c)]) g2 hd⟩
theorem bV.Ek (h:bV bits room L) {nm back:List UInt8} (aa:nm≠back) (af:nm∉cH L (cm L back) back) (n:List UInt8):dK (dS L nm back) n (cm (dS L nm back) n)∧cm (dS L nm back) n≤20:=by
 have ag:=h.dep back
 have hn:=h.dep n
 obtain⟨i,ay,hd⟩:=Xt ag.1 aa af hn.1
 rw[zy hd (by omega)]
 exact⟨hd,by omega⟩
theorem NZ {nm back:List UInt8} (h: ¬((dk L nm).isSome=false∨(decide (back=[])||(dk L back).isSome)=false)):(∃d,dk L nm=some d)∧(decide (back=[])||(dk L back).isSome)=true:=by
 constructor
 ·cases e:dk L nm with
  |none=>exact absurd (.inl (by rw[e];rfl)) h
  |some d=>exact⟨d,rfl⟩
 ·cases e:(decide (back=[])||(dk L back).isSome) with
  |false=>exact absurd (.inr e) h
  |true=>rfl
theorem bV.set (h:bV bits room L) {nm back:List UInt8} (au:(decide (back=[])||(dk L back).isSome)=true) (aa:nm≠back) (af:nm∉cH L (cm L back) back) (j6: ∀n∈ic L,cm (dS L nm back) n≤8):bV bits room (dS L nm back):=by
 have key: ∀d,d∈dS L nm back→ ∃e,e∈L∧fc nm back e=d:=fun d hd=>by
  obtain⟨e,he,rfl⟩:=List.mem_map.1 hd
  exact⟨e,he,rfl⟩
 refine⟨⟨h.togF.dS nm back,h.eT,h.uz,by unfold dS;rw[List.length_map];exact h.len,fun d hd=>?_,fun d hd ag=>?_,fun d hd=>?_,fun d hd=>?_⟩,fun d hd=>?_,fun d hd=>?_⟩
 ·obtain⟨e,he,rfl⟩:=key d hd
  rw[Nv]
  exact h.iU e he
 ·obtain⟨e,he,rfl⟩:=key d hd
  have qT: ∃x,dk L (fc nm back e).back=some x:=by
   by_cases c:e.nm=nm
   ·rw[II c] at ag⊢
    rw[Bool.or_eq_true] at au
    exact Option.isSome_iff_exists.1 (au.resolve_left fun x=>ag (of_decide_eq_true x))
   ·rw[vQ c] at ag⊢
    exact h.qT e he ag
  obtain⟨x,hx⟩:=qT
  exact⟨fc nm back x,by rw[nV,hx];rfl⟩
 ·obtain⟨e,he,rfl⟩:=key d hd
  rw[xR]
  exact h.ne e he
 ·obtain⟨e,he,rfl⟩:=key d hd
  rw[xR]
  have hm:e.nm∈ic L:=by
   unfold ic s6
   rw[List.mem_mergeSort,vJ]
   exact List.mem_map_of_mem he
  exact⟨_,j6 _ hm,(h.Ek aa af e.nm).1⟩
 ·obtain⟨e,he,rfl⟩:=key d hd
  rw[Nw]
  exact h.vM e he
 ·obtain⟨e,he,rfl⟩:=key d hd
  rw[xR]
  exact h.zz e he
theorem BI (h:bV bits room L) (nm back:List UInt8):bV bits room (gx L nm back).L:=by
 unfold gx
 split
 ·exact h
 ·rename_i aa
  split
  ·exact h
  ·rename_i af
   split
   ·rename_i aA
    exact h.set (NZ aa).2 (fun e=>af (.inl e)) (fun e=>af (.inr e)) aA
   ·exact h
theorem N0 (h:bV bits room L) (nm back:List UInt8):Fn Tryz.prog 53 [aI 1001,bN nm,bN back] (bP bits room L) [] (aD (gx L nm back).e) (bP bits room (gx L nm back).L):=by
 have hd:=h.dep back
 by_cases aa:(dk L nm).isSome=false∨(decide (back=[])||(dk L back).isSome)=false
 ·rw[show gx L nm back=⟨140,L⟩ from if_pos aa]
  exact WO bits room L nm back aa
 obtain⟨⟨d,qM⟩,au⟩:=NZ aa
 by_cases af:nm=back∨nm∈cH L (cm L back) back
 ·rw[show gx L nm back=⟨141,L⟩ from(if_neg aa).trans (if_pos af)]
  exact WQ bits room L h.togF nm back d qM au _ hd.1 (by omega) af
 have hR:=fun n=>h.Ek (back:=back) (fun e=>af (.inl e)) (fun e=>af (.inr e)) n
 refine WW bits room L h.togF h.ID (by have:=h.len;omega) nm back d qM au _ hd.1 (by omega) af (fun n=>cm (dS L nm back) n) (fun n _=>⟨(hR n).1,by have:=(hR n).2;omega⟩) _ _ (fun bM=>?_) (fun bM=>?_)
 ·rw[show gx L nm back=⟨0,dS L nm back⟩ from(if_neg aa).trans ((if_neg af).trans (if_pos bM))]
  exact⟨rfl,rfl⟩
 ·have eS: ¬ ∀n∈ic L,cm (dS L nm back) n≤8:=fun c9=>by
   obtain⟨n,hn,j6⟩:=bM
   have:=c9 n hn
   omega
  rw[show gx L nm back=⟨142,L⟩ from(if_neg aa).trans ((if_neg af).trans (if_neg eS))]
  exact⟨rfl,rfl⟩
end
end Go.Proofs.YteoamepgonpdlaaGreat
