/-
Part 11 of the proof that stands in YteoamepgonpdlaaGreatPbRow, with what it needs from the parts ahead; the parts of this text: In, Vi, Ca, Vj, Vk.
-/
import Derived.Test.YteoamepgonpdlaaGreatPb10
namespace Go.Proofs.YteoamepgonpdlaaGreat
set_option linter.unusedVariables false
set_option linter.unusedSimpArgs false
set_option maxRecDepth 10000
open Go.RowKit Go.Proofs
def jZ (s:bz) (p:lM):Bool:=decide (p.b - p.a=wid s)
theorem MS (s:bz) (ag:s.bits≤3) (p:lM) (aa:p.a≤p.b) (af:p.b≤1000):Fn Tryz.prog 125 [p7 p,aI 4] (dh s++[(4,.cells [.ptr 1001 0])]) [] (g9 (jZ s p)) (dh s++[(4,.cells [.ptr 1001 0])]):=by
 have kK:(-9223372036854775808:Int)≤(p.b:Int) - (p.a:Int)∧(p.b:Int) - (p.a:Int)≤9223372036854775807:=by omega
 refine Fn.of aj [] _ _ _ _ _ Tryz.func125 rfl rfl (by kernel_rfl) (by kernel_rfl) rfl (aK aj) rfl ?_
 refine⟨rfl,?_⟩
 refine⟨kK,?_⟩
 refine⟨_,_,_,_,p6 s ag,⟨rfl,rfl,rfl,rfl,trivial⟩,rfl,?_⟩
 refine⟨rfl,?_⟩
 refine⟨_,_,_,ah.refl _ _,rfl,?_,⟨rfl,rfl,rfl,rfl,rfl,trivial⟩,rfl⟩
 show decide ((p.b:Int) - (p.a:Int)=((wid s:Nat):Int))=jZ s p
 unfold jZ
 exact decide_eq_decide.2 (by omega)
def lN (s:bz) (p:lM):Bool:= !jZ s p&&(decide ((s.t.getD p.c s0).1≠2)&&gw s p.c)
def fA (s:bz) (a l:Nat):Nat→Nat
 |0=>0
 |k+1=>fA s a l k+(if lN s (aR (wid s) a l k)=true then 1 else 0)
theorem Vc (s:bz) (a l k:Nat):fA s a l k≤k:=by
 induction k with
 |zero=>exact Nat.le_refl _
 |succ k aY=>
  show fA s a l k+_≤k+1
  split <;>omega
@[reducible] def vB:eD:=((2:Int),(0:Int),false)
@[reducible] def xA (n:Nat):List UInt8:=List.replicate n (0:UInt8)
def vC (s:bz) (p:lM) (y:List UInt8):bz:=if jZ s p=true then qO s p.c vB else if(s.t.getD p.c s0).1=2 then s else xw s p (xA (p.b - p.a)) y
def ej (s:bz) (a l:Nat) (y:Nat→List UInt8):Nat→bz
 |0=>s
 |k+1=>vC (ej s a l y k) (aR (wid s) a l k) (y (aR (wid s) a l k).c)
@[reducible] def xB (s:bz) (R:bn→bK) (bQ cn:Nat):aG:=fy s R++[(4,.cells [.ptr 1001 0]),(7,.cells [.d (.fn (114,[bQ,cn]))]),(10,.cells [.eH 125 [.p 4 0]])]
@[reducible] def DG (s:bz) (R:bn→bK) (bQ cn:Nat) (n:Nat):aG:=fy s R++[(4,.cells [.ptr 1001 0]),(7,.cells [.d (.fn (114,[bQ,cn]))]),(10,.cells [.eH 125 [.p 4 0]]),(11,.cells [.d (.int .i64 (n:Int))])]
@[reducible] def DH (a l:Nat):aQ:=[(1,aD (a:Int)),(2,aD (l:Int)),(4,aI 4),(7,aI 7),(10,aI 10)]
@[reducible] def Vd:aQ:=[(1000000+76,.undef),(1000000+117,.undef)]
@[reducible] def HD (a l:Nat):aQ:=Vd++[(1,aD (a:Int)),(2,aD (l:Int)),(4,aI 4),(7,aI 7),(10,aI 10),(11,aI 11)]
theorem DI (s:bz) (aB:s.t.length≤256) (c:Nat) (hc:c < s.t.length):Fn Tryz.prog 76 [aI 1001,aD (c:Int)] (dh s) [] (aD (s.t.getD c s0).1) (dh s):=by
 have h:=UR s aB c hc
 have e:s.t[c]=s.t.getD c s0:=by rw[List.getD_eq_getElem?_getD,List.getElem?_eq_getElem hc];rfl
 rwa[e] at h
set_option maxHeartbeats 1000000 in
theorem Ve (s:bz) (R:bn→bK) (bQ cn:Nat) (aT:fI s) (a l:Nat) (aC:dJ s a l=0) (y:Nat→List UInt8) (r:Int) (s':bz) (eS:zeros s.l < fA s a l (b5 (wid s) a l)→r=120∧s'=s) (HB:fA s a l (b5 (wid s) a l)≤zeros s.l→r=0∧s'=ej s a l y (b5 (wid s) a l))
  (DJ:fA s a l (b5 (wid s) a l)≤zeros s.l→ ∀k,k≤b5 (wid s) a l→fI (ej s a l y k)∧(ej s a l y k).bits=s.bits∧(ej s a l y k).t.length=s.t.length)
  (iM:fA s a l (b5 (wid s) a l)≤zeros s.l→ ∀k,k < b5 (wid s) a l→jZ s (aR (wid s) a l k)=true→Fn Tryz.prog 127 [aI 1001,aD ((aR (wid s) a l k).c:Int),.c (oX vB)] (dh (ej s a l y k)) [] sM (dh (ej s a l y (k+1))))
  (m5:fA s a l (b5 (wid s) a l)≤zeros s.l→ ∀k,k < b5 (wid s) a l→jZ s (aR (wid s) a l k)=false→((ej s a l y k).t.getD (aR (wid s) a l k).c s0).1≠2→Fn Tryz.prog 119 [aI 1001,p7 (aR (wid s) a l k),cJ .u8 (xA ((aR (wid s) a l k).b - (aR (wid s) a l k).a)),m4 bQ cn] (fy (ej s a l y k) R) [] sM (fy (ej s a l y (k+1)) R)):
  Fn Tryz.prog 100 [aI 1001,aD (a:Int),aD (l:Int),m4 bQ cn] (fy s R) [] (aD r) (fy s' R):=by
 have dW:=oB aT.bits
 have hw:=uq aT.bits
 have c9:=rR aC
 have s4:eO s≤2048:=Nat.mul_le_mul aT.tl (mA aT.bits).2
 refine Fn.of aj [4,5,6,10,12,18] _ _ _ _ _ Tryz.func100 rfl rfl (by kernel_rfl) (by kernel_rfl) rfl (aK aj) rfl ?_
 refine⟨rfl,rfl,?_⟩
 refine⟨_,_,_,_,vz s aT a l,⟨rfl,rfl,rfl,rfl,trivial⟩,rfl,?_⟩
 rw[aC]
 refine⟨fun h=>absurd h (by decide),fun _=>?_⟩
 show aE _ _ _ _ _ _ _
 refine aE.go aj (aK aj) [5,6] (by kernel_rfl) (ah.refl _ _) ?_
 refine⟨rfl,?_⟩
 show aE _ _ _ _ _ _ _
 refine aE.go aj (aK aj) [6] (by kernel_rfl) (ah.sub (K':=DH a l) (B':=xB s R bQ cn) ⟨rfl,rfl,rfl,rfl,rfl,trivial⟩ ⟨rfl,rfl,rfl,rfl,rfl,rfl,rfl,rfl,trivial⟩) ?_
 refine⟨rfl,?_⟩
 show aE _ _ _ _ _ _ _
 refine aE.ro 117 (by decide) (aE.ro 76 (by decide) ?_)
 refine aE.go aj (aK aj) [] (by kernel_rfl) (ah.sub (K':=HD a l) (B':=DG s R bQ cn 0) ⟨trivial,trivial,rfl,rfl,rfl,rfl,rfl,rfl,trivial⟩ ⟨rfl,rfl,rfl,rfl,rfl,rfl,rfl,rfl,rfl,trivial⟩) ?_
 refine⟨_,_,_,_,zc s a l,⟨rfl,rfl,rfl,rfl,trivial⟩,rfl,?_⟩
 show aE _ _ _ _ _ _ _
 refine aE.le (ah.sub (K':=(25,.c (.one (.eH 133 [.p 2001 0,.p 2002 0,.p 2003 0])))::HD a l) (B':=qa a l++DG s R bQ cn 0) ⟨rfl,trivial,trivial,rfl,rfl,rfl,rfl,rfl,rfl,trivial⟩ ⟨rfl,rfl,rfl,rfl,rfl,rfl,rfl,rfl,rfl,rfl,rfl,rfl,trivial⟩) ?_
 refine aE.range aj [9] (pl:=[26]) rfl (by kernel_rfl) (by kernel_rfl) (by kernel_rfl) (by kernel_rfl) [1001,1002,1003,1004,9000,4,7,10,11] _ (HD a l) (qa a l) (fun k:Nat=>DG s R bQ cn (fA s a l k)) 1001 0 (b5 (wid s) a l) (fun k vs k'=>k < b5 (wid s) a l∧vs=[p7 (aR (wid s) a l k)]∧k'=k+1) rfl (by exact⟨trivial,trivial,rfl,rfl,rfl,rfl,rfl,rfl,trivial⟩) rfl rfl ?_ ?_ ?_
 ·rintro k vs k' ⟨au,rfl,rfl⟩
  obtain⟨hc,qP⟩:=qQ aT c9 au
  obtain⟨dO,cZ,dA,dB⟩:=p9 dW au
  have U8:=Vc s a l k
  have bt:lN s (aR (wid s) a l k)=false→fA s a l (k+1)=fA s a l k:=fun hn=>by
   show fA s a l k+_=_
   rw[if_neg (by rw[hn];decide)]
   exact Nat.add_zero _
  have ai:lN s (aR (wid s) a l k)=true→((fA s a l k:Nat):Int)+1=((fA s a l (k+1):Nat):Int):=fun hn=>by
   show _=((fA s a l k+_:Nat):Int)
   rw[if_pos hn]
   omega
  have kK:(-9223372036854775808:Int)≤((fA s a l k:Nat):Int)+1∧((fA s a l k:Nat):Int)+1≤9223372036854775807:=by omega
  have DK:=MS s aT.bits (aR (wid s) a l k) dO (by omega)
  refine⟨rfl,rfl,?_⟩
  refine⟨rfl,?_⟩
  refine⟨rfl,?_⟩
  refine⟨_,_,_,_,DK,⟨rfl,rfl,rfl,rfl,rfl,trivial⟩,rfl,?_⟩
  refine⟨fun hn=>?_,fun hn=>?_⟩
  ·have hn:jZ s (aR (wid s) a l k)=false:=by simpa using hn
   refine⟨_,_,fun N=>A8 rfl rfl rfl (DI s aT.tl _ hc) (by exact⟨rfl,rfl,rfl,rfl,trivial⟩) rfl (fun _=>rfl) N,rfl,?_⟩
   refine⟨fun jc=>?_,fun jc=>?_⟩
   ·have jc: ¬(s.t.getD (aR (wid s) a l k).c s0).1=2:=by
     have jc:(!decide ((s.t.getD (aR (wid s) a l k).c s0).1=2))=true:=jc
     simpa using jc
    refine⟨_,_,fun N=>A8 rfl rfl rfl (Hr s aT.tl _ hc) (by exact⟨rfl,rfl,rfl,rfl,trivial⟩) rfl (fun _=>rfl) N,rfl,?_⟩
    refine⟨fun DL=>?_,fun DL=>?_⟩
    ·have aS:lN s (aR (wid s) a l k)=true:=by
      unfold lN
      rw[hn,decide_eq_true jc,DL]
      rfl
     show aE _ _ _ _ _ _ _
     refine aE.go aj (aK aj) [] (by kernel_rfl) (ah.sub (K':=[(11,aI 11)]) (B':=DG s R bQ cn (fA s a l k)) ⟨rfl,trivial⟩ ⟨rfl,rfl,rfl,rfl,rfl,rfl,rfl,rfl,rfl,trivial⟩) ?_
     refine⟨kK,?_⟩
     exact⟨rfl,ah.sub trivial ⟨rfl,rfl,rfl,rfl,rfl,rfl,rfl,rfl,by rw[←ai aS];rfl,trivial⟩⟩
    ·have aS:lN s (aR (wid s) a l k)=false:=by
      unfold lN
      rw[DL,Bool.and_false,Bool.and_false]
     exact⟨rfl,ah.sub trivial ⟨rfl,rfl,rfl,rfl,rfl,rfl,rfl,rfl,by rw[bt aS];rfl,trivial⟩⟩
   ·have jc:(s.t.getD (aR (wid s) a l k).c s0).1=2:=by
     have jc:(!decide ((s.t.getD (aR (wid s) a l k).c s0).1=2))=false:=jc
     simpa using jc
    have aS:lN s (aR (wid s) a l k)=false:=by
     unfold lN
     rw[decide_eq_false (fun h=>h jc),Bool.false_and,Bool.and_false]
    exact⟨rfl,ah.sub trivial ⟨rfl,rfl,rfl,rfl,rfl,rfl,rfl,rfl,by rw[bt aS];rfl,trivial⟩⟩
  ·have hn:jZ s (aR (wid s) a l k)=true:=by simpa using hn
   have aS:lN s (aR (wid s) a l k)=false:=by
    unfold lN
    rw[hn]
    rfl
   exact⟨rfl,ah.sub trivial ⟨rfl,rfl,rfl,rfl,rfl,rfl,rfl,rfl,by rw[bt aS];rfl,trivial⟩⟩
 ·intro xz fu rQ aF
  exact zb xz (wid s) a l dW (by omega) (by omega) fu (fun k=>rQ _ _ _ k k (Fn.more [(9000,.dep 1001 R),(4,.cells [.ptr 1001 0]),(7,.cells [.d (.fn (114,[bQ,cn]))]),(10,.cells [.eH 125 [.p 4 0]]),(11,.cells [.d (.int .i64 (fA s a l k:Int))])] (p6 s aT.bits) rfl rfl) rfl rfl) (fun k au=>aF k _ (k+1) ⟨au,rfl,rfl⟩)
 ·have aS:zeros s.l≤512:=Nat.le_trans (Hj _) aT.k3
  show aE _ _ _ _ _ _ _
  refine aE.go aj (aK aj) [12,18] (by kernel_rfl) (ah.refl _ _) ?_
  refine⟨_,_,_,_,ME s (by have:=aT.k3;omega),⟨rfl,rfl,rfl,rfl,trivial⟩,rfl,?_⟩
  refine⟨rfl,?_⟩
  refine⟨fun h=>?_,fun h=>?_⟩
  ·have h:((zeros s.l:Nat):Int) < ((fA s a l (b5 (wid s) a l):Nat):Int):=of_decide_eq_true h
   obtain⟨rfl,rfl⟩:=eS (by omega)
   exact⟨_,_,_,ah.refl _ _,rfl,rfl,⟨rfl,rfl,rfl,rfl,rfl,trivial⟩,rfl⟩
  have h: ¬((zeros s.l:Nat):Int) < ((fA s a l (b5 (wid s) a l):Nat):Int):=of_decide_eq_false h
  have dD:fA s a l (b5 (wid s) a l)≤zeros s.l:=by omega
  obtain⟨rfl,rfl⟩:=HB dD
  have DJ:=DJ dD
  have iM:=iM dD
  have m5:=m5 dD
  show aE _ _ _ _ _ _ _
  refine aE.go aj (aK aj) [18] (by kernel_rfl) (ah.sub (K':=DH a l) (B':=xB s R bQ cn) ⟨rfl,rfl,rfl,rfl,rfl,trivial⟩ ⟨rfl,rfl,rfl,rfl,rfl,rfl,rfl,rfl,trivial⟩) ?_
  refine⟨_,_,_,_,zc s a l,⟨rfl,rfl,rfl,rfl,trivial⟩,rfl,?_⟩
  show aE _ _ _ _ _ _ _
  refine aE.le (ah.sub (K':=(52,.c (.one (.eH 133 [.p 2001 0,.p 2002 0,.p 2003 0])))::DH a l) (B':=qa a l++xB s R bQ cn) ⟨rfl,rfl,rfl,rfl,rfl,rfl,trivial⟩ ⟨rfl,rfl,rfl,rfl,rfl,rfl,rfl,rfl,rfl,rfl,rfl,trivial⟩) ?_
  refine aE.range aj [15,16,17] (pl:=[53]) rfl (by kernel_rfl) (by kernel_rfl) (by kernel_rfl) (by kernel_rfl) [1001,1002,1003,1004,9000,4,7,10] _ (DH a l) (qa a l) (fun k:Nat=>xB (ej s a l y k) R bQ cn) 1001 0 (b5 (wid s) a l) (fun k vs k'=>k < b5 (wid s) a l∧vs=[p7 (aR (wid s) a l k)]∧k'=k+1) rfl (by exact⟨rfl,rfl,rfl,rfl,rfl,trivial⟩) rfl rfl ?_ ?_ ?_
  ·rintro k vs k' ⟨au,rfl,rfl⟩
   obtain⟨hc,qP⟩:=qQ aT c9 au
   obtain⟨dO,cZ,dA,dB⟩:=p9 dW au
   obtain⟨fG,iy,p8⟩:=DJ k (Nat.le_of_lt au)
   have iM:=iM k au
   have m5:=m5 k au
   have vD:wid (ej s a l y k)=wid s:=congrArg (fun b=>16*2 ^b) iy
   have DK:=MS (ej s a l y k) fG.bits (aR (wid s) a l k) dO (by omega)
   rw[show jZ (ej s a l y k) (aR (wid s) a l k)=jZ s (aR (wid s) a l k) by unfold jZ;rw[vD]] at DK
   have Vf:jZ s (aR (wid s) a l k)=false→jZ (ej s a l y k) (aR (wid s) a l k)=false:=fun h=>by
    unfold jZ
    rw[vD]
    exact h
   have Vg:ej s a l y (k+1)=vC (ej s a l y k) (aR (wid s) a l k) (y (aR (wid s) a l k).c):=rfl
   refine⟨rfl,rfl,?_⟩
   refine⟨rfl,?_⟩
   refine⟨rfl,?_⟩
   refine⟨_,_,_,_,DK,⟨rfl,rfl,rfl,rfl,rfl,trivial⟩,rfl,?_⟩
   refine⟨fun hn=>?_,fun hn=>?_⟩
   ·have iM:=iM hn
    show aE _ _ _ _ _ _ _
    refine aE.go aj (aK aj) [] (by kernel_rfl) (ah.sub (K':=[(4,aI 4),(13,aI 13)]) (B':=(13,.cells (ur (aR (wid s) a l k)))::xB (ej s a l y k) R bQ cn) ⟨rfl,rfl,trivial⟩ ⟨rfl,rfl,rfl,rfl,rfl,rfl,rfl,rfl,rfl,trivial⟩) ?_
    refine⟨_,_,_,_,Fn.arg iM ⟨rfl,rfl,⟨rfl,rfl,rfl,trivial⟩,trivial⟩,⟨rfl,rfl,rfl,rfl,trivial⟩,rfl,?_⟩
    exact⟨rfl,ah.sub trivial ⟨rfl,rfl,rfl,rfl,rfl,rfl,rfl,rfl,trivial⟩⟩
   ·show aE _ _ _ _ _ _ _
    refine aE.go aj (aK aj) [17] (by kernel_rfl) (ah.sub (K':=[(4,aI 4),(7,aI 7),(13,aI 13)]) (B':=(13,.cells (ur (aR (wid s) a l k)))::xB (ej s a l y k) R bQ cn) ⟨rfl,rfl,rfl,trivial⟩ ⟨rfl,rfl,rfl,rfl,rfl,rfl,rfl,rfl,rfl,trivial⟩) ?_
    refine⟨_,_,_,_,DI (ej s a l y k) fG.tl _ (by rw[p8];exact hc),⟨rfl,rfl,rfl,rfl,trivial⟩,rfl,?_⟩
    refine⟨fun jc=>?_,fun jc=>?_⟩
    ·have jc: ¬((ej s a l y k).t.getD (aR (wid s) a l k).c s0).1=2:=by
      have jc:(!decide (((ej s a l y k).t.getD (aR (wid s) a l k).c s0).1=2))=true:=jc
      simpa using jc
     have m5:=m5 hn jc
     have kK:(-9223372036854775808:Int)≤((aR (wid s) a l k).b:Int) - ((aR (wid s) a l k).a:Int)∧((aR (wid s) a l k).b:Int) - ((aR (wid s) a l k).a:Int)≤9223372036854775807:=by omega
     have sZ:((aR (wid s) a l k).b:Int) - ((aR (wid s) a l k).a:Int)=((aR (wid s) a l k).b:Int) - ((aR (wid s) a l k).a:Int)∧(0:Int)≤((aR (wid s) a l k).b:Int) - ((aR (wid s) a l k).a:Int)∧((aR (wid s) a l k).b:Int) - ((aR (wid s) a l k).a:Int)≤4294967296:=by omega
     show aE _ _ _ _ _ _ _
     refine aE.go aj (aK aj) [] (by kernel_rfl) (ah.sub (K':=[(4,aI 4),(7,aI 7),(13,aI 13)]) (B':=(13,.cells (ur (aR (wid s) a l k)))::xB (ej s a l y k) R bQ cn) ⟨rfl,rfl,rfl,trivial⟩ ⟨rfl,rfl,rfl,rfl,rfl,rfl,rfl,rfl,rfl,trivial⟩) ?_
     refine⟨kK,sZ,rfl,?_⟩
     have hx:xA ((aR (wid s) a l k).b - (aR (wid s) a l k).a)=List.replicate (((aR (wid s) a l k).b:Int) - ((aR (wid s) a l k).a:Int)).toNat (0:UInt8):=by
      rw[show(((aR (wid s) a l k).b:Int) - ((aR (wid s) a l k).a:Int)).toNat=(aR (wid s) a l k).b - (aR (wid s) a l k).a by omega]
     rw[hx] at m5
     refine⟨_,_,_,_,Fn.own (d:=76) (args:=[aI 1001,p7 (aR (wid s) a l k),iL 76,m4 bQ cn]) (e:=5) (u:=.u8) (xs:=List.replicate (((aR (wid s) a l k).b:Int) - ((aR (wid s) a l k).a:Int)).toNat (0:UInt8)) m5 rfl,⟨rfl,rfl,rfl,rfl,rfl,rfl,trivial⟩,rfl,?_⟩
     refine⟨rfl,?_⟩
     exact⟨rfl,ah.sub trivial ⟨rfl,rfl,rfl,rfl,rfl,rfl,rfl,rfl,trivial⟩⟩
    ·have jc:((ej s a l y k).t.getD (aR (wid s) a l k).c s0).1=2:=by
      have jc:(!decide (((ej s a l y k).t.getD (aR (wid s) a l k).c s0).1=2))=false:=jc
      simpa using jc
     have e:ej s a l y (k+1)=ej s a l y k:=by
      rw[Vg]
      unfold vC
      rw[Vf hn,if_neg (by decide),if_pos jc]
     rw[e]
     exact⟨rfl,ah.sub trivial ⟨rfl,rfl,rfl,rfl,rfl,rfl,rfl,rfl,trivial⟩⟩
  ·intro xz fu rQ aF
   have h:=zb xz (wid s) a l dW (by omega) (by omega) (fun k=>fu (min k (b5 (wid s) a l))) (fun k=>rQ _ _ _ (min k (b5 (wid s) a l)) (min k (b5 (wid s) a l)) (by
    obtain⟨fG,ag,p8⟩:=DJ (min k (b5 (wid s) a l)) (Nat.min_le_right _ _)
    have af:=p6 (ej s a l y (min k (b5 (wid s) a l))) (by rw[ag];exact aT.bits)
    rw[show wid (ej s a l y (min k (b5 (wid s) a l)))=wid s from congrArg (fun b=>16*2 ^b) ag] at af
    exact Fn.more [(9000,.dep 1001 R),(4,.cells [.ptr 1001 0]),(7,.cells [.d (.fn (114,[bQ,cn]))]),(10,.cells [.eH 125 [.p 4 0]])] af rfl rfl) rfl rfl) (fun k au=>by
    have h:=aF k _ (k+1) ⟨au,rfl,rfl⟩
    rw[Nat.min_eq_left (by omega),Nat.min_eq_left (by omega)]
    exact h)
   simp only[Nat.zero_min,Nat.min_self] at h
   exact h
  ·show aE _ _ _ _ _ _ _
   refine aE.go aj (aK aj) [] (by kernel_rfl) (ah.refl _ _) ?_
   exact⟨_,_,_,ah.refl _ _,rfl,rfl,⟨rfl,rfl,rfl,rfl,rfl,trivial⟩,rfl⟩
theorem MT {l:List Int} {h:Nat} {n m:Int} (aB:l[h]? =some n):zeros (l.set h m)+(if n=0 then 1 else 0)=zeros l+(if m=0 then 1 else 0):=by
 induction l generalizing h with
 |nil=>simp at aB
 |cons x l aY=>
  match h with
  |0=>
   simp only[List.getElem?_cons_zero,Option.some.injEq] at aB
   subst aB
   simp only[List.set_cons_zero]
   unfold zeros
   rw[List.filter_cons,List.filter_cons]
   by_cases aa:x=0 <;>by_cases af:m=0 <;>simp[aa,af] <;>omega
  |h+1=>
   have aB:l[h]? =some n:=by simpa using aB
   have:=aY aB
   simp only[List.set_cons_succ]
   unfold zeros at*
   rw[List.filter_cons,List.filter_cons]
   by_cases aa:x=0 <;>simp[aa] <;>omega
theorem HE {xs ys:List UInt8} {a n:Nat} (aa:a+n≤xs.length) (af:ys.length=n):(laid xs a n ys).length=xs.length:=by
 unfold laid
 rw[List.length_append,List.length_append,List.length_take,List.length_take,List.length_drop]
 omega
structure zg (s s':bz) (p:lM) (bs y:List UInt8):Prop where
 ok:fI s'
 bits:s'.bits=s.bits
 tl:s'.t.length=s.t.length
 k3:s'.l.length=s.l.length
 gz: ∀c,c≠p.c→s'.t[c]? =s.t[c]? ∧ ∀z,dR s' c z=dR s c z
 there: ∀z,dR s' p.c z=laid (dR s p.c (some y)) p.a (p.b - p.a) bs
 jx:gw s' p.c=false
 jF:zeros s'.l+(if gw s p.c=true then 1 else 0)=zeros s.l
theorem Vh {s:bz} {c:Nat} {h:Int} {xs:List UInt8} (aa:s.t[c]? =some ((1:Int),h,true)) (af:s.f h=some xs) (z:Option (List UInt8)):dR s c z=xs:=by
 unfold dR
 rw[aa]
 simp only[if_pos,af,Option.getD_some]
theorem HF {s s':bz} {c:Nat} (ag:s'.bits=s.bits) (cl:s'.t[c]? =s.t[c]?) (hf: ∀h,s.t[c]? =some ((1:Int),h,true)→s'.f h=s.f h) (aT:fI s) (z:Option (List UInt8)):dR s' c z=dR s c z:=by
 have aS:jF s'=jF s:=by unfold jF wid;rw[ag]
 have hw:wid s'=wid s:=by unfold wid;rw[ag]
 unfold dR
 rw[cl]
 cases e:s.t[c]? with
 |none=>rfl
 |some q=>
  simp only
  rcases aT.slot c q e with h |h |⟨h,aq,_⟩
  ·rw[h,aS,hw];rfl
  ·rw[h,aS];rfl
  ·rw[aq] at e
   rw[aq,hf _ e,aS,hw]
theorem Vi {s:bz} {c:Nat} {h:Int} (aa:s.t[c]? =some ((1:Int),h,true)):gw s c=false:=by
 unfold gw vp
 rw[y8 aa]
 rfl
theorem Vj {s:bz} (aT:fI s) {c:Nat} (hc:c < s.t.length) (y:List UInt8) (aS:gw s c=true→0 < zeros s.l):
  (mB s c y).bits=s.bits∧(mB s c y).l.length=s.l.length∧(∀d,d≠c→(mB s c y).t[d]? =s.t[d]? ∧ ∀h,s.t[d]? =some ((1:Int),h,true)→(mB s c y).f h=s.f h)∧zeros (mB s c y).l+(if gw s c=true then 1 else 0)=zeros s.l:=by
 unfold mB
 by_cases hn:gw s c=true
 ·rw[if_pos hn,if_pos hn]
  obtain⟨fq,nG⟩:=Hs (aS hn)
  refine⟨rfl,List.length_set,fun d hd=>⟨List.getElem?_set_ne (Ne.symm hd),fun h bM=>?_⟩,?_⟩
  ·show(if h=(gZ s.l:Int) then _ else s.f h)=s.f h
   rw[if_neg]
   intro e
   rcases aT.slot d _ bM with aq |aq |⟨h',aq,aA,_⟩
   ·cases aq
   ·cases aq
   ·have:h=(h':Int):=by injection aq with _ aq;injection aq
    have:h'=gZ s.l:=by omega
    rw[this,fq] at aA
    cases aA
  ·have:=MT (m:=1) fq
   simpa using this
 ·rw[if_neg hn,if_neg hn]
  exact⟨rfl,rfl,fun d _=>⟨rfl,fun _ _=>rfl⟩,rfl⟩
theorem HG {s:bz} (aT:fI s) {p:lM} (hc:p.c < s.t.length) {bs y:List UInt8} (aa:p.a≤p.b) (af:p.b≤wid s) (aA:bs.length=p.b - p.a) (aS:gw s p.c=true→0 < zeros s.l):zg s (xw s p bs y) p bs y:=by
 obtain⟨fG,iy,p8,h,uu,vw⟩:=ML aT hc y aS
 obtain⟨r1,r2,gv,mm⟩:=Vj aT hc y aS
 have cQ:=xx aT hc (some y)
 unfold xw
 generalize mB s p.c y=s' at*
 generalize CS:dR s p.c (some y)=xs at*
 have Ht:=y8 uu
 have e:DE s' p bs={s' with f:=jf s'.f (h:Int) (laid xs p.a (p.b - p.a) bs)}:=by
  unfold DE
  rw[Ht]
  simp only[vw,Option.getD_some]
 rw[e]
 have qF:=HE (xs:=xs) (ys:=bs) (a:=p.a) (n:=p.b - p.a) (by omega) aA
 have Vk: ∀(d:Nat) (k:Int),d≠p.c→s'.t[d]? =some ((1:Int),k,true)→jf s'.f (h:Int) (laid xs p.a (p.b - p.a) bs) k=s'.f k:=fun d k hd au=>by
  unfold jf
  rw[if_neg]
  intro e
  subst e
  exact hd (fG.inj d p.c _ au uu)
 refine⟨⟨fG.bits,fG.tl,fG.k3,fun c q bh=>?_,fG.inj,fG.cnt,fun k au=>?_,fG.used,MK fG.dom (by rw[qF,cQ];exact MJ aT.bits)⟩,r1,p8,r2,fun c mU=>⟨(gv c mU).1,fun z=>?_⟩,fun z=>by rw[CS];exact Vh (s:={s' with f:=jf s'.f (h:Int) (laid xs p.a (p.b - p.a) bs)}) uu (if_pos rfl) z,Vi (s:={s' with f:=jf s'.f (h:Int) (laid xs p.a (p.b - p.a) bs)}) uu,mm⟩
 ·rcases fG.slot c q bh with e |e |⟨k,e,g1,ys,g2,bL⟩
  ·exact .inl e
  ·exact .inr (.inl e)
  ·refine .inr (.inr ⟨k,e,g1,?_⟩)
   by_cases au:(k:Int)=(h:Int)
   ·exact⟨_,if_pos au,by rw[qF,cQ,←iy];rfl⟩
   ·exact⟨ys,(if_neg au).trans g2,bL⟩
 ·show(if(k:Int)=(h:Int) then _ else s'.f k)=none
  rw[if_neg]
  ·exact fG.free k au
  ·intro e
   have:k=h:=by omega
   subst this
   rcases fG.slot p.c _ uu with e |e |⟨j,e,g1,_⟩
   ·cases e
   ·cases e
   ·have:(k:Int)=(j:Int):=by injection e with _ e;injection e
    have:k=j:=by omega
    rw[this,g1] at au
    cases au
 ·refine HF (s:=s) (s':={s' with f:=jf s'.f (h:Int) (laid xs p.a (p.b - p.a) bs)}) r1 (gv c mU).1 (fun k au=>?_) aT z
  rw[←(gv c mU).2 k au]
  exact Vk c k mU ((gv c mU).1.trans au)
structure DM (s s':bz) (c:Nat) (q:eD):Prop where
 ok:fI s'
 bits:s'.bits=s.bits
 tl:s'.t.length=s.t.length
 k3:s'.l.length=s.l.length
 gz: ∀d,d≠c→s'.t[d]? =s.t[d]? ∧ ∀z,dR s' d z=dR s d z
 there:s'.t[c]? =some q
 jF:zeros s.l≤zeros s'.l
theorem DN {s:bz} (aT:fI s) {c:Nat} (hc:c < s.t.length) {q:eD} (bh:q=s0∨q=vB):DM s (qO s c q) c q:=by
 have hold:s.t[c]? =some (s.t.getD c s0):=by rw[List.getD_eq_getElem?_getD,List.getElem?_eq_getElem hc];rfl
 have rF: ∀h:Int,q≠((1:Int),h,true):=fun h e=>by rcases bh with bh |bh <;>rw[bh] at e <;>cases e
 have Bl:q=s0∨q=((2:Int),(0:Int),false):=bh
 unfold qO y7
 rcases y9 aT hc with⟨_,h⟩ |⟨_,h,aa,af,xs,aA,bE⟩
 ·have hn: ¬(s.t.getD c s0).1=1:=by rcases h with h |h <;>rw[h] <;>decide
  rw[if_neg hn]
  refine⟨⟨aT.bits,by show(s.t.set _ _).length≤256;rw[List.length_set];exact aT.tl,aT.k3,fun d r hr=>?_,fun d e k hd he=>?_,aT.cnt,aT.free,fun k au=>?_,aT.dom⟩,rfl,List.length_set,rfl,fun d hd=>⟨List.getElem?_set_ne (Ne.symm hd),fun z=>HF (s:=s) (s':={s with t:=s.t.set c q}) rfl (List.getElem?_set_ne (Ne.symm hd)) (fun _ _=>rfl) aT z⟩,List.getElem?_set_self hc,Nat.le_refl _⟩
  ·rw[List.getElem?_set] at hr
   split at hr
   ·injection hr with hr
    rw[←hr]
    exact Bl.imp id .inl
   ·exact aT.slot d r hr
  ·rw[List.getElem?_set] at hd he
   split at hd
   ·injection hd with hd;exact absurd hd (rF k)
   ·split at he
    ·injection he with he;exact absurd he (rF k)
    ·exact aT.inj d e k hd he
  ·obtain⟨d,hd⟩:=aT.used k au
   have bf:c≠d:=fun e=>by
    subst e
    rw[hold] at hd
    injection hd with hd
    rw[hd] at hn
    exact hn rfl
   exact⟨d,(List.getElem?_set_ne bf).trans hd⟩
 ·have bl:=y8 aa
  rw[bl,if_pos rfl]
  have bH:h < s.l.length:=(List.getElem?_eq_some_iff.1 af).1
  have bt:((h:Int)).toNat=h:=rfl
  simp only[bt]
  have other: ∀(d k:Nat),d≠c→s.t[d]? =some ((1:Int),(k:Int),true)→k≠h:=fun d k hd au e=>by
   subst e
   exact hd (aT.inj d c _ au aa)
  refine⟨⟨aT.bits,by show(s.t.set _ _).length≤256;rw[List.length_set];exact aT.tl,by show(s.l.set _ _).length≤512;rw[List.length_set];exact aT.k3,fun d r hr=>?_,fun d e k hd he=>?_,fun k n au=>?_,fun k au=>?_,fun k au=>?_,fun k xs au=>aT.dom k xs (by
   have au:(if k=(h:Int) then none else s.f k)=some xs:=au
   split at au
   ·cases au
   ·exact au)⟩,rfl,List.length_set,List.length_set,fun d hd=>⟨List.getElem?_set_ne (Ne.symm hd),fun z=>HF (s:=s) (s':={s with t:=s.t.set c q,l:=s.l.set h 0,f:=Bf s.f (h:Int)}) rfl (List.getElem?_set_ne (Ne.symm hd)) (fun k au=>?_) aT z⟩,List.getElem?_set_self hc,?_⟩
  ·rw[List.getElem?_set] at hr
   split at hr
   ·injection hr with hr
    rw[←hr]
    exact Bl.imp id .inl
   ·rename_i bf
    rcases aT.slot d r hr with e |e |⟨k,e,g1,ys,g2,bL⟩
    ·exact .inl e
    ·exact .inr (.inl e)
    ·have au:=other d k (Ne.symm bf) (e▸hr)
     exact .inr (.inr ⟨k,e,by show(s.l.set h 0)[k]? =some 1;rw[List.getElem?_set_ne (Ne.symm au)];exact g1,ys,by show(if(k:Int)=(h:Int) then none else s.f k)=some ys;rw[if_neg (by omega)];exact g2,bL⟩)
  ·rw[List.getElem?_set] at hd he
   split at hd
   ·injection hd with hd;exact absurd hd (rF k)
   ·split at he
    ·injection he with he;exact absurd he (rF k)
    ·exact aT.inj d e k hd he
  ·rw[List.getElem?_set] at au
   split at au
   ·injection au with au;exact .inl au.symm
   ·exact aT.cnt k n au
  ·show(if(k:Int)=(h:Int) then none else s.f k)=none
   by_cases e:k=h
   ·rw[if_pos (by omega)]
   ·rw[if_neg (by omega)]
    rw[List.getElem?_set_ne (fun aq=>e aq.symm)] at au
    exact aT.free k au
  ·by_cases e:k=h
   ·subst e
    rw[List.getElem?_set_self bH] at au
    cases au
   ·rw[List.getElem?_set_ne (fun aq=>e aq.symm)] at au
    obtain⟨d,hd⟩:=aT.used k au
    have bf:c≠d:=fun aq=>by
     subst aq
     rw[aa] at hd
     injection hd with hd
     have:(h:Int)=(k:Int):=by injection hd with _ hd;injection hd
     omega
    exact⟨d,(List.getElem?_set_ne bf).trans hd⟩
  ·rcases aT.slot d _ au with e |e |⟨j,e,_⟩
   ·cases e
   ·cases e
   ·have ak:k=(j:Int):=by injection e with _ e;injection e
    subst ak
    have:=other d j hd au
    show(if(j:Int)=(h:Int) then none else s.f j)=s.f j
    rw[if_neg (by omega)]
  ·have:=MT (m:=0) af
   simp at this
   show zeros s.l≤zeros (s.l.set h 0)
   omega
theorem Bn {s s':bz} {c:Nat} (h:s'.t[c]? =s.t[c]?):gw s' c=gw s c:=by
 unfold gw
 rw[List.getD_eq_getElem?_getD,List.getD_eq_getElem?_getD,h]
structure jg (s s':bz):Prop where
 ok:fI s'
 bits:s'.bits=s.bits
 tl:s'.t.length=s.t.length
 k3:s'.l.length=s.l.length
theorem jg.refl {s:bz} (h:fI s):jg s s:=⟨h,rfl,rfl,rfl⟩
theorem jg.trans {s s' Bo:bz} (h:jg s s') (k:jg s' Bo):jg s Bo:=⟨k.ok,k.bits.trans h.bits,k.tl.trans h.tl,k.k3.trans h.k3⟩
theorem jg.wid {s s':bz} (h:jg s s'):wid s'=wid s:=congrArg (fun b=>16*2 ^b) h.bits
theorem zg.ez {s s':bz} {p:lM} {bs y:List UInt8} (h:zg s s' p bs y):jg s s':=⟨h.ok,h.bits,h.tl,h.k3⟩
theorem DM.ez {s s':bz} {c:Nat} {q:eD} (h:DM s s' c q):jg s s':=⟨h.ok,h.bits,h.tl,h.k3⟩
def qb (s s':bz) (c:Nat):Prop:=s'.t[c]? =s.t[c]? ∧ ∀z,dR s' c z=dR s c z
theorem qb.refl (s:bz) (c:Nat):qb s s c:=⟨rfl,fun _=>rfl⟩
theorem qb.trans {s s' Bo:bz} {c:Nat} (h:qb s s' c) (k:qb s' Bo c):qb s Bo c:=⟨k.1.trans h.1,fun z=>(k.2 z).trans (h.2 z)⟩
def HH (s:bz) (R:bn→bK) (bQ cn:Nat) (y:Nat→List UInt8):Prop:= ∀s',jg s s'→ ∀(c:Nat) (h:c < s'.t.length),(s'.t[c]).1=0→DD s' R bQ cn c (y c)
theorem Vl (s:bz) (a l:Nat) {j k:Nat} (h:j≤k):fP s a l j≤fP s a l k:=by
 induction k with
 |zero=>
    have:j=0:=by omega
    rw[this];exact Nat.le_refl _
 |succ k aY=>
  by_cases e:j=k+1
  ·rw[e];exact Nat.le_refl _
  ·have:=aY (by omega)
   show fP s a l j≤fP s a l k+_
   omega
theorem Bp {bs:List UInt8} {p:lM} (aa:p.a≤p.b) (af:p.at_+(p.b - p.a)≤bs.length):(k4 bs p).length=p.b - p.a:=by
 unfold k4
 rw[List.length_drop,List.length_take]
 omega
structure DO (s:bz) (a l:Nat) (bs:List UInt8) (y:Nat→List UInt8) (k:Nat):Prop where
 ez:jg s (gD s a l bs y k)
 jF:zeros (gD s a l bs y k).l+fP s a l k=zeros s.l
 gz: ∀c,(c < 16*a/wid s∨16*a/wid s+k≤c)→qb s (gD s a l bs y k) c
 done: ∀j,j < k→gw (gD s a l bs y k) (16*a/wid s+j)=false∧ ∀z,dR (gD s a l bs y k) (16*a/wid s+j) z=laid (dR s (16*a/wid s+j) (some (y (16*a/wid s+j)))) (aR (wid s) a l j).a ((aR (wid s) a l j).b - (aR (wid s) a l j).a) (k4 bs (aR (wid s) a l j))
theorem MU {s:bz} (aT:fI s) {a l:Nat} {bs:List UInt8} (eC:bs.length=16*l) (c9:a+l≤eO s) {y:Nat→List UInt8} (dD:fP s a l (b5 (wid s) a l)≤zeros s.l) {k:Nat} (h:DO s a l bs y k) (au:k < b5 (wid s) a l):zg (gD s a l bs y k) (gD s a l bs y (k+1)) (aR (wid s) a l k) (k4 bs (aR (wid s) a l k)) (y (aR (wid s) a l k).c)∧(gw (gD s a l bs y k) (aR (wid s) a l k).c=true→0 < zeros (gD s a l bs y k).l):=by
 have dW:=oB aT.bits
 obtain⟨dO,cZ,dA,dB⟩:=p9 dW au
 obtain⟨hc,_⟩:=qQ aT c9 au
 have mq:=h.gz (16*a/wid s+k) (.inr (Nat.le_refl _))
 have aS:gw (gD s a l bs y k) (aR (wid s) a l k).c=true→0 < zeros (gD s a l bs y k).l:=fun hn=>by
  have bk:gw (gD s a l bs y k) (aR (wid s) a l k).c=gw s (aR (wid s) a l k).c:=Bn mq.1
  rw[bk] at hn
  have aa:=Vl s a l (show k+1≤b5 (wid s) a l from au)
  have af:fP s a l (k+1)=fP s a l k+1:=by
   show fP s a l k+_=_
   rw[if_pos hn]
  have:=h.jF
  omega
 exact⟨HG h.ez.ok (by rw[h.ez.tl];exact hc) dO (by rw[h.ez.wid];exact cZ) (Bp dO (by omega)) aS,aS⟩
theorem Bq {s:bz} (aT:fI s) {a l:Nat} {bs:List UInt8} (eC:bs.length=16*l) (c9:a+l≤eO s) (y:Nat→List UInt8) (dD:fP s a l (b5 (wid s) a l)≤zeros s.l): ∀k,k≤b5 (wid s) a l→DO s a l bs y k∧(k < b5 (wid s) a l→zg (gD s a l bs y k) (gD s a l bs y (k+1)) (aR (wid s) a l k) (k4 bs (aR (wid s) a l k)) (y (aR (wid s) a l k).c)∧(gw (gD s a l bs y k) (aR (wid s) a l k).c=true→0 < zeros (gD s a l bs y k).l))
 |0,au=>by
  have aC:DO s a l bs y 0:=⟨jg.refl aT,rfl,fun c _=>qb.refl s c,fun j ak=>absurd ak (by omega)⟩
  exact⟨aC,fun au=>MU aT eC c9 dD aC au⟩
 |k+1,au=>by
  obtain⟨h,hs⟩:=Bq aT eC c9 y dD k (by omega)
  have e8:k < b5 (wid s) a l:=by omega
  obtain⟨hp,_⟩:=hs e8
  have uw:(aR (wid s) a l k).c=16*a/wid s+k:=rfl
  have mq:=h.gz (16*a/wid s+k) (.inr (Nat.le_refl _))
  have aa:DO s a l bs y (k+1):=by
   refine⟨h.ez.trans hp.ez,?_,fun c hc=>?_,fun j ak=>?_⟩
   ·have ai:=hp.jF
    have aq:=h.jF
    have bk:gw (gD s a l bs y k) (aR (wid s) a l k).c=gw s (aR (wid s) a l k).c:=Bn mq.1
    rw[bk] at ai
    show zeros _+(fP s a l k+_)=_
    omega
   ·exact(h.gz c (hc.imp id fun h=>by omega)).trans (hp.gz c (by rw[uw];omega))
   ·by_cases e:j=k
    ·subst e
     refine⟨hp.jx,fun z=>?_⟩
     have:=hp.there z
     rw[uw] at this
     rw[this,mq.2]
    ·obtain⟨g1,g2⟩:=h.done j (by omega)
     have hf:=hp.gz (16*a/wid s+j) (by rw[uw];omega)
     exact⟨(Bn hf.1).trans g1,fun z=>(hf.2 z).trans (g2 z)⟩
  exact⟨aa,fun au=>MU aT eC c9 dD aa au⟩
def HI (s:bz) (a l:Nat):Int:=if fP s a l (b5 (wid s) a l)≤zeros s.l then 0 else 120
def Br (s:bz) (a l:Nat) (bs:List UInt8) (y:Nat→List UInt8):bz:=if fP s a l (b5 (wid s) a l)≤zeros s.l then gD s a l bs y (b5 (wid s) a l) else s
theorem Vm (s:bz) (R:bn→bK) (bQ cn:Nat) (aT:fI s) (a l:Nat) (bs:List UInt8) (eC:bs.length=16*l) (aC:dJ s a l=0) (y:Nat→List UInt8) (eA:HH s R bQ cn y):
  Fn Tryz.prog 91 [aI 1001,aD (a:Int),cJ .u8 bs,m4 bQ cn] (fy s R) [] (aD (HI s a l)) (fy (Br s a l bs y) R):=by
 have c9:=rR aC
 refine U7 s R bQ cn aT a l bs eC aC y _ _ (fun h=>⟨if_neg (by omega),if_neg (by omega)⟩) (fun h=>⟨if_pos h,if_pos h⟩) (fun dD k au=>?_) (fun dD k au=>(Bq aT eC c9 y dD k au).1.ez.bits)
 obtain⟨h,hs⟩:=Bq aT eC c9 y dD k (Nat.le_of_lt au)
 obtain⟨_,aS⟩:=hs au
 obtain⟨dO,cZ,dA,dB⟩:=p9 (oB aT.bits) au
 obtain⟨hc,_⟩:=qQ aT c9 au
 have dz:(aR (wid s) a l k).c < (gD s a l bs y k).t.length:=by rw[h.ez.tl];exact hc
 exact MN (gD s a l bs y k) R bQ cn h.ez.ok (aR (wid s) a l k) dz (k4 bs (aR (wid s) a l k)) dO (by rw[h.ez.wid];exact cZ) (Bp dO (by omega)) (y (aR (wid s) a l k).c) (fun e=>eA _ h.ez _ dz e) aS
theorem MV {s:bz} (aT:fI s) {a l:Nat} {bs:List UInt8} (eC:bs.length=16*l) (aC:dJ s a l=0) (y:Nat→List UInt8):jg s (Br s a l bs y):=by
 unfold Br
 split
 ·rename_i h;exact(Bq aT eC (rR aC) y h _ (Nat.le_refl _)).1.ez
 ·exact jg.refl aT
structure HJ (s:bz) (a l:Nat) (k:Nat):Prop where
 ez:jg s (iI s a l k)
 gz: ∀c,(c < 16*a/wid s∨16*a/wid s+k≤c)→qb s (iI s a l k) c
 done: ∀j,j < k→if(aR (wid s) a l j).b - (aR (wid s) a l j).a=wid s then(iI s a l k).t[16*a/wid s+j]? =some s0 else qb s (iI s a l k) (16*a/wid s+j)
theorem zh {s:bz} (aT:fI s) {a l:Nat} (c9:a+l≤eO s): ∀k,k≤b5 (wid s) a l→HJ s a l k
 |0,_=>⟨jg.refl aT,fun c _=>qb.refl s c,fun j ak=>absurd ak (by omega)⟩
 |k+1,au=>by
  have h:=zh aT c9 k (by omega)
  have e8:k < b5 (wid s) a l:=by omega
  obtain⟨hc,_⟩:=qQ aT c9 e8
  have uw:(aR (wid s) a l k).c=16*a/wid s+k:=rfl
  have mq:=h.gz (16*a/wid s+k) (.inr (Nat.le_refl _))
  by_cases e:(aR (wid s) a l k).b - (aR (wid s) a l k).a=wid s
  ·have ai:iI s a l (k+1)=qO (iI s a l k) (aR (wid s) a l k).c s0:=if_pos e
   have hp:=DN h.ez.ok (c:=(aR (wid s) a l k).c) (by rw[h.ez.tl];exact hc) (q:=s0) (.inl rfl)
   rw[←ai] at hp
   refine⟨h.ez.trans hp.ez,fun c hc=>(h.gz c (hc.imp id fun h=>by omega)).trans (hp.gz c (by rw[uw];omega)),fun j ak=>?_⟩
   by_cases rN:j=k
   ·subst rN
    rw[if_pos e]
    exact hp.there
   ·have g:=h.done j (by omega)
    have hf:=hp.gz (16*a/wid s+j) (by rw[uw];omega)
    split
    ·rename_i aq
     rw[if_pos aq] at g
     exact hf.1.trans g
    ·rename_i aq
     rw[if_neg aq] at g
     exact g.trans hf
  ·have ai:iI s a l (k+1)=iI s a l k:=if_neg e
   rw[show HJ s a l (k+1)↔HJ s a l (k+1) from Iff.rfl]
   refine⟨by rw[ai];exact h.ez,fun c hc=>by rw[ai];exact h.gz c (hc.imp id fun h=>by omega),fun j ak=>?_⟩
   rw[ai]
   by_cases rN:j=k
   ·subst rN
    rw[if_neg e]
    exact mq
   ·exact h.done j (by omega)
def HK (s:bz) (a l:Nat):bz:=iI s a l (b5 (wid s) a l)
theorem MW {s:bz} (aT:fI s) {c:Nat} (hc:c < s.t.length):(s.t.getD c s0).1=1→ ∃h:Nat,(s.t.getD c s0).2.1=(h:Int)∧s.l[h]? =some 1:=fun aa=>by
 rcases y9 aT hc with⟨_,h⟩ |⟨_,h,g1,g2,_⟩
 ·rcases h with h |h <;>rw[h] at aa <;>cases aa
 ·exact⟨h,by rw[y8 g1],g2⟩
theorem Vn (s:bz) (aT:fI s) (a l:Nat) (aC:dJ s a l=0):Fn Tryz.prog 102 [aI 1001,aD (a:Int),aD (l:Int)] (dh s) [] (aD 0) (dh (HK s a l)):=by
 have c9:=rR aC
 refine Va s aT a l aC (fun k au=>?_) (fun k au=>(zh aT c9 k au).ez.bits)
 have h:=zh aT c9 k (Nat.le_of_lt au)
 obtain⟨hc,_⟩:=qQ aT c9 au
 have dz:(aR (wid s) a l k).c < (iI s a l k).t.length:=by rw[h.ez.tl];exact hc
 exact Hq (iI s a l k) h.ez.ok.tl _ dz s0 ⟨by decide,by decide⟩ rfl (MW h.ez.ok dz)
structure MX (s:bz) (a l:Nat) (y:Nat→List UInt8) (k:Nat):Prop where
 ez:jg s (ej s a l y k)
 jF:zeros s.l≤zeros (ej s a l y k).l+fA s a l k
 gz: ∀c,(c < 16*a/wid s∨16*a/wid s+k≤c)→qb s (ej s a l y k) c
theorem Vo (s:bz) (a l:Nat) {j k:Nat} (h:j≤k):fA s a l j≤fA s a l k:=by
 induction k with
 |zero=>
    have:j=0:=by omega
    rw[this];exact Nat.le_refl _
 |succ k aY=>
  by_cases e:j=k+1
  ·rw[e];exact Nat.le_refl _
  ·have:=aY (by omega)
   show fA s a l j≤fA s a l k+_
   omega
theorem DP {s s':bz} (h:jg s s') (p:lM):jZ s' p=jZ s p:=by unfold jZ;rw[h.wid]
theorem HL {s:bz} {a l:Nat} {y:Nat→List UInt8} (dD:fA s a l (b5 (wid s) a l)≤zeros s.l) {k:Nat} (h:MX s a l y k) (au:k < b5 (wid s) a l) (hw:jZ s (aR (wid s) a l k)=false) (af:((ej s a l y k).t.getD (aR (wid s) a l k).c s0).1≠2):
  gw (ej s a l y k) (aR (wid s) a l k).c=true→0 < zeros (ej s a l y k).l:=fun hn=>by
 have mq:=h.gz (16*a/wid s+k) (.inr (Nat.le_refl _))
 have bk:gw (ej s a l y k) (aR (wid s) a l k).c=gw s (aR (wid s) a l k).c:=Bn mq.1
 have cX:(ej s a l y k).t.getD (aR (wid s) a l k).c s0=s.t.getD (aR (wid s) a l k).c s0:=by
  rw[List.getD_eq_getElem?_getD,List.getD_eq_getElem?_getD]
  exact congrArg (fun o=>o.getD s0) mq.1
 rw[bk] at hn
 rw[cX] at af
 have aS:lN s (aR (wid s) a l k)=true:=by
  unfold lN
  rw[hw,decide_eq_true af,hn]
  rfl
 have aa:=Vo s a l (show k+1≤b5 (wid s) a l from au)
 have aA:fA s a l (k+1)=fA s a l k+1:=by
  show fA s a l k+_=_
  rw[if_pos aS]
 have:=h.jF
 omega
theorem zi {s:bz} (aT:fI s) {a l:Nat} (c9:a+l≤eO s) (y:Nat→List UInt8) (dD:fA s a l (b5 (wid s) a l)≤zeros s.l): ∀k,k≤b5 (wid s) a l→MX s a l y k
 |0,_=>⟨jg.refl aT,Nat.le_add_right _ _,fun c _=>qb.refl s c⟩
 |k+1,au=>by
  have h:=zi aT c9 y dD k (by omega)
  have e8:k < b5 (wid s) a l:=by omega
  obtain⟨hc,_⟩:=qQ aT c9 e8
  obtain⟨dO,cZ,dA,dB⟩:=p9 (oB aT.bits) e8
  have uw:(aR (wid s) a l k).c=16*a/wid s+k:=rfl
  have dz:(aR (wid s) a l k).c < (ej s a l y k).t.length:=by rw[h.ez.tl];exact hc
  have mq:=h.gz (16*a/wid s+k) (.inr (Nat.le_refl _))
  have ya:fA s a l (k+1)=fA s a l k+(if lN s (aR (wid s) a l k)=true then 1 else 0):=rfl
  have ai:ej s a l y (k+1)=vC (ej s a l y k) (aR (wid s) a l k) (y (aR (wid s) a l k).c):=rfl
  unfold vC at ai
  rw[DP h.ez] at ai
  by_cases hw:jZ s (aR (wid s) a l k)=true
  ·rw[if_pos hw] at ai
   have hp:=DN h.ez.ok (c:=(aR (wid s) a l k).c) dz (q:=vB) (.inr rfl)
   rw[←ai] at hp
   refine⟨h.ez.trans hp.ez,?_,fun c hc=>(h.gz c (hc.imp id fun h=>by omega)).trans (hp.gz c (by rw[uw];omega))⟩
   have:=hp.jF
   have:=h.jF
   omega
  ·have hw:jZ s (aR (wid s) a l k)=false:=by simpa using hw
   rw[hw,if_neg (by decide)] at ai
   by_cases af:((ej s a l y k).t.getD (aR (wid s) a l k).c s0).1=2
   ·rw[if_pos af] at ai
    refine⟨by rw[ai];exact h.ez,?_,fun c hc=>by rw[ai];exact h.gz c (hc.imp id fun h=>by omega)⟩
    rw[ai]
    have:=h.jF
    omega
   ·rw[if_neg af] at ai
    have hp:=HG (y:=y (aR (wid s) a l k).c) (bs:=xA ((aR (wid s) a l k).b - (aR (wid s) a l k).a)) h.ez.ok dz dO (by rw[h.ez.wid];exact cZ) List.length_replicate (HL dD h e8 hw af)
    rw[←ai] at hp
    refine⟨h.ez.trans hp.ez,?_,fun c hc=>(h.gz c (hc.imp id fun h=>by omega)).trans (hp.gz c (by rw[uw];omega))⟩
    have eR:=hp.jF
    have bk:gw (ej s a l y k) (aR (wid s) a l k).c=gw s (aR (wid s) a l k).c:=Bn mq.1
    have cX:(ej s a l y k).t.getD (aR (wid s) a l k).c s0=s.t.getD (aR (wid s) a l k).c s0:=by
     rw[List.getD_eq_getElem?_getD,List.getD_eq_getElem?_getD]
     exact congrArg (fun o=>o.getD s0) mq.1
    rw[cX] at af
    have aS:lN s (aR (wid s) a l k)=gw s (aR (wid s) a l k).c:=by
     unfold lN
     rw[hw,decide_eq_true af]
     rfl
    rw[bk,←aS] at eR
    have:=h.jF
    omega
def HM (s:bz) (a l:Nat):Int:=if fA s a l (b5 (wid s) a l)≤zeros s.l then 0 else 120
def Bt (s:bz) (a l:Nat) (y:Nat→List UInt8):bz:=if fA s a l (b5 (wid s) a l)≤zeros s.l then ej s a l y (b5 (wid s) a l) else s
theorem Vp (s:bz) (R:bn→bK) (bQ cn:Nat) (aT:fI s) (a l:Nat) (aC:dJ s a l=0) (y:Nat→List UInt8) (eA:HH s R bQ cn y):
  Fn Tryz.prog 100 [aI 1001,aD (a:Int),aD (l:Int),m4 bQ cn] (fy s R) [] (aD (HM s a l)) (fy (Bt s a l y) R):=by
 have c9:=rR aC
 refine Ve s R bQ cn aT a l aC y _ _ (fun h=>⟨if_neg (by omega),if_neg (by omega)⟩) (fun h=>⟨if_pos h,if_pos h⟩) (fun dD k au=>?_) (fun dD k au hw=>?_) (fun dD k au hw af=>?_)
 ·have h:=(zi aT c9 y dD k au).ez
  exact⟨h.ok,h.bits,h.tl⟩
 ·have h:=zi aT c9 y dD k (Nat.le_of_lt au)
  obtain⟨hc,_⟩:=qQ aT c9 au
  have dz:(aR (wid s) a l k).c < (ej s a l y k).t.length:=by rw[h.ez.tl];exact hc
  have ai:ej s a l y (k+1)=qO (ej s a l y k) (aR (wid s) a l k).c vB:=if_pos ((DP h.ez _).trans hw)
  rw[ai]
  exact Hq (ej s a l y k) h.ez.ok.tl _ dz vB ⟨by decide,by decide⟩ rfl (MW h.ez.ok dz)
 ·have h:=zi aT c9 y dD k (Nat.le_of_lt au)
  obtain⟨hc,_⟩:=qQ aT c9 au
  obtain⟨dO,cZ,dA,dB⟩:=p9 (oB aT.bits) au
  have dz:(aR (wid s) a l k).c < (ej s a l y k).t.length:=by rw[h.ez.tl];exact hc
  have ai:ej s a l y (k+1)=xw (ej s a l y k) (aR (wid s) a l k) (xA ((aR (wid s) a l k).b - (aR (wid s) a l k).a)) (y (aR (wid s) a l k).c):=by
   show vC _ _ _=_
   unfold vC
   rw[DP h.ez,hw,if_neg (by decide),if_neg af]
  rw[ai]
  exact MN (ej s a l y k) R bQ cn h.ez.ok (aR (wid s) a l k) dz _ dO (by rw[h.ez.wid];exact cZ) List.length_replicate _ (fun e=>eA _ h.ez _ dz e) (HL dD h au hw af)
theorem MY {s:bz} (aT:fI s) {a l:Nat} (aC:dJ s a l=0) (y:Nat→List UInt8):jg s (Bt s a l y):=by
 unfold Bt
 split
 ·rename_i h;exact(zi aT (rR aC) y h _ (Nat.le_refl _)).ez
 ·exact jg.refl aT
theorem Vq (s:bz) (R:bn→bK) (bQ cn:Nat) (aT:fI s) (a l:Int) (aC:dJ s a l≠0):Fn Tryz.prog 100 [aI 1001,aD a,aD l,m4 bQ cn] (fy s R) [] (aD (dJ s a l)) (fy s R):=by
 refine Fn.of aj [] _ _ _ _ _ Tryz.func100 rfl rfl (by kernel_rfl) (by kernel_rfl) rfl (aK aj) rfl ?_
 refine⟨rfl,rfl,?_⟩
 refine⟨_,_,_,_,vz s aT a l,⟨rfl,rfl,rfl,rfl,trivial⟩,rfl,?_⟩
 refine⟨fun _=>?_,fun h=>absurd (show dJ s a l=0 by have h:(!decide (dJ s a l=0))=false:=h;simpa using h) aC⟩
 exact⟨_,_,_,ah.refl _ _,rfl,rfl,⟨rfl,rfl,rfl,rfl,rfl,trivial⟩,rfl⟩
def ia (bits size room:Nat):bz:=⟨bits,List.replicate size s0,List.replicate room (0:Int),Hl⟩
theorem MZ {bits size room:Nat} (aa:bits≤3) (af:size≤256) (aA:room≤512):fI (ia bits size room):=by
 have cl: ∀(c:Nat) (q:eD),(ia bits size room).t[c]? =some q→q=s0:=fun c q h=>by
  have h:(List.replicate size s0)[c]? =some q:=h
  rw[List.getElem?_replicate] at h
  split at h
  ·injection h with h;exact h.symm
  ·cases h
 have aB: ∀(h:Nat) n,(ia bits size room).l[h]? =some n→n=0:=fun h n e=>by
  have e:(List.replicate room (0:Int))[h]? =some n:=e
  rw[List.getElem?_replicate] at e
  split at e
  ·injection e with e;exact e.symm
  ·cases e
 refine⟨aa,by show(List.replicate size s0).length≤256;rw[List.length_replicate];exact af,by show(List.replicate room (0:Int)).length≤512;rw[List.length_replicate];exact aA,fun c q bh=>.inl (cl c q bh),fun c d h hc hd=>?_,fun h n hn=>.inl (aB h n hn),fun h _=>rfl,fun h bM=>?_,fun k xs au=>(by cases au)⟩
 ·have:=cl c _ hc;cases this
 ·have:=aB h _ bM;cases this
def iR (bits size room:Int):Bool:=decide (0≤size)&&decide (size≤256)&&(decide (0≤room)&&decide (room≤512))&&(decide (0≤bits)&&decide (bits≤3))
theorem Vr (bits size room:Nat) (aa:bits≤3) (af:size≤256) (aA:room≤512):Fn Tryz.prog 47 [aD (bits:Int),aD (size:Int),aD (room:Int)] [] [1001,1002,1003,1004] (.c8 [.one (.ptr 1001 0),fO 0]) (dh (ia bits size room)):=by
 refine Fn.of aj [3] _ _ _ _ _ Tryz.func47 rfl rfl (by kernel_rfl) (by kernel_rfl) rfl (aK aj) rfl ?_
 refine⟨_,_,_,_,Fn.ren [(1001,1002),(1002,2002)] (Hi size af),trivial,rfl,?_⟩
 refine⟨_,_,_,_,Fn.ren [(1001,1003),(1002,2003)] (Du (room:Int) (by omega) (by omega)),trivial,rfl,?_⟩
 show aE _ _ _ _ _ _ _
 refine aE.go aj (aK aj) [] (by kernel_rfl) (ah.sub (K':=[(0,aD (bits:Int)),(8,aI 1002),(9,aD 0),(10,aI 1003),(11,aD 0)]) (B':=[(1002,.obj (qK (List.replicate size s0))),(1003,.obj (qL (List.replicate room (0:Int))))]) ⟨rfl,rfl,rfl,rfl,rfl,trivial⟩ ⟨rfl,rfl,trivial⟩) ?_
 refine⟨fun h=>absurd h (by decide),fun _=>?_⟩
 refine⟨fun h=>absurd h (by decide),fun _=>?_⟩
 refine⟨fun h=>?_,fun h=>?_⟩
 ·exfalso
  have h:(bits:Int) < 0:=of_decide_eq_true h
  omega
 refine⟨fun h=>?_,fun h=>?_⟩
 ·exfalso
  have h:(3:Int) < (bits:Int):=of_decide_eq_true h
  omega
 refine⟨rfl,?_⟩
 refine⟨rfl,?_⟩
 exact⟨_,_,_,(ah.ren 41 1001 rfl).trans ((ah.ren 39 1004 rfl).trans (ah.MC 1004 rfl)),rfl,⟨rfl,rfl,trivial⟩,⟨rfl,rfl,rfl,rfl,trivial⟩,rfl⟩
theorem Vs {bits size room:Int} (h:iR bits size room=false): ¬(0≤size∧size≤256)∨ ¬(0≤room∧room≤512)∨ ¬(0≤bits∧bits≤3):=by
 unfold iR at h
 by_cases aa:0≤size∧size≤256
 ·by_cases af:0≤room∧room≤512
  ·by_cases aA:0≤bits∧bits≤3
   ·rw[decide_eq_true aa.1,decide_eq_true aa.2,decide_eq_true af.1,decide_eq_true af.2,decide_eq_true aA.1,decide_eq_true aA.2] at h
    cases h
   ·exact .inr (.inr aA)
  ·exact .inr (.inl af)
 ·exact .inl aa
theorem Vt (bits size room:Int) (h:iR bits size room=false):Fn Tryz.prog 47 [aD bits,aD size,aD room] [] [] (.c8 [yX,fO 1]) []:=by
 have ag:=Vs h
 refine Fn.of aj [] _ _ _ _ _ Tryz.func47 rfl rfl (by kernel_rfl) (by kernel_rfl) rfl (aK aj) rfl ?_
 by_cases aa:0≤size∧size≤256
 ·obtain⟨sn,rfl⟩: ∃n:Nat,size=(n:Int):=⟨size.toNat,by omega⟩
  refine⟨_,_,_,_,Fn.ren [(1001,1002),(1002,2002)] (Hi sn (by omega)),trivial,rfl,?_⟩
  by_cases af:0≤room∧room≤512
  ·refine⟨_,_,_,_,Fn.ren [(1001,1003),(1002,2003)] (Du room (by omega) (by omega)),trivial,rfl,?_⟩
   refine⟨fun h=>absurd h (by decide),fun _=>?_⟩
   refine⟨fun h=>absurd h (by decide),fun _=>?_⟩
   refine⟨fun _=>?_,fun aA=>?_⟩
   ·exact⟨_,_,_,ah.refl _ _,rfl,⟨rfl,rfl,trivial⟩,trivial,rfl⟩
   ·refine⟨fun _=>?_,fun bE=>?_⟩
    ·exact⟨_,_,_,ah.refl _ _,rfl,⟨rfl,rfl,trivial⟩,trivial,rfl⟩
    ·exfalso
     have aA: ¬bits < 0:=of_decide_eq_false aA
     have bE: ¬(3:Int) < bits:=of_decide_eq_false bE
     omega
  ·refine⟨_,_,_,_,My room af,trivial,rfl,?_⟩
   refine⟨fun h=>absurd h (by decide),fun _=>?_⟩
   refine⟨fun _=>?_,fun h=>absurd h (by decide)⟩
   exact⟨_,_,_,ah.refl _ _,rfl,⟨rfl,rfl,trivial⟩,trivial,rfl⟩
 ·refine⟨_,_,_,_,Ur size aa,trivial,rfl,?_⟩
  by_cases af:0≤room∧room≤512
  ·refine⟨_,_,_,_,Fn.ren [(1001,1003),(1002,2003)] (Du room (by omega) (by omega)),trivial,rfl,?_⟩
   refine⟨fun _=>?_,fun h=>absurd h (by decide)⟩
   exact⟨_,_,_,ah.refl _ _,rfl,⟨rfl,rfl,trivial⟩,trivial,rfl⟩
  ·refine⟨_,_,_,_,My room af,trivial,rfl,?_⟩
   refine⟨fun _=>?_,fun h=>absurd h (by decide)⟩
   exact⟨_,_,_,ah.refl _ _,rfl,⟨rfl,rfl,trivial⟩,trivial,rfl⟩
end Go.Proofs.YteoamepgonpdlaaGreat
namespace Go.Proofs.YteoamepgonpdlaaGreat
set_option linter.unusedVariables false
set_option linter.unusedSimpArgs false
open Go.RowKit
theorem Fn.via {P:Program} {f:FuncId} {args:List aN} {aP:aG} {bu:List Nat} {res:aN} {aZ:aG} {X:Type} {args':X→List aN} {xC:X→aG} {qA:X→aG} {jC:X→List Nat} {res':X→aN} {xD:X→aG} (iH:l6 P f=true) (n:Nat) (hn:args.length=n)
  (dU:j9 (cS aP) (rB 0 args) aP (fun x=>rB 0 (args' x)) xC) (h: ∀x,Fn P f (args' x) (qA x) (jC x) (res' x) (xD x)) (iN: ∀x,nA (xC x) (qA x)) (cv: ∀x,(q5 (cS aP) (rB 0 (args' x)) (xC x) (jC x)&&oI (qA x) (jC x) (xD x))=true) (hlen: ∀x,(args' x).length=n)
  (nK: ∀x,∃(r:aN) (jl:aG),ah (cS aP) ((n,res' x)::rB 0 (args' x)) (e5 (jy (qA x) (xD x)) (xC x)) [(n,r)] jl∧sq r res∧nA jl aZ∧(res.among (cS aP++bu)&&wR (cS aP++bu) aZ&&(cS aZ).all (fun c=>(cS aP++bu).contains c))=true):Fn P f args aP bu res aZ:=by
 refine⟨iH,fun ρ F I w b6 bC eo hF fZ qB ep=>?_⟩
 let C:Ctx:=⟨w,I,fun b=> ∃c ch,ax aP c=some ch∧F c b,ρ,[]⟩
 let a:Act:={tmps:=(b6++[undef]).toArray,defers:=[]}
 have rC:Ext I w (bS C aP F w) w:=fun b ag=>⟨⟨bC b ag,.inl ag,fun c ch hc pU=>(hF c ch hc b pU).2 ag⟩,rfl⟩
 have Vu:Mem (cS aP) C aP ρ F w:=⟨Fr.refl _ _,fun c ch hc=>Holds.cA rC (fun _ _=>rfl) (Nat.le_refl _) ch (fun _ _=>rfl) (eo c ch hc),fun c ch hc b ag=>⟨(hF c ch hc b ag).1,.inl ⟨c,ch,hc,ag⟩⟩,fZ,fun c _=>rfl,List.nodup_nil,fun b ag=>ag.elim (bC b) fun⟨c,ch,hc,AF⟩=>(hF c ch hc b AF).1,fun D bW=>by cases bW⟩
 have iG: ∀(i:Nat) (ay:i < b6.length),a.tmps.getD i undef=b6[i]:=fun i ay=>by
  show(b6++[undef]).toArray.getD i undef=_
  rw[Array.getD_eq_getD_getElem?,List.getElem?_toArray,List.getElem?_append_left ay,List.getElem?_eq_getElem ay]
  rfl
 have Vv:Sat (n+1) (cS aP) C (rB 0 args) aP a w:=by
  refine⟨by show(b6++[undef]).toArray.size=n+1;simp[qB,hn],rfl,ρ,F,Vu,fun s=>?_⟩
  rw[AD]
  simp only[Nat.zero_le,if_true,Nat.sub_zero]
  cases hs:args[s]? with
  |none=>trivial
  |some v=>
   have bH:s < b6.length:=by rw[qB];exact(List.getElem?_eq_some_iff.1 hs).1
   simp only[Option.getD_some]
   have hx:b6[s]? =some b6[s]:=List.getElem?_eq_getElem bH
   have:=cj.mono rC v _ (fun _ _=>rfl) (ep s v _ hs hx)
   rw[iG s bH]
   exact this
 obtain⟨x,uX,oN,rK,cG,az,hS⟩:=dU (n+1) C a w Vv
 have p4: ∀{c ch},ax (qA x) c=some ch→ax (xC x) c=some ch:=fun {c ch} hc=>kq (iN x) hc
 have cv:=cv x
 rw[Bool.and_eq_true] at cv
 have hc:=(h x).2 rK cG (bS C (xC x) cG w) w b6 (fun b ag=>ag.1) (fun c ch hc=>az.holds c ch (p4 hc)) (fun c ch hc b ag=>⟨(az.own c ch (p4 hc) b ag).1,fun bC=>bC.2.2 c ch (p4 hc) ag⟩)
  (fun c bY ch bg b aa af=>az.e4 c bY ch bg b (p4 aa) (p4 af)) (by rw[qB,hn,hlen x]) (fun i v y hv aF=>by
   have ay:i < b6.length:=(List.getElem?_eq_some_iff.1 aF).1
   have aa:=hS i
   rw[AD] at aa
   simp only[Nat.zero_le,if_true,Nat.sub_zero,hv,Option.getD_some] at aa
   rw[iG i ay] at aa
   rw[List.getElem?_eq_getElem ay] at aF
   injection aF with aF
   rw[←aF]
   exact aa)
 refine hc.mono ?_
 rintro e w' ⟨y,tU,cY,rfl,cK,c5,I',fU,iw,Vw,Vx,Vy,Vz⟩
 have wY:=Sat.back (dst:=some n) (iN x) cv.1 cv.2 uX oN az hS (fun d hd=>by injection hd with hd;omega) cK c5 iw Vw Vx Vy Vz
 obtain⟨r,jl,hle,HN,DQ,oQ⟩:=nK x
 obtain⟨DL,vE,ρ',F',bT,AG⟩:=hle _ _ _ _ wY
 simp only[Bool.and_eq_true] at oQ
 let y3:Nat→bn:=fun c=>if c∈bu then ρ' c else ρ c
 have HO: ∀c,c∈cS aP++bu→y3 c=ρ' c:=fun c hc=>by
  show(if c∈bu then ρ' c else ρ c)=ρ' c
  split
  ·rfl
  ·rename_i hn
   rcases List.mem_append.1 hc with h |h
   ·exact(bT.keep c h).symm
   ·exact absurd h hn
 have rz:cj ρ' (bS C jl F' w') w' res y:=by
  have aa:=AG n
  rw[kF,if_pos rfl] at aa
  have af:(a.put (some n) y).tmps.getD n undef=y:=JW (by show n < (b6++[undef]).toArray.size;simp[qB,hn])
  rw[af] at aa
  exact wS HN aa
 refine⟨y,y3,F',rfl,bT.ja,fun c hc=>if_neg hc,bS C jl F' w',?_,fun b ag=>⟨ag.1,?_⟩,?_,?_,?_,?_⟩
 ·intro b ag
  have u6: ¬C.pL b:=fun⟨c,ch,aa,af⟩=>(hF c ch aa b af).2 ag
  refine⟨⟨Nat.lt_of_lt_of_le (bC b ag) bT.ja.size,.inl ag,fun c ch hc pU=>?_⟩,bT.ja.block b (bC b ag) u6⟩
  rcases(bT.own c ch hc b pU).2 with h |h
  ·exact u6 h
  ·have:=bC b ag;exact absurd h.1 (Nat.not_le.2 this)
 ·rcases ag.2.1 with h |h |h
  ·exact .inl h
  ·exact .inr (.inl h)
  ·exact .inr (.inr h.1)
 ·intro c ch hc
  have au:c∈cS aP++bu:=by
   have:=List.all_eq_true.1 oQ.2 c (gi.2 ⟨ch,hc⟩)
   simpa only[List.contains_iff_mem] using this
  rw[HO c au]
  exact Holds.cA (Ext.refl _ _) (fun _ _=>rfl) (Nat.le_refl _) ch (fun d hd=>HO d (bF.ku (yK oQ.1.2 hc) hd)) (bT.holds c ch (kq DQ hc))
 ·intro c ch hc b ag
  have dw:=kq DQ hc
  exact⟨(bT.own c ch dw b ag).1,fun ay=>ay.2.2 c ch dw ag,(bT.own c ch dw b ag).2.imp id fun x=>x.1⟩
 ·exact fun c bY ch bg b aa af=>bT.e4 c bY ch bg b (kq DQ aa) (kq DQ af)
 ·exact cj.mono (Ext.refl _ _) res y (fun c hc=>HO c (aN.ku oQ.1.1 hc)) rz
end Go.Proofs.YteoamepgonpdlaaGreat
namespace Go.Proofs.YteoamepgonpdlaaGreat
set_option linter.unusedVariables false
set_option linter.unusedSimpArgs false
set_option maxRecDepth 10000
open Go.RowKit Go.Proofs
def bK.ch (ch:bF) (h: ∀c,ch.has c=false):bK where
 R:=fun I F w p=>Holds (fun _=>p) I F w p ch
 cA:=fun I F w I' w' p bM he hF aS=>Holds.cA he hF aS ch (fun c hc=>absurd hc (by rw[h c];decide)) bM
theorem bK.VA {ch:bF} (h: ∀c,ch.has c=false) {ρ:Nat→bn} {I F:Nat→Prop} {w:World} {p:bn} (bM:Holds ρ I F w p ch):(bK.ch ch h).R I F w p:=
 Holds.cA (Ext.refl _ _) (fun _ _=>rfl) (Nat.le_refl _) ch (fun c hc=>absurd hc (by rw[h c];decide)) bM
section
variable {P:Program} {ids:List Nat} {K:aQ} {B:aG}
theorem nS {o:Oper} {x:Operand} {b:Nat} (av:o.op= .nilCheck x) (hx:aU K x= .c (.one (.d (.aW (some b))))) (N:Nat):bI P N ids o K B (.c (.one (.d (.aW (some b))))) ⟨[],[],[]⟩:=by
 have hm:x∈o.op.operands:=by rw[av];simp[Op.operands]
 refine bI.val fun K' B' g1 g2 C ρ F a w az hS=>?_
 have hv:a.eval x= .pointer (some ⟨b,0,none⟩):=hS.ev ((g1 x hm).trans hx)
 exact⟨.pointer (some ⟨b,0,none⟩),by simp[execOp,av,hv],rfl⟩
theorem nT {o:Oper} {T:TypeId} {x:Operand} {f b off:Nat} {fs:Array Field} {fd:Field} (av:o.op= .fieldAddr T x f) (cu:P.underlying T=some (.struct fs)) (oJ:fs[f]? =some fd) (xE:fd.offset=off) {i:TypeInfo} (ay:P.info? fd.type=some i) (ek:i.size≠0) (hx:aU K x= .c (.one (.d (.aW (some b))))) (N:Nat):
  bI P N ids o K B (.c (.one (.raw (.pointer (some ⟨b,off,none⟩))))) ⟨[],[],[]⟩:=by
 have hm:x∈o.op.operands:=by rw[av];simp[Op.operands]
 refine bI.val fun K' B' g1 g2 C ρ F a w az hS=>?_
 have hv:a.eval x= .pointer (some ⟨b,0,none⟩):=hS.ev ((g1 x hm).trans hx)
 have h:=CH hv av cu oJ xE ay ek (w:=w)
 rw[Nat.zero_add] at h
 exact⟨.pointer (some ⟨b,off,none⟩),h,rfl⟩
theorem VB {I:Nat→Prop} {w:World} {L:List (Nat×bK)} {F:Nat→Prop} {b:Nat} {l:List bx} {h: ∀c,(bF.cells l).has c=false} (aX:fN I w L F) (cL:jd L b=some (bK.ch (.cells l) h)) {j:Nat} {x:D} (ak:l[j]? =some (.d x)): ∃v,w.cell? ⟨b,j,none⟩=some v∧Den I w x v:=by
 obtain⟨cG,cY,p,cE,ey,fo,fY,yV⟩:=aX.out cL
 obtain⟨aa,vs,eG,af,aA⟩:=fY
 obtain⟨v,hv,hd⟩:=bZ.get _ _ aA j _ ak
 rw[fo] at af
 exact⟨v,cell_of af hv,hd⟩
theorem o4 {o:Oper} {T:TypeId} {x:Operand} {q b j:Nat} {y:D} {L:List (Nat×bK)} {l:List bx} {h: ∀c,(bF.cells l).has c=false} {d:TypeDesc} (av:o.op= .load T x) (cu:P.underlying T=some d) (hd:d.isRow=false) (hx:aU K x= .c (.one (.raw (.pointer (some ⟨b,j,none⟩)))))
  (bh:ax B q=some (.obj (.cO L))) (cL:jd L b=some (bK.ch (.cells l) h)) (ak:l[j]? =some (.d y)) (N:Nat):bI P N ids o K B (.c (.one (.d y))) ⟨[q],[],[]⟩:=by
 have hm:x∈o.op.operands:=by rw[av];simp[Op.operands]
 refine bI.val fun K' B' g1 g2 C ρ F a w az hS=>?_
 have aX:fN (bS C B' F w) w L (F q):=az.holds q _ ((g2 q (by simp)).trans bh)
 have hv:a.eval x= .pointer (some ⟨b,j,none⟩):=hS.ev ((g1 x hm).trans hx)
 obtain⟨v,aa,af⟩:=VB aX cL ak
 exact⟨v,FM av hv cu hd aa,af⟩
theorem M0 {o:Oper} {T:TypeId} {x v:Operand} {q b j:Nat} {y:D} {L:List (Nat×bK)} {l:List bx} {h: ∀c,(bF.cells l).has c=false} {h': ∀c,(bF.cells (l.set j (.d y))).has c=false} {i:TypeInfo} (av:o.op= .store T x v) (ay:P.info? T=some i) (aS:i.size=1) (hx:aU K x= .c (.one (.raw (.pointer (some ⟨b,j,none⟩)))))
  (hv:aU K v= .c (.one (.d y))) (bh:ax B q=some (.obj (.cO L))) (cL:jd L b=some (bK.ch (.cells l) h)) (ak:j < l.length) (aa: ∀{I:Nat→Prop} {w:World} {z:Value},Den I w y z→z.cells=List.toArray [z]∧z.oneCell'=true) (N:Nat):
  bI P N ids o K B .undef ⟨[q],[],[(q,some (.obj (.cO (iP L b (bK.ch (.cells (l.set j (.d y))) h')))))]⟩:=by
 have bw:x∈o.op.operands:=by rw[av];simp[Op.operands]
 have bX:v∈o.op.operands:=by rw[av];simp[Op.operands]
 refine bI.jV bh fun K' B' g1 C ρ F a w az hS Mh=>?_
 have aX:fN (bS C B' F w) w L (F q):=az.holds q _ Mh
 obtain⟨cG,cY,p,cE,ey,fo,fY,yV⟩:=aX.out cL
 obtain⟨bp,vs,eG,bq,b8⟩:=fY
 have ai:a.eval x= .pointer (some ⟨b,j,none⟩):=hS.ev ((g1 x bw).trans hx)
 have aq:Den (bS C B' F w) w y (a.eval v):=hS.ev ((g1 v bX).trans hv)
 obtain⟨d1,d2⟩:=aa aq
 have hlen:vs.length=l.length:=bZ.length _ _ b8
 rw[fo] at bq
 have ef:=yu (P:=P) (o:=o) (ev:=a.eval) (w:=w) (us:=[a.eval v]) av ai d1 ay aS bq (by simp;omega) (fun z aS=>by rw[List.mem_singleton] at aS;rw[aS];exact d2)
 have iM:(w.setRow b (List.toArray (vs.take j++[a.eval v]++vs.drop (j+ [a.eval v].length)))).heap[b]? =some (.cells (List.toArray (vs.take j++[a.eval v]++vs.drop (j+ [a.eval v].length))) eG (0,0)):=setRow_heap w _ _ _ eG _ bq
 have uj:cG b:=(bp b).2 fo.symm
 have pU:F q b:=(cE b).2 (.inl uj)
 refine⟨_,ef,⟨rfl,rfl,rfl,by simp[World.setRow],fun k _ au=>setRow_other w _ k _ (fun e=>au (e▸pU))⟩,fun I bA=>?_⟩
 have ep: ∀(l:List bx) (vs:List Value) (j:Nat),j < l.length→bZ (fun _=>p) (bS C B' F w) w l vs→bZ (fun _=>p) (bS C B' F w) w (l.set j (.d y)) (vs.take j++[a.eval v]++vs.drop (j+1)):=fun l=>by
  induction l with
  |nil=>intro vs j ak;simp at ak
  |cons s l aY=>
   rintro _ j ak ⟨u,r,rfl,cK,c5⟩
   match j with
   |0=>exact⟨a.eval v,r,by simp,aq,c5⟩
   |j+1=>exact⟨u,_,rfl,cK,aY r j (by simpa using ak) c5⟩
 have Md:(fun z=>cG z∨cY z)=F q:=funext fun z=>propext (cE z).symm
 rw[←Md]
 exact yV I _ (bK.ch (.cells (l.set j (.d y))) h') cG p bA (by simp[World.setRow]) (fun z aS=>setRow_other w _ z _ (fun e=>ey b uj (e▸aS))) fo
  ⟨bp,_,eG,by rw[fo];exact iM,bZ.mono bA _ _ (fun _ _=>rfl) (ep l vs j ak b8)⟩ ey
theorem VC {o:Oper} {T kt et:TypeId} {x i v:Operand} {c d q:Nat} (av:o.op= .mapUpdate T x i v) (cu:P.underlying T=some (.map kt et)) {dk:TypeDesc} (xq:P.underlying kt=some dk) {aO:U} (qM:nv aO dk=true)
  (hx:aU K x= .c (.one (.mp c))) {key:aJ aO} (au:yg aO (aU K i)=some key) (hv:aU K v= .c (.one (.ptr d 0))) {es:List (aJ aO×aJ .aW)} {L:List (Nat×bK)} {l:List bx} {h: ∀c,(bF.cells l).has c=false} (hc:ax B c=some (.map aO .aW es)) (hd:ax B d=some (.cells l)) (bh:ax B q=some (.obj (.cO L)))
  (rO:c≠d) (DR:c≠q) (M1:d≠q) (ha: ∀p∈L,p.2.ug):
  Dj P ids o K B (fun v' e=> ∃b:Nat,b∉L.map (·.1)∧v'= .undef∧e=⟨[c,d,q],[],[(d,none),(c,some (.map aO .aW (gI (aO:=aO) (aV:=.aW) es key (some b)))),(q,some (.obj (.cO ((b,bK.ch (.cells l) h)::L))))]⟩):=by
 rintro N C a w ⟨hn,oA,ρ,F,az,hS⟩ bH fl Q hK
 obtain⟨oO,dM,clock,bE,ec,j5⟩:=az.holds c _ hc
 have M3:=az.holds d _ hd
 have aX:fN (bS C B F w) w L (F q):=az.holds q _ bh
 have ai:=hS.mp hx
 have aq:a.eval i=iE aO key:=CP au (hS.ev rfl)
 have bk:a.eval v= .pointer (some ⟨(ρ d).bO,0,none⟩):=hS.ev hv
 have cX:kS (bS C B F w) w .aW (some (ρ d).bO:aJ .aW) (a.eval v):=by
  rw[bk]
  exact⟨rfl,⟨fun _=>rfl,fun h=>by cases h⟩,rfl⟩
 obtain⟨iF,nw,hr,gL,tO⟩:=E3 (P:=P) cu xq qM bE ec j5 key cX
 have Bg:=(Array.getElem?_eq_some_iff.1 bE).1
 have VD:F d (ρ d).bO:=(M3.1 _).2 rfl
 have HP:(ρ d).bO∉L.map (·.1):=fun ag=>az.e4 d q _ _ _ hd bh M1 VD (GI ha aX ag)
 have xu: ∀y,y≠(ρ c).bO→({w with heap:=w.heap.setIfInBounds (ρ c).bO (.map (List.toArray iF) nw)}:World).heap[y]? =w.heap[y]? :=fun y aF=>Array.getElem?_setIfInBounds_ne (Ne.symm aF)
 have mC:F c (ρ c).bO:=(oO _).2 rfl
 have CR: ∀y,F d y→y≠(ρ c).bO:=fun y aF e=>az.e4 d c _ _ y hd hc (Ne.symm rO) aF (e▸mC)
 have VE: ∀y,F q y→y≠(ρ c).bO:=fun y aF e=>az.e4 q c _ _ y bh hc (Ne.symm DR) aF (e▸mC)
 have Bh:(execOp a.eval o).run P w= .ok .skip {w with heap:=w.heap.setIfInBounds (ρ c).bO (.map (List.toArray iF) nw)}:=by simp only[execOp,av,Sem.run_bind,ai,aq,hr,Result.andThen_ok,Sem.run_pure]
 unfold Oper.wp
 rw[Bh,Oper.upon_skip]
 have uf: ∀j ch,ax ((q,bF.obj (.cO (((ρ d).bO,bK.ch (.cells l) h)::L)))::(c,.map aO .aW (gI (aO:=aO) (aV:=.aW) es key (some (ρ d).bO)))::g8 B d) j=some ch→(j=c∨j=d∨j=q)→(j=q∧ch= .obj (.cO (((ρ d).bO,bK.ch (.cells l) h)::L)))∨(j=c∧ch= .map aO .aW (gI (aO:=aO) (aV:=.aW) es key (some (ρ d).bO))):=fun j ch ak hm=>by
  rw[cC] at ak
  split at ak
  ·rename_i e;injection ak with ak;exact .inl ⟨e.symm,ak.symm⟩
  ·rename_i e
   rw[cC] at ak
   split at ak
   ·rename_i aq;injection ak with ak;exact .inr ⟨aq.symm,ak.symm⟩
   ·rename_i aq
    rcases hm with hm |hm |hm
    ·exact absurd hm.symm aq
    ·rw[hm,jR,if_pos rfl] at ak;cases ak
    ·exact absurd hm.symm e
 have DS:dx F q (fun y=>F d y∨F q y) c=F c:=dL _ _ DR
 obtain⟨bT,bA⟩:=az.step (B':=(q,.obj (.cO (((ρ d).bO,bK.ch (.cells l) h)::L)))::(c,.map aO .aW (gI (aO:=aO) (aV:=.aW) es key (some (ρ d).bO)))::g8 B d) (ρ':=ρ) (F':=dx F q (fun y=>F d y∨F q y)) (w':={w with heap:=w.heap.setIfInBounds (ρ c).bO (.map (List.toArray iF) nw)}) (fun j=>j=c∨j=d∨j=q) (fun _=>False)
  ((Au (S:=F c) mC).mono fun y _ aF=>⟨c,_,hc,.inl rfl,aF⟩)
  (fun j ch ak hm=>by
   rw[cC,if_neg (fun e=>hm (.inr (.inr e.symm))),cC,if_neg (fun e=>hm (.inl e.symm)),jR,if_neg (fun e=>hm (.inr (.inl e.symm)))] at ak
   exact ak)
  (fun _ _=>rfl) (fun j hm=>dL _ _ (fun e=>hm (.inr (.inr e)))) (fun _ _ h=>h) (fun _ h=>h.elim) (fun _ _ _ _ _ _ h=>h)
  (fun j ch ak hm bA=>by
   rcases uf j ch ak hm with⟨rfl,rfl⟩ |⟨rfl,rfl⟩
   ·rw[dN]
    refine⟨F d,F j,ρ d,fun _=>Iff.rfl,fun y aF eL=>az.e4 d j _ _ y hd bh M1 aF eL,rfl,?_,aX.cA bA (by simp) fun y aF=>xu y (VE y aF)⟩
    exact(bK.ch (.cells l) h).cA _ _ _ _ _ _ (bK.VA h M3) bA (fun y aF=>xu y (CR y aF)) (by simp)
   ·rw[DS]
    exact⟨oO,iF,nw,by simp[Bg],gL.mono bA,tO⟩)
  (fun j ch ak hm y aF=>by
   rcases uf j ch ak hm with⟨rfl,rfl⟩ |⟨rfl,rfl⟩
   ·rw[dN] at aF
    rcases aF with aF |aF
    ·exact⟨by simpa using(az.own d _ hd y aF).1,.inl ⟨d,_,hd,.inr (.inl rfl),aF⟩⟩
    ·exact⟨by simpa using(az.own j _ bh y aF).1,.inl ⟨j,_,bh,.inr (.inr rfl),aF⟩⟩
   ·rw[DS] at aF
    exact⟨by simpa using(az.own j _ hc y aF).1,.inl ⟨j,_,hc,.inl rfl,aF⟩⟩)
  (fun j sG ch bg y ak oq hm gL bf aF eL=>by
   rcases uf j ch ak hm with⟨rfl,rfl⟩ |⟨rfl,rfl⟩ <;>rcases uf sG bg oq gL with⟨rfl,rfl⟩ |⟨rfl,rfl⟩
   ·exact bf rfl
   ·rw[dN] at aF
    rw[DS] at eL
    rcases aF with aF |aF
    ·exact az.e4 d sG _ _ y hd hc (Ne.symm rO) aF eL
    ·exact az.e4 j sG _ _ y bh hc (Ne.symm DR) aF eL
   ·rw[dN] at eL
    rw[DS] at aF
    rcases eL with eL |eL
    ·exact az.e4 d j _ _ y hd hc (Ne.symm rO) eL aF
    ·exact az.e4 sG j _ _ y bh hc (Ne.symm DR) eL aF
   ·exact bf rfl)
 exact hK _ _ _ _ ⟨_,HP,rfl,rfl⟩ ⟨lz.trans hn,put_defers.trans oA,ρ,_,bT,(hS.mono bA fun _ _ _=>rfl).lB (fun e he=>by rw[hn];exact bH e he) rfl⟩
end
end Go.Proofs.YteoamepgonpdlaaGreat
namespace Go.Proofs.YteoamepgonpdlaaGreat
set_option linter.unusedVariables false
set_option linter.unusedSimpArgs false
open Go.RowKit
def jh (b:Nat) (q:bn):bK where
 R:=fun I F w p=>q.bO=b∧ ∀x,¬F x
 cA:=fun _ _ _ _ _ _ h _ _ _=>h
def jG (ch:bF):Prop:= ∀(ρ ρ':Nat→bn) (I F:Nat→Prop) (w:World) (p jW:bn),(∀c,ch.has c=true→(ρ' c).bO=(ρ c).bO)→jW.bO=p.bO→Holds ρ I F w p ch→Holds ρ' I F w jW ch
def HQ:bx→Bool
 | .own _=>false
 | .os _ _ _ _=>false
 |_=>true
theorem gS.bO {ρ ρ':Nat→bn} {I:Nat→Prop} {w:World}: ∀(l:List ki) (vs:List Value),(∀c,lu c l=true→(ρ' c).bO=(ρ c).bO)→gS ρ I w l vs→gS ρ' I w l vs
 | [],_,_,h=>h
 | .p b o::l,_,di,⟨v,r,e,aa,af⟩=>⟨v,r,e,(by have e:=di b (by simp[lu]);simp only[wo] at*;rw[e];exact aa),gS.bO l r (fun c hc=>di c (by simp[lu,hc])) af⟩
 | .d x::l,_,di,⟨v,r,e,aa,af⟩=>⟨v,r,e,aa,gS.bO l r (fun c hc=>di c (by simpa[lu] using hc)) af⟩
theorem dI.bO {ρ ρ':Nat→bn} {I:Nat→Prop} {w:World} (s:bx) (v:Value) (ag:HQ s=true) (di: ∀c,s.has c=true→(ρ' c).bO=(ρ c).bO) (h:dI ρ I w s v):dI ρ' I w s v:=by
 cases s with
 |ptr c off=>
  have e:=di c (by simp[bx.has,Nat.beq_eq])
  simp only[dI] at*
  rw[e];exact h
 |fh c s i off=>
  have e:=di c (by simp[bx.has,Nat.beq_eq])
  simp only[dI] at*
  rw[e];exact h
 |mp c=>
  have e:=di c (by simp[bx.has,Nat.beq_eq])
  simp only[dI] at*
  rw[e];exact h
 |eH f l=>obtain⟨vs,e,h⟩:=h;exact⟨vs,e,gS.bO l vs di h⟩
 |own c=>cases ag
 |os c s off n=>cases ag
 |d x=>exact h
 |el u x off=>exact h
 |ee=>exact h
 |raw u=>exact h
 |any=>trivial
theorem bZ.bO {ρ ρ':Nat→bn} {I:Nat→Prop} {w:World}: ∀(l:List bx) (vs:List Value),l.all HQ=true→(∀c,mR c l=true→(ρ' c).bO=(ρ c).bO)→bZ ρ I w l vs→bZ ρ' I w l vs
 | [],_,_,_,h=>h
 |s::l,_,ag,di,⟨v,r,e,aa,af⟩=>by
  rw[List.all_cons,Bool.and_eq_true] at ag
  exact⟨v,r,e,dI.bO s v ag.1 (fun c hc=>di c (by simp[mR,hc])) aa,bZ.bO l r ag.2 (fun c hc=>di c (by simp[mR,hc])) af⟩
theorem jG.cells {l:List bx} (ag:l.all HQ=true):jG (.cells l):=by
 rintro ρ ρ' I F w p jW di hp ⟨aa,vs,T,af,aA⟩
 exact⟨fun b=>by rw[hp];exact aa b,vs,T,by rw[hp];exact af,bZ.bO l vs ag di aA⟩
theorem jG.map {aO aV:U} {es:List (aJ aO×aJ aV)}:jG (.map aO aV es):=by
 rintro ρ ρ' I F w p jW di hp ⟨aa,dM,clock,af,aA,bE⟩
 exact⟨fun b=>by rw[hp];exact aa b,dM,clock,by rw[hp];exact af,aA,bE⟩
theorem jG.cO {L:List (Nat×bK)}:jG (.obj (.cO L)):=fun _ _ _ _ _ _ _ _ _ h=>h
theorem jG.ud {c:Nat} {bR:aG} (h: ∀d ch,ax bR d=some ch→jG ch):jG (.obj (.ud c bR)):=by
 rintro lY rK I F w p jW _ hp ⟨ρ,G,aa,af,aA,bE⟩
 have ag: ∀d,(dx ρ c jW d).bO=(ρ d).bO:=fun d=>by
  by_cases e:d=c
  ·subst e;rw[dN,hp,aa]
  ·rw[dL _ _ e]
 exact⟨dx ρ c jW,G,dN ..,fun d ch hd=>h d ch hd ρ (dx ρ c jW) _ _ _ (ρ d) (dx ρ c jW d) (fun e _=>ag e) (ag d) (af d ch hd),aA,bE⟩
def DT:aG→Prop
 | []=>True
 |(_,ch)::bR=>jG ch∧DT bR
theorem Bu: ∀{bR:aG},DT bR→ ∀d ch,ax bR d=some ch→jG ch
 | [],_,d,ch,hd=>by cases hd
 |(e,x)::bR,h,d,ch,hd=>by
  rw[cC] at hd
  split at hd
  ·injection hd with hd;subst hd;exact h.1
  ·exact Bu h.2 d ch hd
def DU (bR:aG) (bs:Nat→Nat) (I F:Nat→Prop) (w:World):Prop:=
 ∃(ρ:Nat→bn) (G:Nat→Nat→Prop),(∀d ch,ax bR d=some ch→(ρ d).bO=bs d)∧(∀d ch,ax bR d=some ch→Holds ρ I (G d) w (ρ d) ch)∧
  (∀d d' ch bg b,ax bR d=some ch→ax bR d'=some bg→d≠d'→G d b→ ¬G d' b)∧ ∀b,F b↔ ∃d ch,ax bR d=some ch∧G d b
def bK.m6 (bR:aG) (bs:Nat→Nat):bK where
 R:=fun I F w _=>DU bR bs I F w
 cA:=fun I F w I' w' p ⟨ρ,G,aC,af,aA,bE⟩ he hF aS=>⟨ρ,G,aC,fun d ch hd=>Holds.cA he (fun b ag=>hF b ((bE b).2 ⟨d,ch,hd,ag⟩)) aS ch (fun _ _=>rfl) (af d ch hd),aA,bE⟩
section
variable {ids:List Nat} {K:aQ} {B:aG}
theorem j9.mark (d m:Nat) (hm:gu ids K B m=true) (bf:d≠m):j9 ids K B (fun _:Nat=>K) (fun b=>(m,.dep d (jh b))::B):=by
 rintro N C a w ⟨hn,hd,ρ,F,az,hS⟩
 have cv:=kT hm
 obtain⟨bT,bA⟩:=az.make (ch:=.dep d (jh (ρ d).bO)) (w':=w) hm (Below.refl _ _) ⟨0,none,0,0⟩ (fun _=>False) (fun _ h=>h.elim) (fun I _ _=>by
  show(jh (ρ d).bO (dx ρ m _ d)).R I _ w _
  rw[dL _ _ bf]
  exact⟨rfl,fun _ h=>h⟩)
 exact⟨(ρ d).bO,hn,hd,_,_,bT,hS.mono bA fun s c hc=>dL _ _ (fun e=>by subst e;rw[cv.1 s] at hc;cases hc)⟩
theorem ah.place (d m b:Nat) (hd:gu ids K B d=true) (hm:gu ids K B m=true) (bf:d≠m):ah ids K B K ((m,.dep d (jh b))::B):=by
 rintro N C a w ⟨hn,oA,ρ,F,az,hS⟩
 have f1:=kT hd
 have f2:=kT hm
 obtain⟨bT,bA⟩:=az.step (B':=(m,.dep d (jh b))::B) (ρ':=dx ρ d ⟨b,none,0,0⟩) (F':=dx F m fun _=>False) (w':=w) (fun c=>c=m∨c=d) (fun c=>c=d) (Fr.refl _ _)
  (fun c ch hc hm=>by
   rw[cC,if_neg (fun e=>hm (.inl e.symm))] at hc
   exact hc)
  (fun c hc=>dL _ _ hc) (fun c hc=>dL _ _ (fun e=>hc (.inl e))) (fun c hc e=>f1.2.2.2 (e▸hc)) (fun c hc=>.inr hc)
  (fun c ch hc _ j ak e=>by subst e;rw[f1.2.2.1 c ch hc] at ak;cases ak)
  (fun c ch hc hm bA=>by
   rw[cC] at hc
   split at hc
   ·rename_i e
    subst e
    injection hc with hc
    subst hc
    rw[dN]
    show(jh b (dx ρ d _ d)).R _ _ w _
    rw[dN]
    exact⟨rfl,fun _ h=>h⟩
   ·rename_i e
    rcases hm with hm |hm
    ·exact absurd hm.symm e
    ·rw[hm,f1.2.1] at hc;cases hc)
  (fun c ch hc hm x hx=>by
   rw[cC] at hc
   split at hc
   ·rename_i e
    subst e
    rw[dN] at hx
    exact hx.elim
   ·rename_i e
    rcases hm with hm |hm
    ·exact absurd hm.symm e
    ·rw[hm,f1.2.1] at hc;cases hc)
  (fun c bY ch bg x hc dw hm gL GF hx=>by
   have key: ∀c ch,ax ((m,bF.dep d (jh b))::B) c=some ch→(c=m∨c=d)→c=m:=fun c ch hc hm=>by
    rcases hm with hm |hm
    ·exact hm
    ·rw[cC,if_neg (fun e=>bf (hm.symm.trans e.symm)),hm,f1.2.1] at hc
     cases hc
   exact absurd ((key c ch hc hm).trans (key bY bg dw gL).symm) GF)
 exact⟨hn,oA,_,_,bT,hS.mono bA fun s c hc=>dL _ _ (fun e=>by subst e;rw[f1.1 s] at hc;cases hc)⟩
def DV (B:aG) (ms bs:Nat→Nat):aG→Prop
 | []=>True
 |(d,_)::bR=>ax B (ms d)=some (.dep d (jh (bs d)))∧DV B ms bs bR
theorem HR {ms bs:Nat→Nat}: ∀{bR:aG},DV B ms bs bR→ ∀{d ch},ax bR d=some ch→ax B (ms d)=some (.dep d (jh (bs d)))
 | [],_,d,ch,hd=>by cases hd
 |(e,x)::bR,h,d,ch,hd=>by
  rw[cC] at hd
  split at hd
  ·rename_i e;subst e;exact h.1
  ·exact HR h.2 hd
theorem ah.HS (g:Nat) (bR:aG) (ms bs:Nat→Nat) (eA:nA B bR) (hm:DV B ms bs bR) (bl:ax B g=none):ah ids K B K ((g,.obj (.m6 bR bs))::rI (cS bR) B):=by
 rintro N C a w ⟨hn,hd,ρ,F,az,hS⟩
 have aB: ∀{d ch},ax bR d=some ch→ax B d=some ch:=fun {d ch} h=>kq eA h
 have HT:g∉cS bR:=fun h=>by obtain⟨ch,h⟩:=gi.1 h;rw[aB h] at bl;cases bl
 have key: ∀d ch,ax ((g,bF.obj (.m6 bR bs))::rI (cS bR) B) d=some ch→(d=g∨d∈cS bR)→d=g∧ch= .obj (.m6 bR bs):=fun d ch hd hm=>by
  rw[cC] at hd
  split at hd
  ·rename_i e;injection hd with hd;exact⟨e.symm,hd.symm⟩
  ·rename_i e
   rcases hm with hm |hm
   ·exact absurd hm.symm e
   ·rw[AZ,if_pos hm] at hd;cases hd
 obtain⟨bT,bA⟩:=az.step (B':=(g,.obj (.m6 bR bs))::rI (cS bR) B) (ρ':=ρ) (F':=dx F g (fun x=> ∃d ch,ax bR d=some ch∧F d x)) (w':=w) (fun d=>d=g∨d∈cS bR) (fun _=>False) (Fr.refl _ _)
  (fun d ch hd hm=>by
   rw[cC,if_neg (fun e=>hm (.inl e.symm)),AZ,if_neg (fun h=>hm (.inr h))] at hd
   exact hd)
  (fun _ _=>rfl) (fun d hm=>dL _ _ (fun e=>hm (.inl e))) (fun _ _ h=>h) (fun _ h=>h.elim) (fun _ _ _ _ _ _ h=>h)
  (fun d ch hd gL bA=>by
   obtain⟨rfl,rfl⟩:=key d ch hd gL
   rw[dN]
   refine⟨ρ,F,fun d ch h=>?_,fun d ch h=>Holds.cA bA (fun _ _=>rfl) (Nat.le_refl _) ch (fun _ _=>rfl) (az.holds d ch (aB h)),fun d d' ch bg b h h' bf=>az.e4 d d' ch bg b (aB h) (aB h') bf,fun b=>Iff.rfl⟩
   exact(az.holds _ _ (HR hm h)).1)
  (fun d ch hd gL x hx=>by
   obtain⟨rfl,rfl⟩:=key d ch hd gL
   rw[dN] at hx
   obtain⟨d',bg,aa,af⟩:=hx
   exact⟨(az.own d' bg (aB aa) x af).1,.inl ⟨d',bg,aB aa,.inr (gi.2 ⟨bg,aa⟩),af⟩⟩)
  (fun d d' ch bg x hd dQ VF VG bf=>absurd ((key d ch hd VF).1.trans (key d' bg dQ VG).1.symm) bf)
 exact⟨hn,hd,ρ,_,bT,hS.mono bA fun _ _ _=>rfl⟩
theorem ah.HU (g:Nat) (bR:aG) (ms bs:Nat→Nat) (bl:ax B g=some (.obj (.m6 bR bs))) (hm:DV B ms bs bR) (au:((cS bR).all fun d=>(ax B d).isNone)=true) (ha:wR (cS bR) bR=true) (wN: ∀d ch,ax bR d=some ch→jG ch):ah ids K B K (bR++g8 B g):=by
 rintro N C a w ⟨hn,hd,ρ,F,az,hS⟩
 obtain⟨zj,G,aa,af,aA,bE⟩:DU bR bs (bS C B F w) (F g) w:=az.holds g _ bl
 have Ho: ∀{d ch},ax bR d=some ch→ax B d=none:=fun {d ch} h=>by
  have:=List.all_eq_true.1 au d (gi.2 ⟨ch,h⟩)
  simpa using this
 have HT:ax bR g=none:=by
  cases e:ax bR g with
  |none=>rfl
  |some ch=>rw[Ho e] at bl;cases bl
 have jb: ∀{d ch},ax bR d=some ch→(ρ d).bO=(zj d).bO:=fun {d ch} h=>((az.holds _ _ (HR hm h)).1:(ρ d).bO=bs d).trans (aa d ch h).symm
 have lk: ∀d ch,ax (bR++g8 B g) d=some ch→ax bR d=some ch∨(ax bR d=none∧d≠g∧ax B d=some ch):=fun d ch h=>by
  rw[mj] at h
  cases e:ax bR d with
  |some x=>rw[e] at h;exact .inl h
  |none=>
   rw[e,jR] at h
   simp only at h
   split at h
   ·cases h
   ·rename_i bf;exact .inr ⟨rfl,fun e=>bf e.symm,h⟩
 let cY:Nat→Nat→Prop:=fun d=>if(ax bR d).isSome=true then G d else F d
 have ai: ∀{d ch},ax bR d=some ch→cY d=G d:=fun {d ch} h=>if_pos (by rw[h];rfl)
 have aq: ∀{d},ax bR d=none→cY d=F d:=fun {d} h=>if_neg (by rw[h];decide)
 obtain⟨bT,bA⟩:=az.step (B':=bR++g8 B g) (ρ':=ρ) (F':=cY) (w':=w) (fun d=>d=g∨(ax bR d).isSome=true) (fun _=>False) (Fr.refl _ _)
  (fun d ch hd hm=>by
   rcases lk d ch hd with h |⟨_,_,h⟩
   ·exact absurd (.inr (by rw[h];rfl)) hm
   ·exact h)
  (fun _ _=>rfl) (fun d hm=>aq (by cases e:ax bR d with
   |none=>rfl
   |some x=>exact absurd (.inr (by rw[e];rfl)) hm)) (fun _ _ h=>h) (fun _ h=>h.elim) (fun _ _ _ _ _ _ h=>h)
  (fun d ch hd hm bA=>by
   rcases lk d ch hd with h |⟨h,bf,h'⟩
   ·rw[ai h]
    refine wN d ch h zj ρ _ _ w (zj d) (ρ d) (fun c hc=>?_) (jb h) (Holds.cA bA (fun _ _=>rfl) (Nat.le_refl _) ch (fun _ _=>rfl) (af d ch h))
    have:=bF.ku (yK ha h) hc
    obtain⟨bg,h'⟩:=gi.1 this
    exact jb h'
   ·rcases hm with hm |hm
    ·exact absurd hm bf
    ·rw[h] at hm;cases hm)
  (fun d ch hd hm x hx=>by
   rcases lk d ch hd with h |⟨h,bf,h'⟩
   ·rw[ai h] at hx
    have:F g x:=(bE x).2 ⟨d,ch,h,hx⟩
    exact⟨(az.own g _ bl x this).1,.inl ⟨g,_,bl,.inl rfl,this⟩⟩
   ·rcases hm with hm |hm
    ·exact absurd hm bf
    ·rw[h] at hm;cases hm)
  (fun d d' ch bg x hd dQ hm gL bf hx eB=>by
   rcases lk d ch hd with h |⟨h,hn,_⟩
   ·rcases lk d' bg dQ with h' |⟨h',ux,_⟩
    ·rw[ai h] at hx
     rw[ai h'] at eB
     exact aA d d' ch bg x h h' bf hx eB
    ·rcases gL with gL |gL
     ·exact absurd gL ux
     ·rw[h'] at gL;cases gL
   ·rcases hm with hm |hm
    ·exact absurd hm hn
    ·rw[h] at hm;cases hm)
 exact⟨hn,hd,ρ,_,bT,hS.mono bA fun _ _ _=>rfl⟩
def bK.tie (am:Nat) (o:bK) (q:bn):bK where
 R:=fun I F w p=>q.bO=am∧o.R I F w p
 cA:=fun I F w I' w' p h he hF aS=>⟨h.1,o.cA I F w I' w' p h.2 he hF aS⟩
theorem ah.tie (g c am:Nat) {o rS:bK} (bl:ax B g=some (.obj o)) (hc:ax B c=some (.obj (rS.at am))) (bf:g≠c):ah ids K B K ((c,.obj rS)::(g,.dep c (.tie am o))::B):=by
 rintro N C a w ⟨hn,hd,ρ,F,az,hS⟩
 have ay:(ρ c).bO=am:=(az.holds c _ hc).1
 obtain⟨j8,oW⟩:=az.jV (w':=w) (ch:=.dep c (.tie am o)) bl (Fr.refl _ _) fun I bC=>⟨ay,o.cA _ _ _ _ _ _ (az.holds g _ bl) bC (fun _ _=>rfl) (Nat.le_refl _)⟩
 have fF:ax ((g,bF.dep c (.tie am o))::B) c=some (.obj (rS.at am)):=by rw[cC,if_neg bf];exact hc
 obtain⟨jB,AI⟩:=j8.jV (w':=w) (ch:=.obj rS) fF (Fr.refl _ _) fun I bC=>rS.cA _ _ _ _ _ _ (j8.holds c _ fF).2 bC (fun _ _=>rfl) (Nat.le_refl _)
 exact⟨hn,hd,ρ,F,jB,hS.mono (oW.trans AI) fun _ _ _=>rfl⟩
theorem ah.VH (g c am:Nat) {o rS:bK} (bl:ax B g=some (.dep c (.tie am o))) (hc:ax B c=some (.obj rS)) (bf:g≠c):ah ids K B K ((c,.obj (rS.at am))::(g,.obj o)::B):=by
 rintro N C a w ⟨hn,hd,ρ,F,az,hS⟩
 have bM:(bK.tie am o (ρ c)).R (bS C B F w) (F g) w (ρ g):=az.holds g _ bl
 obtain⟨j8,oW⟩:=az.jV (w':=w) (ch:=.obj o) bl (Fr.refl _ _) fun I bC=>o.cA _ _ _ _ _ _ bM.2 bC (fun _ _=>rfl) (Nat.le_refl _)
 have fF:ax ((g,bF.obj o)::B) c=some (.obj rS):=by rw[cC,if_neg bf];exact hc
 obtain⟨jB,AI⟩:=j8.jV (w':=w) (ch:=.obj (rS.at am)) fF (Fr.refl _ _) fun I bC=>⟨bM.1,rS.cA _ _ _ _ _ _ (j8.holds c _ fF) bC (fun _ _=>rfl) (Nat.le_refl _)⟩
 exact⟨hn,hd,ρ,F,jB,hS.mono (oW.trans AI) fun _ _ _=>rfl⟩
theorem ah.VI (g c m am:Nat) {o:bK} (bl:ax B g=some (.dep c (.tie am o))) (hm:gu ids K B m=true) (bf:c≠m):ah ids K B K ((m,.dep c (jh am))::B):=by
 rintro N C a w ⟨hn,hd,ρ,F,az,hS⟩
 have cv:=kT hm
 have bM:(bK.tie am o (ρ c)).R (bS C B F w) (F g) w (ρ g):=az.holds g _ bl
 obtain⟨bT,bA⟩:=az.make (ch:=.dep c (jh am)) (w':=w) hm (Below.refl _ _) ⟨0,none,0,0⟩ (fun _=>False) (fun _ h=>h.elim) (fun I _ _=>by
  show(jh am (dx ρ m _ c)).R I _ w _
  rw[dL _ _ bf]
  exact⟨bM.1,fun _ h=>h⟩)
 exact⟨hn,hd,_,_,bT,hS.mono bA fun s c hc=>dL _ _ (fun e=>by subst e;rw[cv.1 s] at hc;cases hc)⟩
theorem ah.loose (g c am:Nat) {o:bK} (bl:ax B g=some (.dep c (.tie am o))):ah ids K B K ((g,.obj o)::B):=by
 rintro N C a w ⟨hn,hd,ρ,F,az,hS⟩
 have bM:(bK.tie am o (ρ c)).R (bS C B F w) (F g) w (ρ g):=az.holds g _ bl
 obtain⟨j8,oW⟩:=az.jV (w':=w) (ch:=.obj o) bl (Fr.refl _ _) fun I bC=>o.cA _ _ _ _ _ _ bM.2 bC (fun _ _=>rfl) (Nat.le_refl _)
 exact⟨hn,hd,ρ,F,j8,hS.mono oW fun _ _ _=>rfl⟩
theorem ah.VJ (g c m am:Nat) {o:bK} (bl:ax B g=some (.obj o)) (hm:ax B m=some (.dep c (jh am))):ah ids K B K ((g,.dep c (.tie am o))::B):=by
 rintro N C a w ⟨hn,hd,ρ,F,az,hS⟩
 have ay:(ρ c).bO=am:=(az.holds m _ hm).1
 obtain⟨j8,oW⟩:=az.jV (w':=w) (ch:=.dep c (.tie am o)) bl (Fr.refl _ _) fun I bC=>⟨ay,o.cA _ _ _ _ _ _ (az.holds g _ bl) bC (fun _ _=>rfl) (Nat.le_refl _)⟩
 exact⟨hn,hd,ρ,F,j8,hS.mono oW fun _ _ _=>rfl⟩
theorem ah.forget (c b:Nat) {o:bK} (hc:ax B c=some (.obj (o.at b))):ah ids K B K ((c,.obj o)::B):=by
 rintro N C a w ⟨hn,hd,ρ,F,az,hS⟩
 obtain⟨j8,oW⟩:=az.jV (w':=w) (ch:=.obj o) hc (Fr.refl _ _) fun I bC=>o.cA _ _ _ _ _ _ (az.holds c _ hc).2 bC (fun _ _=>rfl) (Nat.le_refl _)
 exact⟨hn,hd,ρ,F,j8,hS.mono oW fun _ _ _=>rfl⟩
theorem HV {N:Nat} {C:Ctx} {a:Act} {w:World} {ρ:Nat→bn} {F:Nat→Nat→Prop} (az:Mem ids C B ρ F w) {m d b:Nat} (hm:ax B m=some (.dep d (jh b))):(ρ d).bO=b:=(az.holds m _ hm).1
theorem ah.M4 (s d m b:Nat) (hs:look K s= .c (.one (.d (.aW (some b))))) (hm:ax B m=some (.dep d (jh b))):ah ids K B ((s,.c (.one (.ptr d 0)))::K) B:=by
 rintro N C a w ⟨hn,hd,ρ,F,az,hS⟩
 refine⟨hn,hd,ρ,F,az,fun t=>?_⟩
 rw[kF]
 split
 ·rename_i e
  subst e
  have h:=hS s
  rw[hs] at h
  have e:=HV (N:=N) (a:=a) az hm
  rw[←e] at h
  exact h
 ·exact hS t
theorem ah.VK (s d b:Nat) {o:bK} (hs:look K s= .c (.one (.d (.aW (some b))))) (hd:ax B d=some (.obj (o.at b))):ah ids K B ((s,.c (.one (.ptr d 0)))::K) B:=by
 rintro N C a w ⟨hn,oA,ρ,F,az,hS⟩
 refine⟨hn,oA,ρ,F,az,fun t=>?_⟩
 rw[kF]
 split
 ·rename_i e
  subst e
  have h:=hS s
  rw[hs] at h
  have e:(ρ d).bO=b:=(az.holds d _ hd).1
  rw[←e] at h
  exact h
 ·exact hS t
theorem ah.VL (s f d1 d2 bw bX bQ cn:Nat) (hs:look K s= .c (.one (.eH f [.p d1 0,.p d2 0]))) (aa:ax B bw=some (.dep d1 (jh bQ))) (af:ax B bX=some (.dep d2 (jh cn))):ah ids K B ((s,.c (.one (.d (.fn (f,[bQ,cn])))))::K) B:=by
 rintro N C a w ⟨hn,hd,ρ,F,az,hS⟩
 refine⟨hn,hd,ρ,F,az,fun t=>?_⟩
 rw[kF]
 split
 ·rename_i e
  subst e
  have h:=hS s
  rw[hs] at h
  obtain⟨vs,e,v1,r1,ai,g1,v2,r2,aq,g2,bL⟩:=h
  have cE:=HV (N:=N) (a:=a) az aa
  have ey:=HV (N:=N) (a:=a) az af
  have g1:v1= .pointer (some ⟨(ρ d1).bO,0,none⟩):=g1
  have g2:v2= .pointer (some ⟨(ρ d2).bO,0,none⟩):=g2
  have bL:r2=[]:=bL
  show a.tmps.getD s undef=tG (f,[bQ,cn])
  rw[e,ai,aq,g1,g2,bL,cE,ey]
  rfl
 ·exact hS t
end
end Go.Proofs.YteoamepgonpdlaaGreat
namespace Go.Proofs.YteoamepgonpdlaaGreat
set_option linter.unusedVariables false
set_option linter.unusedSimpArgs false
open Go.RowKit
def kz:List (Nat×bK)→Nat→List (Nat×bK)
 | [],_=>[]
 |(a,o)::L,b=>if a=b then L else(a,o)::kz L b
theorem HW {a b c:Prop}:(a∨b∨c)↔(b∨a∨c):=⟨fun h=>by
 rcases h with h |h |h
 ·exact .inr (.inl h)
 ·exact .inl h
 ·exact .inr (.inr h),fun h=>by
 rcases h with h |h |h
 ·exact .inr (.inl h)
 ·exact .inl h
 ·exact .inr (.inr h)⟩
theorem fN.del {I:Nat→Prop} {w:World} {b:Nat} {o:bK}: ∀{L:List (Nat×bK)} {F:Nat→Prop},jd L b=some o→fN I w L F→ ∃(cG cY:Nat→Prop) (p:bn),(∀x,F x↔cG x∨cY x)∧(∀x,cG x→ ¬cY x)∧p.bO=b∧o.R I cG w p∧fN I w (kz L b) cY
 | [],F,h,_=>by cases h
 |(a,q)::L,F,h,⟨qD,sK,p,aa,af,aA,bE,ec⟩=>by
  unfold jd at h
  unfold kz
  split at h
  ·rename_i e
   injection h with h
   subst h
   rw[if_pos e]
   exact⟨qD,sK,p,aa,af,aA.trans e,bE,ec⟩
  ·rename_i e
   rw[if_neg e]
   obtain⟨cG,cY,dO,g1,g2,bL,gU,xb⟩:=fN.del h ec
   refine⟨cG,fun x=>qD x∨cY x,dO,fun x=>by rw[aa,g1];exact HW,fun x hx aF=>?_,bL,gU,qD,cY,p,fun x=>Iff.rfl,fun x hx aF=>af x hx ((g1 x).2 (.inr aF)),aA,bE,xb⟩
   rcases aF with aF |aF
   ·exact af x aF ((g1 x).2 (.inl hx))
   ·exact g2 x hx aF
theorem fN.ins {I:Nat→Prop} {w:World} {b:Nat} {o o':bK} {cG:Nat→Prop} {p:bn} (av:o'.R I cG w p) (hp:p.bO=b): ∀{L:List (Nat×bK)} {F:Nat→Prop},jd L b=some o→fN I w (kz L b) F→(∀x,cG x→ ¬F x)→fN I w (iP L b o') (fun x=>cG x∨F x)
 | [],F,h,_,_=>by cases h
 |(a,q)::L,F,h,hd,fZ=>by
  unfold jd at h
  unfold kz at hd
  unfold iP
  split at h
  ·rename_i e
   rw[if_pos e] at hd⊢
   exact⟨cG,F,p,fun x=>Iff.rfl,fZ,hp.trans e.symm,av,hd⟩
  ·rename_i e
   rw[if_neg e] at hd⊢
   obtain⟨qD,sK,r,aa,af,aA,bE,ec⟩:=hd
   refine⟨qD,fun x=>cG x∨sK x,r,fun x=>by
    show(cG x∨F x)↔(qD x∨(cG x∨sK x))
    rw[aa];exact HW,fun x hx aF=>?_,aA,bE,fN.ins av hp h ec fun x hx aF=>fZ x hx ((aa x).2 (.inr aF))⟩
   rcases aF with aF |aF
   ·exact fZ x aF ((aa x).2 (.inl hx))
   ·exact af x hx aF
theorem HX {o:bK} {b:Nat}: ∀{L:List (Nat×bK)},jd L b=some o→iP L b o=L
 | [],h=>by cases h
 |(a,q)::L,h=>by
  unfold jd at h
  unfold iP
  split at h
  ·rename_i e
   injection h with h
   rw[if_pos e,h]
  ·rename_i e
   rw[if_neg e,HX h]
section
variable {ids:List Nat} {K:aQ} {B:aG}
theorem ah.DW (q c b:Nat) {o:bK} {L:List (Nat×bK)} (bh:ax B q=some (.obj (.cO L))) (cL:jd L b=some o) (hc:gu ids K B c=true):ah ids K B K ((c,.obj (o.at b))::(q,.obj (.cO (kz L b)))::B):=by
 rintro N C a w ⟨hn,hd,ρ,F,az,hS⟩
 have f:=kT hc
 obtain⟨cG,cY,p,aa,af,aA,bE,ec⟩:=fN.del cL (az.holds q _ bh:fN _ w L (F q))
 obtain⟨bT,bA⟩:=az.split (K:=K) (ko:=.obj (.cO (kz L b))) (pO:=.obj (o.at b)) bh hc p cY cG (fun x hx=>(aa x).2 (.inr hx)) (fun x hx=>(aa x).2 (.inl hx)) (fun x hx aF=>af x aF hx)
  (fun I bC=>ec.cA bC (Nat.le_refl _) (fun _ _=>rfl)) (fun I bC=>⟨aA,o.cA _ _ _ _ _ _ bE bC (fun _ _=>rfl) (Nat.le_refl _)⟩)
 exact⟨hn,hd,_,_,bT,hS.mono bA fun s d hd=>dL _ _ (fun e=>by subst e;rw[f.1 s] at hd;cases hd)⟩
theorem ah.putAt (q c b:Nat) {o o':bK} {L:List (Nat×bK)} (bh:ax B q=some (.obj (.cO (kz L b)))) (hc:ax B c=some (.obj (o'.at b))) (cL:jd L b=some o) (bf:q≠c):ah ids K B K ((q,.obj (.cO (iP L b o')))::g8 B c):=by
 rintro N C a w ⟨hn,hd,ρ,F,az,hS⟩
 have aX:fN (bS C B F w) w (kz L b) (F q):=az.holds q _ bh
 have aT:(ρ c).bO=b∧o'.R (bS C B F w) (F c) w (ρ c):=az.holds c _ hc
 obtain⟨bT,bA⟩:=az.join (w':=w) (ch:=.obj (.cO (iP L b o'))) bh hc bf (fun x=>F c x∨F q x) (fun x hx=>hx.symm) (Fr.refl _ _) fun I bC=>
  (fN.ins aT.2 aT.1 cL aX (fun x hx aF=>az.e4 c q _ _ x hc bh (Ne.symm bf) hx aF)).cA bC (Nat.le_refl _) fun _ _=>rfl
 exact⟨hn,hd,ρ,_,bT,hS.mono bA fun _ _ _=>rfl⟩
theorem ah.VM (q c b:Nat) {o:bK} {bR:aG} {bs:Nat→Nat} {L:List (Nat×bK)} (bh:ax B q=some (.obj (.cO (kz L b)))) (hc:ax B c=some (.obj (.m6 bR bs))) (cL:jd L b=some o) (bf:q≠c):ah ids K B K ((q,.obj (.cO (iP L b (.m6 bR bs))))::g8 B c):=by
 rintro N C a w ⟨hn,hd,ρ,F,az,hS⟩
 have aX:fN (bS C B F w) w (kz L b) (F q):=az.holds q _ bh
 have aT:DU bR bs (bS C B F w) (F c) w:=az.holds c _ hc
 obtain⟨bT,bA⟩:=az.join (w':=w) (ch:=.obj (.cO (iP L b (.m6 bR bs)))) bh hc bf (fun x=>F c x∨F q x) (fun x hx=>hx.symm) (Fr.refl _ _) fun I bC=>
  (fN.ins (o':=.m6 bR bs) (p:=⟨b,none,0,0⟩) aT rfl cL aX (fun x hx aF=>az.e4 c q _ _ x hc bh (Ne.symm bf) hx aF)).cA bC (Nat.le_refl _) fun _ _=>rfl
 exact⟨hn,hd,ρ,_,bT,hS.mono bA fun _ _ _=>rfl⟩
theorem Fn.VN {P:Program} {f:FuncId} {c q am:Nat} {args:List aN} {res:aN} {bR:aG} {bs:Nat→Nat} {M:List (Nat×bK)} (h:Fn P f (.c (.one (.ptr c 0))::args) bR [] res bR) (az:jd M am=some (.m6 bR bs)) (hc:bs c=am) (A2:(ax bR c).isSome=true) (ha:(args.all fun v=>v.among [])=true) (hr:res.among []=true):
  Fn P f (.c (.one (.d (.aW (some am))))::args) [(q,.obj (.cO M))] [] res [(q,.obj (.cO M))]:=by
 obtain⟨iH,h⟩:=h
 refine⟨iH,fun ρ F I w b6 bC eo hF fZ hlen ep=>?_⟩
 have bh:ax [(q,bF.obj (.cO M))] q=some (.obj (.cO M)):=by rw[cC,if_pos rfl]
 have xF: ∀{d ch},ax [(q,bF.obj (.cO M))] d=some ch→d=q∧ch= .obj (.cO M):=fun {d ch} hd=>by
  rw[cC] at hd
  split at hd
  ·rename_i e;injection hd with hd;exact⟨e.symm,hd.symm⟩
  ·cases hd
 have aX:fN I w M (F q):=eo q _ bh
 obtain⟨cG,cY,p,cE,ey,fo,fY,yV⟩:=aX.out az
 obtain⟨zj,G,g1,g2,bL,gU⟩:DU bR bs I cG w:=fY
 have eS: ∀{v:aN},v.among []=true→ ∀d,v.has d=true→ ∀(ρ ρ':Nat→bn),ρ' d=ρ d:=fun {v} hv d hd _ _=>absurd (aN.ku hv hd) List.not_mem_nil
 have HY: ∀y,(∃d ch,ax bR d=some ch∧G d y)→ ∃d ch,ax [(q,bF.obj (.cO M))] d=some ch∧F d y:=fun y aF=>⟨q,_,bh,(cE y).2 (.inl ((gU y).2 aF))⟩
 obtain⟨VO,lI⟩:=Option.isSome_iff_exists.1 A2
 match b6,hlen with
 |v0::b6,hlen=>
  have Gx:v0= .pointer (some ⟨am,0,none⟩):=ep 0 _ v0 rfl rfl
  refine(h zj G I w (v0::b6) bC g2 (fun d ch hd b ag=>hF q _ bh b ((cE b).2 (.inl ((gU b).2 ⟨d,ch,hd,ag⟩)))) bL (by simpa using hlen) ?_).mono ?_
  ·intro i v x hv hx
   match i with
   |0=>
    simp only[List.getElem?_cons_zero,Option.some.injEq] at hv hx
    subst hv hx
    show v0= .pointer (some ⟨(zj c).bO,0,none⟩)
    rw[g1 c VO lI,hc]
    exact Gx
   |i+1=>
    have mT:args[i]? =some v:=by simpa using hv
    have:=List.all_eq_true.1 ha v (List.mem_of_getElem? mT)
    exact cj.mono (Ext.refl _ _) v x (fun d hd=>eS this d hd _ _) (ep (i+1) v x (by simpa using hv) hx)
  ·rintro e w' ⟨x,ρ',F',rfl,cv,di,I',kG,iu,ow,aT,jA,xd⟩
   have kV: ∀y,cY y→ ¬ ∃d ch,ax bR d=some ch∧G d y:=fun y aF oo=>ey y ((gU y).2 oo) aF
   have rH: ∀y,cY y→y < w.heap.size∧ ¬I y:=fun y aF=>hF q _ bh y ((cE y).2 (.inr aF))
   have hold: ∀y,cY y→w'.heap[y]? =w.heap[y]? :=fun y aF=>cv.block y (rH y aF).1 (kV y aF)
   have sL: ∀y,(∃d ch,ax bR d=some ch∧F' d y)→ ¬cY y:=by
    rintro y ⟨d,ch,hd,aF⟩ AT
    rcases(aT d ch hd y aF).2.2 with h |h
    ·exact kV y AT h
    ·have:=(rH y AT).1;omega
   have j7:=yV I' w' (.m6 bR bs) (fun y=> ∃d ch,ax bR d=some ch∧F' d y) p kG cv.size hold fo
    ⟨ρ',F',fun d ch hd=>by rw[di d List.not_mem_nil];exact g1 d ch hd,ow,jA,fun b=>Iff.rfl⟩ sL
   rw[HX az] at j7
   refine⟨x,ρ,fun d=>if d=q then(fun y=>(∃d ch,ax bR d=some ch∧F' d y)∨cY y) else F' d,rfl,cv.mono fun y _ aF=>HY y aF,fun d _=>rfl,I',kG,fun y aF=>⟨(iu y aF).1,?_⟩,?_,?_,?_,?_⟩
   ·rcases(iu y aF).2 with h |h |h
    ·exact .inl h
    ·exact .inr (.inl (HY y h))
    ·exact .inr (.inr h)
   ·intro d ch hd
    obtain⟨rfl,rfl⟩:=xF hd
    simp only[if_true]
    exact j7
   ·intro d ch hd y aF
    obtain⟨rfl,rfl⟩:=xF hd
    simp only[if_true] at aF
    rcases aF with⟨d',bg,dQ,aF⟩ |aF
    ·obtain⟨ct,cB,a3⟩:=aT d' bg dQ y aF
     exact⟨ct,cB,a3.imp (HY y) id⟩
    ·refine⟨Nat.lt_of_lt_of_le (rH y aF).1 cv.size,fun ay=>?_,.inl ⟨d,_,bh,(cE y).2 (.inr aF)⟩⟩
     rcases(iu y ay).2 with h |h |h
     ·exact(rH y aF).2 h
     ·exact kV y aF h
     ·have:=(rH y aF).1;omega
   ·intro d d' ch bg y hd dQ bf
    exact absurd ((xF hd).1.trans (xF dQ).1.symm) bf
   ·exact cj.mono (Ext.refl _ _) res x (fun d hd=>eS hr d hd _ _) xd
end
end Go.Proofs.YteoamepgonpdlaaGreat
