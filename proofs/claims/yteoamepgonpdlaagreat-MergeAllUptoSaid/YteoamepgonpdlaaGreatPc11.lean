/-
Part 11 of the proof that stands in YteoamepgonpdlaaGreatPcRow, with what it needs from the parts ahead; the parts of this text: In, Vi, Ca, Vj, Vk.
-/
import Derived.Test.YteoamepgonpdlaaGreatPc10
set_option linter.unusedVariables false
set_option linter.unusedSimpArgs false
set_option maxRecDepth 10000
namespace Go.Proofs.YteoamepgonpdlaaGreat
open Go.RowKit Go.Proofs
def kf (s:bE) (p:mA):Bool:=decide (p.b - p.a=wid s)
theorem NM (s:bE) (ag:s.bits≤3) (p:mA) (aa:p.a≤p.b) (af:p.b≤1000):Fn Tryz.prog 125 [qE p,aH 4] (di s++[(4,.cells [.ptr 1001 0])]) [] (iw (kf s p)) (di s++[(4,.cells [.ptr 1001 0])]):=by
 have je:(-9223372036854775808:Int)≤(p.b:Int) - (p.a:Int)∧(p.b:Int) - (p.a:Int)≤9223372036854775807:=by omega
 refine Fn.of ai [] _ _ _ _ _ Tryz.func125 rfl rfl (by kernel_rfl) (by kernel_rfl) rfl (aJ ai) rfl ?_
 refine⟨rfl,?_⟩
 refine⟨je,?_⟩
 refine⟨_,_,_,_,qC s ag,⟨rfl,rfl,rfl,rfl,trivial⟩,rfl,?_⟩
 refine⟨rfl,?_⟩
 refine⟨_,_,_,ah.refl _ _,rfl,?_,⟨rfl,rfl,rfl,rfl,rfl,trivial⟩,rfl⟩
 show decide ((p.b:Int) - (p.a:Int)=((wid s:Nat):Int))=kf s p
 unfold kf
 exact decide_eq_decide.2 (by omega)
def mC (s:bE) (p:mA):Bool:= !kf s p&&(decide ((s.t.getD p.c s0).1≠2)&&gC s p.c)
def fq (s:bE) (a l:Nat):Nat→Nat
 |0=>0
 |k+1=>fq s a l k+(if mC s (aT (wid s) a l k)=true then 1 else 0)
theorem V8 (s:bE) (a l k:Nat):fq s a l k≤k:=by
 induction k with
 |zero=>exact Nat.le_refl _
 |succ k aZ=>
  show fq s a l k+_≤k+1
  split <;>omega
@[reducible] def wz:eG:=((2:Int),(0:Int),false)
@[reducible] def x8 (n:Nat):List UInt8:=List.replicate n (0:UInt8)
def wA (s:bE) (p:mA) (y:List UInt8):bE:=if kf s p=true then rI s p.c wz else if(s.t.getD p.c s0).1=2 then s else x4 s p (x8 (p.b - p.a)) y
def en (s:bE) (a l:Nat) (y:Nat→List UInt8):Nat→bE
 |0=>s
 |k+1=>wA (en s a l y k) (aT (wid s) a l k) (y (aT (wid s) a l k).c)
@[reducible] def x9 (s:bE) (R:bq→bN) (b1 b2:Nat):aG:=fE s R++[(4,.cells [.ptr 1001 0]),(7,.cells [.d (.fn (114,[b1,b2]))]),(10,.cells [.eM 125 [.p 4 0]])]
@[reducible] def Eb (s:bE) (R:bq→bN) (b1 b2:Nat) (n:Nat):aG:=fE s R++[(4,.cells [.ptr 1001 0]),(7,.cells [.d (.fn (114,[b1,b2]))]),(10,.cells [.eM 125 [.p 4 0]]),(11,.cells [.d (.int .i64 (n:Int))])]
@[reducible] def Ec (a l:Nat):aQ:=[(1,aC (a:Int)),(2,aC (l:Int)),(4,aH 4),(7,aH 7),(10,aH 10)]
@[reducible] def V9:aQ:=[(1000000+76,.undef),(1000000+117,.undef)]
@[reducible] def Ip (a l:Nat):aQ:=V9++[(1,aC (a:Int)),(2,aC (l:Int)),(4,aH 4),(7,aH 7),(10,aH 10),(11,aH 11)]
theorem zR (s:bE) (aB:s.t.length≤256) (c:Nat) (hc:c < s.t.length):Fn Tryz.prog 76 [aH 1001,aC (c:Int)] (di s) [] (aC (s.t.getD c s0).1) (di s):=by
 have h:=VO s aB c hc
 have e:s.t[c]=s.t.getD c s0:=by rw[List.getD_eq_getElem?_getD,List.getElem?_eq_getElem hc];rfl
 rwa[e] at h
set_option maxHeartbeats 1000000 in
theorem Wa (s:bE) (R:bq→bN) (b1 b2:Nat) (aV:fP s) (a l:Nat) (aE:dK s a l=0) (y:Nat→List UInt8) (r:Int) (s':bE) (gR:zeros s.l < fq s a l (bU (wid s) a l)→r=120∧s'=s) (Im:fq s a l (bU (wid s) a l)≤zeros s.l→r=0∧s'=en s a l y (bU (wid s) a l))
  (Ed:fq s a l (bU (wid s) a l)≤zeros s.l→ ∀k,k≤bU (wid s) a l→fP (en s a l y k)∧(en s a l y k).bits=s.bits∧(en s a l y k).t.length=s.t.length)
  (iY:fq s a l (bU (wid s) a l)≤zeros s.l→ ∀k,k < bU (wid s) a l→kf s (aT (wid s) a l k)=true→Fn Tryz.prog 127 [aH 1001,aC ((aT (wid s) a l k).c:Int),.c (pY wz)] (di (en s a l y k)) [] ry (di (en s a l y (k+1))))
  (mD:fq s a l (bU (wid s) a l)≤zeros s.l→ ∀k,k < bU (wid s) a l→kf s (aT (wid s) a l k)=false→((en s a l y k).t.getD (aT (wid s) a l k).c s0).1≠2→Fn Tryz.prog 119 [aH 1001,qE (aT (wid s) a l k),cI .u8 (x8 ((aT (wid s) a l k).b - (aT (wid s) a l k).a)),nD b1 b2] (fE (en s a l y k) R) [] ry (fE (en s a l y (k+1)) R)):
  Fn Tryz.prog 100 [aH 1001,aC (a:Int),aC (l:Int),nD b1 b2] (fE s R) [] (aC r) (fE s' R):=by
 have dY:=o4 aV.bits
 have hw:=u0 aV.bits
 have dh:=rL aE
 have tP:eV s≤2048:=Nat.mul_le_mul aV.tl (k5 aV.bits).2
 refine Fn.of ai [4,5,6,10,12,18] _ _ _ _ _ Tryz.func100 rfl rfl (by kernel_rfl) (by kernel_rfl) rfl (aJ ai) rfl ?_
 refine⟨rfl,rfl,?_⟩
 refine⟨_,_,_,_,wq s aV a l,⟨rfl,rfl,rfl,rfl,trivial⟩,rfl,?_⟩
 rw[aE]
 refine⟨fun h=>absurd h (by decide),fun _=>?_⟩
 show av _ _ _ _ _ _ _
 refine av.go ai (aJ ai) [5,6] (by kernel_rfl) (ah.refl _ _) ?_
 refine⟨rfl,?_⟩
 show av _ _ _ _ _ _ _
 refine av.go ai (aJ ai) [6] (by kernel_rfl) (ah.sub (K':=Ec a l) (B':=x9 s R b1 b2) ⟨rfl,rfl,rfl,rfl,rfl,trivial⟩ ⟨rfl,rfl,rfl,rfl,rfl,rfl,rfl,rfl,trivial⟩) ?_
 refine⟨rfl,?_⟩
 show av _ _ _ _ _ _ _
 refine av.ro 117 (by decide) (av.ro 76 (by decide) ?_)
 refine av.go ai (aJ ai) [] (by kernel_rfl) (ah.sub (K':=Ip a l) (B':=Eb s R b1 b2 0) ⟨trivial,trivial,rfl,rfl,rfl,rfl,rfl,rfl,trivial⟩ ⟨rfl,rfl,rfl,rfl,rfl,rfl,rfl,rfl,rfl,trivial⟩) ?_
 refine⟨_,_,_,_,zO s a l,⟨rfl,rfl,rfl,rfl,trivial⟩,rfl,?_⟩
 show av _ _ _ _ _ _ _
 refine av.le (ah.sub (K':=(25,.c (.one (.eM 133 [.p 2001 0,.p 2002 0,.p 2003 0])))::Ip a l) (B':=qH a l++Eb s R b1 b2 0) ⟨rfl,trivial,trivial,rfl,rfl,rfl,rfl,rfl,rfl,trivial⟩ ⟨rfl,rfl,rfl,rfl,rfl,rfl,rfl,rfl,rfl,rfl,rfl,rfl,trivial⟩) ?_
 refine av.range ai [9] (pl:=[26]) rfl (by kernel_rfl) (by kernel_rfl) (by kernel_rfl) (by kernel_rfl) [1001,1002,1003,1004,9000,4,7,10,11] _ (Ip a l) (qH a l) (fun k:Nat=>Eb s R b1 b2 (fq s a l k)) 1001 0 (bU (wid s) a l) (fun k vs k'=>k < bU (wid s) a l∧vs=[qE (aT (wid s) a l k)]∧k'=k+1) rfl (by exact⟨trivial,trivial,rfl,rfl,rfl,rfl,rfl,rfl,trivial⟩) rfl rfl ?_ ?_ ?_
 ·rintro k vs k' ⟨aq,rfl,rfl⟩
  obtain⟨hc,rJ⟩:=rK aV dh aq
  obtain⟨dS,cW,dF,dG⟩:=qG dY aq
  have V3:=V8 s a l k
  have bx:mC s (aT (wid s) a l k)=false→fq s a l (k+1)=fq s a l k:=fun hn=>by
   show fq s a l k+_=_
   rw[if_neg (by rw[hn];decide)]
   exact Nat.add_zero _
  have aj:mC s (aT (wid s) a l k)=true→((fq s a l k:Nat):Int)+1=((fq s a l (k+1):Nat):Int):=fun hn=>by
   show _=((fq s a l k+_:Nat):Int)
   rw[if_pos hn]
   omega
  have je:(-9223372036854775808:Int)≤((fq s a l k:Nat):Int)+1∧((fq s a l k:Nat):Int)+1≤9223372036854775807:=by omega
  have Ee:=NM s aV.bits (aT (wid s) a l k) dS (by omega)
  refine⟨rfl,rfl,?_⟩
  refine⟨rfl,?_⟩
  refine⟨rfl,?_⟩
  refine⟨_,_,_,_,Ee,⟨rfl,rfl,rfl,rfl,rfl,trivial⟩,rfl,?_⟩
  refine⟨fun hn=>?_,fun hn=>?_⟩
  ·have hn:kf s (aT (wid s) a l k)=false:=by simpa using hn
   refine⟨_,_,fun N=>xX rfl rfl rfl (zR s aV.tl _ hc) (by exact⟨rfl,rfl,rfl,rfl,trivial⟩) rfl (fun _=>rfl) N,rfl,?_⟩
   refine⟨fun iR=>?_,fun iR=>?_⟩
   ·have iR: ¬(s.t.getD (aT (wid s) a l k).c s0).1=2:=by
     have iR:(!decide ((s.t.getD (aT (wid s) a l k).c s0).1=2))=true:=iR
     simpa using iR
    refine⟨_,_,fun N=>xX rfl rfl rfl (Ia s aV.tl _ hc) (by exact⟨rfl,rfl,rfl,rfl,trivial⟩) rfl (fun _=>rfl) N,rfl,?_⟩
    refine⟨fun Ef=>?_,fun Ef=>?_⟩
    ·have aS:mC s (aT (wid s) a l k)=true:=by
      unfold mC
      rw[hn,decide_eq_true iR,Ef]
      rfl
     show av _ _ _ _ _ _ _
     refine av.go ai (aJ ai) [] (by kernel_rfl) (ah.sub (K':=[(11,aH 11)]) (B':=Eb s R b1 b2 (fq s a l k)) ⟨rfl,trivial⟩ ⟨rfl,rfl,rfl,rfl,rfl,rfl,rfl,rfl,rfl,trivial⟩) ?_
     refine⟨je,?_⟩
     exact⟨rfl,ah.sub trivial ⟨rfl,rfl,rfl,rfl,rfl,rfl,rfl,rfl,by rw[←aj aS];rfl,trivial⟩⟩
    ·have aS:mC s (aT (wid s) a l k)=false:=by
      unfold mC
      rw[Ef,Bool.and_false,Bool.and_false]
     exact⟨rfl,ah.sub trivial ⟨rfl,rfl,rfl,rfl,rfl,rfl,rfl,rfl,by rw[bx aS];rfl,trivial⟩⟩
   ·have iR:(s.t.getD (aT (wid s) a l k).c s0).1=2:=by
     have iR:(!decide ((s.t.getD (aT (wid s) a l k).c s0).1=2))=false:=iR
     simpa using iR
    have aS:mC s (aT (wid s) a l k)=false:=by
     unfold mC
     rw[decide_eq_false (fun h=>h iR),Bool.false_and,Bool.and_false]
    exact⟨rfl,ah.sub trivial ⟨rfl,rfl,rfl,rfl,rfl,rfl,rfl,rfl,by rw[bx aS];rfl,trivial⟩⟩
  ·have hn:kf s (aT (wid s) a l k)=true:=by simpa using hn
   have aS:mC s (aT (wid s) a l k)=false:=by
    unfold mC
    rw[hn]
    rfl
   exact⟨rfl,ah.sub trivial ⟨rfl,rfl,rfl,rfl,rfl,rfl,rfl,rfl,by rw[bx aS];rfl,trivial⟩⟩
 ·intro x7 fD sF aF
  exact zN x7 (wid s) a l dY (by omega) (by omega) fD (fun k=>sF _ _ _ k k (Fn.more [(9000,.dep 1001 R),(4,.cells [.ptr 1001 0]),(7,.cells [.d (.fn (114,[b1,b2]))]),(10,.cells [.eM 125 [.p 4 0]]),(11,.cells [.d (.int .i64 (fq s a l k:Int))])] (qC s aV.bits) rfl rfl) rfl rfl) (fun k aq=>aF k _ (k+1) ⟨aq,rfl,rfl⟩)
 ·have aS:zeros s.l≤512:=Nat.le_trans (HY _) aV.lS
  show av _ _ _ _ _ _ _
  refine av.go ai (aJ ai) [12,18] (by kernel_rfl) (ah.refl _ _) ?_
  refine⟨_,_,_,_,Nx s (by have:=aV.lS;omega),⟨rfl,rfl,rfl,rfl,trivial⟩,rfl,?_⟩
  refine⟨rfl,?_⟩
  refine⟨fun h=>?_,fun h=>?_⟩
  ·have h:((zeros s.l:Nat):Int) < ((fq s a l (bU (wid s) a l):Nat):Int):=of_decide_eq_true h
   obtain⟨rfl,rfl⟩:=gR (by omega)
   exact⟨_,_,_,ah.refl _ _,rfl,rfl,⟨rfl,rfl,rfl,rfl,rfl,trivial⟩,rfl⟩
  have h: ¬((zeros s.l:Nat):Int) < ((fq s a l (bU (wid s) a l):Nat):Int):=of_decide_eq_false h
  have dJ:fq s a l (bU (wid s) a l)≤zeros s.l:=by omega
  obtain⟨rfl,rfl⟩:=Im dJ
  have Ed:=Ed dJ
  have iY:=iY dJ
  have mD:=mD dJ
  show av _ _ _ _ _ _ _
  refine av.go ai (aJ ai) [18] (by kernel_rfl) (ah.sub (K':=Ec a l) (B':=x9 s R b1 b2) ⟨rfl,rfl,rfl,rfl,rfl,trivial⟩ ⟨rfl,rfl,rfl,rfl,rfl,rfl,rfl,rfl,trivial⟩) ?_
  refine⟨_,_,_,_,zO s a l,⟨rfl,rfl,rfl,rfl,trivial⟩,rfl,?_⟩
  show av _ _ _ _ _ _ _
  refine av.le (ah.sub (K':=(52,.c (.one (.eM 133 [.p 2001 0,.p 2002 0,.p 2003 0])))::Ec a l) (B':=qH a l++x9 s R b1 b2) ⟨rfl,rfl,rfl,rfl,rfl,rfl,trivial⟩ ⟨rfl,rfl,rfl,rfl,rfl,rfl,rfl,rfl,rfl,rfl,rfl,trivial⟩) ?_
  refine av.range ai [15,16,17] (pl:=[53]) rfl (by kernel_rfl) (by kernel_rfl) (by kernel_rfl) (by kernel_rfl) [1001,1002,1003,1004,9000,4,7,10] _ (Ec a l) (qH a l) (fun k:Nat=>x9 (en s a l y k) R b1 b2) 1001 0 (bU (wid s) a l) (fun k vs k'=>k < bU (wid s) a l∧vs=[qE (aT (wid s) a l k)]∧k'=k+1) rfl (by exact⟨rfl,rfl,rfl,rfl,rfl,trivial⟩) rfl rfl ?_ ?_ ?_
  ·rintro k vs k' ⟨aq,rfl,rfl⟩
   obtain⟨hc,rJ⟩:=rK aV dh aq
   obtain⟨dS,cW,dF,dG⟩:=qG dY aq
   obtain⟨fJ,iJ,qF⟩:=Ed k (Nat.le_of_lt aq)
   have iY:=iY k aq
   have mD:=mD k aq
   have wB:wid (en s a l y k)=wid s:=congrArg (fun b=>16*2 ^b) iJ
   have Ee:=NM (en s a l y k) fJ.bits (aT (wid s) a l k) dS (by omega)
   rw[show kf (en s a l y k) (aT (wid s) a l k)=kf s (aT (wid s) a l k) by unfold kf;rw[wB]] at Ee
   have Wb:kf s (aT (wid s) a l k)=false→kf (en s a l y k) (aT (wid s) a l k)=false:=fun h=>by
    unfold kf
    rw[wB]
    exact h
   have Wc:en s a l y (k+1)=wA (en s a l y k) (aT (wid s) a l k) (y (aT (wid s) a l k).c):=rfl
   refine⟨rfl,rfl,?_⟩
   refine⟨rfl,?_⟩
   refine⟨rfl,?_⟩
   refine⟨_,_,_,_,Ee,⟨rfl,rfl,rfl,rfl,rfl,trivial⟩,rfl,?_⟩
   refine⟨fun hn=>?_,fun hn=>?_⟩
   ·have iY:=iY hn
    show av _ _ _ _ _ _ _
    refine av.go ai (aJ ai) [] (by kernel_rfl) (ah.sub (K':=[(4,aH 4),(13,aH 13)]) (B':=(13,.cells (u5 (aT (wid s) a l k)))::x9 (en s a l y k) R b1 b2) ⟨rfl,rfl,trivial⟩ ⟨rfl,rfl,rfl,rfl,rfl,rfl,rfl,rfl,rfl,trivial⟩) ?_
    refine⟨_,_,_,_,Fn.arg iY ⟨rfl,rfl,⟨rfl,rfl,rfl,trivial⟩,trivial⟩,⟨rfl,rfl,rfl,rfl,trivial⟩,rfl,?_⟩
    exact⟨rfl,ah.sub trivial ⟨rfl,rfl,rfl,rfl,rfl,rfl,rfl,rfl,trivial⟩⟩
   ·show av _ _ _ _ _ _ _
    refine av.go ai (aJ ai) [17] (by kernel_rfl) (ah.sub (K':=[(4,aH 4),(7,aH 7),(13,aH 13)]) (B':=(13,.cells (u5 (aT (wid s) a l k)))::x9 (en s a l y k) R b1 b2) ⟨rfl,rfl,rfl,trivial⟩ ⟨rfl,rfl,rfl,rfl,rfl,rfl,rfl,rfl,rfl,trivial⟩) ?_
    refine⟨_,_,_,_,zR (en s a l y k) fJ.tl _ (by rw[qF];exact hc),⟨rfl,rfl,rfl,rfl,trivial⟩,rfl,?_⟩
    refine⟨fun iR=>?_,fun iR=>?_⟩
    ·have iR: ¬((en s a l y k).t.getD (aT (wid s) a l k).c s0).1=2:=by
      have iR:(!decide (((en s a l y k).t.getD (aT (wid s) a l k).c s0).1=2))=true:=iR
      simpa using iR
     have mD:=mD hn iR
     have je:(-9223372036854775808:Int)≤((aT (wid s) a l k).b:Int) - ((aT (wid s) a l k).a:Int)∧((aT (wid s) a l k).b:Int) - ((aT (wid s) a l k).a:Int)≤9223372036854775807:=by omega
     have mB:((aT (wid s) a l k).b:Int) - ((aT (wid s) a l k).a:Int)=((aT (wid s) a l k).b:Int) - ((aT (wid s) a l k).a:Int)∧(0:Int)≤((aT (wid s) a l k).b:Int) - ((aT (wid s) a l k).a:Int)∧((aT (wid s) a l k).b:Int) - ((aT (wid s) a l k).a:Int)≤4294967296:=by omega
     show av _ _ _ _ _ _ _
     refine av.go ai (aJ ai) [] (by kernel_rfl) (ah.sub (K':=[(4,aH 4),(7,aH 7),(13,aH 13)]) (B':=(13,.cells (u5 (aT (wid s) a l k)))::x9 (en s a l y k) R b1 b2) ⟨rfl,rfl,rfl,trivial⟩ ⟨rfl,rfl,rfl,rfl,rfl,rfl,rfl,rfl,rfl,trivial⟩) ?_
     refine⟨je,mB,rfl,?_⟩
     have hx:x8 ((aT (wid s) a l k).b - (aT (wid s) a l k).a)=List.replicate (((aT (wid s) a l k).b:Int) - ((aT (wid s) a l k).a:Int)).toNat (0:UInt8):=by
      rw[show(((aT (wid s) a l k).b:Int) - ((aT (wid s) a l k).a:Int)).toNat=(aT (wid s) a l k).b - (aT (wid s) a l k).a by omega]
     rw[hx] at mD
     refine⟨_,_,_,_,Fn.own (d:=76) (args:=[aH 1001,qE (aT (wid s) a l k),iO 76,nD b1 b2]) (e:=5) (u:=.u8) (xs:=List.replicate (((aT (wid s) a l k).b:Int) - ((aT (wid s) a l k).a:Int)).toNat (0:UInt8)) mD rfl,⟨rfl,rfl,rfl,rfl,rfl,rfl,trivial⟩,rfl,?_⟩
     refine⟨rfl,?_⟩
     exact⟨rfl,ah.sub trivial ⟨rfl,rfl,rfl,rfl,rfl,rfl,rfl,rfl,trivial⟩⟩
    ·have iR:((en s a l y k).t.getD (aT (wid s) a l k).c s0).1=2:=by
      have iR:(!decide (((en s a l y k).t.getD (aT (wid s) a l k).c s0).1=2))=false:=iR
      simpa using iR
     have e:en s a l y (k+1)=en s a l y k:=by
      rw[Wc]
      unfold wA
      rw[Wb hn,if_neg (by decide),if_pos iR]
     rw[e]
     exact⟨rfl,ah.sub trivial ⟨rfl,rfl,rfl,rfl,rfl,rfl,rfl,rfl,trivial⟩⟩
  ·intro x7 fD sF aF
   have h:=zN x7 (wid s) a l dY (by omega) (by omega) (fun k=>fD (min k (bU (wid s) a l))) (fun k=>sF _ _ _ (min k (bU (wid s) a l)) (min k (bU (wid s) a l)) (by
    obtain⟨fJ,ag,qF⟩:=Ed (min k (bU (wid s) a l)) (Nat.min_le_right _ _)
    have af:=qC (en s a l y (min k (bU (wid s) a l))) (by rw[ag];exact aV.bits)
    rw[show wid (en s a l y (min k (bU (wid s) a l)))=wid s from congrArg (fun b=>16*2 ^b) ag] at af
    exact Fn.more [(9000,.dep 1001 R),(4,.cells [.ptr 1001 0]),(7,.cells [.d (.fn (114,[b1,b2]))]),(10,.cells [.eM 125 [.p 4 0]])] af rfl rfl) rfl rfl) (fun k aq=>by
    have h:=aF k _ (k+1) ⟨aq,rfl,rfl⟩
    rw[Nat.min_eq_left (by omega),Nat.min_eq_left (by omega)]
    exact h)
   simp only[Nat.zero_min,Nat.min_self] at h
   exact h
  ·show av _ _ _ _ _ _ _
   refine av.go ai (aJ ai) [] (by kernel_rfl) (ah.refl _ _) ?_
   exact⟨_,_,_,ah.refl _ _,rfl,rfl,⟨rfl,rfl,rfl,rfl,rfl,trivial⟩,rfl⟩
theorem NN {l:List Int} {h:Nat} {n m:Int} (aB:l[h]? =some n):zeros (l.set h m)+(if n=0 then 1 else 0)=zeros l+(if m=0 then 1 else 0):=by
 induction l generalizing h with
 |nil=>simp at aB
 |cons x l aZ=>
  match h with
  |0=>
   simp only[List.getElem?_cons_zero,Option.some.injEq] at aB
   subst aB
   simp only[List.set_cons_zero]
   unfold zeros
   rw[List.filter_cons,List.filter_cons]
   by_cases aa:x=0 <;>by_cases af:m=0 <;>simp[aa,af] <;>omega
  |h+1=>
   have aB:l[h]? =some n:=by simpa using aB
   have:=aZ aB
   simp only[List.set_cons_succ]
   unfold zeros at*
   rw[List.filter_cons,List.filter_cons]
   by_cases aa:x=0 <;>simp[aa] <;>omega
theorem Iq {xs ys:List UInt8} {a n:Nat} (aa:a+n≤xs.length) (af:ys.length=n):(laid xs a n ys).length=xs.length:=by
 unfold laid
 rw[List.length_append,List.length_append,List.length_take,List.length_take,List.length_drop]
 omega
structure zS (s s':bE) (p:mA) (bs y:List UInt8):Prop where
 ok:fP s'
 bits:s'.bits=s.bits
 tl:s'.t.length=s.t.length
 lS:s'.l.length=s.l.length
 gD: ∀c,c≠p.c→s'.t[c]? =s.t[c]? ∧ ∀z,dZ s' c z=dZ s c z
 there: ∀z,dZ s' p.c z=laid (dZ s p.c (some y)) p.a (p.b - p.a) bs
 jM:gC s' p.c=false
 jV:zeros s'.l+(if gC s p.c=true then 1 else 0)=zeros s.l
theorem Wd {s:bE} {c:Nat} {h:Int} {xs:List UInt8} (aa:s.t[c]? =some ((1:Int),h,true)) (af:s.f h=some xs) (z:Option (List UInt8)):dZ s c z=xs:=by
 unfold dZ
 rw[aa]
 simp only[if_pos,af,Option.getD_some]
theorem Ir {s s':bE} {c:Nat} (ag:s'.bits=s.bits) (cc:s'.t[c]? =s.t[c]?) (hf: ∀h,s.t[c]? =some ((1:Int),h,true)→s'.f h=s.f h) (aV:fP s) (z:Option (List UInt8)):dZ s' c z=dZ s c z:=by
 have aS:jV s'=jV s:=by unfold jV wid;rw[ag]
 have hw:wid s'=wid s:=by unfold wid;rw[ag]
 unfold dZ
 rw[cc]
 cases e:s.t[c]? with
 |none=>rfl
 |some q=>
  simp only
  rcases aV.slot c q e with h |h |⟨h,ak,_⟩
  ·rw[h,aS,hw];rfl
  ·rw[h,aS];rfl
  ·rw[ak] at e
   rw[ak,hf _ e,aS,hw]
theorem We {s:bE} {c:Nat} {h:Int} (aa:s.t[c]? =some ((1:Int),h,true)):gC s c=false:=by
 unfold gC wg
 rw[zJ aa]
 rfl
theorem Wf {s:bE} (aV:fP s) {c:Nat} (hc:c < s.t.length) (y:List UInt8) (aS:gC s c=true→0 < zeros s.l):
  (mY s c y).bits=s.bits∧(mY s c y).l.length=s.l.length∧(∀d,d≠c→(mY s c y).t[d]? =s.t[d]? ∧ ∀h,s.t[d]? =some ((1:Int),h,true)→(mY s c y).f h=s.f h)∧zeros (mY s c y).l+(if gC s c=true then 1 else 0)=zeros s.l:=by
 unfold mY
 by_cases hn:gC s c=true
 ·rw[if_pos hn,if_pos hn]
  obtain⟨fB,n4⟩:=Ib (aS hn)
  refine⟨rfl,List.length_set,fun d hd=>⟨List.getElem?_set_ne (Ne.symm hd),fun h bZ=>?_⟩,?_⟩
  ·show(if h=(hG s.l:Int) then _ else s.f h)=s.f h
   rw[if_neg]
   intro e
   rcases aV.slot d _ bZ with ak |ak |⟨h',ak,ay,_⟩
   ·cases ak
   ·cases ak
   ·have:h=(h':Int):=by injection ak with _ ak;injection ak
    have:h'=hG s.l:=by omega
    rw[this,fB] at ay
    cases ay
  ·have:=NN (m:=1) fB
   simpa using this
 ·rw[if_neg hn,if_neg hn]
  exact⟨rfl,rfl,fun d _=>⟨rfl,fun _ _=>rfl⟩,rfl⟩
theorem Is {s:bE} (aV:fP s) {p:mA} (hc:p.c < s.t.length) {bs y:List UInt8} (aa:p.a≤p.b) (af:p.b≤wid s) (ay:bs.length=p.b - p.a) (aS:gC s p.c=true→0 < zeros s.l):zS s (x4 s p bs y) p bs y:=by
 obtain⟨fJ,iJ,qF,h,u6,wo⟩:=NF aV hc y aS
 obtain⟨r1,r2,gv,mU⟩:=Wf aV hc y aS
 have cP:=x5 aV hc (some y)
 unfold x4
 generalize mY s p.c y=s' at*
 generalize Dn:dZ s p.c (some y)=xs at*
 have zL:=zJ u6
 have e:D9 s' p bs={s' with f:=jt s'.f (h:Int) (laid xs p.a (p.b - p.a) bs)}:=by
  unfold D9
  rw[zL]
  simp only[wo,Option.getD_some]
 rw[e]
 have qx:=Iq (xs:=xs) (ys:=bs) (a:=p.a) (n:=p.b - p.a) (by omega) ay
 have Wg: ∀(d:Nat) (k:Int),d≠p.c→s'.t[d]? =some ((1:Int),k,true)→jt s'.f (h:Int) (laid xs p.a (p.b - p.a) bs) k=s'.f k:=fun d k hd aq=>by
  unfold jt
  rw[if_neg]
  intro e
  subst e
  exact hd (fJ.inj d p.c _ aq u6)
 refine⟨⟨fJ.bits,fJ.tl,fJ.lS,fun c q bp=>?_,fJ.inj,fJ.cnt,fun k aq=>?_,fJ.used,ND fJ.dom (by rw[qx,cP];exact NC aV.bits)⟩,r1,qF,r2,fun c nu=>⟨(gv c nu).1,fun z=>?_⟩,fun z=>by rw[Dn];exact Wd (s:={s' with f:=jt s'.f (h:Int) (laid xs p.a (p.b - p.a) bs)}) u6 (if_pos rfl) z,We (s:={s' with f:=jt s'.f (h:Int) (laid xs p.a (p.b - p.a) bs)}) u6,mU⟩
 ·rcases fJ.slot c q bp with e |e |⟨k,e,g1,ys,g2,bL⟩
  ·exact .inl e
  ·exact .inr (.inl e)
  ·refine .inr (.inr ⟨k,e,g1,?_⟩)
   by_cases aq:(k:Int)=(h:Int)
   ·exact⟨_,if_pos aq,by rw[qx,cP,←iJ];rfl⟩
   ·exact⟨ys,(if_neg aq).trans g2,bL⟩
 ·show(if(k:Int)=(h:Int) then _ else s'.f k)=none
  rw[if_neg]
  ·exact fJ.free k aq
  ·intro e
   have:k=h:=by omega
   subst this
   rcases fJ.slot p.c _ u6 with e |e |⟨j,e,g1,_⟩
   ·cases e
   ·cases e
   ·have:(k:Int)=(j:Int):=by injection e with _ e;injection e
    have:k=j:=by omega
    rw[this,g1] at aq
    cases aq
 ·refine Ir (s:=s) (s':={s' with f:=jt s'.f (h:Int) (laid xs p.a (p.b - p.a) bs)}) r1 (gv c nu).1 (fun k aq=>?_) aV z
  rw[←(gv c nu).2 k aq]
  exact Wg c k nu ((gv c nu).1.trans aq)
structure Eg (s s':bE) (c:Nat) (q:eG):Prop where
 ok:fP s'
 bits:s'.bits=s.bits
 tl:s'.t.length=s.t.length
 lS:s'.l.length=s.l.length
 gD: ∀d,d≠c→s'.t[d]? =s.t[d]? ∧ ∀z,dZ s' d z=dZ s d z
 there:s'.t[c]? =some q
 jV:zeros s.l≤zeros s'.l
theorem Eh {s:bE} (aV:fP s) {c:Nat} (hc:c < s.t.length) {q:eG} (bp:q=s0∨q=wz):Eg s (rI s c q) c q:=by
 have hold:s.t[c]? =some (s.t.getD c s0):=by rw[List.getD_eq_getElem?_getD,List.getElem?_eq_getElem hc];rfl
 have zx: ∀h:Int,q≠((1:Int),h,true):=fun h e=>by rcases bp with bp |bp <;>rw[bp] at e <;>cases e
 have zT:q=s0∨q=((2:Int),(0:Int),false):=bp
 unfold rI zI
 rcases zK aV hc with⟨_,h⟩ |⟨_,h,aa,af,xs,ay,bu⟩
 ·have hn: ¬(s.t.getD c s0).1=1:=by rcases h with h |h <;>rw[h] <;>decide
  rw[if_neg hn]
  refine⟨⟨aV.bits,by show(s.t.set _ _).length≤256;rw[List.length_set];exact aV.tl,aV.lS,fun d r hr=>?_,fun d e k hd he=>?_,aV.cnt,aV.free,fun k aq=>?_,aV.dom⟩,rfl,List.length_set,rfl,fun d hd=>⟨List.getElem?_set_ne (Ne.symm hd),fun z=>Ir (s:=s) (s':={s with t:=s.t.set c q}) rfl (List.getElem?_set_ne (Ne.symm hd)) (fun _ _=>rfl) aV z⟩,List.getElem?_set_self hc,Nat.le_refl _⟩
  ·rw[List.getElem?_set] at hr
   split at hr
   ·injection hr with hr
    rw[←hr]
    exact zT.imp id .inl
   ·exact aV.slot d r hr
  ·rw[List.getElem?_set] at hd he
   split at hd
   ·injection hd with hd;exact absurd hd (zx k)
   ·split at he
    ·injection he with he;exact absurd he (zx k)
    ·exact aV.inj d e k hd he
  ·obtain⟨d,hd⟩:=aV.used k aq
   have bg:c≠d:=fun e=>by
    subst e
    rw[hold] at hd
    injection hd with hd
    rw[hd] at hn
    exact hn rfl
   exact⟨d,(List.getElem?_set_ne bg).trans hd⟩
 ·have bk:=zJ aa
  rw[bk,if_pos rfl]
  have bF:h < s.l.length:=(List.getElem?_eq_some_iff.1 af).1
  have bx:((h:Int)).toNat=h:=rfl
  simp only[bx]
  have other: ∀(d k:Nat),d≠c→s.t[d]? =some ((1:Int),(k:Int),true)→k≠h:=fun d k hd aq e=>by
   subst e
   exact hd (aV.inj d c _ aq aa)
  refine⟨⟨aV.bits,by show(s.t.set _ _).length≤256;rw[List.length_set];exact aV.tl,by show(s.l.set _ _).length≤512;rw[List.length_set];exact aV.lS,fun d r hr=>?_,fun d e k hd he=>?_,fun k n aq=>?_,fun k aq=>?_,fun k aq=>?_,fun k xs aq=>aV.dom k xs (by
   have aq:(if k=(h:Int) then none else s.f k)=some xs:=aq
   split at aq
   ·cases aq
   ·exact aq)⟩,rfl,List.length_set,List.length_set,fun d hd=>⟨List.getElem?_set_ne (Ne.symm hd),fun z=>Ir (s:=s) (s':={s with t:=s.t.set c q,l:=s.l.set h 0,f:=BL s.f (h:Int)}) rfl (List.getElem?_set_ne (Ne.symm hd)) (fun k aq=>?_) aV z⟩,List.getElem?_set_self hc,?_⟩
  ·rw[List.getElem?_set] at hr
   split at hr
   ·injection hr with hr
    rw[←hr]
    exact zT.imp id .inl
   ·rename_i bg
    rcases aV.slot d r hr with e |e |⟨k,e,g1,ys,g2,bL⟩
    ·exact .inl e
    ·exact .inr (.inl e)
    ·have aq:=other d k (Ne.symm bg) (e▸hr)
     exact .inr (.inr ⟨k,e,by show(s.l.set h 0)[k]? =some 1;rw[List.getElem?_set_ne (Ne.symm aq)];exact g1,ys,by show(if(k:Int)=(h:Int) then none else s.f k)=some ys;rw[if_neg (by omega)];exact g2,bL⟩)
  ·rw[List.getElem?_set] at hd he
   split at hd
   ·injection hd with hd;exact absurd hd (zx k)
   ·split at he
    ·injection he with he;exact absurd he (zx k)
    ·exact aV.inj d e k hd he
  ·rw[List.getElem?_set] at aq
   split at aq
   ·injection aq with aq;exact .inl aq.symm
   ·exact aV.cnt k n aq
  ·show(if(k:Int)=(h:Int) then none else s.f k)=none
   by_cases e:k=h
   ·rw[if_pos (by omega)]
   ·rw[if_neg (by omega)]
    rw[List.getElem?_set_ne (fun ak=>e ak.symm)] at aq
    exact aV.free k aq
  ·by_cases e:k=h
   ·subst e
    rw[List.getElem?_set_self bF] at aq
    cases aq
   ·rw[List.getElem?_set_ne (fun ak=>e ak.symm)] at aq
    obtain⟨d,hd⟩:=aV.used k aq
    have bg:c≠d:=fun ak=>by
     subst ak
     rw[aa] at hd
     injection hd with hd
     have:(h:Int)=(k:Int):=by injection hd with _ hd;injection hd
     omega
    exact⟨d,(List.getElem?_set_ne bg).trans hd⟩
  ·rcases aV.slot d _ aq with e |e |⟨j,e,_⟩
   ·cases e
   ·cases e
   ·have au:k=(j:Int):=by injection e with _ e;injection e
    subst au
    have:=other d j hd aq
    show(if(j:Int)=(h:Int) then none else s.f j)=s.f j
    rw[if_neg (by omega)]
  ·have:=NN (m:=0) af
   simp at this
   show zeros s.l≤zeros (s.l.set h 0)
   omega
theorem BR {s s':bE} {c:Nat} (h:s'.t[c]? =s.t[c]?):gC s' c=gC s c:=by
 unfold gC
 rw[List.getD_eq_getElem?_getD,List.getD_eq_getElem?_getD,h]
structure ju (s s':bE):Prop where
 ok:fP s'
 bits:s'.bits=s.bits
 tl:s'.t.length=s.t.length
 lS:s'.l.length=s.l.length
theorem ju.refl {s:bE} (h:fP s):ju s s:=⟨h,rfl,rfl,rfl⟩
theorem ju.trans {s s' BS:bE} (h:ju s s') (k:ju s' BS):ju s BS:=⟨k.ok,k.bits.trans h.bits,k.tl.trans h.tl,k.lS.trans h.lS⟩
theorem ju.wid {s s':bE} (h:ju s s'):wid s'=wid s:=congrArg (fun b=>16*2 ^b) h.bits
theorem zS.eD {s s':bE} {p:mA} {bs y:List UInt8} (h:zS s s' p bs y):ju s s':=⟨h.ok,h.bits,h.tl,h.lS⟩
theorem Eg.eD {s s':bE} {c:Nat} {q:eG} (h:Eg s s' c q):ju s s':=⟨h.ok,h.bits,h.tl,h.lS⟩
def qI (s s':bE) (c:Nat):Prop:=s'.t[c]? =s.t[c]? ∧ ∀z,dZ s' c z=dZ s c z
theorem qI.refl (s:bE) (c:Nat):qI s s c:=⟨rfl,fun _=>rfl⟩
theorem qI.trans {s s' BS:bE} {c:Nat} (h:qI s s' c) (k:qI s' BS c):qI s BS c:=⟨k.1.trans h.1,fun z=>(k.2 z).trans (h.2 z)⟩
def It (s:bE) (R:bq→bN) (b1 b2:Nat) (y:Nat→List UInt8):Prop:= ∀s',ju s s'→ ∀(c:Nat) (h:c < s'.t.length),(s'.t[c]).1=0→D8 s' R b1 b2 c (y c)
theorem Wh (s:bE) (a l:Nat) {j k:Nat} (h:j≤k):fX s a l j≤fX s a l k:=by
 induction k with
 |zero=>
    have:j=0:=by omega
    rw[this];exact Nat.le_refl _
 |succ k aZ=>
  by_cases e:j=k+1
  ·rw[e];exact Nat.le_refl _
  ·have:=aZ (by omega)
   show fX s a l j≤fX s a l k+_
   omega
theorem BT {bs:List UInt8} {p:mA} (aa:p.a≤p.b) (af:p.at_+(p.b - p.a)≤bs.length):(lU bs p).length=p.b - p.a:=by
 unfold lU
 rw[List.length_drop,List.length_take]
 omega
structure Ei (s:bE) (a l:Nat) (bs:List UInt8) (y:Nat→List UInt8) (k:Nat):Prop where
 eD:ju s (gJ s a l bs y k)
 jV:zeros (gJ s a l bs y k).l+fX s a l k=zeros s.l
 gD: ∀c,(c < 16*a/wid s∨16*a/wid s+k≤c)→qI s (gJ s a l bs y k) c
 done: ∀j,j < k→gC (gJ s a l bs y k) (16*a/wid s+j)=false∧ ∀z,dZ (gJ s a l bs y k) (16*a/wid s+j) z=laid (dZ s (16*a/wid s+j) (some (y (16*a/wid s+j)))) (aT (wid s) a l j).a ((aT (wid s) a l j).b - (aT (wid s) a l j).a) (lU bs (aT (wid s) a l j))
theorem NO {s:bE} (aV:fP s) {a l:Nat} {bs:List UInt8} (e6:bs.length=16*l) (dh:a+l≤eV s) {y:Nat→List UInt8} (dJ:fX s a l (bU (wid s) a l)≤zeros s.l) {k:Nat} (h:Ei s a l bs y k) (aq:k < bU (wid s) a l):zS (gJ s a l bs y k) (gJ s a l bs y (k+1)) (aT (wid s) a l k) (lU bs (aT (wid s) a l k)) (y (aT (wid s) a l k).c)∧(gC (gJ s a l bs y k) (aT (wid s) a l k).c=true→0 < zeros (gJ s a l bs y k).l):=by
 have dY:=o4 aV.bits
 obtain⟨dS,cW,dF,dG⟩:=qG dY aq
 obtain⟨hc,_⟩:=rK aV dh aq
 have mW:=h.gD (16*a/wid s+k) (.inr (Nat.le_refl _))
 have aS:gC (gJ s a l bs y k) (aT (wid s) a l k).c=true→0 < zeros (gJ s a l bs y k).l:=fun hn=>by
  have bf:gC (gJ s a l bs y k) (aT (wid s) a l k).c=gC s (aT (wid s) a l k).c:=BR mW.1
  rw[bf] at hn
  have aa:=Wh s a l (show k+1≤bU (wid s) a l from aq)
  have af:fX s a l (k+1)=fX s a l k+1:=by
   show fX s a l k+_=_
   rw[if_pos hn]
  have:=h.jV
  omega
 exact⟨Is h.eD.ok (by rw[h.eD.tl];exact hc) dS (by rw[h.eD.wid];exact cW) (BT dS (by omega)) aS,aS⟩
theorem BU {s:bE} (aV:fP s) {a l:Nat} {bs:List UInt8} (e6:bs.length=16*l) (dh:a+l≤eV s) (y:Nat→List UInt8) (dJ:fX s a l (bU (wid s) a l)≤zeros s.l): ∀k,k≤bU (wid s) a l→Ei s a l bs y k∧(k < bU (wid s) a l→zS (gJ s a l bs y k) (gJ s a l bs y (k+1)) (aT (wid s) a l k) (lU bs (aT (wid s) a l k)) (y (aT (wid s) a l k).c)∧(gC (gJ s a l bs y k) (aT (wid s) a l k).c=true→0 < zeros (gJ s a l bs y k).l))
 |0,aq=>by
  have aE:Ei s a l bs y 0:=⟨ju.refl aV,rfl,fun c _=>qI.refl s c,fun j au=>absurd au (by omega)⟩
  exact⟨aE,fun aq=>NO aV e6 dh dJ aE aq⟩
 |k+1,aq=>by
  obtain⟨h,hs⟩:=BU aV e6 dh y dJ k (by omega)
  have gx:k < bU (wid s) a l:=by omega
  obtain⟨hp,_⟩:=hs gx
  have u9:(aT (wid s) a l k).c=16*a/wid s+k:=rfl
  have mW:=h.gD (16*a/wid s+k) (.inr (Nat.le_refl _))
  have aa:Ei s a l bs y (k+1):=by
   refine⟨h.eD.trans hp.eD,?_,fun c hc=>?_,fun j au=>?_⟩
   ·have aj:=hp.jV
    have ak:=h.jV
    have bf:gC (gJ s a l bs y k) (aT (wid s) a l k).c=gC s (aT (wid s) a l k).c:=BR mW.1
    rw[bf] at aj
    show zeros _+(fX s a l k+_)=_
    omega
   ·exact(h.gD c (hc.imp id fun h=>by omega)).trans (hp.gD c (by rw[u9];omega))
   ·by_cases e:j=k
    ·subst e
     refine⟨hp.jM,fun z=>?_⟩
     have:=hp.there z
     rw[u9] at this
     rw[this,mW.2]
    ·obtain⟨g1,g2⟩:=h.done j (by omega)
     have hf:=hp.gD (16*a/wid s+j) (by rw[u9];omega)
     exact⟨(BR hf.1).trans g1,fun z=>(hf.2 z).trans (g2 z)⟩
  exact⟨aa,fun aq=>NO aV e6 dh dJ aa aq⟩
def BV (s:bE) (a l:Nat):Int:=if fX s a l (bU (wid s) a l)≤zeros s.l then 0 else 120
def ya (s:bE) (a l:Nat) (bs:List UInt8) (y:Nat→List UInt8):bE:=if fX s a l (bU (wid s) a l)≤zeros s.l then gJ s a l bs y (bU (wid s) a l) else s
theorem Wi (s:bE) (R:bq→bN) (b1 b2:Nat) (aV:fP s) (a l:Nat) (bs:List UInt8) (e6:bs.length=16*l) (aE:dK s a l=0) (y:Nat→List UInt8) (dy:It s R b1 b2 y):
  Fn Tryz.prog 91 [aH 1001,aC (a:Int),cI .u8 bs,nD b1 b2] (fE s R) [] (aC (BV s a l)) (fE (ya s a l bs y) R):=by
 have dh:=rL aE
 refine V2 s R b1 b2 aV a l bs e6 aE y _ _ (fun h=>⟨if_neg (by omega),if_neg (by omega)⟩) (fun h=>⟨if_pos h,if_pos h⟩) (fun dJ k aq=>?_) (fun dJ k aq=>(BU aV e6 dh y dJ k aq).1.eD.bits)
 obtain⟨h,hs⟩:=BU aV e6 dh y dJ k (Nat.le_of_lt aq)
 obtain⟨_,aS⟩:=hs aq
 obtain⟨dS,cW,dF,dG⟩:=qG (o4 aV.bits) aq
 obtain⟨hc,_⟩:=rK aV dh aq
 have dc:(aT (wid s) a l k).c < (gJ s a l bs y k).t.length:=by rw[h.eD.tl];exact hc
 exact NH (gJ s a l bs y k) R b1 b2 h.eD.ok (aT (wid s) a l k) dc (lU bs (aT (wid s) a l k)) dS (by rw[h.eD.wid];exact cW) (BT dS (by omega)) (y (aT (wid s) a l k).c) (fun e=>dy _ h.eD _ dc e) aS
theorem NP {s:bE} (aV:fP s) {a l:Nat} {bs:List UInt8} (e6:bs.length=16*l) (aE:dK s a l=0) (y:Nat→List UInt8):ju s (ya s a l bs y):=by
 unfold ya
 split
 ·rename_i h;exact(BU aV e6 (rL aE) y h _ (Nat.le_refl _)).1.eD
 ·exact ju.refl aV
structure Iu (s:bE) (a l:Nat) (k:Nat):Prop where
 eD:ju s (iT s a l k)
 gD: ∀c,(c < 16*a/wid s∨16*a/wid s+k≤c)→qI s (iT s a l k) c
 done: ∀j,j < k→if(aT (wid s) a l j).b - (aT (wid s) a l j).a=wid s then(iT s a l k).t[16*a/wid s+j]? =some s0 else qI s (iT s a l k) (16*a/wid s+j)
theorem zU {s:bE} (aV:fP s) {a l:Nat} (dh:a+l≤eV s): ∀k,k≤bU (wid s) a l→Iu s a l k
 |0,_=>⟨ju.refl aV,fun c _=>qI.refl s c,fun j au=>absurd au (by omega)⟩
 |k+1,aq=>by
  have h:=zU aV dh k (by omega)
  have gx:k < bU (wid s) a l:=by omega
  obtain⟨hc,_⟩:=rK aV dh gx
  have u9:(aT (wid s) a l k).c=16*a/wid s+k:=rfl
  have mW:=h.gD (16*a/wid s+k) (.inr (Nat.le_refl _))
  by_cases e:(aT (wid s) a l k).b - (aT (wid s) a l k).a=wid s
  ·have aj:iT s a l (k+1)=rI (iT s a l k) (aT (wid s) a l k).c s0:=if_pos e
   have hp:=Eh h.eD.ok (c:=(aT (wid s) a l k).c) (by rw[h.eD.tl];exact hc) (q:=s0) (.inl rfl)
   rw[←aj] at hp
   refine⟨h.eD.trans hp.eD,fun c hc=>(h.gD c (hc.imp id fun h=>by omega)).trans (hp.gD c (by rw[u9];omega)),fun j au=>?_⟩
   by_cases tN:j=k
   ·subst tN
    rw[if_pos e]
    exact hp.there
   ·have g:=h.done j (by omega)
    have hf:=hp.gD (16*a/wid s+j) (by rw[u9];omega)
    split
    ·rename_i ak
     rw[if_pos ak] at g
     exact hf.1.trans g
    ·rename_i ak
     rw[if_neg ak] at g
     exact g.trans hf
  ·have aj:iT s a l (k+1)=iT s a l k:=if_neg e
   rw[show Iu s a l (k+1)↔Iu s a l (k+1) from Iff.rfl]
   refine⟨by rw[aj];exact h.eD,fun c hc=>by rw[aj];exact h.gD c (hc.imp id fun h=>by omega),fun j au=>?_⟩
   rw[aj]
   by_cases tN:j=k
   ·subst tN
    rw[if_neg e]
    exact mW
   ·exact h.done j (by omega)
def Iv (s:bE) (a l:Nat):bE:=iT s a l (bU (wid s) a l)
theorem NQ {s:bE} (aV:fP s) {c:Nat} (hc:c < s.t.length):(s.t.getD c s0).1=1→ ∃h:Nat,(s.t.getD c s0).2.1=(h:Int)∧s.l[h]? =some 1:=fun aa=>by
 rcases zK aV hc with⟨_,h⟩ |⟨_,h,g1,g2,_⟩
 ·rcases h with h |h <;>rw[h] at aa <;>cases aa
 ·exact⟨h,by rw[zJ g1],g2⟩
theorem Wj (s:bE) (aV:fP s) (a l:Nat) (aE:dK s a l=0):Fn Tryz.prog 102 [aH 1001,aC (a:Int),aC (l:Int)] (di s) [] (aC 0) (di (Iv s a l)):=by
 have dh:=rL aE
 refine V6 s aV a l aE (fun k aq=>?_) (fun k aq=>(zU aV dh k aq).eD.bits)
 have h:=zU aV dh k (Nat.le_of_lt aq)
 obtain⟨hc,_⟩:=rK aV dh aq
 have dc:(aT (wid s) a l k).c < (iT s a l k).t.length:=by rw[h.eD.tl];exact hc
 exact H9 (iT s a l k) h.eD.ok.tl _ dc s0 ⟨by decide,by decide⟩ rfl (NQ h.eD.ok dc)
structure NR (s:bE) (a l:Nat) (y:Nat→List UInt8) (k:Nat):Prop where
 eD:ju s (en s a l y k)
 jV:zeros s.l≤zeros (en s a l y k).l+fq s a l k
 gD: ∀c,(c < 16*a/wid s∨16*a/wid s+k≤c)→qI s (en s a l y k) c
theorem Wk (s:bE) (a l:Nat) {j k:Nat} (h:j≤k):fq s a l j≤fq s a l k:=by
 induction k with
 |zero=>
    have:j=0:=by omega
    rw[this];exact Nat.le_refl _
 |succ k aZ=>
  by_cases e:j=k+1
  ·rw[e];exact Nat.le_refl _
  ·have:=aZ (by omega)
   show fq s a l j≤fq s a l k+_
   omega
theorem Ej {s s':bE} (h:ju s s') (p:mA):kf s' p=kf s p:=by unfold kf;rw[h.wid]
theorem Iw {s:bE} {a l:Nat} {y:Nat→List UInt8} (dJ:fq s a l (bU (wid s) a l)≤zeros s.l) {k:Nat} (h:NR s a l y k) (aq:k < bU (wid s) a l) (hw:kf s (aT (wid s) a l k)=false) (af:((en s a l y k).t.getD (aT (wid s) a l k).c s0).1≠2):
  gC (en s a l y k) (aT (wid s) a l k).c=true→0 < zeros (en s a l y k).l:=fun hn=>by
 have mW:=h.gD (16*a/wid s+k) (.inr (Nat.le_refl _))
 have bf:gC (en s a l y k) (aT (wid s) a l k).c=gC s (aT (wid s) a l k).c:=BR mW.1
 have cF:(en s a l y k).t.getD (aT (wid s) a l k).c s0=s.t.getD (aT (wid s) a l k).c s0:=by
  rw[List.getD_eq_getElem?_getD,List.getD_eq_getElem?_getD]
  exact congrArg (fun o=>o.getD s0) mW.1
 rw[bf] at hn
 rw[cF] at af
 have aS:mC s (aT (wid s) a l k)=true:=by
  unfold mC
  rw[hw,decide_eq_true af,hn]
  rfl
 have aa:=Wk s a l (show k+1≤bU (wid s) a l from aq)
 have ay:fq s a l (k+1)=fq s a l k+1:=by
  show fq s a l k+_=_
  rw[if_pos aS]
 have:=h.jV
 omega
theorem zV {s:bE} (aV:fP s) {a l:Nat} (dh:a+l≤eV s) (y:Nat→List UInt8) (dJ:fq s a l (bU (wid s) a l)≤zeros s.l): ∀k,k≤bU (wid s) a l→NR s a l y k
 |0,_=>⟨ju.refl aV,Nat.le_add_right _ _,fun c _=>qI.refl s c⟩
 |k+1,aq=>by
  have h:=zV aV dh y dJ k (by omega)
  have gx:k < bU (wid s) a l:=by omega
  obtain⟨hc,_⟩:=rK aV dh gx
  obtain⟨dS,cW,dF,dG⟩:=qG (o4 aV.bits) gx
  have u9:(aT (wid s) a l k).c=16*a/wid s+k:=rfl
  have dc:(aT (wid s) a l k).c < (en s a l y k).t.length:=by rw[h.eD.tl];exact hc
  have mW:=h.gD (16*a/wid s+k) (.inr (Nat.le_refl _))
  have yL:fq s a l (k+1)=fq s a l k+(if mC s (aT (wid s) a l k)=true then 1 else 0):=rfl
  have aj:en s a l y (k+1)=wA (en s a l y k) (aT (wid s) a l k) (y (aT (wid s) a l k).c):=rfl
  unfold wA at aj
  rw[Ej h.eD] at aj
  by_cases hw:kf s (aT (wid s) a l k)=true
  ·rw[if_pos hw] at aj
   have hp:=Eh h.eD.ok (c:=(aT (wid s) a l k).c) dc (q:=wz) (.inr rfl)
   rw[←aj] at hp
   refine⟨h.eD.trans hp.eD,?_,fun c hc=>(h.gD c (hc.imp id fun h=>by omega)).trans (hp.gD c (by rw[u9];omega))⟩
   have:=hp.jV
   have:=h.jV
   omega
  ·have hw:kf s (aT (wid s) a l k)=false:=by simpa using hw
   rw[hw,if_neg (by decide)] at aj
   by_cases af:((en s a l y k).t.getD (aT (wid s) a l k).c s0).1=2
   ·rw[if_pos af] at aj
    refine⟨by rw[aj];exact h.eD,?_,fun c hc=>by rw[aj];exact h.gD c (hc.imp id fun h=>by omega)⟩
    rw[aj]
    have:=h.jV
    omega
   ·rw[if_neg af] at aj
    have hp:=Is (y:=y (aT (wid s) a l k).c) (bs:=x8 ((aT (wid s) a l k).b - (aT (wid s) a l k).a)) h.eD.ok dc dS (by rw[h.eD.wid];exact cW) List.length_replicate (Iw dJ h gx hw af)
    rw[←aj] at hp
    refine⟨h.eD.trans hp.eD,?_,fun c hc=>(h.gD c (hc.imp id fun h=>by omega)).trans (hp.gD c (by rw[u9];omega))⟩
    have eY:=hp.jV
    have bf:gC (en s a l y k) (aT (wid s) a l k).c=gC s (aT (wid s) a l k).c:=BR mW.1
    have cF:(en s a l y k).t.getD (aT (wid s) a l k).c s0=s.t.getD (aT (wid s) a l k).c s0:=by
     rw[List.getD_eq_getElem?_getD,List.getD_eq_getElem?_getD]
     exact congrArg (fun o=>o.getD s0) mW.1
    rw[cF] at af
    have aS:mC s (aT (wid s) a l k)=gC s (aT (wid s) a l k).c:=by
     unfold mC
     rw[hw,decide_eq_true af]
     rfl
    rw[bf,←aS] at eY
    have:=h.jV
    omega
def yb (s:bE) (a l:Nat):Int:=if fq s a l (bU (wid s) a l)≤zeros s.l then 0 else 120
def ve (s:bE) (a l:Nat) (y:Nat→List UInt8):bE:=if fq s a l (bU (wid s) a l)≤zeros s.l then en s a l y (bU (wid s) a l) else s
theorem Wl (s:bE) (R:bq→bN) (b1 b2:Nat) (aV:fP s) (a l:Nat) (aE:dK s a l=0) (y:Nat→List UInt8) (dy:It s R b1 b2 y):
  Fn Tryz.prog 100 [aH 1001,aC (a:Int),aC (l:Int),nD b1 b2] (fE s R) [] (aC (yb s a l)) (fE (ve s a l y) R):=by
 have dh:=rL aE
 refine Wa s R b1 b2 aV a l aE y _ _ (fun h=>⟨if_neg (by omega),if_neg (by omega)⟩) (fun h=>⟨if_pos h,if_pos h⟩) (fun dJ k aq=>?_) (fun dJ k aq hw=>?_) (fun dJ k aq hw af=>?_)
 ·have h:=(zV aV dh y dJ k aq).eD
  exact⟨h.ok,h.bits,h.tl⟩
 ·have h:=zV aV dh y dJ k (Nat.le_of_lt aq)
  obtain⟨hc,_⟩:=rK aV dh aq
  have dc:(aT (wid s) a l k).c < (en s a l y k).t.length:=by rw[h.eD.tl];exact hc
  have aj:en s a l y (k+1)=rI (en s a l y k) (aT (wid s) a l k).c wz:=if_pos ((Ej h.eD _).trans hw)
  rw[aj]
  exact H9 (en s a l y k) h.eD.ok.tl _ dc wz ⟨by decide,by decide⟩ rfl (NQ h.eD.ok dc)
 ·have h:=zV aV dh y dJ k (Nat.le_of_lt aq)
  obtain⟨hc,_⟩:=rK aV dh aq
  obtain⟨dS,cW,dF,dG⟩:=qG (o4 aV.bits) aq
  have dc:(aT (wid s) a l k).c < (en s a l y k).t.length:=by rw[h.eD.tl];exact hc
  have aj:en s a l y (k+1)=x4 (en s a l y k) (aT (wid s) a l k) (x8 ((aT (wid s) a l k).b - (aT (wid s) a l k).a)) (y (aT (wid s) a l k).c):=by
   show wA _ _ _=_
   unfold wA
   rw[Ej h.eD,hw,if_neg (by decide),if_neg af]
  rw[aj]
  exact NH (en s a l y k) R b1 b2 h.eD.ok (aT (wid s) a l k) dc _ dS (by rw[h.eD.wid];exact cW) List.length_replicate _ (fun e=>dy _ h.eD _ dc e) (Iw dJ h aq hw af)
theorem NS {s:bE} (aV:fP s) {a l:Nat} (aE:dK s a l=0) (y:Nat→List UInt8):ju s (ve s a l y):=by
 unfold ve
 split
 ·rename_i h;exact(zV aV (rL aE) y h _ (Nat.le_refl _)).eD
 ·exact ju.refl aV
theorem Wm (s:bE) (R:bq→bN) (b1 b2:Nat) (aV:fP s) (a l:Int) (aE:dK s a l≠0):Fn Tryz.prog 100 [aH 1001,aC a,aC l,nD b1 b2] (fE s R) [] (aC (dK s a l)) (fE s R):=by
 refine Fn.of ai [] _ _ _ _ _ Tryz.func100 rfl rfl (by kernel_rfl) (by kernel_rfl) rfl (aJ ai) rfl ?_
 refine⟨rfl,rfl,?_⟩
 refine⟨_,_,_,_,wq s aV a l,⟨rfl,rfl,rfl,rfl,trivial⟩,rfl,?_⟩
 refine⟨fun _=>?_,fun h=>absurd (show dK s a l=0 by have h:(!decide (dK s a l=0))=false:=h;simpa using h) aE⟩
 exact⟨_,_,_,ah.refl _ _,rfl,rfl,⟨rfl,rfl,rfl,rfl,rfl,trivial⟩,rfl⟩
def iz (bits size room:Nat):bE:=⟨bits,List.replicate size s0,List.replicate room (0:Int),HZ⟩
theorem NT {bits size room:Nat} (aa:bits≤3) (af:size≤256) (ay:room≤512):fP (iz bits size room):=by
 have cc: ∀(c:Nat) (q:eG),(iz bits size room).t[c]? =some q→q=s0:=fun c q h=>by
  have h:(List.replicate size s0)[c]? =some q:=h
  rw[List.getElem?_replicate] at h
  split at h
  ·injection h with h;exact h.symm
  ·cases h
 have aB: ∀(h:Nat) n,(iz bits size room).l[h]? =some n→n=0:=fun h n e=>by
  have e:(List.replicate room (0:Int))[h]? =some n:=e
  rw[List.getElem?_replicate] at e
  split at e
  ·injection e with e;exact e.symm
  ·cases e
 refine⟨aa,by show(List.replicate size s0).length≤256;rw[List.length_replicate];exact af,by show(List.replicate room (0:Int)).length≤512;rw[List.length_replicate];exact ay,fun c q bp=>.inl (cc c q bp),fun c d h hc hd=>?_,fun h n hn=>.inl (aB h n hn),fun h _=>rfl,fun h bZ=>?_,fun k xs aq=>(by cases aq)⟩
 ·have:=cc c _ hc;cases this
 ·have:=aB h _ bZ;cases this
def jf (bits size room:Int):Bool:=decide (0≤size)&&decide (size≤256)&&(decide (0≤room)&&decide (room≤512))&&(decide (0≤bits)&&decide (bits≤3))
theorem Wn (bits size room:Nat) (aa:bits≤3) (af:size≤256) (ay:room≤512):Fn Tryz.prog 47 [aC (bits:Int),aC (size:Int),aC (room:Int)] [] [1001,1002,1003,1004] (.c6 [.one (.ptr 1001 0),fh 0]) (di (iz bits size room)):=by
 refine Fn.of ai [3] _ _ _ _ _ Tryz.func47 rfl rfl (by kernel_rfl) (by kernel_rfl) rfl (aJ ai) rfl ?_
 refine⟨_,_,_,_,Fn.ren [(1001,1002),(1002,2002)] (HX size af),trivial,rfl,?_⟩
 refine⟨_,_,_,_,Fn.ren [(1001,1003),(1002,2003)] (DY (room:Int) (by omega) (by omega)),trivial,rfl,?_⟩
 show av _ _ _ _ _ _ _
 refine av.go ai (aJ ai) [] (by kernel_rfl) (ah.sub (K':=[(0,aC (bits:Int)),(8,aH 1002),(9,aC 0),(10,aH 1003),(11,aC 0)]) (B':=[(1002,.obj (rE (List.replicate size s0))),(1003,.obj (rF (List.replicate room (0:Int))))]) ⟨rfl,rfl,rfl,rfl,rfl,trivial⟩ ⟨rfl,rfl,trivial⟩) ?_
 refine⟨fun h=>absurd h (by decide),fun _=>?_⟩
 refine⟨fun h=>absurd h (by decide),fun _=>?_⟩
 refine⟨fun h=>?_,fun h=>?_⟩
 ·exfalso
  have h:(bits:Int) < 0:=of_decide_eq_true h
  omega
 refine⟨fun h=>?_,fun h=>?_⟩
 ·exfalso
  have h:(3:Int) < (bits:Int):=of_decide_eq_true h
  omega
 refine⟨rfl,?_⟩
 refine⟨rfl,?_⟩
 exact⟨_,_,_,(ah.ren 41 1001 rfl).trans ((ah.ren 39 1004 rfl).trans (ah.Nv 1004 rfl)),rfl,⟨rfl,rfl,trivial⟩,⟨rfl,rfl,rfl,rfl,trivial⟩,rfl⟩
theorem Wo {bits size room:Int} (h:jf bits size room=false): ¬(0≤size∧size≤256)∨ ¬(0≤room∧room≤512)∨ ¬(0≤bits∧bits≤3):=by
 unfold jf at h
 by_cases aa:0≤size∧size≤256
 ·by_cases af:0≤room∧room≤512
  ·by_cases ay:0≤bits∧bits≤3
   ·rw[decide_eq_true aa.1,decide_eq_true aa.2,decide_eq_true af.1,decide_eq_true af.2,decide_eq_true ay.1,decide_eq_true ay.2] at h
    cases h
   ·exact .inr (.inr ay)
  ·exact .inr (.inl af)
 ·exact .inl aa
theorem Wp (bits size room:Int) (h:jf bits size room=false):Fn Tryz.prog 47 [aC bits,aC size,aC room] [] [] (.c6 [zz,fh 1]) []:=by
 have ag:=Wo h
 refine Fn.of ai [] _ _ _ _ _ Tryz.func47 rfl rfl (by kernel_rfl) (by kernel_rfl) rfl (aJ ai) rfl ?_
 by_cases aa:0≤size∧size≤256
 ·obtain⟨sn,rfl⟩: ∃n:Nat,size=(n:Int):=⟨size.toNat,by omega⟩
  refine⟨_,_,_,_,Fn.ren [(1001,1002),(1002,2002)] (HX sn (by omega)),trivial,rfl,?_⟩
  by_cases af:0≤room∧room≤512
  ·refine⟨_,_,_,_,Fn.ren [(1001,1003),(1002,2003)] (DY room (by omega) (by omega)),trivial,rfl,?_⟩
   refine⟨fun h=>absurd h (by decide),fun _=>?_⟩
   refine⟨fun h=>absurd h (by decide),fun _=>?_⟩
   refine⟨fun _=>?_,fun ay=>?_⟩
   ·exact⟨_,_,_,ah.refl _ _,rfl,⟨rfl,rfl,trivial⟩,trivial,rfl⟩
   ·refine⟨fun _=>?_,fun bu=>?_⟩
    ·exact⟨_,_,_,ah.refl _ _,rfl,⟨rfl,rfl,trivial⟩,trivial,rfl⟩
    ·exfalso
     have ay: ¬bits < 0:=of_decide_eq_false ay
     have bu: ¬(3:Int) < bits:=of_decide_eq_false bu
     omega
  ·refine⟨_,_,_,_,Nr room af,trivial,rfl,?_⟩
   refine⟨fun h=>absurd h (by decide),fun _=>?_⟩
   refine⟨fun _=>?_,fun h=>absurd h (by decide)⟩
   exact⟨_,_,_,ah.refl _ _,rfl,⟨rfl,rfl,trivial⟩,trivial,rfl⟩
 ·refine⟨_,_,_,_,Vp size aa,trivial,rfl,?_⟩
  by_cases af:0≤room∧room≤512
  ·refine⟨_,_,_,_,Fn.ren [(1001,1003),(1002,2003)] (DY room (by omega) (by omega)),trivial,rfl,?_⟩
   refine⟨fun _=>?_,fun h=>absurd h (by decide)⟩
   exact⟨_,_,_,ah.refl _ _,rfl,⟨rfl,rfl,trivial⟩,trivial,rfl⟩
  ·refine⟨_,_,_,_,Nr room af,trivial,rfl,?_⟩
   refine⟨fun _=>?_,fun h=>absurd h (by decide)⟩
   exact⟨_,_,_,ah.refl _ _,rfl,⟨rfl,rfl,trivial⟩,trivial,rfl⟩
end Go.Proofs.YteoamepgonpdlaaGreat
namespace Go.Proofs.YteoamepgonpdlaaGreat
open Go.RowKit
theorem Fn.via {P:Program} {f:FuncId} {args:List aO} {aR:aG} {bA:List Nat} {res:aO} {bl:aG} {X:Type} {args':X→List aO} {yc:X→aG} {q9:X→aG} {jS:X→List Nat} {res':X→aO} {yd:X→aG} (iQ:mN P f=true) (n:Nat) (hn:args.length=n)
  (dz:gI (cQ aR) (sj 0 args) aR (fun x=>sj 0 (args' x)) yc) (h: ∀x,Fn P f (args' x) (q9 x) (jS x) (res' x) (yd x)) (ja: ∀x,nT (yc x) (q9 x)) (cr: ∀x,(rW (cQ aR) (sj 0 (args' x)) (yc x) (jS x)&&pH (q9 x) (jS x) (yd x))=true) (hlen: ∀x,(args' x).length=n)
  (oc: ∀x,∃(r:aO) (jx:aG),ah (cQ aR) ((n,res' x)::sj 0 (args' x)) (fe (jO (q9 x) (yd x)) (yc x)) [(n,r)] jx∧s4 r res∧nT jx bl∧(res.among (cQ aR++bA)&&xB (cQ aR++bA) bl&&(cQ bl).all (fun c=>(cQ aR++bA).contains c))=true):Fn P f args aR bA res bl:=by
 refine⟨iQ,fun ρ F I w bW bC dW hF fU ri eu=>?_⟩
 let C:Ctx:=⟨w,I,fun b=> ∃c ch,ax aR c=some ch∧F c b,ρ,[]⟩
 let a:Act:={tmps:=(bW++[undef]).toArray,defers:=[]}
 have sk:Ext I w (bO C aR F w) w:=fun b ag=>⟨⟨bC b ag,.inl ag,fun c ch hc qt=>(hF c ch hc b qt).2 ag⟩,rfl⟩
 have Wq:Mem (cQ aR) C aR ρ F w:=⟨Fr.refl _ _,fun c ch hc=>Holds.cy sk (fun _ _=>rfl) (Nat.le_refl _) ch (fun _ _=>rfl) (dW c ch hc),fun c ch hc b ag=>⟨(hF c ch hc b ag).1,.inl ⟨c,ch,hc,ag⟩⟩,fU,fun c _=>rfl,List.nodup_nil,fun b ag=>ag.elim (bC b) fun⟨c,ch,hc,A8⟩=>(hF c ch hc b A8).1,fun D cq=>by cases cq⟩
 have iP: ∀(i:Nat) (aD:i < bW.length),a.tmps.getD i undef=bW[i]:=fun i aD=>by
  show(bW++[undef]).toArray.getD i undef=_
  rw[Array.getD_eq_getD_getElem?,List.getElem?_toArray,List.getElem?_append_left aD,List.getElem?_eq_getElem aD]
  rfl
 have Wr:Sat (n+1) (cQ aR) C (sj 0 args) aR a w:=by
  refine⟨by show(bW++[undef]).toArray.size=n+1;simp[ri,hn],rfl,ρ,F,Wq,fun s=>?_⟩
  rw[A6]
  simp only[Nat.zero_le,if_true,Nat.sub_zero]
  cases hs:args[s]? with
  |none=>trivial
  |some v=>
   have bF:s < bW.length:=by rw[ri];exact(List.getElem?_eq_some_iff.1 hs).1
   simp only[Option.getD_some]
   have hx:bW[s]? =some bW[s]:=List.getElem?_eq_getElem bF
   have:=b8.mono sk v _ (fun _ _=>rfl) (eu s v _ hs hx)
   rw[iP s bF]
   exact this
 obtain⟨x,tq,pM,sy,cH,aA,hS⟩:=dz (n+1) C a w Wr
 have qz: ∀{c ch},ax (q9 x) c=some ch→ax (yc x) c=some ch:=fun {c ch} hc=>kO (ja x) hc
 have cr:=cr x
 rw[Bool.and_eq_true] at cr
 have hc:=(h x).2 sy cH (bO C (yc x) cH w) w bW (fun b ag=>ag.1) (fun c ch hc=>aA.holds c ch (qz hc)) (fun c ch hc b ag=>⟨(aA.own c ch (qz hc) b ag).1,fun bC=>bC.2.2 c ch (qz hc) ag⟩)
  (fun c bS ch ch' b aa af=>aA.e8 c bS ch ch' b (qz aa) (qz af)) (by rw[ri,hn,hlen x]) (fun i v y hv aF=>by
   have aD:i < bW.length:=(List.getElem?_eq_some_iff.1 aF).1
   have aa:=hS i
   rw[A6] at aa
   simp only[Nat.zero_le,if_true,Nat.sub_zero,hv,Option.getD_some] at aa
   rw[iP i aD] at aa
   rw[List.getElem?_eq_getElem aD] at aF
   injection aF with aF
   rw[←aF]
   exact aa)
 refine hc.mono ?_
 rintro e w' ⟨y,uI,cU,rfl,cC,cR,I',fo,gU,Ws,Wt,Wu,Wv⟩
 have xI:=Sat.back (dst:=some n) (ja x) cr.1 cr.2 tq pM aA hS (fun d hd=>by injection hd with hd;omega) cC cR gU Ws Wt Wu Wv
 obtain⟨r,jx,hle,Ix,Ek,pR⟩:=oc x
 obtain⟨Ef,zW,ρ',F',bR,A9⟩:=hle _ _ _ _ xI
 simp only[Bool.and_eq_true] at pR
 let zE:Nat→bq:=fun c=>if c∈bA then ρ' c else ρ c
 have Iy: ∀c,c∈cQ aR++bA→zE c=ρ' c:=fun c hc=>by
  show(if c∈bA then ρ' c else ρ c)=ρ' c
  split
  ·rfl
  ·rename_i hn
   rcases List.mem_append.1 hc with h |h
   ·exact(bR.keep c h).symm
   ·exact absurd h hn
 have sg:b8 ρ' (bO C jx F' w') w' res y:=by
  have aa:=A9 n
  rw[kJ,if_pos rfl] at aa
  have af:(a.put (some n) y).tmps.getD n undef=y:=KN (by show n < (bW++[undef]).toArray.size;simp[ri,hn])
  rw[af] at aa
  exact xC Ix aa
 refine⟨y,zE,F',rfl,bR.jo,fun c hc=>if_neg hc,bO C jx F' w',?_,fun b ag=>⟨ag.1,?_⟩,?_,?_,?_,?_⟩
 ·intro b ag
  have vU: ¬C.qj b:=fun⟨c,ch,aa,af⟩=>(hF c ch aa b af).2 ag
  refine⟨⟨Nat.lt_of_lt_of_le (bC b ag) bR.jo.size,.inl ag,fun c ch hc qt=>?_⟩,bR.jo.block b (bC b ag) vU⟩
  rcases(bR.own c ch hc b qt).2 with h |h
  ·exact vU h
  ·have:=bC b ag;exact absurd h.1 (Nat.not_le.2 this)
 ·rcases ag.2.1 with h |h |h
  ·exact .inl h
  ·exact .inr (.inl h)
  ·exact .inr (.inr h.1)
 ·intro c ch hc
  have aq:c∈cQ aR++bA:=by
   have:=List.all_eq_true.1 pR.2 c (gu.2 ⟨ch,hc⟩)
   simpa only[List.contains_iff_mem] using this
  rw[Iy c aq]
  exact Holds.cy (Ext.refl _ _) (fun _ _=>rfl) (Nat.le_refl _) ch (fun d hd=>Iy d (bw.kQ (zi pR.1.2 hc) hd)) (bR.holds c ch (kO Ek hc))
 ·intro c ch hc b ag
  have dm:=kO Ek hc
  exact⟨(bR.own c ch dm b ag).1,fun aD=>aD.2.2 c ch dm ag,(bR.own c ch dm b ag).2.imp id fun x=>x.1⟩
 ·exact fun c bS ch ch' b aa af=>bR.e8 c bS ch ch' b (kO Ek aa) (kO Ek af)
 ·exact b8.mono (Ext.refl _ _) res y (fun c hc=>Iy c (aO.kQ pR.1.1 hc)) sg
end Go.Proofs.YteoamepgonpdlaaGreat
namespace Go.Proofs.YteoamepgonpdlaaGreat
open Go.RowKit Go.Proofs
def bN.ch (ch:bw) (h: ∀c,ch.has c=false):bN where
 R:=fun I F w p=>Holds (fun _=>p) I F w p ch
 cy:=fun I F w I' w' p bZ he hF aS=>Holds.cy he hF aS ch (fun c hc=>absurd hc (by rw[h c];decide)) bZ
theorem bN.Ww {ch:bw} (h: ∀c,ch.has c=false) {ρ:Nat→bq} {I F:Nat→Prop} {w:World} {p:bq} (bZ:Holds ρ I F w p ch):(bN.ch ch h).R I F w p:=
 Holds.cy (Ext.refl _ _) (fun _ _=>rfl) (Nat.le_refl _) ch (fun c hc=>absurd hc (by rw[h c];decide)) bZ
section
variable {P:Program} {ids:List Nat} {K:aQ} {B:aG}
theorem ov {o:Oper} {x:Operand} {b:Nat} (az:o.op= .nilCheck x) (hx:aU K x= .c (.one (.d (.aY (some b))))) (N:Nat):bH P N ids o K B (.c (.one (.d (.aY (some b))))) ⟨[],[],[]⟩:=by
 have hm:x∈o.op.operands:=by rw[az];simp[Op.operands]
 refine bH.val fun K' B' g1 g2 C ρ F a w aA hS=>?_
 have hv:a.eval x= .pointer (some ⟨b,0,none⟩):=hS.ev ((g1 x hm).trans hx)
 exact⟨.pointer (some ⟨b,0,none⟩),by simp[execOp,az,hv],rfl⟩
theorem ow {o:Oper} {T:TypeId} {x:Operand} {f b off:Nat} {fs:Array Field} {fd:Field} (az:o.op= .fieldAddr T x f) (cn:P.underlying T=some (.struct fs)) (pI:fs[f]? =some fd) (BW:fd.offset=off) {i:TypeInfo} (aD:P.info? fd.type=some i) (dH:i.size≠0) (hx:aU K x= .c (.one (.d (.aY (some b))))) (N:Nat):
  bH P N ids o K B (.c (.one (.raw (.pointer (some ⟨b,off,none⟩))))) ⟨[],[],[]⟩:=by
 have hm:x∈o.op.operands:=by rw[az];simp[Op.operands]
 refine bH.val fun K' B' g1 g2 C ρ F a w aA hS=>?_
 have hv:a.eval x= .pointer (some ⟨b,0,none⟩):=hS.ev ((g1 x hm).trans hx)
 have h:=Dc hv az cn pI BW aD dH (w:=w)
 rw[Nat.zero_add] at h
 exact⟨.pointer (some ⟨b,off,none⟩),h,rfl⟩
theorem Wx {I:Nat→Prop} {w:World} {L:List (Nat×bN)} {F:Nat→Prop} {b:Nat} {l:List bD} {h: ∀c,(bw.cells l).has c=false} (bh:fW I w L F) (cG:jr L b=some (bN.ch (.cells l) h)) {j:Nat} {x:D} (au:l[j]? =some (.d x)): ∃v,w.cell? ⟨b,j,none⟩=some v∧Den I w x v:=by
 obtain⟨cH,cU,p,cz,er,eX,gi,zw⟩:=bh.out cG
 obtain⟨aa,vs,eN,af,ay⟩:=gi
 obtain⟨v,hv,hd⟩:=bV.get _ _ ay j _ au
 rw[eX] at af
 exact⟨v,cell_of af hv,hd⟩
theorem p4 {o:Oper} {T:TypeId} {x:Operand} {q b j:Nat} {y:D} {L:List (Nat×bN)} {l:List bD} {h: ∀c,(bw.cells l).has c=false} {d:TypeDesc} (az:o.op= .load T x) (cn:P.underlying T=some d) (hd:d.isRow=false) (hx:aU K x= .c (.one (.raw (.pointer (some ⟨b,j,none⟩)))))
  (bp:ax B q=some (.obj (.cM L))) (cG:jr L b=some (bN.ch (.cells l) h)) (au:l[j]? =some (.d y)) (N:Nat):bH P N ids o K B (.c (.one (.d y))) ⟨[q],[],[]⟩:=by
 have hm:x∈o.op.operands:=by rw[az];simp[Op.operands]
 refine bH.val fun K' B' g1 g2 C ρ F a w aA hS=>?_
 have bh:fW (bO C B' F w) w L (F q):=aA.holds q _ ((g2 q (by simp)).trans bp)
 have hv:a.eval x= .pointer (some ⟨b,j,none⟩):=hS.ev ((g1 x hm).trans hx)
 obtain⟨v,aa,af⟩:=Wx bh cG au
 exact⟨v,Gs az hv cn hd aa,af⟩
theorem NU {o:Oper} {T:TypeId} {x v:Operand} {q b j:Nat} {y:D} {L:List (Nat×bN)} {l:List bD} {h: ∀c,(bw.cells l).has c=false} {h': ∀c,(bw.cells (l.set j (.d y))).has c=false} {i:TypeInfo} (az:o.op= .store T x v) (aD:P.info? T=some i) (aS:i.size=1) (hx:aU K x= .c (.one (.raw (.pointer (some ⟨b,j,none⟩)))))
  (hv:aU K v= .c (.one (.d y))) (bp:ax B q=some (.obj (.cM L))) (cG:jr L b=some (bN.ch (.cells l) h)) (au:j < l.length) (aa: ∀{I:Nat→Prop} {w:World} {z:Value},Den I w y z→z.cells=List.toArray [z]∧z.oneCell'=true) (N:Nat):
  bH P N ids o K B .undef ⟨[q],[],[(q,some (.obj (.cM (jc L b (bN.ch (.cells (l.set j (.d y))) h')))))]⟩:=by
 have m1:x∈o.op.operands:=by rw[az];simp[Op.operands]
 have m2:v∈o.op.operands:=by rw[az];simp[Op.operands]
 refine bH.jP bp fun K' B' g1 C ρ F a w aA hS M7=>?_
 have bh:fW (bO C B' F w) w L (F q):=aA.holds q _ M7
 obtain⟨cH,cU,p,cz,er,eX,gi,zw⟩:=bh.out cG
 obtain⟨aW,vs,eN,aX,bT⟩:=gi
 have aj:a.eval x= .pointer (some ⟨b,j,none⟩):=hS.ev ((g1 x m1).trans hx)
 have ak:Den (bO C B' F w) w y (a.eval v):=hS.ev ((g1 v m2).trans hv)
 obtain⟨d1,d2⟩:=aa ak
 have hlen:vs.length=l.length:=bV.length _ _ bT
 rw[eX] at aX
 have ep:=y3 (P:=P) (o:=o) (ev:=a.eval) (w:=w) (us:=[a.eval v]) az aj d1 aD aS aX (by simp;omega) (fun z aS=>by rw[List.mem_singleton] at aS;rw[aS];exact d2)
 have iY:(w.setRow b (List.toArray (vs.take j++[a.eval v]++vs.drop (j+ [a.eval v].length)))).heap[b]? =some (.cells (List.toArray (vs.take j++[a.eval v]++vs.drop (j+ [a.eval v].length))) eN (0,0)):=setRow_heap w _ _ _ eN _ aX
 have pW:cH b:=(aW b).2 eX.symm
 have qt:F q b:=(cz b).2 (.inl pW)
 refine⟨_,ep,⟨rfl,rfl,rfl,by simp[World.setRow],fun k _ aq=>setRow_other w _ k _ (fun e=>aq (e▸qt))⟩,fun I bz=>?_⟩
 have eu: ∀(l:List bD) (vs:List Value) (j:Nat),j < l.length→bV (fun _=>p) (bO C B' F w) w l vs→bV (fun _=>p) (bO C B' F w) w (l.set j (.d y)) (vs.take j++[a.eval v]++vs.drop (j+1)):=fun l=>by
  induction l with
  |nil=>intro vs j au;simp at au
  |cons s l aZ=>
   rintro _ j au ⟨u,r,rfl,cC,cR⟩
   match j with
   |0=>exact⟨a.eval v,r,by simp,ak,cR⟩
   |j+1=>exact⟨u,_,rfl,cC,aZ r j (by simpa using au) cR⟩
 have M4:(fun z=>cH z∨cU z)=F q:=funext fun z=>propext (cz z).symm
 rw[←M4]
 exact zw I _ (bN.ch (.cells (l.set j (.d y))) h') cH p bz (by simp[World.setRow]) (fun z aS=>setRow_other w _ z _ (fun e=>er b pW (e▸aS))) eX
  ⟨aW,_,eN,by rw[eX];exact iY,bV.mono bz _ _ (fun _ _=>rfl) (eu l vs j au bT)⟩ er
theorem Wy {o:Oper} {T kt et:TypeId} {x i v:Operand} {c d q:Nat} (az:o.op= .mapUpdate T x i v) (cn:P.underlying T=some (.map kt et)) {dk:TypeDesc} (qB:P.underlying kt=some dk) {aN:U} (rG:nQ aN dk=true)
  (hx:aU K x= .c (.one (.mp c))) {key:aI aN} (aq:yR aN (aU K i)=some key) (hv:aU K v= .c (.one (.ptr d 0))) {es:List (aI aN×aI .aY)} {L:List (Nat×bN)} {l:List bD} {h: ∀c,(bw.cells l).has c=false} (hc:ax B c=some (.map aN .aY es)) (hd:ax B d=some (.cells l)) (bp:ax B q=some (.obj (.cM L)))
  (sC:c≠d) (El:c≠q) (NV:d≠q) (ha: ∀p∈L,p.2.uU):
  DP P ids o K B (fun v' e=> ∃b:Nat,b∉L.map (·.1)∧v'= .undef∧e=⟨[c,d,q],[],[(d,none),(c,some (.map aN .aY (fc (aN:=aN) (aP:=.aY) es key (some b)))),(q,some (.obj (.cM ((b,bN.ch (.cells l) h)::L))))]⟩):=by
 rintro N C a w ⟨hn,o3,ρ,F,aA,hS⟩ bF fl Q hK
 obtain⟨pN,cX,clock,bu,dI,kr⟩:=aA.holds c _ hc
 have zX:=aA.holds d _ hd
 have bh:fW (bO C B F w) w L (F q):=aA.holds q _ bp
 have aj:=hS.mp hx
 have ak:a.eval i=ir aN key:=Dk aq (hS.ev rfl)
 have bf:a.eval v= .pointer (some ⟨(ρ d).bI,0,none⟩):=hS.ev hv
 have cF:kI (bO C B F w) w .aY (some (ρ d).bI:aI .aY) (a.eval v):=by
  rw[bf]
  exact⟨rfl,⟨fun _=>rfl,fun h=>by cases h⟩,rfl⟩
 obtain⟨g6,lF,hr,gB,r7⟩:=CS (P:=P) cn qB rG bu dI kr key cF
 have BM:=(Array.getElem?_eq_some_iff.1 bu).1
 have Wz:F d (ρ d).bI:=(zX.1 _).2 rfl
 have Iz:(ρ d).bI∉L.map (·.1):=fun ag=>aA.e8 d q _ _ _ hd bp NV Wz (Hs ha bh ag)
 have x3: ∀y,y≠(ρ c).bI→({w with heap:=w.heap.setIfInBounds (ρ c).bI (.map (List.toArray g6) lF)}:World).heap[y]? =w.heap[y]? :=fun y aF=>Array.getElem?_setIfInBounds_ne (Ne.symm aF)
 have o5:F c (ρ c).bI:=(pN _).2 rfl
 have Dm: ∀y,F d y→y≠(ρ c).bI:=fun y aF e=>aA.e8 d c _ _ y hd hc (Ne.symm sC) aF (e▸o5)
 have WA: ∀y,F q y→y≠(ρ c).bI:=fun y aF e=>aA.e8 q c _ _ y bp hc (Ne.symm El) aF (e▸o5)
 have BN:(execOp a.eval o).run P w= .ok .skip {w with heap:=w.heap.setIfInBounds (ρ c).bI (.map (List.toArray g6) lF)}:=by simp only[execOp,az,Sem.run_bind,aj,ak,hr,Result.andThen_ok,Sem.run_pure]
 unfold Oper.wp
 rw[BN,Oper.upon_skip]
 have uT: ∀j ch,ax ((q,bw.obj (.cM (((ρ d).bI,bN.ch (.cells l) h)::L)))::(c,.map aN .aY (fc (aN:=aN) (aP:=.aY) es key (some (ρ d).bI)))::ia B d) j=some ch→(j=c∨j=d∨j=q)→(j=q∧ch= .obj (.cM (((ρ d).bI,bN.ch (.cells l) h)::L)))∨(j=c∧ch= .map aN .aY (fc (aN:=aN) (aP:=.aY) es key (some (ρ d).bI))):=fun j ch au hm=>by
  rw[cD] at au
  split at au
  ·rename_i e;injection au with au;exact .inl ⟨e.symm,au.symm⟩
  ·rename_i e
   rw[cD] at au
   split at au
   ·rename_i ak;injection au with au;exact .inr ⟨ak.symm,au.symm⟩
   ·rename_i ak
    rcases hm with hm |hm |hm
    ·exact absurd hm.symm ak
    ·rw[hm,j7,if_pos rfl] at au;cases au
    ·exact absurd hm.symm e
 have Em:dA F q (fun y=>F d y∨F q y) c=F c:=dP _ _ El
 obtain⟨bR,bz⟩:=aA.step (B':=(q,.obj (.cM (((ρ d).bI,bN.ch (.cells l) h)::L)))::(c,.map aN .aY (fc (aN:=aN) (aP:=.aY) es key (some (ρ d).bI)))::ia B d) (ρ':=ρ) (F':=dA F q (fun y=>F d y∨F q y)) (w':={w with heap:=w.heap.setIfInBounds (ρ c).bI (.map (List.toArray g6) lF)}) (fun j=>j=c∨j=d∨j=q) (fun _=>False)
  ((xu (S:=F c) o5).mono fun y _ aF=>⟨c,_,hc,.inl rfl,aF⟩)
  (fun j ch au hm=>by
   rw[cD,if_neg (fun e=>hm (.inr (.inr e.symm))),cD,if_neg (fun e=>hm (.inl e.symm)),j7,if_neg (fun e=>hm (.inr (.inl e.symm)))] at au
   exact au)
  (fun _ _=>rfl) (fun j hm=>dP _ _ (fun e=>hm (.inr (.inr e)))) (fun _ _ h=>h) (fun _ h=>h.elim) (fun _ _ _ _ _ _ h=>h)
  (fun j ch au hm bz=>by
   rcases uT j ch au hm with⟨rfl,rfl⟩ |⟨rfl,rfl⟩
   ·rw[dR]
    refine⟨F d,F j,ρ d,fun _=>Iff.rfl,fun y aF eP=>aA.e8 d j _ _ y hd bp NV aF eP,rfl,?_,bh.cy bz (by simp) fun y aF=>x3 y (WA y aF)⟩
    exact(bN.ch (.cells l) h).cy _ _ _ _ _ _ (bN.Ww h zX) bz (fun y aF=>x3 y (Dm y aF)) (by simp)
   ·rw[Em]
    exact⟨pN,g6,lF,by simp[BM],gB.mono bz,r7⟩)
  (fun j ch au hm y aF=>by
   rcases uT j ch au hm with⟨rfl,rfl⟩ |⟨rfl,rfl⟩
   ·rw[dR] at aF
    rcases aF with aF |aF
    ·exact⟨by simpa using(aA.own d _ hd y aF).1,.inl ⟨d,_,hd,.inr (.inl rfl),aF⟩⟩
    ·exact⟨by simpa using(aA.own j _ bp y aF).1,.inl ⟨j,_,bp,.inr (.inr rfl),aF⟩⟩
   ·rw[Em] at aF
    exact⟨by simpa using(aA.own j _ hc y aF).1,.inl ⟨j,_,hc,.inl rfl,aF⟩⟩)
  (fun j tv ch ch' y au oS hm gB bg aF eP=>by
   rcases uT j ch au hm with⟨rfl,rfl⟩ |⟨rfl,rfl⟩ <;>rcases uT tv ch' oS gB with⟨rfl,rfl⟩ |⟨rfl,rfl⟩
   ·exact bg rfl
   ·rw[dR] at aF
    rw[Em] at eP
    rcases aF with aF |aF
    ·exact aA.e8 d tv _ _ y hd hc (Ne.symm sC) aF eP
    ·exact aA.e8 j tv _ _ y bp hc (Ne.symm El) aF eP
   ·rw[dR] at eP
    rw[Em] at aF
    rcases eP with eP |eP
    ·exact aA.e8 d j _ _ y hd hc (Ne.symm sC) eP aF
    ·exact aA.e8 tv j _ _ y bp hc (Ne.symm El) eP aF
   ·exact bg rfl)
 exact hK _ _ _ _ ⟨_,Iz,rfl,rfl⟩ ⟨lC.trans hn,put_defers.trans o3,ρ,_,bR,(hS.mono bz fun _ _ _=>rfl).lD (fun e he=>by rw[hn];exact bF e he) rfl⟩
end
end Go.Proofs.YteoamepgonpdlaaGreat
namespace Go.Proofs.YteoamepgonpdlaaGreat
open Go.RowKit
def gy (b:Nat) (q:bq):bN where
 R:=fun I F w p=>q.bI=b∧ ∀x,¬F x
 cy:=fun _ _ _ _ _ _ h _ _ _=>h
def jW (ch:bw):Prop:= ∀(ρ ρ':Nat→bq) (I F:Nat→Prop) (w:World) (p j9:bq),(∀c,ch.has c=true→(ρ' c).bI=(ρ c).bI)→j9.bI=p.bI→Holds ρ I F w p ch→Holds ρ' I F w j9 ch
def IA:bD→Bool
 | .own _=>false
 | .os _ _ _ _=>false
 |_=>true
theorem gZ.bI {ρ ρ':Nat→bq} {I:Nat→Prop} {w:World}: ∀(l:List kH) (vs:List Value),(∀c,l8 c l=true→(ρ' c).bI=(ρ c).bI)→gZ ρ I w l vs→gZ ρ' I w l vs
 | [],_,_,h=>h
 | .p b o::l,_,dn,⟨v,r,e,aa,af⟩=>⟨v,r,e,(by have e:=dn b (by simp[l8]);simp only[wY] at*;rw[e];exact aa),gZ.bI l r (fun c hc=>dn c (by simp[l8,hc])) af⟩
 | .d x::l,_,dn,⟨v,r,e,aa,af⟩=>⟨v,r,e,aa,gZ.bI l r (fun c hc=>dn c (by simpa[l8] using hc)) af⟩
theorem dN.bI {ρ ρ':Nat→bq} {I:Nat→Prop} {w:World} (s:bD) (v:Value) (ag:IA s=true) (dn: ∀c,s.has c=true→(ρ' c).bI=(ρ c).bI) (h:dN ρ I w s v):dN ρ' I w s v:=by
 cases s with
 |ptr c off=>
  have e:=dn c (by simp[bD.has,Nat.beq_eq])
  simp only[dN] at*
  rw[e];exact h
 |fk c s i off=>
  have e:=dn c (by simp[bD.has,Nat.beq_eq])
  simp only[dN] at*
  rw[e];exact h
 |mp c=>
  have e:=dn c (by simp[bD.has,Nat.beq_eq])
  simp only[dN] at*
  rw[e];exact h
 |eM f l=>obtain⟨vs,e,h⟩:=h;exact⟨vs,e,gZ.bI l vs dn h⟩
 |own c=>cases ag
 |os c s off n=>cases ag
 |d x=>exact h
 |el u x off=>exact h
 |ec=>exact h
 |raw u=>exact h
 |any=>trivial
theorem bV.bI {ρ ρ':Nat→bq} {I:Nat→Prop} {w:World}: ∀(l:List bD) (vs:List Value),l.all IA=true→(∀c,nj c l=true→(ρ' c).bI=(ρ c).bI)→bV ρ I w l vs→bV ρ' I w l vs
 | [],_,_,_,h=>h
 |s::l,_,ag,dn,⟨v,r,e,aa,af⟩=>by
  rw[List.all_cons,Bool.and_eq_true] at ag
  exact⟨v,r,e,dN.bI s v ag.1 (fun c hc=>dn c (by simp[nj,hc])) aa,bV.bI l r ag.2 (fun c hc=>dn c (by simp[nj,hc])) af⟩
theorem jW.cells {l:List bD} (ag:l.all IA=true):jW (.cells l):=by
 rintro ρ ρ' I F w p j9 dn hp ⟨aa,vs,T,af,ay⟩
 exact⟨fun b=>by rw[hp];exact aa b,vs,T,by rw[hp];exact af,bV.bI l vs ag dn ay⟩
theorem jW.map {aN aP:U} {es:List (aI aN×aI aP)}:jW (.map aN aP es):=by
 rintro ρ ρ' I F w p j9 dn hp ⟨aa,cX,clock,af,ay,bu⟩
 exact⟨fun b=>by rw[hp];exact aa b,cX,clock,by rw[hp];exact af,ay,bu⟩
theorem jW.cM {L:List (Nat×bN)}:jW (.obj (.cM L)):=fun _ _ _ _ _ _ _ _ _ h=>h
theorem jW.uQ {c:Nat} {bQ:aG} (h: ∀d ch,ax bQ d=some ch→jW ch):jW (.obj (.uQ c bQ)):=by
 rintro mK sy I F w p j9 _ hp ⟨ρ,G,aa,af,ay,bu⟩
 have ag: ∀d,(dA ρ c j9 d).bI=(ρ d).bI:=fun d=>by
  by_cases e:d=c
  ·subst e;rw[dR,hp,aa]
  ·rw[dP _ _ e]
 exact⟨dA ρ c j9,G,dR ..,fun d ch hd=>h d ch hd ρ (dA ρ c j9) _ _ _ (ρ d) (dA ρ c j9 d) (fun e _=>ag e) (ag d) (af d ch hd),ay,bu⟩
def En:aG→Prop
 | []=>True
 |(_,ch)::bQ=>jW ch∧En bQ
theorem BX: ∀{bQ:aG},En bQ→ ∀d ch,ax bQ d=some ch→jW ch
 | [],_,d,ch,hd=>by cases hd
 |(e,x)::bQ,h,d,ch,hd=>by
  rw[cD] at hd
  split at hd
  ·injection hd with hd;subst hd;exact h.1
  ·exact BX h.2 d ch hd
def Eo (bQ:aG) (bs:Nat→Nat) (I F:Nat→Prop) (w:World):Prop:=
 ∃(ρ:Nat→bq) (G:Nat→Nat→Prop),(∀d ch,ax bQ d=some ch→(ρ d).bI=bs d)∧(∀d ch,ax bQ d=some ch→Holds ρ I (G d) w (ρ d) ch)∧
  (∀d d' ch ch' b,ax bQ d=some ch→ax bQ d'=some ch'→d≠d'→G d b→ ¬G d' b)∧ ∀b,F b↔ ∃d ch,ax bQ d=some ch∧G d b
def bN.nE (bQ:aG) (bs:Nat→Nat):bN where
 R:=fun I F w _=>Eo bQ bs I F w
 cy:=fun I F w I' w' p ⟨ρ,G,aE,af,ay,bu⟩ he hF aS=>⟨ρ,G,aE,fun d ch hd=>Holds.cy he (fun b ag=>hF b ((bu b).2 ⟨d,ch,hd,ag⟩)) aS ch (fun _ _=>rfl) (af d ch hd),ay,bu⟩
section
variable {ids:List Nat} {K:aQ} {B:aG}
theorem gI.mark (d m:Nat) (hm:gz ids K B m=true) (bg:d≠m):gI ids K B (fun _:Nat=>K) (fun b=>(m,.dep d (gy b))::B):=by
 rintro N C a w ⟨hn,hd,ρ,F,aA,hS⟩
 have cr:=lG hm
 obtain⟨bR,bz⟩:=aA.make (ch:=.dep d (gy (ρ d).bI)) (w':=w) hm (Below.refl _ _) ⟨0,none,0,0⟩ (fun _=>False) (fun _ h=>h.elim) (fun I _ _=>by
  show(gy (ρ d).bI (dA ρ m _ d)).R I _ w _
  rw[dP _ _ bg]
  exact⟨rfl,fun _ h=>h⟩)
 exact⟨(ρ d).bI,hn,hd,_,_,bR,hS.mono bz fun s c hc=>dP _ _ (fun e=>by subst e;rw[cr.1 s] at hc;cases hc)⟩
theorem ah.place (d m b:Nat) (hd:gz ids K B d=true) (hm:gz ids K B m=true) (bg:d≠m):ah ids K B K ((m,.dep d (gy b))::B):=by
 rintro N C a w ⟨hn,o3,ρ,F,aA,hS⟩
 have f1:=lG hd
 have f2:=lG hm
 obtain⟨bR,bz⟩:=aA.step (B':=(m,.dep d (gy b))::B) (ρ':=dA ρ d ⟨b,none,0,0⟩) (F':=dA F m fun _=>False) (w':=w) (fun c=>c=m∨c=d) (fun c=>c=d) (Fr.refl _ _)
  (fun c ch hc hm=>by
   rw[cD,if_neg (fun e=>hm (.inl e.symm))] at hc
   exact hc)
  (fun c hc=>dP _ _ hc) (fun c hc=>dP _ _ (fun e=>hc (.inl e))) (fun c hc e=>f1.2.2.2 (e▸hc)) (fun c hc=>.inr hc)
  (fun c ch hc _ j au e=>by subst e;rw[f1.2.2.1 c ch hc] at au;cases au)
  (fun c ch hc hm bz=>by
   rw[cD] at hc
   split at hc
   ·rename_i e
    subst e
    injection hc with hc
    subst hc
    rw[dR]
    show(gy b (dA ρ d _ d)).R _ _ w _
    rw[dR]
    exact⟨rfl,fun _ h=>h⟩
   ·rename_i e
    rcases hm with hm |hm
    ·exact absurd hm.symm e
    ·rw[hm,f1.2.1] at hc;cases hc)
  (fun c ch hc hm x hx=>by
   rw[cD] at hc
   split at hc
   ·rename_i e
    subst e
    rw[dR] at hx
    exact hx.elim
   ·rename_i e
    rcases hm with hm |hm
    ·exact absurd hm.symm e
    ·rw[hm,f1.2.1] at hc;cases hc)
  (fun c bS ch ch' x hc dm hm gB Hp hx=>by
   have key: ∀c ch,ax ((m,bw.dep d (gy b))::B) c=some ch→(c=m∨c=d)→c=m:=fun c ch hc hm=>by
    rcases hm with hm |hm
    ·exact hm
    ·rw[cD,if_neg (fun e=>bg (hm.symm.trans e.symm)),hm,f1.2.1] at hc
     cases hc
   exact absurd ((key c ch hc hm).trans (key bS ch' dm gB).symm) Hp)
 exact⟨hn,o3,_,_,bR,hS.mono bz fun s c hc=>dP _ _ (fun e=>by subst e;rw[f1.1 s] at hc;cases hc)⟩
def Ep (B:aG) (ms bs:Nat→Nat):aG→Prop
 | []=>True
 |(d,_)::bQ=>ax B (ms d)=some (.dep d (gy (bs d)))∧Ep B ms bs bQ
theorem IB {ms bs:Nat→Nat}: ∀{bQ:aG},Ep B ms bs bQ→ ∀{d ch},ax bQ d=some ch→ax B (ms d)=some (.dep d (gy (bs d)))
 | [],_,d,ch,hd=>by cases hd
 |(e,x)::bQ,h,d,ch,hd=>by
  rw[cD] at hd
  split at hd
  ·rename_i e;subst e;exact h.1
  ·exact IB h.2 hd
theorem ah.IC (g:Nat) (bQ:aG) (ms bs:Nat→Nat) (dy:nT B bQ) (hm:Ep B ms bs bQ) (bk:ax B g=none):ah ids K B K ((g,.obj (.nE bQ bs))::sw (cQ bQ) B):=by
 rintro N C a w ⟨hn,hd,ρ,F,aA,hS⟩
 have aB: ∀{d ch},ax bQ d=some ch→ax B d=some ch:=fun {d ch} h=>kO dy h
 have ID:g∉cQ bQ:=fun h=>by obtain⟨ch,h⟩:=gu.1 h;rw[aB h] at bk;cases bk
 have key: ∀d ch,ax ((g,bw.obj (.nE bQ bs))::sw (cQ bQ) B) d=some ch→(d=g∨d∈cQ bQ)→d=g∧ch= .obj (.nE bQ bs):=fun d ch hd hm=>by
  rw[cD] at hd
  split at hd
  ·rename_i e;injection hd with hd;exact⟨e.symm,hd.symm⟩
  ·rename_i e
   rcases hm with hm |hm
   ·exact absurd hm.symm e
   ·rw[Bw,if_pos hm] at hd;cases hd
 obtain⟨bR,bz⟩:=aA.step (B':=(g,.obj (.nE bQ bs))::sw (cQ bQ) B) (ρ':=ρ) (F':=dA F g (fun x=> ∃d ch,ax bQ d=some ch∧F d x)) (w':=w) (fun d=>d=g∨d∈cQ bQ) (fun _=>False) (Fr.refl _ _)
  (fun d ch hd hm=>by
   rw[cD,if_neg (fun e=>hm (.inl e.symm)),Bw,if_neg (fun h=>hm (.inr h))] at hd
   exact hd)
  (fun _ _=>rfl) (fun d hm=>dP _ _ (fun e=>hm (.inl e))) (fun _ _ h=>h) (fun _ h=>h.elim) (fun _ _ _ _ _ _ h=>h)
  (fun d ch hd gB bz=>by
   obtain⟨rfl,rfl⟩:=key d ch hd gB
   rw[dR]
   refine⟨ρ,F,fun d ch h=>?_,fun d ch h=>Holds.cy bz (fun _ _=>rfl) (Nat.le_refl _) ch (fun _ _=>rfl) (aA.holds d ch (aB h)),fun d d' ch ch' b h h' bg=>aA.e8 d d' ch ch' b (aB h) (aB h') bg,fun b=>Iff.rfl⟩
   exact(aA.holds _ _ (IB hm h)).1)
  (fun d ch hd gB x hx=>by
   obtain⟨rfl,rfl⟩:=key d ch hd gB
   rw[dR] at hx
   obtain⟨d',ch',aa,af⟩:=hx
   exact⟨(aA.own d' ch' (aB aa) x af).1,.inl ⟨d',ch',aB aa,.inr (gu.2 ⟨ch',aa⟩),af⟩⟩)
  (fun d d' ch ch' x hd dO IE WB bg=>absurd ((key d ch hd IE).1.trans (key d' ch' dO WB).1.symm) bg)
 exact⟨hn,hd,ρ,_,bR,hS.mono bz fun _ _ _=>rfl⟩
theorem ah.IF (g:Nat) (bQ:aG) (ms bs:Nat→Nat) (bk:ax B g=some (.obj (.nE bQ bs))) (hm:Ep B ms bs bQ) (aq:((cQ bQ).all fun d=>(ax B d).isNone)=true) (ha:xB (cQ bQ) bQ=true) (xx: ∀d ch,ax bQ d=some ch→jW ch):ah ids K B K (bQ++ia B g):=by
 rintro N C a w ⟨hn,hd,ρ,F,aA,hS⟩
 obtain⟨zY,G,aa,af,ay,bu⟩:Eo bQ bs (bO C B F w) (F g) w:=aA.holds g _ bk
 have H7: ∀{d ch},ax bQ d=some ch→ax B d=none:=fun {d ch} h=>by
  have:=List.all_eq_true.1 aq d (gu.2 ⟨ch,h⟩)
  simpa using this
 have ID:ax bQ g=none:=by
  cases e:ax bQ g with
  |none=>rfl
  |some ch=>rw[H7 e] at bk;cases bk
 have jq: ∀{d ch},ax bQ d=some ch→(ρ d).bI=(zY d).bI:=fun {d ch} h=>((aA.holds _ _ (IB hm h)).1:(ρ d).bI=bs d).trans (aa d ch h).symm
 have lk: ∀d ch,ax (bQ++ia B g) d=some ch→ax bQ d=some ch∨(ax bQ d=none∧d≠g∧ax B d=some ch):=fun d ch h=>by
  rw[mT] at h
  cases e:ax bQ d with
  |some x=>rw[e] at h;exact .inl h
  |none=>
   rw[e,j7] at h
   simp only at h
   split at h
   ·cases h
   ·rename_i bg;exact .inr ⟨rfl,fun e=>bg e.symm,h⟩
 let cU:Nat→Nat→Prop:=fun d=>if(ax bQ d).isSome=true then G d else F d
 have aj: ∀{d ch},ax bQ d=some ch→cU d=G d:=fun {d ch} h=>if_pos (by rw[h];rfl)
 have ak: ∀{d},ax bQ d=none→cU d=F d:=fun {d} h=>if_neg (by rw[h];decide)
 obtain⟨bR,bz⟩:=aA.step (B':=bQ++ia B g) (ρ':=ρ) (F':=cU) (w':=w) (fun d=>d=g∨(ax bQ d).isSome=true) (fun _=>False) (Fr.refl _ _)
  (fun d ch hd hm=>by
   rcases lk d ch hd with h |⟨_,_,h⟩
   ·exact absurd (.inr (by rw[h];rfl)) hm
   ·exact h)
  (fun _ _=>rfl) (fun d hm=>ak (by cases e:ax bQ d with
   |none=>rfl
   |some x=>exact absurd (.inr (by rw[e];rfl)) hm)) (fun _ _ h=>h) (fun _ h=>h.elim) (fun _ _ _ _ _ _ h=>h)
  (fun d ch hd hm bz=>by
   rcases lk d ch hd with h |⟨h,bg,h'⟩
   ·rw[aj h]
    refine xx d ch h zY ρ _ _ w (zY d) (ρ d) (fun c hc=>?_) (jq h) (Holds.cy bz (fun _ _=>rfl) (Nat.le_refl _) ch (fun _ _=>rfl) (af d ch h))
    have:=bw.kQ (zi ha h) hc
    obtain⟨ch',h'⟩:=gu.1 this
    exact jq h'
   ·rcases hm with hm |hm
    ·exact absurd hm bg
    ·rw[h] at hm;cases hm)
  (fun d ch hd hm x hx=>by
   rcases lk d ch hd with h |⟨h,bg,h'⟩
   ·rw[aj h] at hx
    have:F g x:=(bu x).2 ⟨d,ch,h,hx⟩
    exact⟨(aA.own g _ bk x this).1,.inl ⟨g,_,bk,.inl rfl,this⟩⟩
   ·rcases hm with hm |hm
    ·exact absurd hm bg
    ·rw[h] at hm;cases hm)
  (fun d d' ch ch' x hd dO hm gB bg hx eF=>by
   rcases lk d ch hd with h |⟨h,hn,_⟩
   ·rcases lk d' ch' dO with h' |⟨h',vg,_⟩
    ·rw[aj h] at hx
     rw[aj h'] at eF
     exact ay d d' ch ch' x h h' bg hx eF
    ·rcases gB with gB |gB
     ·exact absurd gB vg
     ·rw[h'] at gB;cases gB
   ·rcases hm with hm |hm
    ·exact absurd hm hn
    ·rw[h] at hm;cases hm)
 exact⟨hn,hd,ρ,_,bR,hS.mono bz fun _ _ _=>rfl⟩
def bN.tie (am:Nat) (o:bN) (q:bq):bN where
 R:=fun I F w p=>q.bI=am∧o.R I F w p
 cy:=fun I F w I' w' p h he hF aS=>⟨h.1,o.cy I F w I' w' p h.2 he hF aS⟩
theorem ah.tie (g c am:Nat) {o sG:bN} (bk:ax B g=some (.obj o)) (hc:ax B c=some (.obj (sG.at am))) (bg:g≠c):ah ids K B K ((c,.obj sG)::(g,.dep c (.tie am o))::B):=by
 rintro N C a w ⟨hn,hd,ρ,F,aA,hS⟩
 have aD:(ρ c).bI=am:=(aA.holds c _ hc).1
 obtain⟨kA,mq⟩:=aA.jP (w':=w) (ch:=.dep c (.tie am o)) bk (Fr.refl _ _) fun I bC=>⟨aD,o.cy _ _ _ _ _ _ (aA.holds g _ bk) bC (fun _ _=>rfl) (Nat.le_refl _)⟩
 have fC:ax ((g,bw.dep c (.tie am o))::B) c=some (.obj (sG.at am)):=by rw[cD,if_neg bg];exact hc
 obtain⟨jR,uJ⟩:=kA.jP (w':=w) (ch:=.obj sG) fC (Fr.refl _ _) fun I bC=>sG.cy _ _ _ _ _ _ (kA.holds c _ fC).2 bC (fun _ _=>rfl) (Nat.le_refl _)
 exact⟨hn,hd,ρ,F,jR,hS.mono (mq.trans uJ) fun _ _ _=>rfl⟩
theorem ah.WC (g c am:Nat) {o sG:bN} (bk:ax B g=some (.dep c (.tie am o))) (hc:ax B c=some (.obj sG)) (bg:g≠c):ah ids K B K ((c,.obj (sG.at am))::(g,.obj o)::B):=by
 rintro N C a w ⟨hn,hd,ρ,F,aA,hS⟩
 have bZ:(bN.tie am o (ρ c)).R (bO C B F w) (F g) w (ρ g):=aA.holds g _ bk
 obtain⟨kA,mq⟩:=aA.jP (w':=w) (ch:=.obj o) bk (Fr.refl _ _) fun I bC=>o.cy _ _ _ _ _ _ bZ.2 bC (fun _ _=>rfl) (Nat.le_refl _)
 have fC:ax ((g,bw.obj o)::B) c=some (.obj sG):=by rw[cD,if_neg bg];exact hc
 obtain⟨jR,uJ⟩:=kA.jP (w':=w) (ch:=.obj (sG.at am)) fC (Fr.refl _ _) fun I bC=>⟨bZ.1,sG.cy _ _ _ _ _ _ (kA.holds c _ fC) bC (fun _ _=>rfl) (Nat.le_refl _)⟩
 exact⟨hn,hd,ρ,F,jR,hS.mono (mq.trans uJ) fun _ _ _=>rfl⟩
theorem ah.WD (g c m am:Nat) {o:bN} (bk:ax B g=some (.dep c (.tie am o))) (hm:gz ids K B m=true) (bg:c≠m):ah ids K B K ((m,.dep c (gy am))::B):=by
 rintro N C a w ⟨hn,hd,ρ,F,aA,hS⟩
 have cr:=lG hm
 have bZ:(bN.tie am o (ρ c)).R (bO C B F w) (F g) w (ρ g):=aA.holds g _ bk
 obtain⟨bR,bz⟩:=aA.make (ch:=.dep c (gy am)) (w':=w) hm (Below.refl _ _) ⟨0,none,0,0⟩ (fun _=>False) (fun _ h=>h.elim) (fun I _ _=>by
  show(gy am (dA ρ m _ c)).R I _ w _
  rw[dP _ _ bg]
  exact⟨bZ.1,fun _ h=>h⟩)
 exact⟨hn,hd,_,_,bR,hS.mono bz fun s c hc=>dP _ _ (fun e=>by subst e;rw[cr.1 s] at hc;cases hc)⟩
theorem ah.loose (g c am:Nat) {o:bN} (bk:ax B g=some (.dep c (.tie am o))):ah ids K B K ((g,.obj o)::B):=by
 rintro N C a w ⟨hn,hd,ρ,F,aA,hS⟩
 have bZ:(bN.tie am o (ρ c)).R (bO C B F w) (F g) w (ρ g):=aA.holds g _ bk
 obtain⟨kA,mq⟩:=aA.jP (w':=w) (ch:=.obj o) bk (Fr.refl _ _) fun I bC=>o.cy _ _ _ _ _ _ bZ.2 bC (fun _ _=>rfl) (Nat.le_refl _)
 exact⟨hn,hd,ρ,F,kA,hS.mono mq fun _ _ _=>rfl⟩
theorem ah.WE (g c m am:Nat) {o:bN} (bk:ax B g=some (.obj o)) (hm:ax B m=some (.dep c (gy am))):ah ids K B K ((g,.dep c (.tie am o))::B):=by
 rintro N C a w ⟨hn,hd,ρ,F,aA,hS⟩
 have aD:(ρ c).bI=am:=(aA.holds m _ hm).1
 obtain⟨kA,mq⟩:=aA.jP (w':=w) (ch:=.dep c (.tie am o)) bk (Fr.refl _ _) fun I bC=>⟨aD,o.cy _ _ _ _ _ _ (aA.holds g _ bk) bC (fun _ _=>rfl) (Nat.le_refl _)⟩
 exact⟨hn,hd,ρ,F,kA,hS.mono mq fun _ _ _=>rfl⟩
theorem ah.forget (c b:Nat) {o:bN} (hc:ax B c=some (.obj (o.at b))):ah ids K B K ((c,.obj o)::B):=by
 rintro N C a w ⟨hn,hd,ρ,F,aA,hS⟩
 obtain⟨kA,mq⟩:=aA.jP (w':=w) (ch:=.obj o) hc (Fr.refl _ _) fun I bC=>o.cy _ _ _ _ _ _ (aA.holds c _ hc).2 bC (fun _ _=>rfl) (Nat.le_refl _)
 exact⟨hn,hd,ρ,F,kA,hS.mono mq fun _ _ _=>rfl⟩
theorem vh {N:Nat} {C:Ctx} {a:Act} {w:World} {ρ:Nat→bq} {F:Nat→Nat→Prop} (aA:Mem ids C B ρ F w) {m d b:Nat} (hm:ax B m=some (.dep d (gy b))):(ρ d).bI=b:=(aA.holds m _ hm).1
theorem ah.NW (s d m b:Nat) (hs:look K s= .c (.one (.d (.aY (some b))))) (hm:ax B m=some (.dep d (gy b))):ah ids K B ((s,.c (.one (.ptr d 0)))::K) B:=by
 rintro N C a w ⟨hn,hd,ρ,F,aA,hS⟩
 refine⟨hn,hd,ρ,F,aA,fun t=>?_⟩
 rw[kJ]
 split
 ·rename_i e
  subst e
  have h:=hS s
  rw[hs] at h
  have e:=vh (N:=N) (a:=a) aA hm
  rw[←e] at h
  exact h
 ·exact hS t
theorem ah.WG (s d b:Nat) {o:bN} (hs:look K s= .c (.one (.d (.aY (some b))))) (hd:ax B d=some (.obj (o.at b))):ah ids K B ((s,.c (.one (.ptr d 0)))::K) B:=by
 rintro N C a w ⟨hn,o3,ρ,F,aA,hS⟩
 refine⟨hn,o3,ρ,F,aA,fun t=>?_⟩
 rw[kJ]
 split
 ·rename_i e
  subst e
  have h:=hS s
  rw[hs] at h
  have e:(ρ d).bI=b:=(aA.holds d _ hd).1
  rw[←e] at h
  exact h
 ·exact hS t
theorem ah.WH (s f d1 d2 m1 m2 b1 b2:Nat) (hs:look K s= .c (.one (.eM f [.p d1 0,.p d2 0]))) (aa:ax B m1=some (.dep d1 (gy b1))) (af:ax B m2=some (.dep d2 (gy b2))):ah ids K B ((s,.c (.one (.d (.fn (f,[b1,b2])))))::K) B:=by
 rintro N C a w ⟨hn,hd,ρ,F,aA,hS⟩
 refine⟨hn,hd,ρ,F,aA,fun t=>?_⟩
 rw[kJ]
 split
 ·rename_i e
  subst e
  have h:=hS s
  rw[hs] at h
  obtain⟨vs,e,v1,r1,aj,g1,v2,r2,ak,g2,bL⟩:=h
  have cz:=vh (N:=N) (a:=a) aA aa
  have er:=vh (N:=N) (a:=a) aA af
  have g1:v1= .pointer (some ⟨(ρ d1).bI,0,none⟩):=g1
  have g2:v2= .pointer (some ⟨(ρ d2).bI,0,none⟩):=g2
  have bL:r2=[]:=bL
  show a.tmps.getD s undef=mJ (f,[b1,b2])
  rw[e,aj,ak,g1,g2,bL,cz,er]
  rfl
 ·exact hS t
end
end Go.Proofs.YteoamepgonpdlaaGreat
namespace Go.Proofs.YteoamepgonpdlaaGreat
open Go.RowKit
def kS:List (Nat×bN)→Nat→List (Nat×bN)
 | [],_=>[]
 |(a,o)::L,b=>if a=b then L else(a,o)::kS L b
theorem IG {a b c:Prop}:(a∨b∨c)↔(b∨a∨c):=⟨fun h=>by
 rcases h with h |h |h
 ·exact .inr (.inl h)
 ·exact .inl h
 ·exact .inr (.inr h),fun h=>by
 rcases h with h |h |h
 ·exact .inr (.inl h)
 ·exact .inl h
 ·exact .inr (.inr h)⟩
theorem fW.del {I:Nat→Prop} {w:World} {b:Nat} {o:bN}: ∀{L:List (Nat×bN)} {F:Nat→Prop},jr L b=some o→fW I w L F→ ∃(cH cU:Nat→Prop) (p:bq),(∀x,F x↔cH x∨cU x)∧(∀x,cH x→ ¬cU x)∧p.bI=b∧o.R I cH w p∧fW I w (kS L b) cU
 | [],F,h,_=>by cases h
 |(a,q)::L,F,h,⟨rq,tD,p,aa,af,ay,bu,dI⟩=>by
  unfold jr at h
  unfold kS
  split at h
  ·rename_i e
   injection h with h
   subst h
   rw[if_pos e]
   exact⟨rq,tD,p,aa,af,ay.trans e,bu,dI⟩
  ·rename_i e
   rw[if_neg e]
   obtain⟨cH,cU,dS,g1,g2,bL,gH,uR⟩:=fW.del h dI
   refine⟨cH,fun x=>rq x∨cU x,dS,fun x=>by rw[aa,g1];exact IG,fun x hx aF=>?_,bL,gH,rq,cU,p,fun x=>Iff.rfl,fun x hx aF=>af x hx ((g1 x).2 (.inr aF)),ay,bu,uR⟩
   rcases aF with aF |aF
   ·exact af x aF ((g1 x).2 (.inl hx))
   ·exact g2 x hx aF
theorem fW.ins {I:Nat→Prop} {w:World} {b:Nat} {o o':bN} {cH:Nat→Prop} {p:bq} (az:o'.R I cH w p) (hp:p.bI=b): ∀{L:List (Nat×bN)} {F:Nat→Prop},jr L b=some o→fW I w (kS L b) F→(∀x,cH x→ ¬F x)→fW I w (jc L b o') (fun x=>cH x∨F x)
 | [],F,h,_,_=>by cases h
 |(a,q)::L,F,h,hd,fU=>by
  unfold jr at h
  unfold kS at hd
  unfold jc
  split at h
  ·rename_i e
   rw[if_pos e] at hd⊢
   exact⟨cH,F,p,fun x=>Iff.rfl,fU,hp.trans e.symm,az,hd⟩
  ·rename_i e
   rw[if_neg e] at hd⊢
   obtain⟨rq,tD,r,aa,af,ay,bu,dI⟩:=hd
   refine⟨rq,fun x=>cH x∨tD x,r,fun x=>by
    show(cH x∨F x)↔(rq x∨(cH x∨tD x))
    rw[aa];exact IG,fun x hx aF=>?_,ay,bu,fW.ins az hp h dI fun x hx aF=>fU x hx ((aa x).2 (.inr aF))⟩
   rcases aF with aF |aF
   ·exact fU x aF ((aa x).2 (.inl hx))
   ·exact af x hx aF
theorem II {o:bN} {b:Nat}: ∀{L:List (Nat×bN)},jr L b=some o→jc L b o=L
 | [],h=>by cases h
 |(a,q)::L,h=>by
  unfold jr at h
  unfold jc
  split at h
  ·rename_i e
   injection h with h
   rw[if_pos e,h]
  ·rename_i e
   rw[if_neg e,II h]
section
variable {ids:List Nat} {K:aQ} {B:aG}
theorem ah.Er (q c b:Nat) {o:bN} {L:List (Nat×bN)} (bp:ax B q=some (.obj (.cM L))) (cG:jr L b=some o) (hc:gz ids K B c=true):ah ids K B K ((c,.obj (o.at b))::(q,.obj (.cM (kS L b)))::B):=by
 rintro N C a w ⟨hn,hd,ρ,F,aA,hS⟩
 have f:=lG hc
 obtain⟨cH,cU,p,aa,af,ay,bu,dI⟩:=fW.del cG (aA.holds q _ bp:fW _ w L (F q))
 obtain⟨bR,bz⟩:=aA.split (K:=K) (kM:=.obj (.cM (kS L b))) (qo:=.obj (o.at b)) bp hc p cU cH (fun x hx=>(aa x).2 (.inr hx)) (fun x hx=>(aa x).2 (.inl hx)) (fun x hx aF=>af x aF hx)
  (fun I bC=>dI.cy bC (Nat.le_refl _) (fun _ _=>rfl)) (fun I bC=>⟨ay,o.cy _ _ _ _ _ _ bu bC (fun _ _=>rfl) (Nat.le_refl _)⟩)
 exact⟨hn,hd,_,_,bR,hS.mono bz fun s d hd=>dP _ _ (fun e=>by subst e;rw[f.1 s] at hd;cases hd)⟩
theorem ah.putAt (q c b:Nat) {o o':bN} {L:List (Nat×bN)} (bp:ax B q=some (.obj (.cM (kS L b)))) (hc:ax B c=some (.obj (o'.at b))) (cG:jr L b=some o) (bg:q≠c):ah ids K B K ((q,.obj (.cM (jc L b o')))::ia B c):=by
 rintro N C a w ⟨hn,hd,ρ,F,aA,hS⟩
 have bh:fW (bO C B F w) w (kS L b) (F q):=aA.holds q _ bp
 have aV:(ρ c).bI=b∧o'.R (bO C B F w) (F c) w (ρ c):=aA.holds c _ hc
 obtain⟨bR,bz⟩:=aA.join (w':=w) (ch:=.obj (.cM (jc L b o'))) bp hc bg (fun x=>F c x∨F q x) (fun x hx=>hx.symm) (Fr.refl _ _) fun I bC=>
  (fW.ins aV.2 aV.1 cG bh (fun x hx aF=>aA.e8 c q _ _ x hc bp (Ne.symm bg) hx aF)).cy bC (Nat.le_refl _) fun _ _=>rfl
 exact⟨hn,hd,ρ,_,bR,hS.mono bz fun _ _ _=>rfl⟩
theorem ah.WI (q c b:Nat) {o:bN} {bQ:aG} {bs:Nat→Nat} {L:List (Nat×bN)} (bp:ax B q=some (.obj (.cM (kS L b)))) (hc:ax B c=some (.obj (.nE bQ bs))) (cG:jr L b=some o) (bg:q≠c):ah ids K B K ((q,.obj (.cM (jc L b (.nE bQ bs))))::ia B c):=by
 rintro N C a w ⟨hn,hd,ρ,F,aA,hS⟩
 have bh:fW (bO C B F w) w (kS L b) (F q):=aA.holds q _ bp
 have aV:Eo bQ bs (bO C B F w) (F c) w:=aA.holds c _ hc
 obtain⟨bR,bz⟩:=aA.join (w':=w) (ch:=.obj (.cM (jc L b (.nE bQ bs)))) bp hc bg (fun x=>F c x∨F q x) (fun x hx=>hx.symm) (Fr.refl _ _) fun I bC=>
  (fW.ins (o':=.nE bQ bs) (p:=⟨b,none,0,0⟩) aV rfl cG bh (fun x hx aF=>aA.e8 c q _ _ x hc bp (Ne.symm bg) hx aF)).cy bC (Nat.le_refl _) fun _ _=>rfl
 exact⟨hn,hd,ρ,_,bR,hS.mono bz fun _ _ _=>rfl⟩
theorem Fn.WJ {P:Program} {f:FuncId} {c q am:Nat} {args:List aO} {res:aO} {bQ:aG} {bs:Nat→Nat} {M:List (Nat×bN)} (h:Fn P f (.c (.one (.ptr c 0))::args) bQ [] res bQ) (aA:jr M am=some (.nE bQ bs)) (hc:bs c=am) (Bz:(ax bQ c).isSome=true) (ha:(args.all fun v=>v.among [])=true) (hr:res.among []=true):
  Fn P f (.c (.one (.d (.aY (some am))))::args) [(q,.obj (.cM M))] [] res [(q,.obj (.cM M))]:=by
 obtain⟨iQ,h⟩:=h
 refine⟨iQ,fun ρ F I w bW bC dW hF fU hlen eu=>?_⟩
 have bp:ax [(q,bw.obj (.cM M))] q=some (.obj (.cM M)):=by rw[cD,if_pos rfl]
 have ye: ∀{d ch},ax [(q,bw.obj (.cM M))] d=some ch→d=q∧ch= .obj (.cM M):=fun {d ch} hd=>by
  rw[cD] at hd
  split at hd
  ·rename_i e;injection hd with hd;exact⟨e.symm,hd.symm⟩
  ·cases hd
 have bh:fW I w M (F q):=dW q _ bp
 obtain⟨cH,cU,p,cz,er,eX,gi,zw⟩:=bh.out aA
 obtain⟨zY,G,g1,g2,bL,gH⟩:Eo bQ bs I cH w:=gi
 have gR: ∀{v:aO},v.among []=true→ ∀d,v.has d=true→ ∀(ρ ρ':Nat→bq),ρ' d=ρ d:=fun {v} hv d hd _ _=>absurd (aO.kQ hv hd) List.not_mem_nil
 have IJ: ∀y,(∃d ch,ax bQ d=some ch∧G d y)→ ∃d ch,ax [(q,bw.obj (.cM M))] d=some ch∧F d y:=fun y aF=>⟨q,_,bp,(cz y).2 (.inl ((gH y).2 aF))⟩
 obtain⟨WK,mo⟩:=Option.isSome_iff_exists.1 Bz
 match bW,hlen with
 |v0::bW,hlen=>
  have Hf:v0= .pointer (some ⟨am,0,none⟩):=eu 0 _ v0 rfl rfl
  refine(h zY G I w (v0::bW) bC g2 (fun d ch hd b ag=>hF q _ bp b ((cz b).2 (.inl ((gH b).2 ⟨d,ch,hd,ag⟩)))) bL (by simpa using hlen) ?_).mono ?_
  ·intro i v x hv hx
   match i with
   |0=>
    simp only[List.getElem?_cons_zero,Option.some.injEq] at hv hx
    subst hv hx
    show v0= .pointer (some ⟨(zY c).bI,0,none⟩)
    rw[g1 c WK mo,hc]
    exact Hf
   |i+1=>
    have nt:args[i]? =some v:=by simpa using hv
    have:=List.all_eq_true.1 ha v (List.mem_of_getElem? nt)
    exact b8.mono (Ext.refl _ _) v x (fun d hd=>gR this d hd _ _) (eu (i+1) v x (by simpa using hv) hx)
  ·rintro e w' ⟨x,ρ',F',rfl,cr,dn,I',kX,iI,oW,aV,jQ,xO⟩
   have lI: ∀y,cU y→ ¬ ∃d ch,ax bQ d=some ch∧G d y:=fun y aF oR=>er y ((gH y).2 oR) aF
   have su: ∀y,cU y→y < w.heap.size∧ ¬I y:=fun y aF=>hF q _ bp y ((cz y).2 (.inr aF))
   have hold: ∀y,cU y→w'.heap[y]? =w.heap[y]? :=fun y aF=>cr.block y (su y aF).1 (lI y aF)
   have tE: ∀y,(∃d ch,ax bQ d=some ch∧F' d y)→ ¬cU y:=by
    rintro y ⟨d,ch,hd,aF⟩ Bp
    rcases(aV d ch hd y aF).2.2 with h |h
    ·exact lI y Bp h
    ·have:=(su y Bp).1;omega
   have kz:=zw I' w' (.nE bQ bs) (fun y=> ∃d ch,ax bQ d=some ch∧F' d y) p kX cr.size hold eX
    ⟨ρ',F',fun d ch hd=>by rw[dn d List.not_mem_nil];exact g1 d ch hd,oW,jQ,fun b=>Iff.rfl⟩ tE
   rw[II aA] at kz
   refine⟨x,ρ,fun d=>if d=q then(fun y=>(∃d ch,ax bQ d=some ch∧F' d y)∨cU y) else F' d,rfl,cr.mono fun y _ aF=>IJ y aF,fun d _=>rfl,I',kX,fun y aF=>⟨(iI y aF).1,?_⟩,?_,?_,?_,?_⟩
   ·rcases(iI y aF).2 with h |h |h
    ·exact .inl h
    ·exact .inr (.inl (IJ y h))
    ·exact .inr (.inr h)
   ·intro d ch hd
    obtain⟨rfl,rfl⟩:=ye hd
    simp only[if_true]
    exact kz
   ·intro d ch hd y aF
    obtain⟨rfl,rfl⟩:=ye hd
    simp only[if_true] at aF
    rcases aF with⟨d',ch',dO,aF⟩ |aF
    ·obtain⟨cj,cu,a3⟩:=aV d' ch' dO y aF
     exact⟨cj,cu,a3.imp (IJ y) id⟩
    ·refine⟨Nat.lt_of_lt_of_le (su y aF).1 cr.size,fun aD=>?_,.inl ⟨d,_,bp,(cz y).2 (.inr aF)⟩⟩
     rcases(iI y aD).2 with h |h |h
     ·exact(su y aF).2 h
     ·exact lI y aF h
     ·have:=(su y aF).1;omega
   ·intro d d' ch ch' y hd dO bg
    exact absurd ((ye hd).1.trans (ye dO).1.symm) bg
   ·exact b8.mono (Ext.refl _ _) res x (fun d hd=>gR hr d hd _ _) xO
end
end Go.Proofs.YteoamepgonpdlaaGreat
