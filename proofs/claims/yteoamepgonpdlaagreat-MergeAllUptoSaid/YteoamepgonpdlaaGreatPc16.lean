/-
Part 16 of the proof that stands in YteoamepgonpdlaaGreatPcRow, with what it needs from the parts ahead; the parts of this text: Qu, Qv, Qw, Se, Qj, Qk, Ql.
-/
import Derived.Test.YteoamepgonpdlaaGreatPc15
set_option linter.unusedVariables false
set_option linter.unusedSimpArgs false
set_option maxRecDepth 10000
namespace Go.Proofs.YteoamepgonpdlaaGreat
open Go.RowKit Go.Proofs
@[reducible] def qO (top base:List UInt8) (b:List Bool) (over:Bool):List bD:=[.d (.str top),.d (.str base),.d (.cT .bool b),.d (.bool over)]
@[reducible] def vC (top base:List UInt8) (b:List Bool) (over:Bool):aO:=.c (.agg (qO top base b over))
def pn (b:List Bool):Nat:=(b.filter fun x=>x).length
theorem ZQ (b:List Bool):pn b≤b.length:=List.length_filter_le _ _
theorem ZR (b:List Bool) {k:Nat} (h:k < b.length):pn (b.take (k+1))=pn (b.take k)+(match b[k] with |true=>1 |false=>0):=by
 unfold pn
 rw[List.take_add_one,List.getElem?_eq_getElem h,List.filter_append,List.length_append]
 congr 1
 cases b[k] <;>rfl
@[reducible] def ZS (b:List Bool) (k:Nat):aQ:=[(1,aH 1),(3,aC (pn (b.take k):Nat)),(4,aC (k:Nat))]
theorem ZT (top base:List UInt8) (b:List Bool) (over:Bool) (ag:b.length≤100000):Fn Tryz.prog 44 [vC top base b over] [] [] (aC (pn b:Nat)) []:=by
 refine Fn.of ai [] _ _ _ _ _ Tryz.func44 rfl rfl (by kernel_rfl) (by kernel_rfl) rfl (aJ ai) rfl ?_
 refine⟨rfl,?_⟩
 show av _ _ _ _ _ _ _
 refine av.loop ai (aJ ai) [] (by kernel_rfl) (X:=Nat) (fun k=>ZS b k) (fun _=>[(1,.cells (qO top base b over))]) (fun k=>k≤b.length) (fun k=>b.length - k) 0 (Nat.zero_le _) ?_ ?_
 ·exact ah.sub ⟨rfl,rfl,rfl,trivial⟩ ⟨rfl,trivial⟩
 intro k aq
 have aq:k≤b.length:=aq
 have fC:=ZQ (b.take k)
 have dc:(b.take k).length≤k:=by rw[List.length_take];exact Nat.min_le_left ..
 refine⟨fun hc=>?_,fun hc=>?_⟩
 ·have hc:((k:Nat):Int) < ((b.length:Nat):Int):=of_decide_eq_true hc
  have bP:k < b.length:=by omega
  have hs:=ZR b bP
  have bk:eT b k=some b[k]:=eA (n:=k) bP
  generalize b[k]=x at*
  refine⟨by omega,x,bk,?_⟩
  refine⟨fun hx=>?_,fun hx=>?_⟩
  ·have hx:x=true:=hx
   subst hx
   refine⟨by omega,?_⟩
   exact⟨by omega,k+1,bP,by show b.length - (k+1) < b.length - k;omega,ah.sub ⟨rfl,(by show((pn (b.take k):Nat):Int)+1=((pn (b.take (k+1)):Nat):Int);rw[hs];rfl),rfl,trivial⟩ ⟨rfl,trivial⟩⟩
  ·have hx:x=false:=hx
   subst hx
   exact⟨by omega,k+1,bP,by show b.length - (k+1) < b.length - k;omega,ah.sub ⟨rfl,(by show((pn (b.take k):Nat):Int)=((pn (b.take (k+1)):Nat):Int);rw[hs];rfl),rfl,trivial⟩ ⟨rfl,trivial⟩⟩
 ·have hc: ¬((k:Nat):Int) < ((b.length:Nat):Int):=of_decide_eq_false hc
  have gx:k=b.length:=by omega
  subst gx
  exact⟨_,_,_,ah.refl _ _,rfl,(by show((pn (b.take b.length):Nat):Int)=_;rw[List.take_length]),trivial,rfl⟩
theorem PK (top base:List UInt8) (b:List Bool) (over:Bool):Fn Tryz.prog 42 [vC top base b over] [] [] (vC top base [] true) []:=by
 refine Fn.of ai [] _ _ _ _ _ Tryz.func42 rfl rfl (by kernel_rfl) (by kernel_rfl) rfl (aJ ai) rfl ?_
 refine⟨rfl,?_⟩
 refine⟨rfl,?_⟩
 exact⟨_,_,_,ah.refl _ _,rfl,⟨rfl,rfl,rfl,rfl,trivial⟩,trivial,rfl⟩
def m9 (d:bK):List Bool:=(aL (bn d)).map fun c=> !decide (dV c=0)
def qP (l:List bK) (top:List UInt8):Int:=match cw l top with
 |none=>140
 |some d=>if c8 d=[] then 140 else if 1 < (ko l (c8 d)).length then 143 else match cw l (c8 d) with
  |none=>1
  |some e=>if(aL (bn e)).length < (aL (bn d)).length then 1 else 0
@[reducible] def PL (top:List UInt8) (i:Int) (o k:Nat):aQ:=[(2,aH 2),(4,aH 4),(6,aC i),(8,aH 8),(9,aC (k:Nat))]
@[reducible] def PM (bits room:Int) (l:List bK) (top base:List UInt8) (o:Nat) (x:List Bool):aG:=[(2,.cells (jJ bits room l)),(4,.cells oe.t84.zero),(8,.cells [.d (.str top),.d (.str base),.own o,.d (.bool false)]),(o,.row 4 .bool x)]
set_option maxHeartbeats 2000000 in
theorem ZU (bits room:Int) (l:List bK) (top:List UInt8) (aB:l.length≤1000) (ag: ∀d,cw l top=some d→c8 d≠[]→ ∃e,cw l (c8 d)=some e) (he:qP l top≠0):Fn Tryz.prog 36 [kT bits room l,bG top] [] [] (.c6 [.agg (qO [] [] [] false),fh (qP l top)]) []:=by
 have ZV:cw l top=none→qP l top=140:=fun e=>by unfold qP;rw[e]
 have mq: ∀d,cw l top=some d→c8 d=[]→qP l top=140:=fun d e aj=>by unfold qP;rw[e];exact if_pos aj
 have uJ: ∀d,cw l top=some d→c8 d≠[]→1 < (ko l (c8 d)).length→qP l top=143:=fun d e aj ak=>by unfold qP;rw[e];exact(if_neg aj).trans (if_pos ak)
 have E7: ∀d e,cw l top=some d→c8 d≠[]→ ¬1 < (ko l (c8 d)).length→cw l (c8 d)=some e→qP l top=if(aL (bn e)).length < (aL (bn d)).length then 1 else 0:=fun d e bx aj ak bf=>by
  unfold qP
  rw[bx]
  simp only
  rw[if_neg aj,if_neg ak,bf]
 generalize qP l top=me at*
 refine Fn.of ai [] _ _ _ _ _ Tryz.func36 rfl rfl (by kernel_rfl) (by kernel_rfl) rfl (aJ ai) rfl ?_
 refine⟨rfl,?_⟩
 refine⟨rfl,?_⟩
 refine⟨_,_,_,_,lY bits room l top (by omega),trivial,rfl,?_⟩
 cases bk:cw l top with
 |none=>
  have hf:=Pe bk
  rw[hf]
  rw[ZV bk]
  refine⟨fun _=>?_,fun h=>absurd h (by decide)⟩
  exact⟨_,_,_,ah.refl _ _,rfl,⟨⟨rfl,rfl,rfl,rfl,trivial⟩,rfl,trivial⟩,trivial,rfl⟩
 |some d=>
  obtain⟨i,aD,aj,ak,bf⟩:=oE bk
  have eB:eT l (bY l top).toNat=some d:=by rw[show(bY l top).toNat=i by omega,←ak];exact eA (n:=i) aD
  have dz:(0:Int)≤bY l top:=by omega
  have uX:=JE l (c8 d)
  refine⟨fun h=>absurd (of_decide_eq_true h) (by omega),fun _=>?_⟩
  refine⟨dz,d,eB,?_⟩
  refine⟨fun aa=>?_,fun aa=>?_⟩
  ·have aa:c8 d=[]:=of_decide_eq_true aa
   rw[mq d bk aa]
   exact⟨_,_,_,ah.refl _ _,rfl,⟨⟨rfl,rfl,rfl,rfl,trivial⟩,rfl,trivial⟩,trivial,rfl⟩
  have aa: ¬c8 d=[]:=of_decide_eq_false aa
  obtain⟨e,qi⟩:=ag d bk aa
  obtain⟨i2,jH,f1,f2,f3⟩:=oE qi
  have JY:eT l (bY l (c8 d)).toNat=some e:=by rw[show(bY l (c8 d)).toNat=i2 by omega,←f2];exact eA (n:=i2) jH
  have Bc:(0:Int)≤bY l (c8 d):=by omega
  refine⟨dz,d,eB,?_⟩
  refine⟨_,_,_,_,lY bits room l (c8 d) (by omega),trivial,rfl,?_⟩
  refine⟨rfl,?_⟩
  refine⟨dz,d,eB,?_⟩
  refine⟨_,_,_,_,JH bits room l (c8 d) (by omega),trivial,rfl,?_⟩
  refine⟨rfl,fun af=>?_,fun af=>?_⟩
  ·have af:(1:Int) < (((ko l (c8 d)).length:Nat):Int):=of_decide_eq_true af
   rw[uJ d bk aa (by omega)]
   exact⟨_,_,_,ah.refl _ _,rfl,⟨⟨rfl,rfl,rfl,rfl,trivial⟩,rfl,trivial⟩,trivial,rfl⟩
  have af: ¬(1:Int) < (((ko l (c8 d)).length:Nat):Int):=of_decide_eq_false af
  have bz:=E7 d e bk aa (by omega) qi
  refine⟨Bc,e,JY,?_⟩
  refine⟨dz,d,eB,?_⟩
  refine⟨rfl,fun ay=>?_,fun ay=>?_⟩
  ·have ay:(((aL (bn e)).length:Nat):Int) < (((aL (bn d)).length:Nat):Int):=of_decide_eq_true ay
   rw[if_pos (by omega)] at bz
   rw[bz]
   exact⟨_,_,_,ah.refl _ _,rfl,⟨⟨rfl,rfl,rfl,rfl,trivial⟩,rfl,trivial⟩,trivial,rfl⟩
  ·have ay: ¬(((aL (bn e)).length:Nat):Int) < (((aL (bn d)).length:Nat):Int):=of_decide_eq_false ay
   rw[if_neg (by omega)] at bz
   exact absurd bz he
set_option maxHeartbeats 2000000 in
theorem ZW (bits room:Int) (l:List bK) (top:List UInt8) (aB:l.length≤1000) {d e:bK} (bk:cw l top=some d) (aa:c8 d≠[]) (qi:cw l (c8 d)=some e) (af: ¬1 < (ko l (c8 d)).length) (ay: ¬(aL (bn e)).length < (aL (bn d)).length) (hm:(aL (bn d)).length≤256):Fn Tryz.prog 36 [kT bits room l,bG top] [] [] (.c6 [.agg (qO top (c8 d) (m9 d) false),fh 0]) []:=by
 obtain⟨i,aD,aj,ak,bf⟩:=oE bk
 have eB:eT l (bY l top).toNat=some d:=by rw[show(bY l top).toNat=i by omega,←ak];exact eA (n:=i) aD
 have dz:(0:Int)≤bY l top:=by omega
 have uX:=JE l (c8 d)
 obtain⟨i2,jH,f1,f2,f3⟩:=oE qi
 have JY:eT l (bY l (c8 d)).toNat=some e:=by rw[show(bY l (c8 d)).toNat=i2 by omega,←f2];exact eA (n:=i2) jH
 have Bc:(0:Int)≤bY l (c8 d):=by omega
 refine Fn.of ai [9,14] _ _ _ _ _ Tryz.func36 rfl rfl (by kernel_rfl) (by kernel_rfl) rfl (aJ ai) rfl ?_
 refine⟨rfl,?_⟩
 refine⟨rfl,?_⟩
 refine⟨_,_,_,_,lY bits room l top (by omega),trivial,rfl,?_⟩
 refine⟨fun h=>absurd (of_decide_eq_true h) (by omega),fun _=>?_⟩
 refine⟨dz,d,eB,?_⟩
 refine⟨fun h=>absurd (show decide (c8 d=[])=true from h) (by rw[decide_eq_false aa];decide),fun _=>?_⟩
 refine⟨dz,d,eB,?_⟩
 refine⟨_,_,_,_,lY bits room l (c8 d) (by omega),trivial,rfl,?_⟩
 refine⟨rfl,?_⟩
 refine⟨dz,d,eB,?_⟩
 refine⟨_,_,_,_,JH bits room l (c8 d) (by omega),trivial,rfl,?_⟩
 refine⟨rfl,fun h=>absurd (of_decide_eq_true (p:=(1:Int) < (((ko l (c8 d)).length:Nat):Int)) h) (by omega),fun _=>?_⟩
 refine⟨Bc,e,JY,?_⟩
 refine⟨dz,d,eB,?_⟩
 refine⟨rfl,fun h=>absurd (of_decide_eq_true (p:=(((aL (bn e)).length:Nat):Int) < (((aL (bn d)).length:Nat):Int)) h) (by omega),fun _=>?_⟩
 show av _ _ _ _ _ _ _
 refine av.go ai (aJ ai) [14] (by kernel_rfl) (ah.sub (K':=[(1,bG top),(2,aH 2),(4,aH 4),(6,aC (bY l top))]) (B':=[(2,.cells (jJ bits room l)),(4,.cells oe.t84.zero)]) ⟨rfl,rfl,rfl,rfl,trivial⟩ ⟨rfl,rfl,trivial⟩) ?_
 refine⟨dz,d,eB,?_⟩
 refine⟨rfl,?_⟩
 show av _ _ _ _ _ _ _
 refine av.loop ai (aJ ai) [14] (by kernel_rfl) (X:=Nat) (fun k=>PL top (bY l top) 5002 k) (fun k=>PM bits room l top (c8 d) 5002 ((m9 d).take k)) (fun k=>k≤(aL (bn d)).length) (fun k=>(aL (bn d)).length - k) 0 (Nat.zero_le _) ?_ ?_
 ·exact ah.trans (ah.E6 8 (l':=[.d (.str top),.d (.str (c8 d)),.ec,.d (.bool false)]) rfl ⟨rfl,rfl,rfl,rfl,trivial⟩) (ah.trans (ah.L8 8 2 5002 4 .bool rfl rfl rfl) (ah.sub ⟨rfl,rfl,rfl,rfl,rfl,trivial⟩ ⟨rfl,rfl,rfl,rfl,trivial⟩))
 intro k aq
 have aq:k≤(aL (bn d)).length:=aq
 refine⟨dz,d,eB,?_⟩
 refine⟨fun hc=>?_,fun hc=>?_⟩
 ·have hc:((k:Nat):Int) < (((aL (bn d)).length:Nat):Int):=of_decide_eq_true hc
  have bP:k < (aL (bn d)).length:=by omega
  have e6:k < (m9 d).length:=by unfold m9;rw[List.length_map];exact bP
  have j4:(m9 d)[k]? =some (!decide (dV (aL (bn d))[k]=0)):=by unfold m9;rw[List.getElem?_map,List.getElem?_eq_getElem bP];rfl
  have xw:(m9 d).take (k+1)=(m9 d).take k++[!decide (dV (aL (bn d))[k]=0)]:=by rw[List.take_add_one,j4];rfl
  have hlen:((m9 d).take k).length+1≤4294967296:=by rw[List.length_take];omega
  have hlen:List.length (α:=aI .bool) ((m9 d).take k)+1≤4294967296:=hlen
  refine⟨dz,d,eB,?_⟩
  refine⟨by omega,(aL (bn d))[k],eA (n:=k) bP,?_⟩
  refine⟨hlen,rfl,?_⟩
  refine⟨rfl,?_⟩
  have dy:=congrArg (fun z=>some (bw.row 4 .bool z)) xw.symm
  refine⟨by omega,k+1,bP,by show(aL (bn d)).length - (k+1) < (aL (bn d)).length - k;omega,?_⟩
  exact ah.trans (ah.sub (K':=PL top (bY l top) 97 (k+1)) (B':=PM bits room l top (c8 d) 97 ((m9 d).take (k+1))) ⟨rfl,rfl,rfl,rfl,rfl,trivial⟩ ⟨rfl,rfl,rfl,dy,trivial⟩) (ah.trans (ah.ren 97 5002 rfl) (ah.sub ⟨rfl,rfl,rfl,rfl,rfl,trivial⟩ ⟨rfl,rfl,rfl,rfl,trivial⟩))
 ·have hc: ¬((k:Nat):Int) < (((aL (bn d)).length:Nat):Int):=of_decide_eq_false hc
  have gx:(m9 d).take k=m9 d:=List.take_of_length_le (by unfold m9;rw[List.length_map];omega)
  rw[gx]
  show av _ _ _ _ _ _ _
  refine av.go ai (aJ ai) [] (by kernel_rfl) (ah.dU 5002 rfl) ?_
  exact⟨_,_,_,ah.refl _ _,rfl,⟨⟨rfl,rfl,rfl,rfl,trivial⟩,rfl,trivial⟩,trivial,rfl⟩
end Go.Proofs.YteoamepgonpdlaaGreat
namespace Go.Proofs.YteoamepgonpdlaaGreat
open Go.RowKit Go.Proofs
def ua (a long:Int) (n i j:Nat):Prop:=0 < long∧a≤((i*n+j:Nat):Int)∧((i*n+j:Nat):Int) - long < a
instance (a long:Int) (n i j:Nat):Decidable (ua a long n i j):=by unfold ua;infer_instance
def pq (a long:Int) (n i:Nat) (x:List Bool):Nat→List Bool
 |0=>x
 |j+1=>if ua a long n i j then(pq a long n i x j).set i true else pq a long n i x j
def oI (a long:Int) (n:Nat) (b:List Bool):Nat→List Bool
 |0=>b
 |i+1=>pq a long n i (oI a long n b i) n
theorem Cm (a long:Int) (n i:Nat) (x:List Bool): ∀j,(pq a long n i x j).length=x.length
 |0=>rfl
 |j+1=>by
  unfold pq
  split
  ·rw[List.length_set]
   exact Cm a long n i x j
  ·exact Cm a long n i x j
theorem E8 (a long:Int) (n:Nat) (b:List Bool): ∀i,(oI a long n b i).length=b.length
 |0=>rfl
 |i+1=>by
  unfold oI
  rw[Cm]
  exact E8 a long n b i
@[reducible] def ZX (n:Nat) (a long:Int) (i:Nat):aQ:=[(1,aC (n:Nat)),(2,aC a),(3,aC long),(4,aH 4),(8,aH 8),(9,iO 5002),(10,aC (i:Nat))]
@[reducible] def ZY (n:Nat) (a long:Int) (i j:Nat):aQ:=[(1,aC (n:Nat)),(2,aC a),(3,aC long),(4,aH 4),(8,aH 8),(9,iO 5002),(10,aC (i:Nat)),(11,aC (i*n+j:Nat))]
@[reducible] def PN (top base:List UInt8) (b:List Bool) (over:Bool) (x:List Bool):aG:=[(4,.cells (qO top base b over)),(8,.cells oe.t84.zero),(5002,.row 4 .bool x)]
set_option maxHeartbeats 2000000 in
theorem ZZ (top base:List UInt8) (b:List Bool) (over:Bool) (n:Nat) (a long:Int) (ag:b.length≤100000) (hn:n≤8) (ha: -1000000000≤long∧long≤1000000000):Fn Tryz.prog 40 [vC top base b over,aC (n:Int),aC a,aC long] [] [] (vC top base (if over=true then b else oI a long n b b.length) over) []:=by
 have hlen:(0:Nat)+b.length≤4294967296:=by omega
 refine Fn.of ai [10] _ _ _ _ _ Tryz.func40 rfl rfl (by kernel_rfl) (by kernel_rfl) rfl (aJ ai) rfl ?_
 refine⟨rfl,?_⟩
 refine⟨rfl,?_⟩
 refine⟨rfl,hlen,rfl,?_⟩
 show av _ _ _ _ _ _ _
 refine av.loop ai (aJ ai) [10] (by kernel_rfl) (X:=Nat) (fun i=>ZX n a long i) (fun i=>PN top base b over (oI a long n b i)) (fun i=>i≤b.length) (fun i=>b.length - i) 0 (Nat.zero_le _) ?_ ?_
 ·exact ah.trans (ah.ren 15 5002 rfl) (ah.sub ⟨rfl,rfl,rfl,rfl,rfl,rfl,rfl,trivial⟩ ⟨rfl,rfl,rfl,trivial⟩)
 intro i aD
 have aD:i≤b.length:=aD
 have Cn:=E8 a long n b i
 refine⟨fun hc=>?_,fun hc=>?_⟩
 ·have hc:((i:Nat):Int) < (((oI a long n b i).length:Nat):Int):=of_decide_eq_true hc
  have mS:i < b.length:=by omega
  have hmul:((i:Nat):Int)*((n:Nat):Int)=((i*n:Nat):Int):=by rw[Int.natCast_mul]
  have hle:i*n≤100000*8:=Nat.mul_le_mul (by omega) hn
  have m1:(-9223372036854775808:Int)≤((i:Nat):Int)*((n:Nat):Int)∧((i:Nat):Int)*((n:Nat):Int)≤9223372036854775807:=by rw[hmul];omega
  have m2:(-9223372036854775808:Int)≤((i:Nat):Int)*((n:Nat):Int)+((n:Nat):Int)∧((i:Nat):Int)*((n:Nat):Int)+((n:Nat):Int)≤9223372036854775807:=by rw[hmul];omega
  have xW:oI a long n b (i+1)=pq a long n i (oI a long n b i) n:=rfl
  generalize oI a long n b i=x at*
  refine⟨m1,?_⟩
  show av _ _ _ _ _ _ _
  refine av.loop ai (aJ ai) [10] (by kernel_rfl) (X:=Nat) (fun j=>ZY n a long i j) (fun j=>PN top base b over (pq a long n i x j)) (fun j=>j≤n) (fun j=>n - j) 0 (Nat.zero_le _) ?_ ?_
  ·exact ah.sub ⟨rfl,rfl,rfl,rfl,rfl,rfl,rfl,(by show((i:Nat):Int)*((n:Nat):Int)=((i*n+0:Nat):Int);rw[hmul,Nat.add_zero]),trivial⟩ ⟨rfl,rfl,rfl,trivial⟩
  intro j au
  have au:j≤n:=au
  have uE:=Cm a long n i x j
  have lN:((i*n+j:Nat):Int)+1=((i*n+(j+1):Nat):Int):=by rw[←Nat.add_assoc];omega
  have xU:ua a long n i j→pq a long n i x (j+1)=(pq a long n i x j).set i true:=fun h=>if_pos h
  have JZ: ¬ua a long n i j→pq a long n i x (j+1)=pq a long n i x j:=fun h=>if_neg h
  have bh:ua a long n i j↔0 < long∧a≤((i*n+j:Nat):Int)∧((i*n+j:Nat):Int) - long < a:=Iff.rfl
  have rA:j=n→pq a long n i x j=oI a long n b (i+1):=fun h=>by rw[h,xW]
  generalize pq a long n i x j=y at*
  have sO:i*n+j≤800008:=by omega
  have mG:((i:Nat):Int) < ((List.length (α:=aI .bool) y:Nat):Int):=by
   show((i:Nat):Int) < ((y.length:Nat):Int)
   omega
  have E9:i < List.length (α:=aI .bool) y:=by show i < y.length;omega
  refine⟨m1,m2,?_⟩
  refine⟨fun dc=>?_,fun dc=>?_⟩
  ·have dc:((i*n+j:Nat):Int) < ((i:Nat):Int)*((n:Nat):Int)+((n:Nat):Int):=of_decide_eq_true dc
   have iD:j < n:=by rw[hmul] at dc;omega
   refine⟨fun aW=>?_,fun aW=>?_⟩
   ·have aW:0 < long:=of_decide_eq_true aW
    refine⟨fun aX=>?_,fun aX=>?_⟩
    ·have aX:a≤((i*n+j:Nat):Int):=of_decide_eq_true aX
     refine⟨by omega,?_⟩
     refine⟨fun bT=>?_,fun bT=>?_⟩
     ·have bT:((i*n+j:Nat):Int) - long < a:=of_decide_eq_true bT
      refine⟨⟨by omega,mG⟩,?_⟩
      refine⟨⟨trivial,E9⟩,?_⟩
      exact⟨by omega,j+1,iD,by show n - (j+1) < n - j;omega,ah.sub ⟨rfl,rfl,rfl,rfl,rfl,rfl,rfl,lN,trivial⟩ ⟨rfl,rfl,congrArg (fun z=>some (bw.row 4 .bool z)) (xU (bh.2 ⟨aW,aX,bT⟩)).symm,trivial⟩⟩
     ·have bT: ¬((i*n+j:Nat):Int) - long < a:=of_decide_eq_false bT
      exact⟨by omega,j+1,iD,by show n - (j+1) < n - j;omega,ah.sub ⟨rfl,rfl,rfl,rfl,rfl,rfl,rfl,lN,trivial⟩ ⟨rfl,rfl,congrArg (fun z=>some (bw.row 4 .bool z)) (JZ fun h=>bT (bh.1 h).2.2).symm,trivial⟩⟩
    ·have aX: ¬a≤((i*n+j:Nat):Int):=of_decide_eq_false aX
     exact⟨by omega,j+1,iD,by show n - (j+1) < n - j;omega,ah.sub ⟨rfl,rfl,rfl,rfl,rfl,rfl,rfl,lN,trivial⟩ ⟨rfl,rfl,congrArg (fun z=>some (bw.row 4 .bool z)) (JZ fun h=>aX (bh.1 h).2.1).symm,trivial⟩⟩
   ·have aW: ¬0 < long:=of_decide_eq_false aW
    exact⟨by omega,j+1,iD,by show n - (j+1) < n - j;omega,ah.sub ⟨rfl,rfl,rfl,rfl,rfl,rfl,rfl,lN,trivial⟩ ⟨rfl,rfl,congrArg (fun z=>some (bw.row 4 .bool z)) (JZ fun h=>aW (bh.1 h).1).symm,trivial⟩⟩
  ·have dc: ¬((i*n+j:Nat):Int) < ((i:Nat):Int)*((n:Nat):Int)+((n:Nat):Int):=of_decide_eq_false dc
   have iD:j=n:=by rw[hmul] at dc;omega
   exact⟨by omega,i+1,mS,by show b.length - (i+1) < b.length - i;omega,ah.sub ⟨rfl,rfl,rfl,rfl,rfl,rfl,rfl,trivial⟩ ⟨rfl,rfl,congrArg (fun z=>some (bw.row 4 .bool z)) (rA iD),trivial⟩⟩
 ·have hc: ¬((i:Nat):Int) < (((oI a long n b i).length:Nat):Int):=of_decide_eq_false hc
  have jH:i=b.length:=by omega
  subst jH
  show av _ _ _ _ _ _ _
  refine av.go ai (aJ ai) [] (by kernel_rfl) (ah.dU 5002 rfl) ?_
  refine⟨fun az=>?_,fun az=>?_⟩
  ·have az:(!over)=true:=az
   have az:over=false:=by simpa using az
   subst az
   exact⟨_,_,_,ah.refl _ _,rfl,⟨rfl,rfl,rfl,rfl,trivial⟩,trivial,rfl⟩
  ·have az:(!over)=false:=az
   have az:over=true:=by simpa using az
   subst az
   exact⟨_,_,_,ah.refl _ _,rfl,⟨rfl,rfl,rfl,rfl,trivial⟩,trivial,rfl⟩
end Go.Proofs.YteoamepgonpdlaaGreat
namespace Go.Proofs.YteoamepgonpdlaaGreat
open Go.RowKit Go.Proofs
structure Co where
 l:List bK
 b:List Bool
 over:Bool
 is:Bool
 e:Int
@[reducible] def wP (k a g:Int) (b n:List UInt8):lg:=(k,a,g,b,n)
@[reducible] def wQ (k s:Int) (n o:List UInt8) (q:lg):fy:=(k,s,n,o,q)
def lp (n:Nat) (l:List bK) (top base:List UInt8) (i:Nat) (cL:Int):fy:=wQ 3 0 base [] (wP (if cL=2 then 2 else 1) ((i:Int)*(n:Nat)) (n:Nat) (lf n l top i) [])
def Cp (n len:Nat) (top:List UInt8):fy:=wQ 3 0 top [] (wP 3 0 ((n:Int)*(len:Int)) [] [])
def vD (b:List Bool):Option Nat:=(List.range b.length).find? fun k=>b.getD k false
def lq (n:Nat) (bits room:Int) (l:List bK) (top base:List UInt8) (b:List Bool) (cL:Int) (i:Nat):Co:=
 if cL=0 then⟨l,b.set i false,false,false,0⟩
 else if(jv n bits room l (lp n l top base i cL)).e=0 then⟨(jv n bits room l (lp n l top base i cL)).l,b.set i false,false,false,0⟩
 else⟨(jv n bits room l (lp n l top base i cL)).l,b,false,false,(jv n bits room l (lp n l top base i cL)).e⟩
def wR (n:Nat) (bits room:Int) (l:List bK) (top:List UInt8) (len:Nat):Co:=⟨(jv n bits room l (Cp n len top)).l,[],true,true,0⟩
@[reducible] def J0 (bits room:Int) (top base:List UInt8) (r:Co):aO:=.c6 [.agg (jJ bits room r.l),.agg (qO top base r.b r.over),.one (.d (.bool r.is)),fh r.e]
@[reducible] def Z0 (i0:Int) (i:Nat):aQ:=[(2,aH 2),(3,aH 3),(4,aH 4),(5,aH 5),(8,aC i0),(9,aH 9),(10,aC (i:Nat))]
@[reducible] def J1 (i0:Int) (i:Nat):aQ:=[(2,aH 2),(3,aH 3),(4,aH 4),(5,aH 5),(8,aC i0),(9,aH 9),(10,aC (i:Nat)),(11,aH 11),(12,aC 0)]
@[reducible] def Z1 (bits room:Int) (l:List bK) (top base:List UInt8) (b:List Bool) (d:bK):aG:=[(2,.cells (jJ bits room l)),(3,.cells (qO top base b false)),(4,.cells oe.t29.zero),(5,.cells oe.t84.zero),(9,.cells (k9 (bn d)))]
@[reducible] def J2 (bits room:Int) (l:List bK) (top base:List UInt8) (b:List Bool) (d:bK) (o:fy):aG:=[(2,.cells (jJ bits room l)),(3,.cells (qO top base b false)),(4,.cells oe.t29.zero),(5,.cells oe.t84.zero),(9,.cells (k9 (bn d))),(11,.cells (tY o))]
theorem Z2 (bits room:Int) (l:List bK) (top base:List UInt8) (b:List Bool) (aB:l.length≤1000):Fn Tryz.prog 37 [kT bits room l,vC top base b true] [] [] (J0 bits room top base ⟨l,b,true,false,150⟩) []:=by
 refine Fn.of ai [] _ _ _ _ _ Tryz.func37 rfl rfl (by kernel_rfl) (by kernel_rfl) rfl (aJ ai) rfl ?_
 refine⟨rfl,?_⟩
 refine⟨rfl,?_⟩
 refine⟨rfl,?_⟩
 refine⟨rfl,?_⟩
 refine⟨_,_,_,_,lY bits room l top (by omega),trivial,rfl,?_⟩
 refine⟨fun _=>?_,fun h=>absurd h (by decide)⟩
 refine⟨rfl,?_⟩
 exact⟨_,_,_,ah.refl _ _,rfl,⟨⟨rfl,rfl,rfl,trivial⟩,⟨rfl,rfl,rfl,rfl,trivial⟩,rfl,rfl,trivial⟩,trivial,rfl⟩
set_option maxHeartbeats 4000000 in
theorem Z3 {n:Nat} {l:List bK} (h:vw n l) (bits room:Int) (top base:List UInt8) (b:List Bool) {d:bK} (hd:cw l top=some d) (e6:b.length=(aL (bn d)).length) (cq: ∀d,d∈l→(cS (bn d)).length+256≤100000) (adk:top.length≤100) (Fa:base.length≤100):
  Fn Tryz.prog 37 [kT bits room l,vC top base b false] [] [] (J0 bits room top base (match vD b with
   |some i=>lq n bits room l top base b (ez (bn d) i) i
   |none=>wR n bits room l top (aL (bn d)).length)) []:=by
 have aB:l.length≤16:=h.len
 have aA:=h.ok d (tX hd)
 have hm:=aA.jF
 obtain⟨i0,Z4,aj,ak,bf⟩:=oE hd
 have eB:eT l (bY l top).toNat=some d:=by rw[show(bY l top).toNat=i0 by omega,←ak];exact eA (n:=i0) Z4
 have dz:(0:Int)≤bY l top:=by omega
 have hF: ∀i (aD:i < (aL (bn d)).length),i < b.length→b.getD i false=true→(∀j,j < i→b.getD j false=false)→(match vD b with
   |some i=>lq n bits room l top base b (ez (bn d) i) i
   |none=>wR n bits room l top (aL (bn d)).length)=lq n bits room l top base b (dV (aL (bn d))[i]) i:=fun i jH aD hx gR=>by
  rw[show vD b=some i from List.find?_range_eq_some.2 ⟨hx,List.mem_range.2 aD,fun j au=>by show(!b.getD j false)=true;rw[gR j au];rfl⟩]
  simp only
  rw[rO jH]
 have c4:(∀j,j < b.length→b.getD j false=false)→(match vD b with
   |some i=>lq n bits room l top base b (ez (bn d) i) i
   |none=>wR n bits room l top (aL (bn d)).length)=wR n bits room l top (aL (bn d)).length:=fun gR=>by
  rw[show vD b=none from List.find?_eq_none.2 fun x hx=>by rw[gR x (List.mem_range.1 hx)];decide]
 have wM:=aA.n8
 have Z5:=E4 h bits room (Cp n (aL (bn d)).length top) (by show top.length≤4294967296;omega) (Nat.zero_le _) cq
 have Z6:=fun i cL (aD:i < (aL (bn d)).length)=>E4 h bits room (lp n l top base i cL) (by show base.length≤4294967296;omega) (by show(lf n l top i).length≤1000000;rw[Cj h top i];omega) cq
 generalize(match vD b with
   |some i=>lq n bits room l top base b (ez (bn d) i) i
   |none=>wR n bits room l top (aL (bn d)).length)=adl at*
 refine Fn.of ai [12,14,20,24] _ _ _ _ _ Tryz.func37 rfl rfl (by kernel_rfl) (by kernel_rfl) rfl (aJ ai) rfl ?_
 refine⟨rfl,?_⟩
 refine⟨rfl,?_⟩
 refine⟨rfl,?_⟩
 refine⟨rfl,?_⟩
 refine⟨_,_,_,_,lY bits room l top (by omega),trivial,rfl,?_⟩
 refine⟨fun h=>absurd h (by decide),fun _=>?_⟩
 refine⟨fun h=>absurd (of_decide_eq_true h) (by omega),fun _=>?_⟩
 refine⟨dz,d,eB,?_⟩
 refine⟨rfl,?_⟩
 show av _ _ _ _ _ _ _
 refine av.loop ai (aJ ai) [12,14,20,24] (by kernel_rfl) (X:=Nat) (fun i=>Z0 (bY l top) i) (fun _=>Z1 bits room l top base b d) (fun i=>i≤b.length∧ ∀j,j < i→b.getD j false=false) (fun i=>b.length - i) 0 ⟨Nat.zero_le _,fun j au=>absurd au (Nat.not_lt_zero j)⟩ ?_ ?_
 ·exact ah.sub ⟨rfl,rfl,rfl,rfl,rfl,rfl,rfl,trivial⟩ ⟨rfl,rfl,rfl,rfl,rfl,trivial⟩
 rintro i ⟨aD,gR⟩
 have aD:i≤b.length:=aD
 refine⟨fun hc=>?_,fun hc=>?_⟩
 ·have hc:((i:Nat):Int) < ((b.length:Nat):Int):=of_decide_eq_true hc
  have mS:i < b.length:=by omega
  have jH:i < (aL (bn d)).length:=by omega
  have hx:b.getD i false=b[i]:=by rw[List.getD_eq_getElem?_getD,List.getElem?_eq_getElem mS];rfl
  have bk:eT b i=some b[i]:=eA (n:=i) mS
  have zX:=eA (n:=i) jH
  have cP:=JO h bits room top i hd jH
  have mR:=fun cL=>Z6 i cL jH
  have hmul:((i:Nat):Int)*((n:Nat):Int)=((i*n:Nat):Int):=by rw[Int.natCast_mul]
  have hle:i*n≤256*8:=Nat.mul_le_mul (by omega) wM
  have m1:(-9223372036854775808:Int)≤((i:Nat):Int)*dr (bn d)∧((i:Nat):Int)*dr (bn d)≤9223372036854775807:=by rw[aA.nm,hmul];omega
  have dy:=congrArg (fun z=>some (bw.cells (tY (wQ 3 0 base [] (wP 1 ((i:Int)*z) z (lf n l top i) []))))) aA.nm
  have Z7:(lf n l top i).length≤4294967296:=by rw[Cj h top i];omega
  have hlen:(0:Nat)+b.length≤4294967296:=by omega
  have mG:((i:Nat):Int) < ((List.length (α:=aI .bool) b:Nat):Int):=by show((i:Nat):Int) < ((b.length:Nat):Int);omega
  have E9:i < List.length (α:=aI .bool) b:=mS
  generalize b[i]=x at*
  refine⟨by omega,x,bk,?_⟩
  refine⟨fun sQ=>?_,fun sQ=>?_⟩
  ·have sQ:(!x)=true:=sQ
   have sQ:x=false:=by simpa using sQ
   exact⟨by omega,i+1,⟨mS,fun j au=>by
    rcases Nat.lt_or_ge j i with bZ |bZ
    ·exact gR j bZ
    ·rw[show j=i by omega,hx,sQ]⟩,by show b.length - (i+1) < b.length - i;omega,ah.sub ⟨rfl,rfl,rfl,rfl,rfl,rfl,rfl,trivial⟩ ⟨rfl,rfl,rfl,rfl,rfl,trivial⟩⟩
  have sQ:(!x)=false:=sQ
  have sQ:x=true:=by simpa using sQ
  have yB:=hF i jH mS (by rw[hx,sQ]) gR
  generalize(aL (bn d))[i]=ce at yB zX
  refine⟨rfl,?_⟩
  refine⟨m1,?_⟩
  refine⟨_,_,_,_,cP,trivial,rfl,?_⟩
  refine⟨Z7,?_⟩
  refine⟨rfl,?_⟩
  show av _ _ _ _ _ _ _
  refine av.go ai (aJ ai) [14,20] (by kernel_rfl) (ah.sub (K':=J1 (bY l top) i) (B':=J2 bits room l top base b d (wQ 3 0 base [] (wP 1 ((i:Int)*(n:Nat)) (n:Nat) (lf n l top i) []))) ⟨rfl,rfl,rfl,rfl,rfl,rfl,rfl,rfl,rfl,trivial⟩ ⟨rfl,rfl,rfl,rfl,rfl,dy,trivial⟩) ?_
  refine⟨by omega,ce,zX,?_⟩
  refine⟨fun af=>?rQ,fun af=>?sR⟩
  case' rQ=>
   have af:dV ce=2:=of_decide_eq_true af
   have Cq:lp n l top base i (dV ce)=wQ 3 0 base [] (wP 2 ((i:Int)*(n:Nat)) (n:Nat) (lf n l top i) []):=by unfold lp;rw[if_pos af]
   have J3:=congrArg (fun z=>some (bw.cells (tY z))) Cq.symm
   show av _ _ _ _ _ _ _
   refine av.go ai (aJ ai) [20] (by kernel_rfl) (ah.sub (K':=J1 (bY l top) i) (B':=J2 bits room l top base b d (lp n l top base i (dV ce))) ⟨rfl,rfl,rfl,rfl,rfl,rfl,rfl,rfl,rfl,trivial⟩ ⟨rfl,rfl,rfl,rfl,rfl,J3,trivial⟩) ?_
  case' sR=>
   have af: ¬dV ce=2:=of_decide_eq_false af
   have Cq:lp n l top base i (dV ce)=wQ 3 0 base [] (wP 1 ((i:Int)*(n:Nat)) (n:Nat) (lf n l top i) []):=by unfold lp;rw[if_neg af]
   have J3:=congrArg (fun z=>some (bw.cells (tY z))) Cq.symm
   show av _ _ _ _ _ _ _
   refine av.go ai (aJ ai) [20] (by kernel_rfl) (ah.sub (K':=J1 (bY l top) i) (B':=J2 bits room l top base b d (lp n l top base i (dV ce))) ⟨rfl,rfl,rfl,rfl,rfl,rfl,rfl,rfl,rfl,trivial⟩ ⟨rfl,rfl,rfl,rfl,rfl,J3,trivial⟩) ?_
  all_goals
   refine⟨by omega,ce,zX,?_⟩
   have mR:=mR (dV ce)
   have g1:dV ce=0→lq n bits room l top base b (dV ce) i=⟨l,b.set i false,false,false,0⟩:=fun h=>by unfold lq;rw[if_pos h]
   have g2:dV ce≠0→(jv n bits room l (lp n l top base i (dV ce))).e=0→lq n bits room l top base b (dV ce) i=⟨(jv n bits room l (lp n l top base i (dV ce))).l,b.set i false,false,false,0⟩:=fun h h'=>by unfold lq;rw[if_neg h,if_pos h']
   have bL:dV ce≠0→(jv n bits room l (lp n l top base i (dV ce))).e≠0→lq n bits room l top base b (dV ce) i=⟨(jv n bits room l (lp n l top base i (dV ce))).l,b,false,false,(jv n bits room l (lp n l top base i (dV ce))).e⟩:=fun h h'=>by unfold lq;rw[if_neg h,if_neg h']
   rw[←yB] at g1 g2 bL
   generalize jv n bits room l (lp n l top base i (dV ce))=r at mR g2 bL
   refine⟨fun ay=>?_,fun ay=>?_⟩
   ·have ay:(!decide (dV ce=0))=true:=ay
    have ay: ¬dV ce=0:=by simpa using ay
    refine⟨_,_,_,_,mR,trivial,rfl,?_⟩
    refine⟨fun bu=>?_,fun bu=>?_⟩
    ·have bu:(!decide (r.e=0))=true:=bu
     have bu: ¬r.e=0:=by simpa using bu
     have bL:=bL ay bu
     clear g1 g2 yB hF c4
     subst bL
     refine⟨rfl,?_⟩
     exact⟨_,_,_,ah.refl _ _,rfl,⟨⟨rfl,rfl,rfl,trivial⟩,⟨rfl,rfl,rfl,rfl,trivial⟩,rfl,rfl,trivial⟩,trivial,rfl⟩
    ·have bu:(!decide (r.e=0))=false:=bu
     have bu:r.e=0:=by simpa using bu
     have g2:=g2 ay bu
     clear g1 bL yB hF c4
     subst g2
     refine⟨rfl,hlen,rfl,?_⟩
     refine⟨⟨by omega,mG⟩,?_⟩
     refine⟨⟨trivial,E9⟩,?_⟩
     show av _ _ _ _ _ _ _
     refine av.go ai (aJ ai) [] (by kernel_rfl) (ah.dU 94 rfl) ?_
     refine⟨rfl,?_⟩
     exact⟨_,_,_,ah.refl _ _,rfl,⟨⟨rfl,rfl,rfl,trivial⟩,⟨rfl,rfl,rfl,rfl,trivial⟩,rfl,rfl,trivial⟩,trivial,rfl⟩
   ·have ay:(!decide (dV ce=0))=false:=ay
    have ay:dV ce=0:=by simpa using ay
    have g1:=g1 ay
    clear g2 bL yB hF c4
    subst g1
    refine⟨fun h=>absurd h (by decide),fun _=>?_⟩
    refine⟨rfl,hlen,rfl,?_⟩
    refine⟨⟨by omega,mG⟩,?_⟩
    refine⟨⟨trivial,E9⟩,?_⟩
    show av _ _ _ _ _ _ _
    refine av.go ai (aJ ai) [] (by kernel_rfl) (ah.dU 94 rfl) ?_
    refine⟨rfl,?_⟩
    exact⟨_,_,_,ah.refl _ _,rfl,⟨⟨rfl,rfl,rfl,trivial⟩,⟨rfl,rfl,rfl,rfl,trivial⟩,rfl,rfl,trivial⟩,trivial,rfl⟩
 ·have hc: ¬((i:Nat):Int) < ((b.length:Nat):Int):=of_decide_eq_false hc
  have yB:=c4 fun j au=>gR j (by omega)
  clear hF c4
  subst yB
  have hmul:((n:Nat):Int)*(((aL (bn d)).length:Nat):Int)=((n*(aL (bn d)).length:Nat):Int):=by rw[Int.natCast_mul]
  have hle:n*(aL (bn d)).length≤8*256:=Nat.mul_le_mul wM hm
  have m1:(-9223372036854775808:Int)≤dr (bn d)*(((aL (bn d)).length:Nat):Int)∧dr (bn d)*(((aL (bn d)).length:Nat):Int)≤9223372036854775807:=by rw[aA.nm,hmul];omega
  have dy:=congrArg (fun z=>some (bw.cells (tY (wQ 3 0 top [] (wP 3 0 (z*((aL (bn d)).length:Int)) [] []))))) aA.nm
  refine⟨rfl,?_⟩
  refine⟨m1,?_⟩
  show av _ _ _ _ _ _ _
  refine av.le (ah.E6 14 (l':=tY (wQ 3 0 top [] (wP 3 0 (dr (bn d)*((aL (bn d)).length:Int)) [] []))) rfl ⟨rfl,rfl,rfl,rfl,rfl,rfl,rfl,rfl,rfl,trivial⟩) ?_
  refine av.go ai (aJ ai) [] (by kernel_rfl) (ah.sub (K':=[(2,aH 2),(3,aH 3),(4,aH 4),(5,aH 5),(14,aH 14)]) (B':=[(2,.cells (jJ bits room l)),(3,.cells (qO top base b false)),(4,.cells oe.t29.zero),(5,.cells oe.t84.zero),(14,.cells (tY (Cp n (aL (bn d)).length top)))]) ⟨rfl,rfl,rfl,rfl,rfl,trivial⟩ ⟨rfl,rfl,rfl,rfl,dy,trivial⟩) ?_
  refine⟨_,_,_,_,Z5,trivial,rfl,?_⟩
  refine⟨_,_,_,_,PK top base b false,trivial,rfl,?_⟩
  refine⟨rfl,?_⟩
  exact⟨_,_,_,ah.refl _ _,rfl,⟨⟨rfl,rfl,rfl,trivial⟩,⟨rfl,rfl,rfl,rfl,trivial⟩,rfl,rfl,trivial⟩,trivial,rfl⟩
end Go.Proofs.YteoamepgonpdlaaGreat
namespace Go.Proofs.YteoamepgonpdlaaGreat
open Go.RowKit Go.Proofs
def sec (x:List UInt8) (j:Nat):List UInt8:=(x.take (j*16+16)).drop (j*16)
theorem Cr (x:List UInt8) (j i:Nat):(sec x j)[i]? =if i < 16 then x[j*16+i]? else none:=by
 unfold sec
 rw[List.getElem?_drop,List.getElem?_take]
 by_cases h:i < 16
 ·rw[if_pos h,if_pos (by omega)]
 ·rw[if_neg h,if_neg (by omega)]
theorem Z8 {X:List UInt8} {off n:Nat} {ys:List UInt8} (aa:off+n≤X.length) (af:ys.length=n) (m:Nat):(laid X off n ys)[m]? =if m < off then X[m]? else if m < off+n then ys[m - off]? else X[m]? :=by
 unfold laid
 have aj:(X.take off).length=off:=by rw[List.length_take];omega
 have ak:ys.take n=ys:=List.take_of_length_le (by omega)
 rw[ak]
 by_cases aW:m < off
 ·rw[if_pos aW,List.append_assoc,List.getElem?_append_left (by omega),List.getElem?_take,if_pos aW]
 ·rw[if_neg aW]
  by_cases aX:m < off+n
  ·rw[if_pos aX,List.append_assoc,List.getElem?_append_right (by omega),aj,List.getElem?_append_left (by omega)]
  ·rw[if_neg aX,List.getElem?_append_right (by rw[List.length_append];omega),List.length_append,aj,af,List.getElem?_drop]
   congr 1
   omega
theorem Z9 {X bs:List UInt8} {t W a l j pa Au pt:Nat} (Al:X.length=W) (ag:bs.length=16*l) (au:j*16+16≤W) (aj:pa=16*a - 16*t) (ak:Au=min (16*(a+l) - 16*t) W) (bf:pt=16*t+pa - 16*a) (hp:pa≤Au) (bp:16*t < 16*(a+l)):
  sec (laid X pa (Au - pa) ((bs.take (pt+Au - pa)).drop pt)) j=if a≤t+j∧t+j < a+l then sec bs (t+j - a) else sec X j:=by
 have hlen:((bs.take (pt+Au - pa)).drop pt).length=Au - pa:=by
  rw[List.length_drop,List.length_take]
  omega
 refine List.ext_getElem? fun i=>?_
 rw[Cr,Z8 (by omega) hlen]
 by_cases aD:i < 16
 ·rw[if_pos aD]
  by_cases c:a≤t+j∧t+j < a+l
  ·rw[if_pos c,Cr,if_pos aD,if_neg (by omega),if_pos (by omega),List.getElem?_drop,List.getElem?_take,if_pos (by omega)]
   congr 1
   omega
  ·rw[if_neg c,Cr,if_pos aD]
   by_cases aX:j*16+i < pa
   ·rw[if_pos aX]
   ·rw[if_neg aX,if_neg (by omega)]
 ·rw[if_neg aD]
  split
  ·rw[Cr,if_neg aD]
  ·rw[Cr,if_neg aD]
theorem aaa (bits:Nat) (L:List aK) (nm:List UInt8) (cN s:Nat):tR bits L nm cN s=sec (nG bits L nm cN (s/2 ^bits)) (s % 2 ^bits):=rfl
section
variable {bits room:Nat} {L:List aK} {nm:List UInt8} {d:aK}
theorem aab (h:bX bits room L) (hd:dk L nm=some d) (c:Nat):(mE bits L nm (c7 L nm) c).length=16*2 ^bits:=IW h.tonF c _ _ fun n hn=>h.PF ⟨d,hd⟩ n (List.mem_cons_of_mem _ hn)
end
theorem aac {W a l:Nat} (dY:wu W) (aB:0 < l) {c:Nat}:(16*a/W≤c∧c < 16*a/W+bU W a l)↔(16*a < (c+1)*W∧c*W < 16*(a+l)):=by
 have hp:0 < W:=by rcases dY with h |h |h |h <;>omega
 have cz:16*a/W≤c↔16*a < (c+1)*W:=by
  rw[←Nat.lt_succ_iff,Nat.succ_eq_add_one,Nat.div_lt_iff_lt_mul hp]
 constructor
 ·rintro⟨aa,af⟩
  have:=(u7 dY (a:=a) (l:=l) (k:=c - 16*a/W)).2 (by omega)
  rw[show 16*a/W+(c - 16*a/W)=c by omega] at this
  exact⟨cz.1 aa,this.2⟩
 ·rintro⟨aa,af⟩
  have aa:=cz.2 aa
  refine⟨aa,?_⟩
  have:=(u7 dY (a:=a) (l:=l) (k:=c - 16*a/W)).1 ⟨aB,by rw[show 16*a/W+(c - 16*a/W)=c by omega];exact af⟩
  omega
theorem aad {X bs:List UInt8} {b a l c:Nat} (ag:b≤3) (Al:X.length=16*2 ^b) (AV:bs.length=16*l) (dz:16*a < (c+1)*(16*2 ^b)∧c*(16*2 ^b) < 16*(a+l)) {j:Nat} (au:j < 2 ^b):
  sec (laid X (aT (16*2 ^b) a l (c - 16*a/(16*2 ^b))).a ((aT (16*2 ^b) a l (c - 16*a/(16*2 ^b))).b - (aT (16*2 ^b) a l (c - 16*a/(16*2 ^b))).a) (lU bs (aT (16*2 ^b) a l (c - 16*a/(16*2 ^b))))) j=
   if a≤c*2 ^b+j∧c*2 ^b+j < a+l then sec bs (c*2 ^b+j - a) else sec X j:=by
 have hp:=k5 ag
 have dY:0 < 16*2 ^b:=by omega
 have hc:16*a/(16*2 ^b)≤c:=by
  rw[←Nat.lt_succ_iff,Nat.succ_eq_add_one,Nat.div_lt_iff_lt_mul dY]
  exact dz.1
 have mo:16*a/(16*2 ^b)+(c - 16*a/(16*2 ^b))=c:=by omega
 have cc:c*(16*2 ^b)=16*(c*2 ^b):=Nat.mul_left_comm ..
 have J4:(c+1)*(16*2 ^b)=16*(c*2 ^b)+16*2 ^b:=by rw[Nat.succ_mul,cc]
 unfold lU
 refine Z9 (t:=c*2 ^b) (W:=16*2 ^b) Al AV (by omega) ?_ ?_ ?_ ?_ (by omega)
 ·show 16*a - (16*a/(16*2 ^b)+(c - 16*a/(16*2 ^b)))*(16*2 ^b)=_
  rw[mo,cc]
 ·show min (16*(a+l) - (16*a/(16*2 ^b)+(c - 16*a/(16*2 ^b)))*(16*2 ^b)) (16*2 ^b)=_
  rw[mo,cc]
 ·show(16*a/(16*2 ^b)+(c - 16*a/(16*2 ^b)))*(16*2 ^b)+(16*a - (16*a/(16*2 ^b)+(c - 16*a/(16*2 ^b)))*(16*2 ^b)) - 16*a=16*(c*2 ^b)+(16*a - (16*a/(16*2 ^b)+(c - 16*a/(16*2 ^b)))*(16*2 ^b)) - 16*a
  rw[mo,cc]
 ·show 16*a - (16*a/(16*2 ^b)+(c - 16*a/(16*2 ^b)))*(16*2 ^b)≤min (16*(a+l) - (16*a/(16*2 ^b)+(c - 16*a/(16*2 ^b)))*(16*2 ^b)) (16*2 ^b)
  rw[mo,cc]
  omega
section
variable {bits room:Nat} {L:List aK} {nm:List UInt8}
end
section
variable {bits room:Nat} {L:List aK} {nm:List UInt8}
theorem PO {a l:Int} (he:(ji bits L nm a l).e=0): ∃d,dk L nm=some d∧a=((a.toNat:Nat):Int)∧l=((l.toNat:Nat):Int)∧dK d.im a.toNat l.toNat=0∧fq d.im a.toNat l.toNat (bU (wid d.im) a.toNat l.toNat)≤zeros d.im.l∧
  (ji bits L nm a l).L=lim L nm (en d.im a.toNat l.toNat (mE bits L nm (c7 L nm)) (bU (wid d.im) a.toNat l.toNat)) none:=by
 unfold ji at he⊢
 cases aE:dk L nm with
 |none=>rw[aE] at he;exact absurd he (show¬(140:Int)=0 by decide)
 |some d=>
  rw[aE] at he
  simp only at he⊢
  split at he
  ·rename_i af;exact absurd he af
  ·rename_i af
   rw[if_neg af]
   have af:dK d.im a l=0:=Decidable.byContradiction af
   obtain⟨aj,ak⟩:=rN af
   have he:yb d.im a.toNat l.toNat=0:=he
   unfold yb at he
   split at he
   ·rename_i ay
    refine⟨d,rfl,aj,ak,by rw[←aj,←ak];exact af,ay,?_⟩
    show lim L nm (ve d.im a.toNat l.toNat _) none=_
    unfold ve
    rw[if_pos ay]
   ·exact absurd he (by decide)
end
end Go.Proofs.YteoamepgonpdlaaGreat
namespace Go.Proofs.YteoamepgonpdlaaGreat
open Go.RowKit Go.Proofs
def l5 (m:c5) (c:Nat):Int:=jY ((aL m).getD c (ij 0 0))
theorem yC {m:c5} {c:Nat} (hc:c < (aL m).length):l5 m c=jY (aL m)[c]:=by
 unfold l5
 rw[List.getD_eq_getElem?_getD,List.getElem?_eq_getElem hc]
 rfl
structure ej (n:Nat) (s:bE) (m:c5):Prop where
 im:fP s
 ok:gM n m
 wd:wid s=16*n
 len:(aL m).length=s.t.length
 Cs:kj m=(s.l.length:Nat)
 cL: ∀c,c < s.t.length→ez m c=(s.t.getD c s0).1
 Ct: ∀c,c < s.t.length→ez m c=1→dZ s c none=(cS m).getD (l5 m c).toNat []
 inj: ∀c d,c < s.t.length→d < s.t.length→ez m c=1→ez m d=1→l5 m c=l5 m d→c=d
section
variable {n:Nat} {s:bE} {m:c5}
theorem ej.wS (h:ej n s m) {c:Nat} (hc:c < s.t.length) (aq:ez m c=1): ∃i:Nat,l5 m c=(i:Int)∧i < (cS m).length:=by
 have dc:c < (aL m).length:=by rw[h.len];exact hc
 rw[rO dc] at aq
 rw[yC dc]
 exact h.ok.qJ _ (List.getElem_mem dc) aq
theorem ej.refs (h:ej n s m) {c:Nat} (hc:c < s.t.length) (aq:ez m c=1):jG (aL m) (l5 m c)=1:=by
 have dc:c < (aL m).length:=by rw[h.len];exact hc
 have key: ∀k,k≤(aL m).length→jG ((aL m).take k) (l5 m c)=if c < k then 1 else 0:=fun k=>by
  induction k with
  |zero=>intro _;rfl
  |succ k aZ=>
   intro gx
   have tI:k < (aL m).length:=gx
   rw[OU tI,aZ (by omega)]
   by_cases e:k=c
   ·subst e
    rw[if_neg (Nat.lt_irrefl _),if_pos (Nat.lt_succ_self _),if_pos ⟨by rw[←rO tI];exact aq,(yC tI).symm⟩]
   ·have hn: ¬(dV (aL m)[k]=1∧jY (aL m)[k]=l5 m c):=fun⟨cC,cR⟩=>by
     rw[←rO tI] at cC
     rw[←yC tI] at cR
     exact e (h.inj k c (by rw[←h.len];exact tI) hc cC aq cR)
    rw[if_neg hn]
    by_cases ak:c < k
    ·rw[if_pos ak,if_pos (by omega)]
    ·rw[if_neg ak,if_neg (by omega)]
 have:=key _ (Nat.le_refl _)
 rw[List.take_length,if_pos dc] at this
 exact this
theorem ej.own (h:ej n s m) {c:Nat} (hc:c < s.t.length):qK m c=decide (ez m c=1):=by
 have dc:c < (aL m).length:=by rw[h.len];exact hc
 unfold qK
 rw[List.getElem?_eq_getElem dc]
 simp only
 rw[←rO dc,←yC dc]
 by_cases aq:ez m c=1
 ·rw[h.refs hc aq,decide_eq_true aq]
  rfl
 ·rw[decide_eq_false aq,Bool.false_and]
theorem ej.PR (h:ej n s m) {c:Nat} (hc:c < s.t.length):gC s c=decide (ez m c≠1):=by
 rcases zK h.im hc with⟨aa,af⟩ |⟨aa,k,af,_⟩
 ·rw[aa,h.cL c hc]
  rcases af with af |af <;>rw[af] <;>rfl
 ·have e:s.t.getD c s0=((1:Int),(k:Int),true):=by rw[List.getD_eq_getElem?_getD,af];rfl
  rw[aa,h.cL c hc,e]
  rfl
def ud (m:c5) (N:Nat):List Nat:=(List.range N).filter fun c=>decide (ez m c=1)
theorem Av {m:c5} {N c:Nat}:c∈ud m N↔c < N∧ez m c=1:=by
 unfold ud
 rw[List.mem_filter,List.mem_range,decide_eq_true_iff]
theorem PS {f:Nat→Nat} {l:List Nat} (aB:l.Nodup) (hf: ∀a b,a∈l→b∈l→f a=f b→a=b):(l.map f).Nodup:=by
 unfold List.Nodup at aB⊢
 rw[List.pairwise_map]
 exact aB.imp_of_mem fun ha ag bg e=>bg (hf _ _ ha ag e)
theorem PT (m:c5) (N:Nat):(ud m N).Nodup:=List.Pairwise.sublist List.filter_sublist List.nodup_range
theorem PU: ∀l:List Int,(∀x,x∈l→x=0∨x=1)→zeros l+(l.filter fun x=>decide (x=1)).length=l.length
 | [],_=>rfl
 |x::l,h=>by
  have aZ:=PU l fun y aF=>h y (List.mem_cons_of_mem _ aF)
  unfold zeros at aZ⊢
  rcases h x (List.mem_cons_self ..) with e |e
  ·subst e
   simp only[List.filter_cons,List.length_cons]
   simp
   omega
  ·subst e
   simp only[List.filter_cons,List.length_cons]
   simp
   omega
def J5 (l:List Int):List Nat:=(List.range l.length).filter fun h=>decide (l[h]? =some 1)
theorem aae: ∀l:List Int,(J5 l).length=(l.filter fun x=>decide (x=1)).length:=fun l=>by
 have key: ∀k,k≤l.length→((List.range k).filter fun h=>decide (l[h]? =some 1)).length=((l.take k).filter fun x=>decide (x=1)).length:=fun k=>by
  induction k with
  |zero=>intro _;rfl
  |succ k aZ=>
   intro aq
   have bP:k < l.length:=aq
   rw[List.range_succ,List.filter_append,List.length_append,aZ (by omega),List.take_succ_eq_append_getElem bP,List.filter_append,List.length_append]
   congr 1
   by_cases e:l[k]=1
   ·simp[List.getElem?_eq_getElem bP,e]
   ·simp[List.getElem?_eq_getElem bP,e]
 have:=key _ (Nat.le_refl _)
 rw[List.take_length] at this
 exact this
theorem PV (m:c5): ∀k,qb m k=((List.range k).filter fun i:Nat=>decide (jG (aL m) (i:Nat) >0)).length
 |0=>rfl
 |k+1=>by
  rw[qb,PV m k,List.range_succ,List.filter_append,List.length_append]
  congr 1
  by_cases e:jG (aL m) (k:Nat) >0
  ·rw[if_pos e];simp[e]
  ·rw[if_neg e];simp[e]
theorem aaf {cs:List Cell} {id:Int}:0 < jG cs id↔ ∃c∈cs,dV c=1∧jY c=id:=by
 unfold jG
 rw[List.length_pos_iff_exists_mem]
 constructor
 ·rintro⟨c,hc⟩
  obtain⟨aa,af⟩:=List.mem_filter.1 hc
  simp only[Bool.and_eq_true,decide_eq_true_eq] at af
  exact⟨c,aa,af⟩
 ·rintro⟨c,aa,af,ay⟩
  refine⟨c,List.mem_filter.2 ⟨aa,?_⟩⟩
  rw[decide_eq_true af,decide_eq_true ay]
  rfl
theorem ej.used (h:ej n s m):qb m (cS m).length=(ud m s.t.length).length:=by
 rw[PV,show(ud m s.t.length).length=((ud m s.t.length).map fun c=>(l5 m c).toNat).length from(List.length_map ..).symm]
 apply List.Perm.length_eq
 rw[List.perm_ext_iff_of_nodup (List.Pairwise.sublist List.filter_sublist List.nodup_range) (PS (PT m _) fun a b ha ag e=>by
  obtain⟨cj,cu⟩:=Av.1 ha
  obtain⟨b1,b2⟩:=Av.1 ag
  obtain⟨i,i1,_⟩:=h.wS cj cu
  obtain⟨j,oJ,_⟩:=h.wS b1 b2
  have e:(l5 m a).toNat=(l5 m b).toNat:=e
  rw[i1,oJ,Int.toNat_natCast,Int.toNat_natCast] at e
  exact h.inj a b cj b1 cu b2 (by rw[i1,oJ,e]))]
 intro i
 rw[List.mem_filter,List.mem_range,decide_eq_true_iff,List.mem_map]
 constructor
 ·rintro⟨aD,hr⟩
  obtain⟨c,hc,cz,er⟩:=aaf.1 hr
  obtain⟨j,au,rfl⟩:=List.getElem_of_mem hc
  refine⟨j,Av.2 ⟨by rw[←h.len];exact au,by rw[rO au];exact cz⟩,?_⟩
  rw[yC au,er,Int.toNat_natCast]
 ·rintro⟨c,hc,e⟩
  obtain⟨aW,aX⟩:=Av.1 hc
  obtain⟨j,oJ,Aw⟩:=h.wS aW aX
  have tN:j=i:=by rw[oJ,Int.toNat_natCast] at e;exact e
  subst tN
  have:=h.refs aW aX
  rw[oJ] at this
  exact⟨Aw,by omega⟩
theorem ej.aag (h:ej n s m):(J5 s.l).length=(ud m s.t.length).length:=by
 rw[show(ud m s.t.length).length=((ud m s.t.length).map fun c=>(s.t.getD c s0).2.1.toNat).length from(List.length_map ..).symm]
 have slot: ∀c,c∈ud m s.t.length→ ∃k:Nat,s.t[c]? =some ((1:Int),(k:Int),true)∧s.l[k]? =some 1∧(s.t.getD c s0).2.1.toNat=k:=fun c hc=>by
  obtain⟨aW,aX⟩:=Av.1 hc
  rw[h.cL c aW,List.getD_eq_getElem?_getD,List.getElem?_eq_getElem aW] at aX
  have aX:(s.t[c]).1=1:=aX
  rcases h.im.slot c _ (List.getElem?_eq_getElem aW) with e |e |⟨k,e,ak,_⟩
  ·rw[e] at aX;exact absurd aX (by decide)
  ·rw[e] at aX;exact absurd aX (by decide)
  ·refine⟨k,by rw[List.getElem?_eq_getElem aW,e],ak,?_⟩
   rw[List.getD_eq_getElem?_getD,List.getElem?_eq_getElem aW,e]
   rfl
 apply List.Perm.length_eq
 unfold J5
 rw[List.perm_ext_iff_of_nodup (List.Pairwise.sublist List.filter_sublist List.nodup_range) (PS (PT m _) fun a b ha ag e=>by
  obtain⟨k,cz,_,eX⟩:=slot a ha
  obtain⟨j,oJ,_,aah⟩:=slot b ag
  have e:(s.t.getD a s0).2.1.toNat=(s.t.getD b s0).2.1.toNat:=e
  rw[eX,aah] at e
  subst e
  exact h.im.inj a b _ cz oJ)]
 intro i
 rw[List.mem_filter,List.mem_range,decide_eq_true_iff,List.mem_map]
 constructor
 ·rintro⟨aD,hr⟩
  obtain⟨c,hc⟩:=h.im.used i hr
  have aW:c < s.t.length:=(List.getElem?_eq_some_iff.1 hc).1
  have e:s.t.getD c s0=((1:Int),(i:Int),true):=by rw[List.getD_eq_getElem?_getD,hc];rfl
  refine⟨c,Av.2 ⟨aW,by rw[h.cL c aW,e]⟩,?_⟩
  rw[e]
  exact Int.toNat_natCast i
 ·rintro⟨c,hc,e⟩
  obtain⟨k,_,er,eX⟩:=slot c hc
  have e:(s.t.getD c s0).2.1.toNat=i:=e
  rw[eX] at e
  subst e
  exact⟨(List.getElem?_eq_some_iff.1 er).1,er⟩
theorem ej.free (h:ej n s m):Ah m=(zeros s.l:Nat):=by
 have aa:=PU s.l fun x hx=>by
  obtain⟨i,aD,rfl⟩:=List.getElem_of_mem hx
  exact h.im.cnt i _ (List.getElem?_eq_getElem aD)
 rw[←aae,h.aag] at aa
 unfold Ah
 rw[h.used,h.Cs]
 omega
theorem J6 (c:Nat) (x:Cell) (d:Nat) (hc:c < (aL m).length):ez (qc m c x) d=if d=c then dV x else ez m d:=by
 unfold ez
 show dV (((aL m).set c x).getD d (ij 0 0))=_
 rw[List.getD_eq_getElem?_getD,List.getD_eq_getElem?_getD,List.getElem?_set]
 by_cases e:c=d
 ·subst e
  rw[if_pos rfl,if_pos rfl,if_pos hc]
  rfl
 ·rw[if_neg e,if_neg (Ne.symm e)]
theorem Fb (c:Nat) (x:Cell) (d:Nat) (hc:c < (aL m).length):l5 (qc m c x) d=if d=c then jY x else l5 m d:=by
 unfold l5
 show jY (((aL m).set c x).getD d (ij 0 0))=_
 rw[List.getD_eq_getElem?_getD,List.getD_eq_getElem?_getD,List.getElem?_set]
 by_cases e:c=d
 ·subst e
  rw[if_pos rfl,if_pos rfl,if_pos hc]
  rfl
 ·rw[if_neg e,if_neg (Ne.symm e)]
theorem Cu {s s':bE} {d:Nat} (h:s'.t[d]? =s.t[d]?):s'.t.getD d s0=s.t.getD d s0:=by rw[List.getD_eq_getElem?_getD,List.getD_eq_getElem?_getD,h]
theorem ej.set {s':bE} {c:Nat} {q:eG} (h:ej n s m) (hs:Eg s s' c q) (hc:c < s.t.length) (bp:q=s0∨q=wz):ej n s' (qc m c (ij q.1 0)):=by
 have dc:c < (aL m).length:=by rw[h.len];exact hc
 have ye:q.1≠1:=by rcases bp with e |e <;>rw[e] <;>decide
 have gD: ∀d,ez (qc m c (ij q.1 0)) d=1→d≠c∧ez m d=1:=fun d hd=>by
  rw[J6 c _ d dc] at hd
  by_cases e:d=c
  ·rw[if_pos e] at hd;exact absurd hd ye
  ·rw[if_neg e] at hd;exact⟨e,hd⟩
 refine⟨hs.ok,h.ok.set c ye,?_,?_,?_,fun d hd=>?_,fun d hd aq=>?_,fun d e hd he fL j4 aD=>?_⟩
 ·rw[←h.wd];unfold wid;rw[hs.bits]
 ·show((aL m).set c _).length=_
  rw[List.length_set,hs.tl,h.len]
 ·show kj m=_
  rw[hs.lS,h.Cs]
 ·rw[hs.tl] at hd
  rw[J6 c _ d dc]
  by_cases e:d=c
  ·subst e
   rw[if_pos rfl,List.getD_eq_getElem?_getD,hs.there]
   rfl
  ·rw[if_neg e,h.cL d hd,Cu (hs.gD d e).1]
 ·rw[hs.tl] at hd
  obtain⟨e,bP⟩:=gD d aq
  rw[(hs.gD d e).2,h.Ct d hd bP,Fb c _ d dc,if_neg e]
 ·rw[hs.tl] at hd he
  obtain⟨aj,cz⟩:=gD d fL
  obtain⟨ak,er⟩:=gD e j4
  rw[Fb c _ d dc,Fb c _ e dc,if_neg aj,if_neg ak] at aD
  exact h.inj d e hd he cz er aD
theorem ej.put {s':bE} {p:mA} {bs y x:List UInt8} (h:ej n s m) (hs:zS s s' p bs y) (hc:p.c < s.t.length) (hx:laid (dZ s p.c (some y)) p.a (p.b - p.a) bs=x) (uE:x.length=16*n) (hd:(cS m).length+1≤100000):ej n s' (kn m p.c x):=by
 have dc:p.c < (aL m).length:=by rw[h.len];exact hc
 have dD:=h.own hc
 have bB:=h.ok.put p.c uE hd
 have b9:wid s'=16*n:=by rw[←h.wd];unfold wid;rw[hs.bits]
 have ck:(aL (kn m p.c x)).length=s'.t.length:=by rw[Jw,hs.tl,h.len]
 have w3:kj (kn m p.c x)=(s'.l.length:Nat):=by rw[hs.lS,←h.Cs];unfold kn;split <;>rfl
 have cz:(s'.t.getD p.c s0).1=1:=by
  have ke:p.c < s'.t.length:=by rw[hs.tl];exact hc
  rcases zK hs.ok ke with⟨aj,_⟩ |⟨_,k,ak,_⟩
  ·rw[hs.jM] at aj;cases aj
  ·rw[List.getD_eq_getElem?_getD,ak];rfl
 have PW:dZ s' p.c none=x:=(hs.there none).trans hx
 by_cases aq:ez m p.c=1
 ·rw[decide_eq_true aq] at dD
  have e:kn m p.c x=oB (dr m) (kj m) (aL m) (mG m) ((cS m).set (l5 m p.c).toNat x):=by unfold kn;rw[dD];rfl
  obtain⟨i,i1,i2⟩:=h.wS hc aq
  rw[e] at bB ck w3⊢
  refine⟨hs.ok,bB,b9,ck,w3,fun d hd=>?_,fun d hd fL=>?_,fun d e hd he fL j4 aD=>?_⟩
  ·rw[hs.tl] at hd
   show ez m d=_
   by_cases e:d=p.c
   ·subst e;rw[cz,aq]
   ·rw[h.cL d hd,Cu (hs.gD d e).1]
  ·rw[hs.tl] at hd
   have fL:ez m d=1:=fL
   show dZ s' d none=((cS m).set (l5 m p.c).toNat x).getD (l5 m d).toNat []
   by_cases e:d=p.c
   ·subst e
    rw[PW,i1,Int.toNat_natCast,List.getD_eq_getElem?_getD,List.getElem?_set_self i2]
    rfl
   ·obtain⟨j,oJ,Aw⟩:=h.wS hd fL
    have fG:i≠j:=fun q=>e (h.inj d p.c hd hc fL aq (by rw[i1,oJ,q]))
    rw[(hs.gD d e).2,h.Ct d hd fL,i1,oJ,Int.toNat_natCast,Int.toNat_natCast,List.getD_eq_getElem?_getD,List.getD_eq_getElem?_getD,List.getElem?_set_ne fG]
  ·rw[hs.tl] at hd he
   exact h.inj d e hd he fL j4 aD
 ·rw[decide_eq_false aq] at dD
  have e:kn m p.c x=qc (oB (dr m) (kj m) (aL m) (mG m) (cS m++[x])) p.c (ij 1 ((cS m).length:Nat)):=by unfold kn;rw[dD]
  rw[e] at bB ck w3⊢
  have cN: ∀d,ez (qc (oB (dr m) (kj m) (aL m) (mG m) (cS m++[x])) p.c (ij 1 ((cS m).length:Nat))) d=if d=p.c then 1 else ez m d:=fun d=>J6 (m:=oB (dr m) (kj m) (aL m) (mG m) (cS m++[x])) p.c _ d dc
  have ii: ∀d,l5 (qc (oB (dr m) (kj m) (aL m) (mG m) (cS m++[x])) p.c (ij 1 ((cS m).length:Nat))) d=if d=p.c then(((cS m).length:Nat):Int) else l5 m d:=fun d=>Fb (m:=oB (dr m) (kj m) (aL m) (mG m) (cS m++[x])) p.c _ d dc
  refine⟨hs.ok,bB,b9,ck,w3,fun d hd=>?_,fun d hd fL=>?_,fun d e hd he fL j4 aD=>?_⟩
  ·rw[hs.tl] at hd
   rw[cN]
   by_cases e:d=p.c
   ·subst e;rw[if_pos rfl,cz]
   ·rw[if_neg e,h.cL d hd,Cu (hs.gD d e).1]
  ·rw[hs.tl] at hd
   rw[cN] at fL
   rw[ii]
   show dZ s' d none=(cS m++[x]).getD _ []
   by_cases e:d=p.c
   ·subst e
    rw[if_pos rfl,PW,Int.toNat_natCast,List.getD_eq_getElem?_getD,List.getElem?_concat_length]
    rfl
   ·rw[if_neg e] at fL⊢
    obtain⟨j,oJ,Aw⟩:=h.wS hd fL
    rw[(hs.gD d e).2,h.Ct d hd fL,oJ,Int.toNat_natCast,List.getD_eq_getElem?_getD,List.getD_eq_getElem?_getD,List.getElem?_append_left Aw]
  ·rw[hs.tl] at hd he
   rw[cN] at fL j4
   rw[ii,ii] at aD
   by_cases aj:d=p.c <;>by_cases ak:e=p.c
   ·rw[aj,ak]
   ·rw[if_neg ak] at j4 aD
    rw[if_pos aj] at aD
    obtain⟨j,oJ,Aw⟩:=h.wS he j4
    rw[oJ] at aD
    omega
   ·rw[if_neg aj] at fL aD
    rw[if_pos ak] at aD
    obtain⟨j,oJ,Aw⟩:=h.wS hd fL
    rw[oJ] at aD
    omega
   ·rw[if_neg aj] at fL aD
    rw[if_neg ak] at j4 aD
    exact h.inj d e hd he fL j4 aD
end
end Go.Proofs.YteoamepgonpdlaaGreat
namespace Go.Proofs.YteoamepgonpdlaaGreat
open Go.RowKit Go.Proofs
theorem PX (n c a l:Nat): ∀k,ei n c a l k=min k (a+l - c*n) - min k (a - c*n)
 |0=>by simp[ei]
 |k+1=>by
  rw[ei,PX n c a l k]
  generalize c*n=t
  split <;>omega
theorem Fc {Z:List UInt8} {f:Nat→List UInt8} {g:Nat→List UInt8} (J7:g 0=[]) (bk: ∀k,g (k+1)=g k++f k): ∀n,16*n≤Z.length→(∀k,k < n→sec Z k=f k)→Z.take (16*n)=g n
 |0,_,_=>by rw[J7];rfl
 |n+1,hn,hf=>by
  rw[bk,←Fc J7 bk n (by omega) fun k aq=>hf k (by omega),←hf n (by omega)]
  unfold sec
  rw[show 16*(n+1)=n*16+16 by omega,show 16*n=n*16 by omega]
  have e:(Z.take (n*16+16)).take (n*16)++(Z.take (n*16+16)).drop (n*16)=Z.take (n*16+16):=List.take_append_drop ..
  rw[List.take_take,Nat.min_eq_left (by omega)] at e
  exact e.symm
section
variable {n:Nat} {s:bE} {m:c5}
theorem ej.pow (h:ej n s m):n=2 ^s.bits:=by
 have:=h.wd
 unfold wid at this
 omega
theorem ej.all (h:ej n s m):eV s=n*(aL m).length:=by
 unfold eV
 rw[h.len,h.pow,Nat.mul_comm]
theorem ej.aai (h:ej n s m) (a l:Int):dK s a l=fY n (aL m).length a l:=by
 unfold dK fY
 rw[h.all]
 generalize((n*(aL m).length:Nat):Int)=N
 by_cases aa:l < 0
 ·rw[if_pos aa,if_pos aa]
 ·rw[if_neg aa,if_neg aa]
  by_cases af:a < 0
  ·rw[if_pos (.inl af),if_pos af]
  ·rw[if_neg af]
   by_cases ay:N < a
   ·rw[if_pos ay,if_pos (by omega)]
   ·rw[if_neg ay]
    by_cases bu:N - a < l
    ·rw[if_pos bu,if_pos (by omega)]
    ·rw[if_neg bu,if_neg (by omega)]
theorem ej.piece (h:ej n s m) {a l:Nat} {c:Nat}:(0 < ei n c a l n↔16*a/wid s≤c∧c < 16*a/wid s+bU (wid s) a l)∧
  (16*a/wid s≤c→c < 16*a/wid s+bU (wid s) a l→(aT (wid s) a l (c - 16*a/wid s)).c=c∧(aT (wid s) a l (c - 16*a/wid s)).b - (aT (wid s) a l (c - 16*a/wid s)).a=16*ei n c a l n∧16*a < (c+1)*wid s∧c*wid s < 16*(a+l)):=by
 have dY:=o4 h.im.bits
 have ee:=h.ok.ee
 have aj:c*wid s=16*(c*n):=by rw[h.wd,Nat.mul_left_comm]
 have ak:(c+1)*wid s=16*(c*n)+16*n:=by rw[Nat.succ_mul,aj,h.wd]
 have aD:=PX n c a l n
 have key:0 < l→((16*a/wid s≤c∧c < 16*a/wid s+bU (wid s) a l)↔(16*a < (c+1)*wid s∧c*wid s < 16*(a+l))):=fun aB=>aac dY aB
 have hp:l=0→bU (wid s) a l=0:=fun e=>if_pos e
 rw[aj,ak] at key
 generalize bp:16*a/wid s=cx at*
 refine⟨?_,fun g1 g2=>?_⟩
 ·rcases Nat.eq_zero_or_pos l with aB |aB
  ·have:=hp aB
   constructor
   ·intro g;omega
   ·rintro⟨g1,g2⟩;omega
  ·rw[key aB]
   omega
 ·have aB:0 < l:=Nat.pos_of_ne_zero fun e=>by have:=hp e;omega
  have g:=(key aB).1 ⟨g1,g2⟩
  rw[aj,ak]
  have mo:cx+(c - cx)=c:=by omega
  refine⟨?_,?_,g.1,g.2⟩
  ·show 16*a/wid s+(c - cx)=c
   rw[bp];exact mo
  ·show min (16*(a+l) - (16*a/wid s+(c - cx))*wid s) (wid s) - (16*a - (16*a/wid s+(c - cx))*wid s)=_
   rw[bp,mo,aj,aD,h.wd]
   omega
theorem ej.lay (h:ej n s m) {a l c:Nat} {bs X:List UInt8} (AV:bs.length=16*l) (Al:X.length=16*n) (dz:16*a < (c+1)*wid s∧c*wid s < 16*(a+l)) (hlen:(laid X (aT (wid s) a l (c - 16*a/wid s)).a ((aT (wid s) a l (c - 16*a/wid s)).b - (aT (wid s) a l (c - 16*a/wid s)).a) (lU bs (aT (wid s) a l (c - 16*a/wid s)))).length=16*n):
  laid X (aT (wid s) a l (c - 16*a/wid s)).a ((aT (wid s) a l (c - 16*a/wid s)).b - (aT (wid s) a l (c - 16*a/wid s)).a) (lU bs (aT (wid s) a l (c - 16*a/wid s)))=m4 n c a X bs n:=by
 have hp:=h.pow
 have ag:=h.im.bits
 unfold wid at dz hlen⊢
 subst hp
 have e:=Fc (Z:=laid X (aT (16*2 ^s.bits) a l (c - 16*a/(16*2 ^s.bits))).a ((aT (16*2 ^s.bits) a l (c - 16*a/(16*2 ^s.bits))).b - (aT (16*2 ^s.bits) a l (c - 16*a/(16*2 ^s.bits))).a) (lU bs (aT (16*2 ^s.bits) a l (c - 16*a/(16*2 ^s.bits))))) (f:=qL (2 ^s.bits) c a X bs) (g:=m4 (2 ^s.bits) c a X bs) rfl (fun _=>rfl) (2 ^s.bits) (Nat.le_of_eq hlen.symm) fun k aq=>by
  rw[aad ag Al AV dz aq]
  unfold qL sec
  by_cases g:a≤c*2 ^s.bits+k∧c*2 ^s.bits+k < a+l
  ·rw[if_pos g,if_pos (by generalize c*2 ^s.bits=t at*;omega)]
   rw[Nat.mul_comm (c*2 ^s.bits+k - a) 16]
  ·rw[if_neg g,if_neg (by generalize c*2 ^s.bits=t at*;omega),Nat.mul_comm k 16]
 rw[←e]
 exact(List.take_of_length_le (Nat.le_of_eq hlen)).symm
def nc (cx p k:Nat):Nat:=min (k - cx) p
theorem Cv {cx p k:Nat} (aa:cx≤k) (af:k < cx+p):nc cx p k=k - cx∧nc cx p (k+1)=k - cx+1∧k - cx < p:=by unfold nc;omega
theorem Cw {cx p k:Nat} (h: ¬(cx≤k∧k < cx+p)):nc cx p (k+1)=nc cx p k:=by unfold nc;omega
theorem Cx {cx p N:Nat} (h:p=0∨cx+p≤N):nc cx p N=p:=by unfold nc;omega
theorem ej.fits (h:ej n s m) {a l:Nat} (dh:a+l≤eV s):bU (wid s) a l=0∨16*a/wid s+bU (wid s) a l≤s.t.length:=by
 rcases Nat.eq_zero_or_pos (bU (wid s) a l) with e |e
 ·exact .inl e
 ·right
  have:=(rK h.im dh (k:=bU (wid s) a l - 1) (by omega)).1
  have ak:(aT (wid s) a l (bU (wid s) a l - 1)).c=16*a/wid s+(bU (wid s) a l - 1):=rfl
  omega
theorem ej.aaj (h:ej n s m) {a l:Nat} (dh:a+l≤eV s):j0 n a l false m (aL m).length=fX s a l (bU (wid s) a l):=by
 have key: ∀k,k≤s.t.length→j0 n a l false m k=fX s a l (nc (16*a/wid s) (bU (wid s) a l) k):=fun k=>by
  induction k with
  |zero=>intro _;unfold nc;simp[j0,fX]
  |succ k aZ=>
   intro aq
   have bP:k < s.t.length:=aq
   obtain⟨cC,cR⟩:=h.piece (a:=a) (l:=l) (c:=k)
   have hw:jI n a l false m k=(decide (0 < ei n k a l n)&&decide (ez m k≠1)):=by
    unfold jI
    rw[h.own bP]
    by_cases e:ez m k=1 <;>simp[e]
   rw[j0,aZ (by omega),hw]
   by_cases g:0 < ei n k a l n
   ·obtain⟨g1,g2⟩:=cC.1 g
    obtain⟨cj,cu,a3⟩:=Cv g1 g2
    rw[cj,cu,decide_eq_true g,Bool.true_and,fX]
    have ak:(aT (wid s) a l (k - 16*a/wid s)).c=k:=(cR g1 g2).1
    rw[ak,h.PR bP]
    by_cases e:ez m k=1
    ·rw[decide_eq_false (fun q=>q e)];rfl
    ·rw[decide_eq_true e];rfl
   ·rw[Cw (fun q=>g (cC.2 q)),decide_eq_false g]
    rfl
 rw[h.len,key _ (Nat.le_refl _),Cx (h.fits dh)]
theorem PY (h:ej n s m) {c:Nat} (hc:c < s.t.length) {y:List UInt8} {b6:List (List UInt8)} (ag:ez m c=0→b6[c]? =some y∧y.length=16*n):dZ s c (some y)=lX n m c b6:=by
 have dc:c < (aL m).length:=by rw[h.len];exact hc
 have aq:=h.cL c hc
 have sS:=h.Ct c hc
 rw[rO dc] at aq sS ag
 rw[yC dc] at sS
 unfold lX
 rw[List.getElem?_eq_getElem dc]
 simp only
 unfold dZ at sS⊢
 rw[List.getD_eq_getElem?_getD,List.getElem?_eq_getElem hc] at aq
 rw[List.getElem?_eq_getElem hc] at sS⊢
 simp only[Option.getD_some] at aq sS⊢
 have hw:=h.wd
 by_cases aj:dV (aL m)[c]=1
 ·rw[if_pos aj]
  have:=sS aj
  rw[if_pos (aq.symm.trans aj)] at this⊢
  exact this
 ·rw[if_neg aj,if_neg (fun q=>aj (aq.trans q))]
  by_cases bx:dV (aL m)[c]=0
  ·obtain⟨pW,aF⟩:=ag bx
   rw[if_pos bx,if_pos (aq.symm.trans bx),if_pos (aF.trans hw.symm),pW]
   simp only
   rw[if_pos aF]
  ·rw[if_neg bx,if_neg (fun q=>bx (aq.trans q))]
   unfold jV
   rw[hw]
theorem ej.wr (h:ej n s m) {a l:Nat} {bs:List UInt8} (e6:bs.length=16*l) (dh:a+l≤eV s) {y:Nat→List UInt8} {b6:List (List UInt8)} (aF: ∀c,c < s.t.length→ez m c=0→b6[c]? =some (y c)∧(y c).length=16*n) (hd:(cS m).length+256≤100000)
  (dJ:fX s a l (bU (wid s) a l)≤zeros s.l):ej n (gJ s a l bs y (bU (wid s) a l)) (jk n a l bs b6 false m (aL m).length):=by
 have lT:=h.im.tl
 have key: ∀k,k≤s.t.length→ej n (gJ s a l bs y (nc (16*a/wid s) (bU (wid s) a l) k)) (jk n a l bs b6 false m k):=fun k=>by
  induction k with
  |zero=>intro _;unfold nc;simp only[Nat.zero_sub,Nat.zero_min];exact h
  |succ k aZ=>
   intro aq
   have bP:k < s.t.length:=aq
   have hr:=aZ (by omega)
   obtain⟨cC,cR⟩:=h.piece (a:=a) (l:=l) (c:=k)
   rw[jk]
   by_cases g:0 < ei n k a l n
   ·obtain⟨g1,g2⟩:=cC.1 g
    obtain⟨cj,cu,a3⟩:=Cv g1 g2
    obtain⟨dS,cW,dF,dG⟩:=cR g1 g2
    rw[cj] at hr
    rw[cu]
    obtain⟨bC,hs⟩:=BU h.im e6 dh y dJ (k - 16*a/wid s) (by omega)
    obtain⟨mD,_⟩:=hs a3
    have Cn:wid (gJ s a l bs y (k - 16*a/wid s))=wid s:=bC.eD.wid
    have aak:(gJ s a l bs y (k - 16*a/wid s)).t.length=s.t.length:=bC.eD.tl
    have e:m5 n a l bs b6 false (jk n a l bs b6 false m k) k=kn (jk n a l bs b6 false m k) k (m4 n k a (lX n (jk n a l bs b6 false m k) k b6) bs n):=by
     unfold m5
     rw[if_neg (by omega),if_neg (fun q=>absurd q.1 (by decide)),if_neg (fun q=>absurd q.1 (by decide))]
    rw[e]
    have lu:k < (gJ s a l bs y (k - 16*a/wid s)).t.length:=by rw[aak];exact bP
    have mW:=(bC.gD k (.inr (by omega))).1
    have o5:=PY hr lu (b6:=b6) (y:=y k) fun q=>aF k bP (by rw[h.cL k bP,←Cu mW,←hr.cL k lu];exact q)
    have cP:=yy hr.ok (c:=k) (by rw[hr.len];exact lu) b6
    rw[dS] at mD
    have zG:(aT (wid s) a l (k - 16*a/wid s)).c=k:=dS
    have gq:(laid (dZ (gJ s a l bs y (k - 16*a/wid s)) k (some (y k))) (aT (wid s) a l (k - 16*a/wid s)).a ((aT (wid s) a l (k - 16*a/wid s)).b - (aT (wid s) a l (k - 16*a/wid s)).a) (lU bs (aT (wid s) a l (k - 16*a/wid s)))).length=16*n:=by
     obtain⟨b9,ck,w3,e7⟩:=qG (o4 h.im.bits) a3
     rw[Iq (by rw[o5,cP];have:=h.wd;omega) (BT b9 (by omega)),o5,cP]
    have hx:=h.lay e6 (X:=dZ (gJ s a l bs y (k - 16*a/wid s)) k (some (y k))) (by rw[o5];exact cP) ⟨dF,dG⟩ gq
    rw[o5] at hx
    have Cy:=hr.put (x:=m4 n k a (lX n (jk n a l bs b6 false m k) k b6) bs n) mD (by rw[zG];exact lu) (by rw[zG,o5];exact hx) (Ce n (Nat.le_of_eq cP.symm)) (by
     have:=Ak n a l bs b6 false m k
     omega)
    rw[zG] at Cy
    exact Cy
   ·rw[Cw (fun q=>g (cC.2 q))]
    have e:m5 n a l bs b6 false (jk n a l bs b6 false m k) k=jk n a l bs b6 false m k:=if_pos (by omega)
    rw[e]
    exact hr
 have:=key _ (Nat.le_refl _)
 rw[Cx (h.fits dh),←h.len] at this
 exact this
theorem ej.ds (h:ej n s m) {a l:Nat} (dh:a+l≤eV s):ej n (Iv s a l) (jZ n a l m (aL m).length):=by
 have lT:=h.im.tl
 have ee:=h.ok.ee
 have key: ∀k,k≤s.t.length→ej n (iT s a l (nc (16*a/wid s) (bU (wid s) a l) k)) (jZ n a l m k):=fun k=>by
  induction k with
  |zero=>intro _;unfold nc;simp only[Nat.zero_sub,Nat.zero_min];exact h
  |succ k aZ=>
   intro aq
   have bP:k < s.t.length:=aq
   have hr:=aZ (by omega)
   obtain⟨cC,cR⟩:=h.piece (a:=a) (l:=l) (c:=k)
   by_cases g:0 < ei n k a l n
   ·obtain⟨g1,g2⟩:=cC.1 g
    obtain⟨cj,cu,a3⟩:=Cv g1 g2
    obtain⟨dS,cW,_⟩:=cR g1 g2
    rw[cj] at hr
    rw[cu,iT,jZ,cW,dS,h.wd]
    have bC:=zU h.im dh (k - 16*a/wid s) (by omega)
    by_cases e:ei n k a l n=n
    ·rw[if_pos (by rw[e]),if_pos e]
     have lu:k < (iT s a l (k - 16*a/wid s)).t.length:=by rw[bC.eD.tl];exact bP
     have:=hr.set (Eh hr.im lu (q:=s0) (.inl rfl)) lu (.inl rfl)
     rw[h.wd] at this
     exact this
    ·rw[if_neg (by omega),if_neg e]
     rw[h.wd] at hr
     exact hr
   ·rw[Cw (fun q=>g (cC.2 q)),jZ,if_neg (by omega)]
    exact hr
 have:=key _ (Nat.le_refl _)
 rw[Cx (h.fits dh),←h.len] at this
 exact this
theorem ej.aal (h:ej n s m) {a l:Nat} (dh:a+l≤eV s):j0 n a l true m (aL m).length=fq s a l (bU (wid s) a l):=by
 have key: ∀k,k≤s.t.length→j0 n a l true m k=fq s a l (nc (16*a/wid s) (bU (wid s) a l) k):=fun k=>by
  induction k with
  |zero=>intro _;unfold nc;simp[j0,fq]
  |succ k aZ=>
   intro aq
   have bP:k < s.t.length:=aq
   obtain⟨cC,cR⟩:=h.piece (a:=a) (l:=l) (c:=k)
   rw[j0,aZ (by omega)]
   by_cases g:0 < ei n k a l n
   ·obtain⟨g1,g2⟩:=cC.1 g
    obtain⟨cj,cu,a3⟩:=Cv g1 g2
    obtain⟨dS,cW,_⟩:=cR g1 g2
    rw[cj,cu,fq]
    have hw:mC s (aT (wid s) a l (k - 16*a/wid s))=jI n a l true m k:=by
     unfold mC kf jI
     rw[dS,cW,h.PR bP,h.own bP,←h.cL k bP,h.wd,decide_eq_true g]
     have wB:decide (16*ei n k a l n=16*n)=decide (ei n k a l n=n):=by
      rw[Bool.eq_iff_iff,decide_eq_true_iff,decide_eq_true_iff];omega
     rw[wB]
     by_cases aj:ei n k a l n=n <;>by_cases ak:ez m k=2 <;>by_cases bf:ez m k=1 <;>simp[aj,ak,bf]
    rw[←hw]
    cases mC s (aT (wid s) a l (k - 16*a/wid s)) <;>rfl
   ·rw[Cw (fun q=>g (cC.2 q))]
    have hw:jI n a l true m k=false:=by unfold jI;rw[decide_eq_false g];rfl
    rw[hw]
 rw[h.len,key _ (Nat.le_refl _),Cx (h.fits dh)]
theorem aam {W a l k:Nat} (dY:wu W) (aq:k < bU W a l):lU (List.replicate (16*l) 0) (aT W a l k)=x8 ((aT W a l k).b - (aT W a l k).a):=by
 obtain⟨b9,ck,w3,e7⟩:=qG dY aq
 unfold lU x8
 rw[List.take_replicate,List.drop_replicate]
 congr 1
 omega
theorem ej.aan (h:ej n s m) {a l:Nat} (dh:a+l≤eV s) {y:Nat→List UInt8} {b6:List (List UInt8)} (aF: ∀c,c < s.t.length→ez m c=0→b6[c]? =some (y c)∧(y c).length=16*n) (hd:(cS m).length+256≤100000)
  (dJ:fq s a l (bU (wid s) a l)≤zeros s.l):ej n (en s a l y (bU (wid s) a l)) (jk n a l (List.replicate (16*l) 0) b6 true m (aL m).length):=by
 have lT:=h.im.tl
 have ee:=h.ok.ee
 have e6:(List.replicate (16*l) (0:UInt8)).length=16*l:=List.length_replicate
 have key: ∀k,k≤s.t.length→ej n (en s a l y (nc (16*a/wid s) (bU (wid s) a l) k)) (jk n a l (List.replicate (16*l) 0) b6 true m k):=fun k=>by
  induction k with
  |zero=>intro _;unfold nc;simp only[Nat.zero_sub,Nat.zero_min];exact h
  |succ k aZ=>
   intro aq
   have bP:k < s.t.length:=aq
   have hr:=aZ (by omega)
   obtain⟨cC,cR⟩:=h.piece (a:=a) (l:=l) (c:=k)
   have rG:=Ak n a l (List.replicate (16*l) 0) b6 true m k
   rw[jk]
   generalize jk n a l (List.replicate (16*l) 0) b6 true m k=X at*
   by_cases g:0 < ei n k a l n
   ·obtain⟨g1,g2⟩:=cC.1 g
    obtain⟨cj,cu,a3⟩:=Cv g1 g2
    obtain⟨dS,cW,dF,dG⟩:=cR g1 g2
    rw[cj] at hr
    rw[cu,en]
    have bC:=zV h.im dh y dJ (k - 16*a/wid s) (by omega)
    have lu:k < (en s a l y (k - 16*a/wid s)).t.length:=by rw[bC.eD.tl];exact bP
    have Cn:wid (en s a l y (k - 16*a/wid s))=wid s:=bC.eD.wid
    have aS:=fun hw af=>Iw dJ bC a3 hw af
    unfold wA m5
    rw[Ej bC.eD]
    have wB:kf s (aT (wid s) a l (k - 16*a/wid s))=decide (ei n k a l n=n):=by
     unfold kf
     rw[cW,h.wd,Bool.eq_iff_iff,decide_eq_true_iff,decide_eq_true_iff]
     omega
    rw[wB] at aS⊢
    rw[if_neg (show¬ei n k a l n=0 by omega)]
    have hle:=Jr n k a l n
    by_cases aj:ei n k a l n=n
    ·rw[if_pos (decide_eq_true aj),if_neg (by omega),if_pos ⟨rfl,aj⟩,dS]
     exact hr.set (Eh hr.im lu (q:=wz) (.inr rfl)) lu (.inr rfl)
    ·rw[if_neg (by rw[decide_eq_false aj];decide),if_neg (show¬(true=true∧ei n k a l n=n) from fun q=>aj q.2),dS]
     have fL:=hr.cL k lu
     by_cases ak:ez X k=2
     ·rw[if_pos (fL.symm.trans ak),if_pos ⟨rfl,by omega,ak⟩]
      exact hr
     ·rw[if_neg (fun q=>ak (fL.trans q)),if_neg (fun q=>ak q.2.2)]
      obtain⟨b9,ck,w3,e7⟩:=qG (o4 h.im.bits) a3
      have mW:=(bC.gD k (.inr (by omega))).1
      have o5:=PY hr lu (b6:=b6) (y:=y k) fun q=>aF k bP (by rw[h.cL k bP,←Cu mW,←hr.cL k lu];exact q)
      have cP:=yy hr.ok (c:=k) (by rw[hr.len];exact lu) b6
      have aao:=aam (o4 h.im.bits) a3
      rw[←aao]
      have aap:=aS (decide_eq_false aj) (by rw[dS];exact fun q=>ak (fL.trans q))
      have mD:=Is hr.im (p:=aT (wid s) a l (k - 16*a/wid s)) (by rw[dS];exact lu) (bs:=lU (List.replicate (16*l) 0) (aT (wid s) a l (k - 16*a/wid s))) (y:=y k) b9 (by rw[Cn];exact ck) (BT b9 (by omega)) aap
      have gq:(laid (dZ (en s a l y (k - 16*a/wid s)) k (some (y k))) (aT (wid s) a l (k - 16*a/wid s)).a ((aT (wid s) a l (k - 16*a/wid s)).b - (aT (wid s) a l (k - 16*a/wid s)).a) (lU (List.replicate (16*l) 0) (aT (wid s) a l (k - 16*a/wid s)))).length=16*n:=by
       rw[Iq (by rw[o5,cP];have:=h.wd;omega) (BT b9 (by omega)),o5,cP]
      have hx:=h.lay e6 (X:=dZ (en s a l y (k - 16*a/wid s)) k (some (y k))) (by rw[o5];exact cP) ⟨dF,dG⟩ gq
      rw[o5] at hx
      have Cy:=hr.put (x:=m4 n k a (lX n X k b6) (List.replicate (16*l) 0) n) mD (by rw[dS];exact lu) (by rw[dS,o5];exact hx) (Ce n (Nat.le_of_eq cP.symm)) (by omega)
      rw[dS] at Cy
      exact Cy
   ·rw[Cw (fun q=>g (cC.2 q))]
    have e:m5 n a l (List.replicate (16*l) 0) b6 true X k=X:=if_pos (by omega)
    rw[e]
    exact hr
 have:=key _ (Nat.le_refl _)
 rw[Cx (h.fits dh),←h.len] at this
 exact this
end
end Go.Proofs.YteoamepgonpdlaaGreat
namespace Go.Proofs.YteoamepgonpdlaaGreat
open Go.RowKit Go.Proofs
theorem aaq {l:List (List UInt8)} (h:l.Nodup):(l.mergeSort Go.leB).Pairwise (· < ·):=by
 have aar: ∀a b c:List UInt8,Go.leB a b=true→Go.leB b c=true→Go.leB a c=true:=fun a b c aa af=>by simp only[Go.leB,decide_eq_true_eq] at*;exact List.le_trans aa af
 have to: ∀a b:List UInt8,(Go.leB a b||Go.leB b a)=true:=fun a b=>by simp only[Go.leB,Bool.or_eq_true,decide_eq_true_eq];exact List.le_total a b
 have aa:(l.mergeSort Go.leB).Pairwise fun a b=>Go.leB a b=true:=List.pairwise_mergeSort aar to _
 have af:(l.mergeSort Go.leB).Nodup:=(List.mergeSort_perm _ _).nodup_iff.2 h
 exact List.Pairwise.imp₂ (fun a b hle bg=>by
  have hle:a≤b:=by simpa[Go.leB] using hle
  rcases List.le_iff_lt_or_eq.1 hle with h |h
  ·exact h
  ·exact absurd h bg) aa af
theorem PZ: ∀{a b:List (List UInt8)},a.Pairwise (· < ·)→b.Pairwise (· < ·)→(∀x,x∈a↔x∈b)→a=b
 | [],[],_,_,_=>rfl
 | [],y::b,_,_,h=>absurd ((h y).2 (List.mem_cons_self ..)) (List.not_mem_nil)
 |x::a,[],_,_,h=>absurd ((h x).1 (List.mem_cons_self ..)) (List.not_mem_nil)
 |x::a,y::b,ha,ag,h=>by
  obtain⟨cj,cu⟩:=List.pairwise_cons.1 ha
  obtain⟨b1,b2⟩:=List.pairwise_cons.1 ag
  have e:x=y:=by
   rcases List.mem_cons.1 ((h x).1 (List.mem_cons_self ..)) with e |e
   ·exact e
   ·rcases List.mem_cons.1 ((h y).2 (List.mem_cons_self ..)) with ak |ak
    ·exact ak.symm
    ·exact absurd (List.lt_trans (b1 x e) (cj y ak)) (List.lt_irrefl _)
  subst e
  rw[PZ cu b2 fun z=>?_]
  constructor
  ·intro aS
   rcases List.mem_cons.1 ((h z).1 (List.mem_cons_of_mem _ aS)) with e |e
   ·subst e;exact absurd (cj z aS) (List.lt_irrefl _)
   ·exact e
  ·intro aS
   rcases List.mem_cons.1 ((h z).2 (List.mem_cons_of_mem _ aS)) with e |e
   ·subst e;exact absurd (b1 z aS) (List.lt_irrefl _)
   ·exact e
theorem J8 {L:List aK} (h:(L.map (·.nm)).Nodup):(iB L).Pairwise (· < ·):=by
 unfold iB tS
 rw[wE]
 exact aaq h
theorem aas {L:List aK} {n:List UInt8}:n∈iB L↔n∈L.map (·.nm):=by
 unfold iB tS
 rw[List.mem_mergeSort,wE]
theorem aat {L:List aK} {n:List UInt8}:n∈iB L↔ ∃d,dk L n=some d:=by
 constructor
 ·exact I0
 ·rintro⟨d,hd⟩
  rw[aas]
  obtain⟨aa,af⟩:=cA hd
  exact List.mem_map.2 ⟨d,aa,af⟩
def wT (L:List aK) (l:List bK):Prop:= ∀x,(cw l x).map (fun e=>c8 e)=(dk L x).map (·.back)
theorem wT.get {L:List aK} {l:List bK} (h:wT L l) (x:List UInt8):(dk L x=none∧cw l x=none)∨ ∃d e,dk L x=some d∧cw l x=some e∧c8 e=d.back:=by
 have:=h x
 cases aj:dk L x with
 |none=>
  rw[aj] at this
  cases ak:cw l x with
  |none=>exact .inl ⟨rfl,rfl⟩
  |some e=>rw[ak] at this;cases this
 |some d=>
  rw[aj] at this
  cases ak:cw l x with
  |none=>rw[ak] at this;cases this
  |some e=>rw[ak] at this;injection this with this;exact .inr ⟨d,e,rfl,rfl,this⟩
theorem wT.nr {L:List aK} {l:List bK} (h:wT L l) {x:List UInt8} {k:Nat} (cq:ew L x k): ∀f,k≤f→nI l f x=k:=by
 induction cq with
 | @gone nm aE=>
  intro f _
  cases f with
  |zero=>rfl
  |succ f=>
   rcases h.get nm with⟨_,e⟩ |⟨d,e,aj,_⟩
   ·have:m6 l nm=none:=by unfold m6;rw[e]
    rw[nI,this]
   ·rw[aE] at aj;cases aj
 | @base nm d aE ag=>
  intro f _
  cases f with
  |zero=>rfl
  |succ f=>
   rcases h.get nm with⟨aj,_⟩ |⟨d2,e,aj,ak,bf⟩
   ·rw[aE] at aj;cases aj
   ·rw[aE] at aj
    injection aj with aj
    subst aj
    have:m6 l nm=none:=by unfold m6;rw[ak];exact if_pos (bf.trans ag)
    rw[nI,this]
 | @step nm d k aE ag cq aZ=>
  intro f hf
  cases f with
  |zero=>omega
  |succ f=>
   rcases h.get nm with⟨aj,_⟩ |⟨d2,e,aj,ak,bf⟩
   ·rw[aE] at aj;cases aj
   ·rw[aE] at aj
    injection aj with aj
    subst aj
    have:m6 l nm=some d.back:=by
     unfold m6;rw[ak];simp only
     rw[if_neg (fun q=>ag (bf.symm.trans q)),bf]
    rw[nI,this]
    simp only
    rw[aZ f (by omega)]
theorem wT.Ci {L:List aK} {l:List bK} (h:wT L l) (bg: ∀d,d∈L→d.nm≠[]) {x:List UInt8} {k:Nat} (cq:ew L x k): ∀f,k+1≤f→qN l f x:=by
 induction cq with
 | @gone nm aE=>
  intro f hf
  rcases h.get nm with⟨_,e⟩ |⟨d,e,aj,_⟩
  ·cases f with
   |zero=>exact e
   |succ f=>unfold qN;rw[e];trivial
  ·rw[aE] at aj;cases aj
 | @base nm d aE ag=>
  intro f hf
  cases f with
  |zero=>omega
  |succ f=>
   rcases h.get nm with⟨aj,_⟩ |⟨d2,e,aj,ak,bf⟩
   ·rw[aE] at aj;cases aj
   ·rw[aE] at aj
    injection aj with aj
    subst aj
    unfold qN
    rw[ak]
    simp only
    rw[bf,ag]
    have bx:cw l []=none:=by
     rcases h.get [] with⟨_,e⟩ |⟨d3,e,aj,_⟩
     ·exact e
     ·obtain⟨g1,g2⟩:=cA aj
      exact absurd g2 (bg _ g1)
    cases f with
    |zero=>exact bx
    |succ f=>unfold qN;rw[bx];trivial
 | @step nm d k aE ag cq aZ=>
  intro f hf
  cases f with
  |zero=>omega
  |succ f=>
   rcases h.get nm with⟨aj,_⟩ |⟨d2,e,aj,ak,bf⟩
   ·rw[aE] at aj;cases aj
   ·rw[aE] at aj
    injection aj with aj
    subst aj
    unfold qN
    rw[ak]
    simp only
    rw[bf]
    exact aZ f (by omega)
structure cZ (n bits room:Nat) (L:List aK) (l:List bK):Prop where
 eO:n=2 ^bits
 nm:l.map (fun e=>b5 e)=iB L
 nK:wT L l
 rR: ∀x d e,dk L x=some d→cw l x=some e→ej n d.im (bn e)
section
variable {n bits room:Nat} {L:List aK} {l:List bK} {s:bE} {m:c5}
theorem cZ.get (h:cZ n bits room L l) {x:List UInt8} {d:aK} (hd:dk L x=some d): ∃e,cw l x=some e∧c8 e=d.back∧ej n d.im (bn e):=by
 rcases h.nK.get x with⟨aj,_⟩ |⟨d2,e,aj,ak,bf⟩
 ·rw[hd] at aj;cases aj
 ·rw[hd] at aj
  injection aj with aj
  subst aj
  exact⟨e,ak,bf,h.rR x d e hd ak⟩
theorem cZ.no (h:cZ n bits room L l) {x:List UInt8} (hd:dk L x=none):cw l x=none:=by
 rcases h.nK.get x with⟨_,e⟩ |⟨d2,e,aj,_⟩
 ·exact e
 ·rw[hd] at aj;cases aj
theorem cZ.len (h:cZ n bits room L l):l.length=L.length:=by
 have:=congrArg List.length h.nm
 rw[List.length_map,Ex] at this
 exact this
theorem cZ.mem (h:cZ n bits room L l) (bJ:bX bits room L) {e:bK} (he:e∈l): ∃d,dk L (b5 e)=some d∧cw l (b5 e)=some e:=by
 have aa:b5 e∈iB L:=by rw[←h.nm];exact List.mem_map.2 ⟨e,he,rfl⟩
 obtain⟨d,hd⟩:=I0 aa
 refine⟨d,hd,?_⟩
 have dJ:(l.map (fun e=>b5 e)).Nodup:=by
  rw[h.nm]
  exact(J8 bJ.jA).imp fun bF e=>by subst e;exact List.lt_irrefl _ bF
 obtain⟨ak,g1,_⟩:=h.get hd
 obtain⟨i,aD,_,i2,i3⟩:=oE g1
 obtain⟨j,au,rfl⟩:=List.getElem_of_mem he
 have fG:i=j:=by
  have aj:(l.map (fun e=>b5 e))[i]'(by rw[List.length_map];exact aD)=(l.map (fun e=>b5 e))[j]'(by rw[List.length_map];exact au):=by
   rw[List.getElem_map,List.getElem_map,i2]
   exact i3
  exact(List.getElem_inj dJ).1 aj
 subst fG
 rw[g1,←i2]
theorem cZ.yD (h:cZ n bits room L l) (bJ:bX bits room L):vw n l where
 len:=by rw[h.len];exact bJ.len
 ok:=fun e he=>by
  obtain⟨d,hd,bk⟩:=h.mem bJ he
  exact(h.rR _ d e hd bk).ok
 Ci:=fun x=>by
  obtain⟨aa,af⟩:=bJ.dep x
  exact h.nK.Ci bJ.ne aa 19 (by omega)
theorem cZ.nr (h:cZ n bits room L l) (bJ:bX bits room L) (x:List UInt8):ld l x=c7 L x:=by
 obtain⟨aa,af⟩:=bJ.dep x
 exact h.nK.nr aa 99 (by omega)
theorem yE {l:List bK} {x:List UInt8} {e:bK} (h:cw l x=some e):b5 e=x:=by
 obtain⟨_,_,_,_,g⟩:=oE h
 exact g
theorem P0 {f:List UInt8→Bool} {g:bK→Bool}: ∀{l:List bK},(∀e,e∈l→g e=f (b5 e))→(l.filter g).map (fun e=>b5 e)=(l.map (fun e=>b5 e)).filter f
 | [],_=>rfl
 |e::l,h=>by
  have aZ:=P0 (f:=f) (g:=g) (l:=l) fun e he=>h e (List.mem_cons_of_mem _ he)
  have aE:=h e (List.mem_cons_self ..)
  rw[List.map_cons,List.filter_cons,List.filter_cons,←aE]
  cases g e with
  |true=>simp only[if_true];rw[List.map_cons,aZ]
  |false=>exact aZ
theorem cZ.us (h:cZ n bits room L l) (bJ:bX bits room L) (x:List UInt8):ko l x=jE L x:=by
 unfold ko jE
 rw[←h.nm]
 refine P0 (l:=l) fun e he=>?_
 obtain⟨d,hd,bk⟩:=h.mem bJ he
 obtain⟨ak,g1,g2,_⟩:=h.get hd
 rw[bk] at g1
 injection g1 with g1
 subst g1
 unfold kE
 rw[hd,g2]
 rfl
theorem cZ.see (h:cZ n bits room L l) (bJ:bX bits room L) (c:Nat) {x:List UInt8} {k:Nat} (cq:ew L x k) (hx: ∃d,dk L x=some d): ∀f,k < f→ ∀i,
  ig bits L c (x::ef L k x) i=match iE l c f x with
   |some (j,y)=>(((dk L y).map fun d=>dZ d.im c none).getD [],i+j)
   |none=>(List.replicate (16*2 ^bits) 0,0):=by
 have one: ∀{nm:List UInt8} {d:aK} {e:bK},dk L nm=some d→ej n d.im (bn e)→((c < d.im.t.length∧(d.im.t.getD c s0).1≠0)↔(c < (aL (bn e)).length∧ez (bn e) c≠0)):=fun {nm d e} hd hr=>by
  rw[hr.len]
  constructor
  ·rintro⟨g1,g2⟩;exact⟨g1,by rw[hr.cL c g1];exact g2⟩
  ·rintro⟨g1,g2⟩;exact⟨g1,by rw[←hr.cL c g1];exact g2⟩
 induction cq with
 | @gone nm aE=>obtain⟨d,hd⟩:=hx;rw[aE] at hd;cases hd
 | @base nm d aE ag=>
  intro f hf i
  obtain⟨e,g1,g2,bL⟩:=h.get aE
  cases f with
  |zero=>omega
  |succ f=>
   show ig bits L c [nm] i=_
   rw[iE,g1]
   simp only
   by_cases q:c < d.im.t.length∧(d.im.t.getD c s0).1≠0
   ·rw[if_pos ((one aE bL).1 q),PE aE q]
    simp only
    rw[aE]
    rfl
   ·rw[if_neg (fun w=>q ((one aE bL).2 w)),JX aE q]
    have bx:cw l (c8 e)=none:=by
     rw[g2,ag]
     refine h.no ?_
     cases eY:dk L [] with
     |none=>rfl
     |some d3=>obtain⟨b9,ck⟩:=cA eY;exact absurd ck (bJ.ne _ b9)
    have iH:iE l c f (c8 e)=none:=by
     cases f with
     |zero=>rfl
     |succ f=>rw[iE,bx]
    rw[iH]
    rfl
 | @step nm d k aE ag cq aZ=>
  intro f hf i
  obtain⟨e,g1,g2,bL⟩:=h.get aE
  cases f with
  |zero=>omega
  |succ f=>
   have yf:ef L (k+1) nm=d.back::ef L k d.back:=by rw[ef,aE]
   rw[yf,iE,g1]
   simp only
   by_cases q:c < d.im.t.length∧(d.im.t.getD c s0).1≠0
   ·rw[if_pos ((one aE bL).1 q),PE aE q]
    simp only
    rw[aE]
    rfl
   ·rw[if_neg (fun w=>q ((one aE bL).2 w)),JX aE q,aZ (bJ.jD d (cA aE).1 ag) f (by omega) (i+1),g2]
    cases iE l c f d.back with
    |none=>rfl
    |some p=>
     show(_,i+1+p.1)=(_,i+(p.1+1))
     rw[show i+1+p.1=i+(p.1+1) by omega]
theorem ej.rd (h:ej n s m) {c:Nat} (hc:c < s.t.length) (aq:ez m c≠0):qM n m (c*n) n=dZ s c none:=by
 have dc:c < (aL m).length:=by rw[h.len];exact hc
 have ee:=h.ok.ee
 have bx:dZ s c none=lX n m c []:=by
  have aa:=h.Ct c hc
  have fL:=h.cL c hc
  unfold lX
  rw[List.getElem?_eq_getElem dc]
  simp only
  rw[←rO dc,←yC dc,if_neg aq]
  by_cases e:ez m c=1
  ·rw[if_pos e];exact aa e
  ·rw[if_neg e]
   unfold dZ
   rw[List.getD_eq_getElem?_getD,List.getElem?_eq_getElem hc] at fL
   rw[List.getElem?_eq_getElem hc]
   simp only[Option.getD_some] at fL⊢
   rw[if_neg (fun q=>e (fL.trans q)),if_neg (fun q=>aq (fL.trans q))]
   unfold jV
   rw[h.wd]
 have aB:=yy h.ok dc []
 rw[bx]
 have e:=Fc (Z:=lX n m c []) (f:=fun k=>wJ n m (c*n+k)) (g:=fun k=>qM n m (c*n) k) rfl (fun _=>rfl) n (Nat.le_of_eq aB.symm) fun k aq=>by
  show _=wJ n m (c*n+k)
  unfold wJ sec
  have d1:(c*n+k)/n=c:=by rw[Nat.mul_comm,Nat.mul_add_div ee,Nat.div_eq_of_lt aq,Nat.add_zero]
  have d2:(c*n+k) % n=k:=by rw[Nat.mul_comm,Nat.mul_add_mod,Nat.mod_eq_of_lt aq]
  rw[d1,d2,Nat.mul_comm 16 k]
 rw[←aB,List.take_length] at e
 exact e.symm
theorem cZ.jF (h:cZ n bits room L l) (bJ:bX bits room L) {x:List UInt8} (hx: ∃d,dk L x=some d) (c:Nat):lf n l x c=nG bits L x (c7 L x) c:=by
 obtain⟨cq,kL⟩:=bJ.dep x
 unfold nG lf
 rw[h.see bJ c cq hx 20 (by omega) 0]
 cases BZ:iE l c 20 x with
 |none=>simp only;rw[h.eO]
 |some p=>
  obtain⟨j,y⟩:=p
  obtain⟨_,e,g1,g2,bL⟩:=E1 l c 20 x j y BZ
  simp only
  rcases h.nK.get y with⟨_,ak⟩ |⟨d,ak,b9,ck,_⟩
  ·rw[g1] at ak;cases ak
  ·rw[g1] at ck
   injection ck with ck
   subst ck
   have hr:=h.rR y d e b9 g1
   rw[g1,b9]
   simp only[Option.map_some,Option.getD_some]
   rw[(Po hr.ok g2).2.1]
   exact hr.rd (by rw[←hr.len];exact g2) bL
theorem cZ.aau (h:cZ n bits room L l) (bJ:bX bits room L) {x:List UInt8} (hx: ∃d,dk L x=some d) (c:Nat):vv l c x=(Am bits L x c:Nat):=by
 obtain⟨cq,kL⟩:=bJ.dep x
 unfold Am vv
 rw[h.see bJ c cq hx 20 (by omega) 0]
 cases iE l c 20 x with
 |none=>rfl
 |some p=>show((p.1:Nat):Int)=((0+p.1:Nat):Int);rw[Nat.zero_add]
theorem cZ.cL (h:cZ n bits room L l) (bJ:bX bits room L) {x:List UInt8} (hx: ∃d,dk L x=some d) (k:Nat):qd l x k=m7 bits L x k:=by
 unfold qd m7
 exact List.map_congr_left fun c _=>h.aau bJ hx c
theorem cZ.al (h:cZ n bits room L l) (bJ:bX bits room L) {x:List UInt8} (hx: ∃d,dk L x=some d): ∀k,fS bits L x (c7 L x) 0 (n*k)=rP n l x k
 |0=>rfl
 |k+1=>by
  have ee:1≤n:=by rw[h.eO];exact Nat.one_le_two_pow
  have aB:=Cj (h.yD bJ) x k
  have e:=Fc (Z:=lf n l x k) (f:=fun j=>tR bits L x (c7 L x) (0+(n*k+j))) (g:=fun j=>(fS bits L x (c7 L x) 0 (n*k+j)).drop (fS bits L x (c7 L x) 0 (n*k)).length) (by simp) (fun j=>by
   show(fS bits L x (c7 L x) 0 (n*k+(j+1))).drop _=_
   rw[show n*k+(j+1)=(n*k+j)+1 by omega,fS,List.drop_append_of_le_length]
   induction j with
   |zero=>exact Nat.le_refl _
   |succ j aZ=>rw[show n*k+(j+1)=(n*k+j)+1 by omega,fS,List.length_append];omega) n (Nat.le_of_eq aB.symm) fun j au=>by
   show _=tR bits L x (c7 L x) (0+(n*k+j))
   rw[aaa,Nat.zero_add,←h.eO,Nat.mul_add_div ee,Nat.div_eq_of_lt au,Nat.add_zero,Nat.mul_add_mod,Nat.mod_eq_of_lt au,h.jF bJ hx k]
  rw[←aB,List.take_length] at e
  have ak:fS bits L x (c7 L x) 0 (n*(k+1))=fS bits L x (c7 L x) 0 (n*k)++lf n l x k:=by
   rw[e,Nat.mul_succ]
   have key: ∀j,(fS bits L x (c7 L x) 0 (n*k+j)).take (fS bits L x (c7 L x) 0 (n*k)).length=fS bits L x (c7 L x) 0 (n*k):=fun j=>by
    induction j with
    |zero=>exact List.take_length
    |succ j aZ=>
     have hle:(fS bits L x (c7 L x) 0 (n*k)).length≤(fS bits L x (c7 L x) 0 (n*k+j)).length:=by
      have:=congrArg List.length aZ
      rw[List.length_take] at this
      omega
     rw[show n*k+(j+1)=(n*k+j)+1 by omega,fS,List.take_append_of_le_length hle,aZ]
   have:=List.take_append_drop (fS bits L x (c7 L x) 0 (n*k)).length (fS bits L x (c7 L x) 0 (n*k+n))
   rw[key n] at this
   exact this.symm
  rw[ak,h.al bJ hx k,rP]
end
end Go.Proofs.YteoamepgonpdlaaGreat
