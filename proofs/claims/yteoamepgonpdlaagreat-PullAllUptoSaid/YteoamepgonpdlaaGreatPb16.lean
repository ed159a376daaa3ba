/-
Part 16 of the proof that stands in YteoamepgonpdlaaGreatPbRow, with what it needs from the parts ahead; the parts of this text: Qr, Rp, Se, Qj, Qk, Ql, Qm, Pp.
-/
import Derived.Test.YteoamepgonpdlaaGreatPb15
namespace Go.Proofs.YteoamepgonpdlaaGreat
set_option linter.unusedVariables false
set_option linter.unusedSimpArgs false
set_option maxRecDepth 10000
open Go.RowKit Go.Proofs
@[reducible] def v7 (top base:List UInt8) (over:Bool):List bx:=[.d (.str top),.d (.str base),.d (.bool over)]
@[reducible] def Je (top base:List UInt8) (over:Bool):aN:=.c (.agg (v7 top base over))
def kC (l:List bJ) (base:List UInt8):Nat→List UInt8→Nat
 |0,_=>0
 |f+1,n=>match g6 l n with
  |none=>0
  |some b=>if b=base then 1 else match kC l base f b with
   |0=>0
   |m+1=>m+2
def qi (l:List bJ) (top base:List UInt8):Nat:=if base=[] then jL l top+1 else kC l base 20 top
theorem YQ {l:List bJ} {j:Nat} {nm:List UInt8} {d:bJ} (ak:j≤19) (h:kP l (19 - j) nm) (bl:cI l nm=some d):j+1≤19∧kP l (19 - (j+1)) (er d):=by
 rcases Nat.lt_or_ge j 19 with aa |aa
 ·rw[show 19 - j=(19 - (j+1))+1 by omega,kP,bl] at h
  exact⟨by omega,h⟩
 ·exfalso
  rw[show 19 - j=0 by omega] at h
  have h:cI l nm=none:=h
  rw[bl] at h
  cases h
@[reducible] def YR (l:List bJ) (base:List UInt8) (j:Nat) (n:List UInt8):aQ:=[(2,bN base),(3,aI 3),(7,aD (j:Nat)),(8,aD (cc l n))]
set_option maxHeartbeats 1000000 in
theorem OM (bits room:Int) (l:List bJ) (top base:List UInt8) (aB:l.length≤1073741824) (he:kP l 19 top):Fn Tryz.prog 73 [k8 bits room l,bN top,bN base] [] [] (aD (qi l top base:Nat)) []:=by
 unfold qi
 refine Fn.of aj [] _ _ _ _ _ Tryz.func73 rfl rfl (by kernel_rfl) (by kernel_rfl) rfl (aK aj) rfl ?_
 refine⟨rfl,?_⟩
 refine⟨fun ag=>?_,fun ag=>?_⟩
 ·have ag:base=[]:=of_decide_eq_true ag
  rw[if_pos ag]
  have:=On l 99 top
  have bh:jL l top≤99:=this
  refine⟨_,_,_,_,Er bits room l top aB,trivial,rfl,?_⟩
  refine⟨by omega,?_⟩
  exact⟨_,_,_,ah.refl _ _,rfl,(by show((jL l top:Nat):Int)+1=((jL l top+1:Nat):Int);omega),trivial,rfl⟩
 have ag:base≠[]:=of_decide_eq_false ag
 rw[if_neg ag]
 refine⟨_,_,_,_,lR bits room l top aB,trivial,rfl,?_⟩
 show aE _ _ _ _ _ _ _
 refine aE.loop aj (aK aj) [] (by kernel_rfl) (X:=Nat×List UInt8) (fun x=>YR l base x.1 x.2) (fun _=>[(3,.cells (kA bits room l))]) (fun x=>x.1≤19∧kP l (19 - x.1) x.2∧kC l base 20 top=match kC l base (20 - x.1) x.2 with |0=>0 |m+1=>m+1+x.1) (fun x=>20 - x.1) (0,top) ⟨Nat.zero_le _,he,?_⟩ ?_ ?_
 ·show kC l base 20 top=match kC l base 20 top with |0=>0 |m+1=>m+1+0
  cases kC l base 20 top with
  |zero=>rfl
  |succ m=>rfl
 ·exact ah.sub ⟨rfl,rfl,rfl,rfl,trivial⟩ ⟨rfl,trivial⟩
 rintro⟨j,nm⟩ ⟨ak,pF,heq⟩
 have ak:j≤19:=ak
 have pF:kP l (19 - j) nm:=pF
 have heq:kC l base 20 top=match kC l base (20 - j) nm with |0=>0 |m+1=>m+1+j:=heq
 have nI:kC l base (20 - j) nm=match g6 l nm with
  |none=>0
  |some b=>if b=base then 1 else match kC l base (19 - j) b with
   |0=>0
   |m+1=>m+2:=by rw[show 20 - j=(19 - j)+1 by omega];rfl
 have stop:g6 l nm=none→(0:Int)=((kC l base 20 top:Nat):Int):=fun h=>by
  rw[h] at nI
  rw[nI] at heq
  have heq:kC l base 20 top=0:=heq
  omega
 refine⟨fun aa=>?_,fun aa=>?_⟩
 ·have aa:0≤cc l nm:=of_decide_eq_true aa
  obtain⟨i,ay,ai,aq,bk⟩:=zI (l:=l) (n:=nm) (by omega)
  have eP:ff l (cc l nm).toNat=some l[i]:=by rw[show(cc l nm).toNat=i by omega];exact eY (n:=i) ay
  have dU:(0:Int)≤cc l nm:=aa
  generalize l[i]=d at*
  refine⟨dU,d,eP,?_⟩
  refine⟨fun af=>?_,fun af=>?_⟩
  ·have af:(!decide (er d=[]))=true:=af
   have af: ¬er d=[]:=by simpa using af
   have av:g6 l nm=some (er d):=by unfold g6;rw[aq];exact if_neg af
   rw[av] at nI
   simp only at nI
   refine⟨by omega,?_⟩
   refine⟨dU,d,eP,?_⟩
   refine⟨fun aA=>?_,fun aA=>?_⟩
   ·have aA:er d=base:=of_decide_eq_true aA
    rw[if_pos aA] at nI
    rw[nI] at heq
    have heq:kC l base 20 top=0+1+j:=heq
    exact⟨_,_,_,ah.refl _ _,rfl,(by show((j:Nat):Int)+1=((kC l base 20 top:Nat):Int);omega),trivial,rfl⟩
   ·have aA: ¬er d=base:=of_decide_eq_false aA
    rw[if_neg aA] at nI
    obtain⟨cx,cM⟩:=YQ ak pF aq
    have w3:kC l base 20 top=match kC l base (20 - (j+1)) (er d) with |0=>0 |m+1=>m+1+(j+1):=by
     rw[show 20 - (j+1)=19 - j by omega,heq,nI]
     cases kC l base (19 - j) (er d) with
     |zero=>rfl
     |succ m=>show m+1+1+j=m+1+(j+1);omega
    refine⟨dU,d,eP,?_⟩
    refine⟨_,_,_,_,lR bits room l (er d) aB,trivial,rfl,?_⟩
    refine⟨rfl,?_⟩
    exact⟨(j+1,er d),⟨cx,cM,w3⟩,by show 20 - (j+1) < 20 - j;omega,ah.sub ⟨rfl,rfl,rfl,rfl,trivial⟩ ⟨rfl,trivial⟩⟩
  ·have af:(!decide (er d=[]))=false:=af
   have af:er d=[]:=by simpa using af
   have av:g6 l nm=none:=by unfold g6;rw[aq];exact if_pos af
   exact⟨_,_,_,ah.refl _ _,rfl,stop av,trivial,rfl⟩
 ·have aa: ¬0≤cc l nm:=of_decide_eq_false aa
  have e:=zH (l:=l) (n:=nm) (by omega)
  have av:g6 l nm=none:=by unfold g6;rw[e]
  exact⟨_,_,_,ah.refl _ _,rfl,stop av,trivial,rfl⟩
def zP (l:List bJ) (top base:List UInt8):Int:=if cc l top < 0 then 140 else if qi l top base < 2 then 1 else 0
theorem YS (bits room:Int) (l:List bJ) (top base:List UInt8) (aB:l.length≤1073741824) (he:kP l 19 top):Fn Tryz.prog 21 [k8 bits room l,bN top,bN base] [] [] (.c8 [.agg (v7 (if zP l top base=0 then top else[]) (if zP l top base=0 then base else[]) false),fO (zP l top base)]) []:=by
 unfold zP
 refine Fn.of aj [] _ _ _ _ _ Tryz.func21 rfl rfl (by kernel_rfl) (by kernel_rfl) rfl (aK aj) rfl ?_
 refine⟨rfl,?_⟩
 refine⟨rfl,?_⟩
 refine⟨_,_,_,_,lR bits room l top aB,trivial,rfl,?_⟩
 refine⟨fun aa=>?_,fun aa=>?_⟩
 ·have aa:cc l top < 0:=of_decide_eq_true aa
  rw[if_pos aa]
  exact⟨_,_,_,ah.refl _ _,rfl,⟨⟨rfl,rfl,rfl,trivial⟩,rfl,trivial⟩,trivial,rfl⟩
 have aa: ¬cc l top < 0:=of_decide_eq_false aa
 rw[if_neg aa]
 refine⟨_,_,_,_,OM bits room l top base aB he,trivial,rfl,?_⟩
 refine⟨fun af=>?_,fun af=>?_⟩
 ·have af:((qi l top base:Nat):Int) < 2:=of_decide_eq_true af
  rw[if_pos (show qi l top base < 2 by omega)]
  exact⟨_,_,_,ah.refl _ _,rfl,⟨⟨rfl,rfl,rfl,trivial⟩,rfl,trivial⟩,trivial,rfl⟩
 have af: ¬((qi l top base:Nat):Int) < 2:=of_decide_eq_false af
 rw[if_neg (show¬qi l top base < 2 by omega)]
 exact⟨_,_,_,ah.refl _ _,rfl,⟨⟨rfl,rfl,rfl,trivial⟩,rfl,trivial⟩,trivial,rfl⟩
def qV (l:List bJ) (top base:List UInt8) (k:Nat):Bool:=decide (1 < ni l k top)&&decide (ni l k top≤(qi l top base:Nat))
def uI (l:List bJ) (top base:List UInt8):Option Nat:=match cI l top with
 |none=>none
 |some d=>(List.range (aL (bB d)).length).find? (qV l top base)
def r5 (l:List bJ) (top base:List UInt8) (over:Bool):Int×Bool:=if over=true then(0,false) else match uI l top base with
 |some k=>((k:Int),true)
 |none=>(0,false)
@[reducible] def YT (l:List bJ) (top:List UInt8) (k:Nat):aQ:=[(2,aI 2),(3,aI 3),(6,aD (cc l top)),(7,aD (k:Nat))]
@[reducible] def YU (bits room:Int) (l:List bJ) (top base:List UInt8) (over:Bool):aG:=[(2,.cells (kA bits room l)),(3,.cells (v7 top base over))]
set_option maxHeartbeats 1000000 in
theorem ON (bits room:Int) (l:List bJ) (top base:List UInt8) (over:Bool) (aB:l.length≤1073741824) (he:kP l 19 top) {d:bJ} (hd:cI l top=some d) (hm:(aL (bB d)).length≤256):Fn Tryz.prog 26 [k8 bits room l,Je top base over] [] [] (.c8 [.one (.d (.int .i64 (r5 l top base over).1)),.one (.d (.bool (r5 l top base over).2))]) []:=by
 have Jf:over=true→r5 l top base over=(0,false):=fun e=>if_pos e
 have lV:over=false→ ∀k,k < (aL (bB d)).length→qV l top base k=true→(∀j,j < k→qV l top base j=false)→r5 l top base over=((k:Int),true):=fun ai k au hp hn=>by
  unfold r5 uI
  rw[ai,if_neg (by decide),hd]
  simp only
  rw[List.find?_range_eq_some.2 ⟨hp,List.mem_range.2 au,fun j ak=>by simp[hn j ak]⟩]
 have qW:over=false→(∀k,k < (aL (bB d)).length→qV l top base k=false)→r5 l top base over=(0,false):=fun ai hn=>by
  unfold r5 uI
  rw[ai,if_neg (by decide),hd]
  simp only
  rw[List.find?_eq_none.2 fun x hx=>by rw[hn x (List.mem_range.1 hx)];decide]
 have aX: ∀k,qV l top base k=(decide (1 < ni l k top)&&decide (ni l k top≤(qi l top base:Nat))):=fun k=>rfl
 obtain⟨i,ay,ai,aq,bk⟩:=qh hd
 have eP:ff l (cc l top).toNat=some d:=by rw[show(cc l top).toNat=i by omega,←aq];exact eY (n:=i) ay
 have dU:(0:Int)≤cc l top:=by omega
 generalize r5 l top base over=YV at*
 refine Fn.of aj [] _ _ _ _ _ Tryz.func26 rfl rfl (by kernel_rfl) (by kernel_rfl) rfl (aK aj) rfl ?_
 refine⟨rfl,?_⟩
 refine⟨rfl,?_⟩
 refine⟨_,_,_,_,lR bits room l top aB,trivial,rfl,?_⟩
 show aE _ _ _ _ _ _ _
 refine aE.loop aj (aK aj) [] (by kernel_rfl) (X:=Nat) (fun k=>YT l top k) (fun _=>YU bits room l top base over) (fun k=>k≤(aL (bB d)).length∧ ∀j,j < k→qV l top base j=false) (fun k=>(aL (bB d)).length - k) 0 ⟨Nat.zero_le _,fun j ak=>absurd ak (Nat.not_lt_zero j)⟩ ?_ ?_
 ·exact ah.sub ⟨rfl,rfl,rfl,rfl,trivial⟩ ⟨rfl,rfl,trivial⟩
 rintro k ⟨au,eS⟩
 have au:k≤(aL (bB d)).length:=au
 refine⟨fun _=>?_,fun aa=>absurd dU (of_decide_eq_false aa)⟩
 refine⟨fun av=>?_,fun av=>?_⟩
 ·have av:over=false:=by
   have av:(!over)=true:=av
   simpa using av
  refine⟨dU,d,eP,?_⟩
  refine⟨fun hc=>?_,fun hc=>?_⟩
  ·have hc:((k:Nat):Int) < (((aL (bB d)).length:Nat):Int):=of_decide_eq_true hc
   have bU:k < (aL (bB d)).length:=by omega
   refine⟨_,_,_,_,I6 bits room l top k aB he,trivial,rfl,?_⟩
   have OO:qV l top base k=false→ ∀j,j < k+1→qV l top base j=false:=fun hf j ak=>by
    rcases Nat.lt_or_ge j k with bM |bM
    ·exact eS j bM
    ·rw[show j=k by omega]
     exact hf
   refine⟨fun g1=>?_,fun g1=>?_⟩
   ·have g1:decide (1 < ni l k top)=true:=g1
    refine⟨_,_,_,_,OM bits room l top base aB he,trivial,rfl,?_⟩
    refine⟨fun g2=>?_,fun g2=>?_⟩
    ·have g2:decide (ni l k top≤(qi l top base:Nat))=true:=g2
     have e:=lV av k bU (by rw[aX,g1,g2];rfl) eS
     exact⟨_,_,_,ah.refl _ _,rfl,⟨congrArg Prod.fst e.symm,congrArg Prod.snd e.symm,trivial⟩,trivial,rfl⟩
    ·have g2:decide (ni l k top≤(qi l top base:Nat))=false:=g2
     exact⟨by omega,k+1,⟨bU,OO (by rw[aX,g1,g2];rfl)⟩,by show(aL (bB d)).length - (k+1) < (aL (bB d)).length - k;omega,ah.sub ⟨rfl,rfl,rfl,rfl,trivial⟩ ⟨rfl,rfl,trivial⟩⟩
   ·have g1:decide (1 < ni l k top)=false:=g1
    exact⟨by omega,k+1,⟨bU,OO (by rw[aX,g1];rfl)⟩,by show(aL (bB d)).length - (k+1) < (aL (bB d)).length - k;omega,ah.sub ⟨rfl,rfl,rfl,rfl,trivial⟩ ⟨rfl,rfl,trivial⟩⟩
  ·have hc: ¬((k:Nat):Int) < (((aL (bB d)).length:Nat):Int):=of_decide_eq_false hc
   have e:=qW av fun j ak=>eS j (by omega)
   exact⟨_,_,_,ah.refl _ _,rfl,⟨congrArg Prod.fst e.symm,congrArg Prod.snd e.symm,trivial⟩,trivial,rfl⟩
 ·have av:over=true:=by
   have av:(!over)=false:=av
   simpa using av
  have e:=Jf av
  exact⟨_,_,_,ah.refl _ _,rfl,⟨congrArg Prod.fst e.symm,congrArg Prod.snd e.symm,trivial⟩,trivial,rfl⟩
structure YW where
 l:List bJ
 over:Bool
 is:Bool
 e:Int
@[reducible] def Jg (k a g:Int) (b n:List UInt8):kB:=(k,a,g,b,n)
@[reducible] def Jh (k s:Int) (n o:List UInt8) (q:kB):fC:=(k,s,n,o,q)
def zQ (n:Nat) (l:List bJ) (top:List UInt8) (k:Nat):fC:=Jh 3 0 top [] (Jg 1 ((k:Int)*(n:Nat)) 0 (mL n l top k) [])
def x2 (top base:List UInt8):fC:=Jh 2 0 top base (Jg 0 0 0 [] [])
def qX (n:Nat) (bits room:Int) (l:List bJ) (top base:List UInt8) (over:Bool):YW:=
 if over=true then⟨l,true,false,160⟩ else match uI l top base with
  |some k=>⟨(ji n bits room l (zQ n l top k)).l,false,false,(ji n bits room l (zQ n l top k)).e⟩
  |none=>⟨(ji n bits room l (x2 top base)).l,decide ((ji n bits room l (x2 top base)).e=0),decide ((ji n bits room l (x2 top base)).e=0),(ji n bits room l (x2 top base)).e⟩
set_option maxHeartbeats 2000000 in
theorem YX {n:Nat} {l:List bJ} (h:uE n l) (bits room:Int) (top base:List UInt8) (over:Bool) {d:bJ} (hd:cI l top=some d) (bW: ∀d,d∈l→(cU (bB d)).length+256≤100000) (OP:top.length≤4294967296):
  Fn Tryz.prog 22 [k8 bits room l,Je top base over] [] [] (.c8 [.agg (kA bits room (qX n bits room l top base over).l),.agg (v7 top base (qX n bits room l top base over).over),.one (.d (.bool (qX n bits room l top base over).is)),fO (qX n bits room l top base over).e]) []:=by
 have aB:l.length≤16:=h.len
 have az:=h.ok d (tj hd)
 have hm:=az.jr
 have he:=h.vX top
 obtain⟨i,ay,ai,aq,bk⟩:=qh hd
 have eP:ff l (cc l top).toNat=some d:=by rw[show(cc l top).toNat=i by omega,←aq];exact eY (n:=i) ay
 have dU:(0:Int)≤cc l top:=by omega
 have r4:=ON bits room l top base over (by omega) he hd hm
 unfold qX
 refine Fn.of aj [8] _ _ _ _ _ Tryz.func22 rfl rfl (by kernel_rfl) (by kernel_rfl) rfl (aK aj) rfl ?_
 refine⟨rfl,?_⟩
 refine⟨rfl,?_⟩
 refine⟨rfl,?_⟩
 refine⟨rfl,?_⟩
 refine⟨_,_,_,_,lR bits room l top (by omega),trivial,rfl,?_⟩
 refine⟨fun av=>?_,fun av=>?_⟩
 ·have av:over=true:=av
  subst av
  refine⟨rfl,?_⟩
  exact⟨_,_,_,ah.refl _ _,rfl,⟨⟨rfl,rfl,rfl,trivial⟩,⟨rfl,rfl,rfl,trivial⟩,rfl,rfl,trivial⟩,trivial,rfl⟩
 have av:over=false:=av
 subst av
 refine⟨fun aa=>absurd (of_decide_eq_true aa) (by omega),fun _=>?_⟩
 refine⟨_,_,_,_,r4,trivial,rfl,?_⟩
 have dn: ∀k,uI l top base=some k→k < (aL (bB d)).length:=fun k au=>by
  unfold uI at au
  rw[hd] at au
  exact List.mem_range.1 (List.mem_of_find?_eq_some au)
 unfold r5
 rw[if_neg (by decide),if_neg (by decide)]
 cases bh:uI l top base with
 |some k=>
  have au:=dn k bh
  have cQ:=I7 h bits room top k hd au
  have xY:=az.n8
  have eC:(mL n l top k).length=16*n:=Ex h top k
  have x3:=Ez h bits room (zQ n l top k) (by show top.length≤4294967296;exact OP) (by show(mL n l top k).length≤1000000;omega) bW
  have hmul:((k:Nat):Int)*((n:Nat):Int)=((k*n:Nat):Int):=by rw[Int.natCast_mul]
  have hle:k*n≤256*8:=Nat.mul_le_mul (by omega) xY
  have bw:(-9223372036854775808:Int)≤((k:Nat):Int)*dy (bB d)∧((k:Nat):Int)*dy (bB d)≤9223372036854775807:=by rw[az.nm,hmul];omega
  have eA:=congrArg (fun z=>some (bF.cells (BO (Jh 3 0 top [] (Jg 1 ((k:Int)*z) 0 (mL n l top k) []))))) az.nm
  refine⟨fun _=>?_,fun h=>by cases h⟩
  refine⟨rfl,?_⟩
  refine⟨dU,d,eP,?_⟩
  refine⟨bw,?_⟩
  refine⟨_,_,_,_,cQ,trivial,rfl,?_⟩
  refine⟨by rw[eC];omega,?_⟩
  refine⟨rfl,?_⟩
  show aE _ _ _ _ _ _ _
  refine aE.go aj (aK aj) [] (by kernel_rfl) (ah.sub (K':=[(2,aI 2),(3,aI 3),(4,aI 4),(5,aI 5),(11,aI 11)]) (B':=[(2,.cells (kA bits room l)),(3,.cells (v7 top base false)),(4,.cells tY.t29.zero),(5,.cells tY.t62.zero),(11,.cells (BO (zQ n l top k)))]) ⟨rfl,rfl,rfl,rfl,rfl,trivial⟩ ⟨rfl,rfl,rfl,rfl,eA,trivial⟩) ?_
  refine⟨_,_,_,_,x3,trivial,rfl,?_⟩
  refine⟨rfl,?_⟩
  refine⟨rfl,?_⟩
  exact⟨_,_,_,ah.refl _ _,rfl,⟨⟨rfl,rfl,rfl,trivial⟩,⟨rfl,rfl,rfl,trivial⟩,rfl,rfl,trivial⟩,trivial,rfl⟩
 |none=>
  have x3:=Ez h bits room (x2 top base) (by show top.length≤4294967296;exact OP) (Nat.zero_le _) bW
  refine⟨fun h=>(by cases h),fun _=>?_⟩
  refine⟨_,_,_,_,Fn.arg x3 ⟨⟨rfl,rfl,rfl,trivial⟩,⟨rfl,rfl,rfl,rfl,rfl,rfl,rfl,rfl,rfl,trivial⟩,trivial⟩,trivial,rfl,?_⟩
  refine⟨rfl,?_⟩
  refine⟨rfl,?_⟩
  exact⟨_,_,_,ah.refl _ _,rfl,⟨⟨rfl,rfl,rfl,trivial⟩,⟨rfl,rfl,rfl,trivial⟩,rfl,rfl,trivial⟩,trivial,rfl⟩
end Go.Proofs.YteoamepgonpdlaaGreat
namespace Go.Proofs.YteoamepgonpdlaaGreat
set_option linter.unusedVariables false
set_option linter.unusedSimpArgs false
set_option maxRecDepth 10000
open Go.RowKit Go.Proofs
section
variable {bits room:Nat} {L:List aH}
theorem BQ (h:bV bits room L) {nm:List UInt8} {k:Nat} (hd:dK L nm k) (aC: ∃d,dk L nm=some d): ∀j,j≤k→ ∃e,dk L (en L j nm)=some e
 |0,_=>aC
 |j+1,ak=>by
  obtain⟨e,he⟩:=BQ h hd aC j (by omega)
  have m7:=DZ hd j (by omega)
  rw[xG,he]
  simp only
  generalize hm:k - j=m at m7
  cases m7 with
  |gone bl=>rw[he] at bl;cases bl
  |base _ _=>omega
  |step aa af _=>
   rw[he] at aa
   injection aa with aa
   subst aa
   exact h.qT e (cT he).1 af
theorem Ji (h:bV bits room L) {nm:List UInt8} {k:Nat} (hd:dK L nm k) (aC: ∃d,dk L nm=some d):en L (k+1) nm=[]:=by
 obtain⟨e,he⟩:=BQ h hd aC k (Nat.le_refl _)
 have m7:=DZ hd k (Nat.le_refl _)
 rw[Nat.sub_self] at m7
 rw[xG,he]
 simp only
 cases m7 with
 |gone bl=>rw[he] at bl;cases bl
 |base aa af=>
  rw[he] at aa
  injection aa with aa
  subst aa
  exact af
theorem zR (h:bV bits room L) {n:List UInt8} (hn: ∃e,dk L n=some e):n≠[]:=by
 obtain⟨e,he⟩:=hn
 rw[←(cT he).2]
 exact h.ne e (cT he).1
end
section
variable {bits:Nat} {L:List aH} {c:Nat}
theorem OQ: ∀(ns:List (List UInt8)) (i:Nat),(∀n,n∈ns→ ∃e,dk L n=some e)→((eZ bits L c ns i).2=0∧(eZ bits L c ns i).1=List.replicate (16*2 ^bits) 0)∨(i < (eZ bits L c ns i).2∧(eZ bits L c ns i).2≤i+ns.length)
 | [],_,_=>.inl ⟨rfl,rfl⟩
 |n::ns,i,h=>by
  obtain⟨e,he⟩:=h n (List.mem_cons_self ..)
  have aY:=OQ ns (i+1) fun x hx=>h x (List.mem_cons_of_mem _ hx)
  unfold eZ
  rw[he]
  simp only
  split
  ·right
   rw[List.length_cons]
   show i < i+1∧i+1≤i+(ns.length+1)
   omega
  ·rcases aY with aY |aY
   ·exact .inl aY
   ·right
    rw[List.length_cons]
    omega
theorem OR {n:List UInt8} {ns:List (List UInt8)} {i:Nat} {d:aH} (hd:dk L n=some d) (h:c < d.im.t.length∧(d.im.t.getD c s0).1≠0):eZ bits L c (n::ns) i=(dR d.im c none,i+1):=by
 unfold eZ
 rw[hd]
 simp only
 rw[if_pos h]
theorem Jj {n:List UInt8} {ns:List (List UInt8)} {i:Nat} {d:aH} (hd:dk L n=some d) (h: ¬(c < d.im.t.length∧(d.im.t.getD c s0).1≠0)):eZ bits L c (n::ns) i=eZ bits L c ns (i+1):=by
 conv=>lhs;unfold eZ
 rw[hd]
 simp only
 rw[if_neg h]
theorem YY {nm:List UInt8} {cR:Nat} {d:aH} (hd:dk L nm=some d) (h: ¬(c < d.im.t.length∧(d.im.t.getD c s0).1≠0)):m9 bits L nm cR c=mG bits L nm cR c:=by
 unfold m9 mG
 rw[Jj hd h]
end
section
variable {bits room:Nat} {L:List aH}
theorem bV.Jk (h:bV bits room L) {nm:List UInt8} (aC: ∃d,dk L nm=some d): ∀n,n∈nm::cH L (cm L nm) nm→ ∃e,dk L n=some e:=fun n hn=>by
 rcases List.mem_cons.1 hn with rfl |hn
 ·exact aC
 ·exact Bw h.tom8 (h.dep nm).1 n hn
theorem YZ (h:bV bits room L) {nm:List UInt8} {d:aH} (hd:dk L nm=some d) {c:Nat}:vW bits L nm c≤cm L nm+1:=by
 have af:vW bits L nm c=(eZ bits L c (nm::cH L (cm L nm) nm) 0).2:=rfl
 have aA:=mD (h.dep nm).1
 rcases OQ (bits:=bits) (c:=c) _ 0 (h.Jk ⟨d,hd⟩) with aa |aa
 ·omega
 ·rw[List.length_cons] at aa
  omega
end
theorem Y0 {s:bz} (aT:fI s) {n:Nat} (hn:n≤eO s):dJ s 0 (n:Int)=0:=by
 unfold dJ
 rw[if_neg (by omega),if_neg (by omega)]
theorem Y1 {bits room:Nat} {L:List aH} (h:bV bits room L) {nm:List UInt8} {d:aH} (hd:dk L nm=some d) {n:Nat} (hn:n≤eO d.im):s7 bits L nm 0 (n:Int)=(fK bits L nm (cm L nm) 0 n,0):=by
 unfold s7
 rw[hd]
 simp only
 rw[if_pos (Y0 (h.iU d (cT hd).1).1 hn)]
 rfl
theorem Y2 {bits room:Nat} {L:List aH} (h:bV bits room L) {nm:List UInt8} {d:aH} (hd:dk L nm=some d):eO d.im=d.im.t.length*2 ^bits:=by
 unfold eO
 rw[(h.iU d (cT hd).1).2.1]
def zS (L:List aH) (t:List UInt8) (gl:List aH):Prop:=gl=L∨ ∃d im,dk L t=some d∧jg d.im im∧gl=lim L t im none
section
variable {bits room:Nat} {L gl:List aH} {t n:List UInt8}
theorem OS (h:bV bits room L) (nm:List UInt8) (a:Int) (bs:List UInt8):zS L nm (iV bits L nm a bs).L:=by
 unfold iV
 cases aC:dk L nm with
 |none=>exact .inl rfl
 |some d=>
  simp only
  split
  ·exact .inl rfl
  ·rename_i aa
   split
   ·exact .inl rfl
   ·rename_i af
    have af:dJ d.im a ((bs.length/16:Nat):Int)=0:=Decidable.byContradiction af
    have e:=(rZ af).1
    rw[e] at af
    exact .inr ⟨d,_,aC,MV (h.iU d (cT aC).1).1 (by omega) af _,rfl⟩
theorem Y3 (h:bV bits room L) (nm:List UInt8) (a l:Int):zS L nm (rX bits L nm a l).L:=by
 unfold rX
 cases aC:dk L nm with
 |none=>exact .inl rfl
 |some d=>
  simp only
  split
  ·exact .inl rfl
  ·rename_i af
   have af:dJ d.im a l=0:=Decidable.byContradiction af
   obtain⟨ai,aq⟩:=rZ af
   rw[ai,aq] at af
   exact .inr ⟨d,_,aC,MY (h.iU d (cT aC).1).1 af _,rfl⟩
theorem Y4 (h:bV bits room L) (nm:List UInt8) (a l:Int):zS L nm (rY L nm a l).L:=by
 unfold rY
 cases aC:dk L nm with
 |none=>exact .inl rfl
 |some d=>
  simp only
  split
  ·exact .inl rfl
  ·rename_i af
   have af:dJ d.im a l=0:=Decidable.byContradiction af
   obtain⟨ai,aq⟩:=rZ af
   rw[ai,aq] at af
   exact .inr ⟨d,_,aC,(zh (h.iU d (cT aC).1).1 (rR af) _ (Nat.le_refl _)).ez,rfl⟩
end
end Go.Proofs.YteoamepgonpdlaaGreat
namespace Go.Proofs.YteoamepgonpdlaaGreat
set_option linter.unusedVariables false
set_option linter.unusedSimpArgs false
set_option maxRecDepth 10000
open Go.RowKit Go.Proofs
def sec (x:List UInt8) (j:Nat):List UInt8:=(x.take (j*16+16)).drop (j*16)
theorem BR (x:List UInt8) (j i:Nat):(sec x j)[i]? =if i < 16 then x[j*16+i]? else none:=by
 unfold sec
 rw[List.getElem?_drop,List.getElem?_take]
 by_cases h:i < 16
 ·rw[if_pos h,if_pos (by omega)]
 ·rw[if_neg h,if_neg (by omega)]
theorem Y5 {X:List UInt8} {off n:Nat} {ys:List UInt8} (aa:off+n≤X.length) (af:ys.length=n) (m:Nat):(laid X off n ys)[m]? =if m < off then X[m]? else if m < off+n then ys[m - off]? else X[m]? :=by
 unfold laid
 have ai:(X.take off).length=off:=by rw[List.length_take];omega
 have aq:ys.take n=ys:=List.take_of_length_le (by omega)
 rw[aq]
 by_cases bp:m < off
 ·rw[if_pos bp,List.append_assoc,List.getElem?_append_left (by omega),List.getElem?_take,if_pos bp]
 ·rw[if_neg bp]
  by_cases bq:m < off+n
  ·rw[if_pos bq,List.append_assoc,List.getElem?_append_right (by omega),ai,List.getElem?_append_left (by omega)]
  ·rw[if_neg bq,List.getElem?_append_right (by rw[List.length_append];omega),List.length_append,ai,af,List.getElem?_drop]
   congr 1
   omega
theorem Y6 {X bs:List UInt8} {t W a l j pa zT pt:Nat} (zG:X.length=W) (ag:bs.length=16*l) (ak:j*16+16≤W) (ai:pa=16*a - 16*t) (aq:zT=min (16*(a+l) - 16*t) W) (bk:pt=16*t+pa - 16*a) (hp:pa≤zT) (bh:16*t < 16*(a+l)):
  sec (laid X pa (zT - pa) ((bs.take (pt+zT - pa)).drop pt)) j=if a≤t+j∧t+j < a+l then sec bs (t+j - a) else sec X j:=by
 have hlen:((bs.take (pt+zT - pa)).drop pt).length=zT - pa:=by
  rw[List.length_drop,List.length_take]
  omega
 refine List.ext_getElem? fun i=>?_
 rw[BR,Y5 (by omega) hlen]
 by_cases ay:i < 16
 ·rw[if_pos ay]
  by_cases c:a≤t+j∧t+j < a+l
  ·rw[if_pos c,BR,if_pos ay,if_neg (by omega),if_pos (by omega),List.getElem?_drop,List.getElem?_take,if_pos (by omega)]
   congr 1
   omega
  ·rw[if_neg c,BR,if_pos ay]
   by_cases bq:j*16+i < pa
   ·rw[if_pos bq]
   ·rw[if_neg bq,if_neg (by omega)]
 ·rw[if_neg ay]
  split
  ·rw[BR,if_neg ay]
  ·rw[BR,if_neg ay]
theorem Y7 (bits:Nat) (L:List aH) (nm:List UInt8) (cR s:Nat):s5 bits L nm cR s=sec (m9 bits L nm cR (s/2 ^bits)) (s % 2 ^bits):=rfl
section
variable {bits room:Nat} {L:List aH} {nm:List UInt8} {d:aH}
theorem Y8 (h:bV bits room L) (hd:dk L nm=some d) (c:Nat):(mG bits L nm (cm L nm) c).length=16*2 ^bits:=Ia h.tom8 c _ _ fun n hn=>h.Jk ⟨d,hd⟩ n (List.mem_cons_of_mem _ hn)
end
theorem Y9 {W a l:Nat} (dW:vA W) (aB:0 < l) {c:Nat}:(16*a/W≤c∧c < 16*a/W+b5 W a l)↔(16*a < (c+1)*W∧c*W < 16*(a+l)):=by
 have hp:0 < W:=by rcases dW with h |h |h |h <;>omega
 have cE:16*a/W≤c↔16*a < (c+1)*W:=by
  rw[←Nat.lt_succ_iff,Nat.succ_eq_add_one,Nat.div_lt_iff_lt_mul hp]
 constructor
 ·rintro⟨aa,af⟩
  have:=(uv dW (a:=a) (l:=l) (k:=c - 16*a/W)).2 (by omega)
  rw[show 16*a/W+(c - 16*a/W)=c by omega] at this
  exact⟨cE.1 aa,this.2⟩
 ·rintro⟨aa,af⟩
  have aa:=cE.2 aa
  refine⟨aa,?_⟩
  have:=(uv dW (a:=a) (l:=l) (k:=c - 16*a/W)).1 ⟨aB,by rw[show 16*a/W+(c - 16*a/W)=c by omega];exact af⟩
  omega
theorem Za {X bs:List UInt8} {b a l c:Nat} (ag:b≤3) (zG:X.length=16*2 ^b) (An:bs.length=16*l) (dU:16*a < (c+1)*(16*2 ^b)∧c*(16*2 ^b) < 16*(a+l)) {j:Nat} (ak:j < 2 ^b):
  sec (laid X (aR (16*2 ^b) a l (c - 16*a/(16*2 ^b))).a ((aR (16*2 ^b) a l (c - 16*a/(16*2 ^b))).b - (aR (16*2 ^b) a l (c - 16*a/(16*2 ^b))).a) (k4 bs (aR (16*2 ^b) a l (c - 16*a/(16*2 ^b))))) j=
   if a≤c*2 ^b+j∧c*2 ^b+j < a+l then sec bs (c*2 ^b+j - a) else sec X j:=by
 have hp:=mA ag
 have dW:0 < 16*2 ^b:=by omega
 have hc:16*a/(16*2 ^b)≤c:=by
  rw[←Nat.lt_succ_iff,Nat.succ_eq_add_one,Nat.div_lt_iff_lt_mul dW]
  exact dU.1
 have lI:16*a/(16*2 ^b)+(c - 16*a/(16*2 ^b))=c:=by omega
 have cl:c*(16*2 ^b)=16*(c*2 ^b):=Nat.mul_left_comm ..
 have Jl:(c+1)*(16*2 ^b)=16*(c*2 ^b)+16*2 ^b:=by rw[Nat.succ_mul,cl]
 unfold k4
 refine Y6 (t:=c*2 ^b) (W:=16*2 ^b) zG An (by omega) ?_ ?_ ?_ ?_ (by omega)
 ·show 16*a - (16*a/(16*2 ^b)+(c - 16*a/(16*2 ^b)))*(16*2 ^b)=_
  rw[lI,cl]
 ·show min (16*(a+l) - (16*a/(16*2 ^b)+(c - 16*a/(16*2 ^b)))*(16*2 ^b)) (16*2 ^b)=_
  rw[lI,cl]
 ·show(16*a/(16*2 ^b)+(c - 16*a/(16*2 ^b)))*(16*2 ^b)+(16*a - (16*a/(16*2 ^b)+(c - 16*a/(16*2 ^b)))*(16*2 ^b)) - 16*a=16*(c*2 ^b)+(16*a - (16*a/(16*2 ^b)+(c - 16*a/(16*2 ^b)))*(16*2 ^b)) - 16*a
  rw[lI,cl]
 ·show 16*a - (16*a/(16*2 ^b)+(c - 16*a/(16*2 ^b)))*(16*2 ^b)≤min (16*(a+l) - (16*a/(16*2 ^b)+(c - 16*a/(16*2 ^b)))*(16*2 ^b)) (16*2 ^b)
  rw[lI,cl]
  omega
section
variable {bits room:Nat} {L:List aH} {nm:List UInt8}
end
section
variable {bits room:Nat} {L:List aH} {nm:List UInt8}
end
end Go.Proofs.YteoamepgonpdlaaGreat
namespace Go.Proofs.YteoamepgonpdlaaGreat
set_option linter.unusedVariables false
set_option linter.unusedSimpArgs false
set_option maxRecDepth 10000
open Go.RowKit Go.Proofs
def lg (m:c6) (c:Nat):Int:=jI ((aL m).getD c (hO 0 0))
theorem x4 {m:c6} {c:Nat} (hc:c < (aL m).length):lg m c=jI (aL m)[c]:=by
 unfold lg
 rw[List.getD_eq_getElem?_getD,List.getElem?_eq_getElem hc]
 rfl
structure dZ (n:Nat) (s:bz) (m:c6):Prop where
 im:fI s
 ok:gH n m
 wd:wid s=16*n
 len:(aL m).length=s.t.length
 BS:j3 m=(s.l.length:Nat)
 eu: ∀c,c < s.t.length→eV m c=(s.t.getD c s0).1
 BT: ∀c,c < s.t.length→eV m c=1→dR s c none=(cU m).getD (lg m c).toNat []
 inj: ∀c d,c < s.t.length→d < s.t.length→eV m c=1→eV m d=1→lg m c=lg m d→c=d
section
variable {n:Nat} {s:bz} {m:c6}
theorem dZ.v8 (h:dZ n s m) {c:Nat} (hc:c < s.t.length) (au:eV m c=1): ∃i:Nat,lg m c=(i:Int)∧i < (cU m).length:=by
 have dz:c < (aL m).length:=by rw[h.len];exact hc
 rw[th dz] at au
 rw[x4 dz]
 exact h.ok.oE _ (List.getElem_mem dz) au
theorem dZ.refs (h:dZ n s m) {c:Nat} (hc:c < s.t.length) (au:eV m c=1):js (aL m) (lg m c)=1:=by
 have dz:c < (aL m).length:=by rw[h.len];exact hc
 have key: ∀k,k≤(aL m).length→js ((aL m).take k) (lg m c)=if c < k then 1 else 0:=fun k=>by
  induction k with
  |zero=>intro _;rfl
  |succ k aY=>
   intro e8
   have lJ:k < (aL m).length:=e8
   rw[N2 lJ,aY (by omega)]
   by_cases e:k=c
   ·subst e
    rw[if_neg (Nat.lt_irrefl _),if_pos (Nat.lt_succ_self _),if_pos ⟨by rw[←th lJ];exact au,(x4 lJ).symm⟩]
   ·have hn: ¬(gq (aL m)[k]=1∧jI (aL m)[k]=lg m c):=fun⟨cK,c5⟩=>by
     rw[←th lJ] at cK
     rw[←x4 lJ] at c5
     exact e (h.inj k c (by rw[←h.len];exact lJ) hc cK au c5)
    rw[if_neg hn]
    by_cases aq:c < k
    ·rw[if_pos aq,if_pos (by omega)]
    ·rw[if_neg aq,if_neg (by omega)]
 have:=key _ (Nat.le_refl _)
 rw[List.take_length,if_pos dz] at this
 exact this
theorem dZ.own (h:dZ n s m) {c:Nat} (hc:c < s.t.length):qd m c=decide (eV m c=1):=by
 have dz:c < (aL m).length:=by rw[h.len];exact hc
 unfold qd
 rw[List.getElem?_eq_getElem dz]
 simp only
 rw[←th dz,←x4 dz]
 by_cases au:eV m c=1
 ·rw[h.refs hc au,decide_eq_true au]
  rfl
 ·rw[decide_eq_false au,Bool.false_and]
theorem dZ.OT (h:dZ n s m) {c:Nat} (hc:c < s.t.length):gw s c=decide (eV m c≠1):=by
 rcases y9 h.im hc with⟨aa,af⟩ |⟨aa,k,af,_⟩
 ·rw[aa,h.eu c hc]
  rcases af with af |af <;>rw[af] <;>rfl
 ·have e:s.t.getD c s0=((1:Int),(k:Int),true):=by rw[List.getD_eq_getElem?_getD,af];rfl
  rw[aa,h.eu c hc,e]
  rfl
def tr (m:c6) (N:Nat):List Nat:=(List.range N).filter fun c=>decide (eV m c=1)
theorem zU {m:c6} {N c:Nat}:c∈tr m N↔c < N∧eV m c=1:=by
 unfold tr
 rw[List.mem_filter,List.mem_range,decide_eq_true_iff]
theorem OU {f:Nat→Nat} {l:List Nat} (aB:l.Nodup) (hf: ∀a b,a∈l→b∈l→f a=f b→a=b):(l.map f).Nodup:=by
 unfold List.Nodup at aB⊢
 rw[List.pairwise_map]
 exact aB.imp_of_mem fun ha ag bf e=>bf (hf _ _ ha ag e)
theorem OV (m:c6) (N:Nat):(tr m N).Nodup:=List.Pairwise.sublist List.filter_sublist List.nodup_range
theorem OW: ∀l:List Int,(∀x,x∈l→x=0∨x=1)→zeros l+(l.filter fun x=>decide (x=1)).length=l.length
 | [],_=>rfl
 |x::l,h=>by
  have aY:=OW l fun y aF=>h y (List.mem_cons_of_mem _ aF)
  unfold zeros at aY⊢
  rcases h x (List.mem_cons_self ..) with e |e
  ·subst e
   simp only[List.filter_cons,List.length_cons]
   simp
   omega
  ·subst e
   simp only[List.filter_cons,List.length_cons]
   simp
   omega
def Jm (l:List Int):List Nat:=(List.range l.length).filter fun h=>decide (l[h]? =some 1)
theorem Zb: ∀l:List Int,(Jm l).length=(l.filter fun x=>decide (x=1)).length:=fun l=>by
 have key: ∀k,k≤l.length→((List.range k).filter fun h=>decide (l[h]? =some 1)).length=((l.take k).filter fun x=>decide (x=1)).length:=fun k=>by
  induction k with
  |zero=>intro _;rfl
  |succ k aY=>
   intro au
   have bU:k < l.length:=au
   rw[List.range_succ,List.filter_append,List.length_append,aY (by omega),List.take_succ_eq_append_getElem bU,List.filter_append,List.length_append]
   congr 1
   by_cases e:l[k]=1
   ·simp[List.getElem?_eq_getElem bU,e]
   ·simp[List.getElem?_eq_getElem bU,e]
 have:=key _ (Nat.le_refl _)
 rw[List.take_length] at this
 exact this
theorem OX (m:c6): ∀k,pq m k=((List.range k).filter fun i:Nat=>decide (js (aL m) (i:Nat) >0)).length
 |0=>rfl
 |k+1=>by
  rw[pq,OX m k,List.range_succ,List.filter_append,List.length_append]
  congr 1
  by_cases e:js (aL m) (k:Nat) >0
  ·rw[if_pos e];simp[e]
  ·rw[if_neg e];simp[e]
theorem Zc {cs:List Cell} {id:Int}:0 < js cs id↔ ∃c∈cs,gq c=1∧jI c=id:=by
 unfold js
 rw[List.length_pos_iff_exists_mem]
 constructor
 ·rintro⟨c,hc⟩
  obtain⟨aa,af⟩:=List.mem_filter.1 hc
  simp only[Bool.and_eq_true,decide_eq_true_eq] at af
  exact⟨c,aa,af⟩
 ·rintro⟨c,aa,af,aA⟩
  refine⟨c,List.mem_filter.2 ⟨aa,?_⟩⟩
  rw[decide_eq_true af,decide_eq_true aA]
  rfl
theorem dZ.used (h:dZ n s m):pq m (cU m).length=(tr m s.t.length).length:=by
 rw[OX,show(tr m s.t.length).length=((tr m s.t.length).map fun c=>(lg m c).toNat).length from(List.length_map ..).symm]
 apply List.Perm.length_eq
 rw[List.perm_ext_iff_of_nodup (List.Pairwise.sublist List.filter_sublist List.nodup_range) (OU (OV m _) fun a b ha ag e=>by
  obtain⟨ct,cB⟩:=zU.1 ha
  obtain⟨bQ,cn⟩:=zU.1 ag
  obtain⟨i,i1,_⟩:=h.v8 ct cB
  obtain⟨j,n4,_⟩:=h.v8 bQ cn
  have e:(lg m a).toNat=(lg m b).toNat:=e
  rw[i1,n4,Int.toNat_natCast,Int.toNat_natCast] at e
  exact h.inj a b ct bQ cB cn (by rw[i1,n4,e]))]
 intro i
 rw[List.mem_filter,List.mem_range,decide_eq_true_iff,List.mem_map]
 constructor
 ·rintro⟨ay,hr⟩
  obtain⟨c,hc,cE,ey⟩:=Zc.1 hr
  obtain⟨j,ak,rfl⟩:=List.getElem_of_mem hc
  refine⟨j,zU.2 ⟨by rw[←h.len];exact ak,by rw[th ak];exact cE⟩,?_⟩
  rw[x4 ak,ey,Int.toNat_natCast]
 ·rintro⟨c,hc,e⟩
  obtain⟨bp,bq⟩:=zU.1 hc
  obtain⟨j,n4,zV⟩:=h.v8 bp bq
  have rN:j=i:=by rw[n4,Int.toNat_natCast] at e;exact e
  subst rN
  have:=h.refs bp bq
  rw[n4] at this
  exact⟨zV,by omega⟩
theorem dZ.Zd (h:dZ n s m):(Jm s.l).length=(tr m s.t.length).length:=by
 rw[show(tr m s.t.length).length=((tr m s.t.length).map fun c=>(s.t.getD c s0).2.1.toNat).length from(List.length_map ..).symm]
 have slot: ∀c,c∈tr m s.t.length→ ∃k:Nat,s.t[c]? =some ((1:Int),(k:Int),true)∧s.l[k]? =some 1∧(s.t.getD c s0).2.1.toNat=k:=fun c hc=>by
  obtain⟨bp,bq⟩:=zU.1 hc
  rw[h.eu c bp,List.getD_eq_getElem?_getD,List.getElem?_eq_getElem bp] at bq
  have bq:(s.t[c]).1=1:=bq
  rcases h.im.slot c _ (List.getElem?_eq_getElem bp) with e |e |⟨k,e,aq,_⟩
  ·rw[e] at bq;exact absurd bq (by decide)
  ·rw[e] at bq;exact absurd bq (by decide)
  ·refine⟨k,by rw[List.getElem?_eq_getElem bp,e],aq,?_⟩
   rw[List.getD_eq_getElem?_getD,List.getElem?_eq_getElem bp,e]
   rfl
 apply List.Perm.length_eq
 unfold Jm
 rw[List.perm_ext_iff_of_nodup (List.Pairwise.sublist List.filter_sublist List.nodup_range) (OU (OV m _) fun a b ha ag e=>by
  obtain⟨k,cE,_,fo⟩:=slot a ha
  obtain⟨j,n4,_,Ze⟩:=slot b ag
  have e:(s.t.getD a s0).2.1.toNat=(s.t.getD b s0).2.1.toNat:=e
  rw[fo,Ze] at e
  subst e
  exact h.im.inj a b _ cE n4)]
 intro i
 rw[List.mem_filter,List.mem_range,decide_eq_true_iff,List.mem_map]
 constructor
 ·rintro⟨ay,hr⟩
  obtain⟨c,hc⟩:=h.im.used i hr
  have bp:c < s.t.length:=(List.getElem?_eq_some_iff.1 hc).1
  have e:s.t.getD c s0=((1:Int),(i:Int),true):=by rw[List.getD_eq_getElem?_getD,hc];rfl
  refine⟨c,zU.2 ⟨bp,by rw[h.eu c bp,e]⟩,?_⟩
  rw[e]
  exact Int.toNat_natCast i
 ·rintro⟨c,hc,e⟩
  obtain⟨k,_,ey,fo⟩:=slot c hc
  have e:(s.t.getD c s0).2.1.toNat=i:=e
  rw[fo] at e
  subst e
  exact⟨(List.getElem?_eq_some_iff.1 ey).1,ey⟩
theorem dZ.free (h:dZ n s m):zC m=(zeros s.l:Nat):=by
 have aa:=OW s.l fun x hx=>by
  obtain⟨i,ay,rfl⟩:=List.getElem_of_mem hx
  exact h.im.cnt i _ (List.getElem?_eq_getElem ay)
 rw[←Zb,h.Zd] at aa
 unfold zC
 rw[h.used,h.BS]
 omega
theorem Jn (c:Nat) (x:Cell) (d:Nat) (hc:c < (aL m).length):eV (pz m c x) d=if d=c then gq x else eV m d:=by
 unfold eV
 show gq (((aL m).set c x).getD d (hO 0 0))=_
 rw[List.getD_eq_getElem?_getD,List.getD_eq_getElem?_getD,List.getElem?_set]
 by_cases e:c=d
 ·subst e
  rw[if_pos rfl,if_pos rfl,if_pos hc]
  rfl
 ·rw[if_neg e,if_neg (Ne.symm e)]
theorem EA (c:Nat) (x:Cell) (d:Nat) (hc:c < (aL m).length):lg (pz m c x) d=if d=c then jI x else lg m d:=by
 unfold lg
 show jI (((aL m).set c x).getD d (hO 0 0))=_
 rw[List.getD_eq_getElem?_getD,List.getD_eq_getElem?_getD,List.getElem?_set]
 by_cases e:c=d
 ·subst e
  rw[if_pos rfl,if_pos rfl,if_pos hc]
  rfl
 ·rw[if_neg e,if_neg (Ne.symm e)]
theorem BU {s s':bz} {d:Nat} (h:s'.t[d]? =s.t[d]?):s'.t.getD d s0=s.t.getD d s0:=by rw[List.getD_eq_getElem?_getD,List.getD_eq_getElem?_getD,h]
theorem dZ.set {s':bz} {c:Nat} {q:eD} (h:dZ n s m) (hs:DM s s' c q) (hc:c < s.t.length) (bh:q=s0∨q=vB):dZ n s' (pz m c (hO q.1 0)):=by
 have dz:c < (aL m).length:=by rw[h.len];exact hc
 have xF:q.1≠1:=by rcases bh with e |e <;>rw[e] <;>decide
 have gz: ∀d,eV (pz m c (hO q.1 0)) d=1→d≠c∧eV m d=1:=fun d hd=>by
  rw[Jn c _ d dz] at hd
  by_cases e:d=c
  ·rw[if_pos e] at hd;exact absurd hd xF
  ·rw[if_neg e] at hd;exact⟨e,hd⟩
 refine⟨hs.ok,h.ok.set c xF,?_,?_,?_,fun d hd=>?_,fun d hd au=>?_,fun d e hd he gm uJ ay=>?_⟩
 ·rw[←h.wd];unfold wid;rw[hs.bits]
 ·show((aL m).set c _).length=_
  rw[List.length_set,hs.tl,h.len]
 ·show j3 m=_
  rw[hs.k3,h.BS]
 ·rw[hs.tl] at hd
  rw[Jn c _ d dz]
  by_cases e:d=c
  ·subst e
   rw[if_pos rfl,List.getD_eq_getElem?_getD,hs.there]
   rfl
  ·rw[if_neg e,h.eu d hd,BU (hs.gz d e).1]
 ·rw[hs.tl] at hd
  obtain⟨e,bU⟩:=gz d au
  rw[(hs.gz d e).2,h.BT d hd bU,EA c _ d dz,if_neg e]
 ·rw[hs.tl] at hd he
  obtain⟨ai,cE⟩:=gz d gm
  obtain⟨aq,ey⟩:=gz e uJ
  rw[EA c _ d dz,EA c _ e dz,if_neg ai,if_neg aq] at ay
  exact h.inj d e hd he cE ey ay
theorem dZ.put {s':bz} {p:lM} {bs y x:List UInt8} (h:dZ n s m) (hs:zg s s' p bs y) (hc:p.c < s.t.length) (hx:laid (dR s p.c (some y)) p.a (p.b - p.a) bs=x) (uY:x.length=16*n) (hd:(cU m).length+1≤100000):dZ n s' (j4 m p.c x):=by
 have dz:p.c < (aL m).length:=by rw[h.len];exact hc
 have dF:=h.own hc
 have bD:=h.ok.put p.c uY hd
 have cx:wid s'=16*n:=by rw[←h.wd];unfold wid;rw[hs.bits]
 have cM:(aL (j4 m p.c x)).length=s'.t.length:=by rw[IP,hs.tl,h.len]
 have w3:j3 (j4 m p.c x)=(s'.l.length:Nat):=by rw[hs.k3,←h.BS];unfold j4;split <;>rfl
 have cE:(s'.t.getD p.c s0).1=1:=by
  have jX:p.c < s'.t.length:=by rw[hs.tl];exact hc
  rcases y9 hs.ok jX with⟨ai,_⟩ |⟨_,k,aq,_⟩
  ·rw[hs.jx] at ai;cases ai
  ·rw[List.getD_eq_getElem?_getD,aq];rfl
 have OY:dR s' p.c none=x:=(hs.there none).trans hx
 by_cases au:eV m p.c=1
 ·rw[decide_eq_true au] at dF
  have e:j4 m p.c x=nW (dy m) (j3 m) (aL m) (pn m) ((cU m).set (lg m p.c).toNat x):=by unfold j4;rw[dF];rfl
  obtain⟨i,i1,i2⟩:=h.v8 hc au
  rw[e] at bD cM w3⊢
  refine⟨hs.ok,bD,cx,cM,w3,fun d hd=>?_,fun d hd gm=>?_,fun d e hd he gm uJ ay=>?_⟩
  ·rw[hs.tl] at hd
   show eV m d=_
   by_cases e:d=p.c
   ·subst e;rw[cE,au]
   ·rw[h.eu d hd,BU (hs.gz d e).1]
  ·rw[hs.tl] at hd
   have gm:eV m d=1:=gm
   show dR s' d none=((cU m).set (lg m p.c).toNat x).getD (lg m d).toNat []
   by_cases e:d=p.c
   ·subst e
    rw[OY,i1,Int.toNat_natCast,List.getD_eq_getElem?_getD,List.getElem?_set_self i2]
    rfl
   ·obtain⟨j,n4,zV⟩:=h.v8 hd gm
    have fD:i≠j:=fun q=>e (h.inj d p.c hd hc gm au (by rw[i1,n4,q]))
    rw[(hs.gz d e).2,h.BT d hd gm,i1,n4,Int.toNat_natCast,Int.toNat_natCast,List.getD_eq_getElem?_getD,List.getD_eq_getElem?_getD,List.getElem?_set_ne fD]
  ·rw[hs.tl] at hd he
   exact h.inj d e hd he gm uJ ay
 ·rw[decide_eq_false au] at dF
  have e:j4 m p.c x=pz (nW (dy m) (j3 m) (aL m) (pn m) (cU m++[x])) p.c (hO 1 ((cU m).length:Nat)):=by unfold j4;rw[dF]
  rw[e] at bD cM w3⊢
  have cR: ∀d,eV (pz (nW (dy m) (j3 m) (aL m) (pn m) (cU m++[x])) p.c (hO 1 ((cU m).length:Nat))) d=if d=p.c then 1 else eV m d:=fun d=>Jn (m:=nW (dy m) (j3 m) (aL m) (pn m) (cU m++[x])) p.c _ d dz
  have ii: ∀d,lg (pz (nW (dy m) (j3 m) (aL m) (pn m) (cU m++[x])) p.c (hO 1 ((cU m).length:Nat))) d=if d=p.c then(((cU m).length:Nat):Int) else lg m d:=fun d=>EA (m:=nW (dy m) (j3 m) (aL m) (pn m) (cU m++[x])) p.c _ d dz
  refine⟨hs.ok,bD,cx,cM,w3,fun d hd=>?_,fun d hd gm=>?_,fun d e hd he gm uJ ay=>?_⟩
  ·rw[hs.tl] at hd
   rw[cR]
   by_cases e:d=p.c
   ·subst e;rw[if_pos rfl,cE]
   ·rw[if_neg e,h.eu d hd,BU (hs.gz d e).1]
  ·rw[hs.tl] at hd
   rw[cR] at gm
   rw[ii]
   show dR s' d none=(cU m++[x]).getD _ []
   by_cases e:d=p.c
   ·subst e
    rw[if_pos rfl,OY,Int.toNat_natCast,List.getD_eq_getElem?_getD,List.getElem?_concat_length]
    rfl
   ·rw[if_neg e] at gm⊢
    obtain⟨j,n4,zV⟩:=h.v8 hd gm
    rw[(hs.gz d e).2,h.BT d hd gm,n4,Int.toNat_natCast,List.getD_eq_getElem?_getD,List.getD_eq_getElem?_getD,List.getElem?_append_left zV]
  ·rw[hs.tl] at hd he
   rw[cR] at gm uJ
   rw[ii,ii] at ay
   by_cases ai:d=p.c <;>by_cases aq:e=p.c
   ·rw[ai,aq]
   ·rw[if_neg aq] at uJ ay
    rw[if_pos ai] at ay
    obtain⟨j,n4,zV⟩:=h.v8 he uJ
    rw[n4] at ay
    omega
   ·rw[if_neg ai] at gm ay
    rw[if_pos aq] at ay
    obtain⟨j,n4,zV⟩:=h.v8 hd gm
    rw[n4] at ay
    omega
   ·rw[if_neg ai] at gm ay
    rw[if_neg aq] at uJ ay
    exact h.inj d e hd he gm uJ ay
end
end Go.Proofs.YteoamepgonpdlaaGreat
namespace Go.Proofs.YteoamepgonpdlaaGreat
set_option linter.unusedVariables false
set_option linter.unusedSimpArgs false
set_option maxRecDepth 10000
open Go.RowKit Go.Proofs
theorem OZ (n c a l:Nat): ∀k,dY n c a l k=min k (a+l - c*n) - min k (a - c*n)
 |0=>by simp[dY]
 |k+1=>by
  rw[dY,OZ n c a l k]
  generalize c*n=t
  split <;>omega
theorem EB {Z:List UInt8} {f:Nat→List UInt8} {g:Nat→List UInt8} (O0:g 0=[]) (bl: ∀k,g (k+1)=g k++f k): ∀n,16*n≤Z.length→(∀k,k < n→sec Z k=f k)→Z.take (16*n)=g n
 |0,_,_=>by rw[O0];rfl
 |n+1,hn,hf=>by
  rw[bl,←EB O0 bl n (by omega) fun k au=>hf k (by omega),←hf n (by omega)]
  unfold sec
  rw[show 16*(n+1)=n*16+16 by omega,show 16*n=n*16 by omega]
  have e:(Z.take (n*16+16)).take (n*16)++(Z.take (n*16+16)).drop (n*16)=Z.take (n*16+16):=List.take_append_drop ..
  rw[List.take_take,Nat.min_eq_left (by omega)] at e
  exact e.symm
section
variable {n:Nat} {s:bz} {m:c6}
theorem dZ.pow (h:dZ n s m):n=2 ^s.bits:=by
 have:=h.wd
 unfold wid at this
 omega
theorem dZ.all (h:dZ n s m):eO s=n*(aL m).length:=by
 unfold eO
 rw[h.len,h.pow,Nat.mul_comm]
theorem dZ.Zf (h:dZ n s m) (a l:Int):dJ s a l=fQ n (aL m).length a l:=by
 unfold dJ fQ
 rw[h.all]
 generalize((n*(aL m).length:Nat):Int)=N
 by_cases aa:l < 0
 ·rw[if_pos aa,if_pos aa]
 ·rw[if_neg aa,if_neg aa]
  by_cases af:a < 0
  ·rw[if_pos (.inl af),if_pos af]
  ·rw[if_neg af]
   by_cases aA:N < a
   ·rw[if_pos aA,if_pos (by omega)]
   ·rw[if_neg aA]
    by_cases bE:N - a < l
    ·rw[if_pos bE,if_pos (by omega)]
    ·rw[if_neg bE,if_neg (by omega)]
theorem dZ.piece (h:dZ n s m) {a l:Nat} {c:Nat}:(0 < dY n c a l n↔16*a/wid s≤c∧c < 16*a/wid s+b5 (wid s) a l)∧
  (16*a/wid s≤c→c < 16*a/wid s+b5 (wid s) a l→(aR (wid s) a l (c - 16*a/wid s)).c=c∧(aR (wid s) a l (c - 16*a/wid s)).b - (aR (wid s) a l (c - 16*a/wid s)).a=16*dY n c a l n∧16*a < (c+1)*wid s∧c*wid s < 16*(a+l)):=by
 have dW:=oB h.im.bits
 have eM:=h.ok.eM
 have ai:c*wid s=16*(c*n):=by rw[h.wd,Nat.mul_left_comm]
 have aq:(c+1)*wid s=16*(c*n)+16*n:=by rw[Nat.succ_mul,ai,h.wd]
 have ay:=OZ n c a l n
 have key:0 < l→((16*a/wid s≤c∧c < 16*a/wid s+b5 (wid s) a l)↔(16*a < (c+1)*wid s∧c*wid s < 16*(a+l))):=fun aB=>Y9 dW aB
 have hp:l=0→b5 (wid s) a l=0:=fun e=>if_pos e
 rw[ai,aq] at key
 generalize bh:16*a/wid s=cy at*
 refine⟨?_,fun g1 g2=>?_⟩
 ·rcases Nat.eq_zero_or_pos l with aB |aB
  ·have:=hp aB
   constructor
   ·intro g;omega
   ·rintro⟨g1,g2⟩;omega
  ·rw[key aB]
   omega
 ·have aB:0 < l:=Nat.pos_of_ne_zero fun e=>by have:=hp e;omega
  have g:=(key aB).1 ⟨g1,g2⟩
  rw[ai,aq]
  have lI:cy+(c - cy)=c:=by omega
  refine⟨?_,?_,g.1,g.2⟩
  ·show 16*a/wid s+(c - cy)=c
   rw[bh];exact lI
  ·show min (16*(a+l) - (16*a/wid s+(c - cy))*wid s) (wid s) - (16*a - (16*a/wid s+(c - cy))*wid s)=_
   rw[bh,lI,ai,ay,h.wd]
   omega
theorem dZ.lay (h:dZ n s m) {a l c:Nat} {bs X:List UInt8} (An:bs.length=16*l) (zG:X.length=16*n) (dU:16*a < (c+1)*wid s∧c*wid s < 16*(a+l)) (hlen:(laid X (aR (wid s) a l (c - 16*a/wid s)).a ((aR (wid s) a l (c - 16*a/wid s)).b - (aR (wid s) a l (c - 16*a/wid s)).a) (k4 bs (aR (wid s) a l (c - 16*a/wid s)))).length=16*n):
  laid X (aR (wid s) a l (c - 16*a/wid s)).a ((aR (wid s) a l (c - 16*a/wid s)).b - (aR (wid s) a l (c - 16*a/wid s)).a) (k4 bs (aR (wid s) a l (c - 16*a/wid s)))=mI n c a X bs n:=by
 have hp:=h.pow
 have ag:=h.im.bits
 unfold wid at dU hlen⊢
 subst hp
 have e:=EB (Z:=laid X (aR (16*2 ^s.bits) a l (c - 16*a/(16*2 ^s.bits))).a ((aR (16*2 ^s.bits) a l (c - 16*a/(16*2 ^s.bits))).b - (aR (16*2 ^s.bits) a l (c - 16*a/(16*2 ^s.bits))).a) (k4 bs (aR (16*2 ^s.bits) a l (c - 16*a/(16*2 ^s.bits))))) (f:=qf (2 ^s.bits) c a X bs) (g:=mI (2 ^s.bits) c a X bs) rfl (fun _=>rfl) (2 ^s.bits) (Nat.le_of_eq hlen.symm) fun k au=>by
  rw[Za ag zG An dU au]
  unfold qf sec
  by_cases g:a≤c*2 ^s.bits+k∧c*2 ^s.bits+k < a+l
  ·rw[if_pos g,if_pos (by generalize c*2 ^s.bits=t at*;omega)]
   rw[Nat.mul_comm (c*2 ^s.bits+k - a) 16]
  ·rw[if_neg g,if_neg (by generalize c*2 ^s.bits=t at*;omega),Nat.mul_comm k 16]
 rw[←e]
 exact(List.take_of_length_le (Nat.le_of_eq hlen)).symm
def mN (cy p k:Nat):Nat:=min (k - cy) p
theorem BV {cy p k:Nat} (aa:cy≤k) (af:k < cy+p):mN cy p k=k - cy∧mN cy p (k+1)=k - cy+1∧k - cy < p:=by unfold mN;omega
theorem BW {cy p k:Nat} (h: ¬(cy≤k∧k < cy+p)):mN cy p (k+1)=mN cy p k:=by unfold mN;omega
theorem BX {cy p N:Nat} (h:p=0∨cy+p≤N):mN cy p N=p:=by unfold mN;omega
theorem dZ.fits (h:dZ n s m) {a l:Nat} (c9:a+l≤eO s):b5 (wid s) a l=0∨16*a/wid s+b5 (wid s) a l≤s.t.length:=by
 rcases Nat.eq_zero_or_pos (b5 (wid s) a l) with e |e
 ·exact .inl e
 ·right
  have:=(qQ h.im c9 (k:=b5 (wid s) a l - 1) (by omega)).1
  have aq:(aR (wid s) a l (b5 (wid s) a l - 1)).c=16*a/wid s+(b5 (wid s) a l - 1):=rfl
  omega
theorem dZ.Zg (h:dZ n s m) {a l:Nat} (c9:a+l≤eO s):jK n a l false m (aL m).length=fP s a l (b5 (wid s) a l):=by
 have key: ∀k,k≤s.t.length→jK n a l false m k=fP s a l (mN (16*a/wid s) (b5 (wid s) a l) k):=fun k=>by
  induction k with
  |zero=>intro _;unfold mN;simp[jK,fP]
  |succ k aY=>
   intro au
   have bU:k < s.t.length:=au
   obtain⟨cK,c5⟩:=h.piece (a:=a) (l:=l) (c:=k)
   have hw:jt n a l false m k=(decide (0 < dY n k a l n)&&decide (eV m k≠1)):=by
    unfold jt
    rw[h.own bU]
    by_cases e:eV m k=1 <;>simp[e]
   rw[jK,aY (by omega),hw]
   by_cases g:0 < dY n k a l n
   ·obtain⟨g1,g2⟩:=cK.1 g
    obtain⟨ct,cB,a3⟩:=BV g1 g2
    rw[ct,cB,decide_eq_true g,Bool.true_and,fP]
    have aq:(aR (wid s) a l (k - 16*a/wid s)).c=k:=(c5 g1 g2).1
    rw[aq,h.OT bU]
    by_cases e:eV m k=1
    ·rw[decide_eq_false (fun q=>q e)];rfl
    ·rw[decide_eq_true e];rfl
   ·rw[BW (fun q=>g (cK.2 q)),decide_eq_false g]
    rfl
 rw[h.len,key _ (Nat.le_refl _),BX (h.fits c9)]
theorem O1 (h:dZ n s m) {c:Nat} (hc:c < s.t.length) {y:List UInt8} {b9:List (List UInt8)} (ag:eV m c=0→b9[c]? =some y∧y.length=16*n):dR s c (some y)=k7 n m c b9:=by
 have dz:c < (aL m).length:=by rw[h.len];exact hc
 have au:=h.eu c hc
 have zW:=h.BT c hc
 rw[th dz] at au zW ag
 rw[x4 dz] at zW
 unfold k7
 rw[List.getElem?_eq_getElem dz]
 simp only
 unfold dR at zW⊢
 rw[List.getD_eq_getElem?_getD,List.getElem?_eq_getElem hc] at au
 rw[List.getElem?_eq_getElem hc] at zW⊢
 simp only[Option.getD_some] at au zW⊢
 have hw:=h.wd
 by_cases ai:gq (aL m)[c]=1
 ·rw[if_pos ai]
  have:=zW ai
  rw[if_pos (au.symm.trans ai)] at this⊢
  exact this
 ·rw[if_neg ai,if_neg (fun q=>ai (au.trans q))]
  by_cases bt:gq (aL m)[c]=0
  ·obtain⟨uj,aF⟩:=ag bt
   rw[if_pos bt,if_pos (au.symm.trans bt),if_pos (aF.trans hw.symm),uj]
   simp only
   rw[if_pos aF]
  ·rw[if_neg bt,if_neg (fun q=>bt (au.trans q))]
   unfold jF
   rw[hw]
theorem dZ.wr (h:dZ n s m) {a l:Nat} {bs:List UInt8} (eC:bs.length=16*l) (c9:a+l≤eO s) {y:Nat→List UInt8} {b9:List (List UInt8)} (aF: ∀c,c < s.t.length→eV m c=0→b9[c]? =some (y c)∧(y c).length=16*n) (hd:(cU m).length+256≤100000)
  (dD:fP s a l (b5 (wid s) a l)≤zeros s.l):dZ n (gD s a l bs y (b5 (wid s) a l)) (iW n a l bs b9 false m (aL m).length):=by
 have o3:=h.im.tl
 have key: ∀k,k≤s.t.length→dZ n (gD s a l bs y (mN (16*a/wid s) (b5 (wid s) a l) k)) (iW n a l bs b9 false m k):=fun k=>by
  induction k with
  |zero=>intro _;unfold mN;simp only[Nat.zero_sub,Nat.zero_min];exact h
  |succ k aY=>
   intro au
   have bU:k < s.t.length:=au
   have hr:=aY (by omega)
   obtain⟨cK,c5⟩:=h.piece (a:=a) (l:=l) (c:=k)
   rw[iW]
   by_cases g:0 < dY n k a l n
   ·obtain⟨g1,g2⟩:=cK.1 g
    obtain⟨ct,cB,a3⟩:=BV g1 g2
    obtain⟨dO,cZ,dA,dB⟩:=c5 g1 g2
    rw[ct] at hr
    rw[cB]
    obtain⟨bC,hs⟩:=Bq h.im eC c9 y dD (k - 16*a/wid s) (by omega)
    obtain⟨m5,_⟩:=hs a3
    have EC:wid (gD s a l bs y (k - 16*a/wid s))=wid s:=bC.ez.wid
    have Zh:(gD s a l bs y (k - 16*a/wid s)).t.length=s.t.length:=bC.ez.tl
    have e:mJ n a l bs b9 false (iW n a l bs b9 false m k) k=j4 (iW n a l bs b9 false m k) k (mI n k a (k7 n (iW n a l bs b9 false m k) k b9) bs n):=by
     unfold mJ
     rw[if_neg (by omega),if_neg (fun q=>absurd q.1 (by decide)),if_neg (fun q=>absurd q.1 (by decide))]
    rw[e]
    have oa:k < (gD s a l bs y (k - 16*a/wid s)).t.length:=by rw[Zh];exact bU
    have mq:=(bC.gz k (.inr (by omega))).1
    have mC:=O1 hr oa (b9:=b9) (y:=y k) fun q=>aF k bU (by rw[h.eu k bU,←BU mq,←hr.eu k oa];exact q)
    have cQ:=xW hr.ok (c:=k) (by rw[hr.len];exact oa) b9
    rw[dO] at m5
    have y5:(aR (wid s) a l (k - 16*a/wid s)).c=k:=dO
    have gh:(laid (dR (gD s a l bs y (k - 16*a/wid s)) k (some (y k))) (aR (wid s) a l (k - 16*a/wid s)).a ((aR (wid s) a l (k - 16*a/wid s)).b - (aR (wid s) a l (k - 16*a/wid s)).a) (k4 bs (aR (wid s) a l (k - 16*a/wid s)))).length=16*n:=by
     obtain⟨cx,cM,w3,fV⟩:=p9 (oB h.im.bits) a3
     rw[HE (by rw[mC,cQ];have:=h.wd;omega) (Bp cx (by omega)),mC,cQ]
    have hx:=h.lay eC (X:=dR (gD s a l bs y (k - 16*a/wid s)) k (some (y k))) (by rw[mC];exact cQ) ⟨dA,dB⟩ gh
    rw[mC] at hx
    have BZ:=hr.put (x:=mI n k a (k7 n (iW n a l bs b9 false m k) k b9) bs n) m5 (by rw[y5];exact oa) (by rw[y5,mC];exact hx) (BM n (Nat.le_of_eq cQ.symm)) (by
     have:=zF n a l bs b9 false m k
     omega)
    rw[y5] at BZ
    exact BZ
   ·rw[BW (fun q=>g (cK.2 q))]
    have e:mJ n a l bs b9 false (iW n a l bs b9 false m k) k=iW n a l bs b9 false m k:=if_pos (by omega)
    rw[e]
    exact hr
 have:=key _ (Nat.le_refl _)
 rw[BX (h.fits c9),←h.len] at this
 exact this
theorem dZ.ds (h:dZ n s m) {a l:Nat} (c9:a+l≤eO s):dZ n (HK s a l) (jJ n a l m (aL m).length):=by
 have o3:=h.im.tl
 have eM:=h.ok.eM
 have key: ∀k,k≤s.t.length→dZ n (iI s a l (mN (16*a/wid s) (b5 (wid s) a l) k)) (jJ n a l m k):=fun k=>by
  induction k with
  |zero=>intro _;unfold mN;simp only[Nat.zero_sub,Nat.zero_min];exact h
  |succ k aY=>
   intro au
   have bU:k < s.t.length:=au
   have hr:=aY (by omega)
   obtain⟨cK,c5⟩:=h.piece (a:=a) (l:=l) (c:=k)
   by_cases g:0 < dY n k a l n
   ·obtain⟨g1,g2⟩:=cK.1 g
    obtain⟨ct,cB,a3⟩:=BV g1 g2
    obtain⟨dO,cZ,_⟩:=c5 g1 g2
    rw[ct] at hr
    rw[cB,iI,jJ,cZ,dO,h.wd]
    have bC:=zh h.im c9 (k - 16*a/wid s) (by omega)
    by_cases e:dY n k a l n=n
    ·rw[if_pos (by rw[e]),if_pos e]
     have oa:k < (iI s a l (k - 16*a/wid s)).t.length:=by rw[bC.ez.tl];exact bU
     have:=hr.set (DN hr.im oa (q:=s0) (.inl rfl)) oa (.inl rfl)
     rw[h.wd] at this
     exact this
    ·rw[if_neg (by omega),if_neg e]
     rw[h.wd] at hr
     exact hr
   ·rw[BW (fun q=>g (cK.2 q)),jJ,if_neg (by omega)]
    exact hr
 have:=key _ (Nat.le_refl _)
 rw[BX (h.fits c9),←h.len] at this
 exact this
theorem dZ.Zi (h:dZ n s m) {a l:Nat} (c9:a+l≤eO s):jK n a l true m (aL m).length=fA s a l (b5 (wid s) a l):=by
 have key: ∀k,k≤s.t.length→jK n a l true m k=fA s a l (mN (16*a/wid s) (b5 (wid s) a l) k):=fun k=>by
  induction k with
  |zero=>intro _;unfold mN;simp[jK,fA]
  |succ k aY=>
   intro au
   have bU:k < s.t.length:=au
   obtain⟨cK,c5⟩:=h.piece (a:=a) (l:=l) (c:=k)
   rw[jK,aY (by omega)]
   by_cases g:0 < dY n k a l n
   ·obtain⟨g1,g2⟩:=cK.1 g
    obtain⟨ct,cB,a3⟩:=BV g1 g2
    obtain⟨dO,cZ,_⟩:=c5 g1 g2
    rw[ct,cB,fA]
    have hw:lN s (aR (wid s) a l (k - 16*a/wid s))=jt n a l true m k:=by
     unfold lN jZ jt
     rw[dO,cZ,h.OT bU,h.own bU,←h.eu k bU,h.wd,decide_eq_true g]
     have vD:decide (16*dY n k a l n=16*n)=decide (dY n k a l n=n):=by
      rw[Bool.eq_iff_iff,decide_eq_true_iff,decide_eq_true_iff];omega
     rw[vD]
     by_cases ai:dY n k a l n=n <;>by_cases aq:eV m k=2 <;>by_cases bk:eV m k=1 <;>simp[ai,aq,bk]
    rw[←hw]
    cases lN s (aR (wid s) a l (k - 16*a/wid s)) <;>rfl
   ·rw[BW (fun q=>g (cK.2 q))]
    have hw:jt n a l true m k=false:=by unfold jt;rw[decide_eq_false g];rfl
    rw[hw]
 rw[h.len,key _ (Nat.le_refl _),BX (h.fits c9)]
theorem Zj {W a l k:Nat} (dW:vA W) (au:k < b5 W a l):k4 (List.replicate (16*l) 0) (aR W a l k)=xA ((aR W a l k).b - (aR W a l k).a):=by
 obtain⟨cx,cM,w3,fV⟩:=p9 dW au
 unfold k4 xA
 rw[List.take_replicate,List.drop_replicate]
 congr 1
 omega
theorem dZ.Zk (h:dZ n s m) {a l:Nat} (c9:a+l≤eO s) {y:Nat→List UInt8} {b9:List (List UInt8)} (aF: ∀c,c < s.t.length→eV m c=0→b9[c]? =some (y c)∧(y c).length=16*n) (hd:(cU m).length+256≤100000)
  (dD:fA s a l (b5 (wid s) a l)≤zeros s.l):dZ n (ej s a l y (b5 (wid s) a l)) (iW n a l (List.replicate (16*l) 0) b9 true m (aL m).length):=by
 have o3:=h.im.tl
 have eM:=h.ok.eM
 have eC:(List.replicate (16*l) (0:UInt8)).length=16*l:=List.length_replicate
 have key: ∀k,k≤s.t.length→dZ n (ej s a l y (mN (16*a/wid s) (b5 (wid s) a l) k)) (iW n a l (List.replicate (16*l) 0) b9 true m k):=fun k=>by
  induction k with
  |zero=>intro _;unfold mN;simp only[Nat.zero_sub,Nat.zero_min];exact h
  |succ k aY=>
   intro au
   have bU:k < s.t.length:=au
   have hr:=aY (by omega)
   obtain⟨cK,c5⟩:=h.piece (a:=a) (l:=l) (c:=k)
   have qM:=zF n a l (List.replicate (16*l) 0) b9 true m k
   rw[iW]
   generalize iW n a l (List.replicate (16*l) 0) b9 true m k=X at*
   by_cases g:0 < dY n k a l n
   ·obtain⟨g1,g2⟩:=cK.1 g
    obtain⟨ct,cB,a3⟩:=BV g1 g2
    obtain⟨dO,cZ,dA,dB⟩:=c5 g1 g2
    rw[ct] at hr
    rw[cB,ej]
    have bC:=zi h.im c9 y dD (k - 16*a/wid s) (by omega)
    have oa:k < (ej s a l y (k - 16*a/wid s)).t.length:=by rw[bC.ez.tl];exact bU
    have EC:wid (ej s a l y (k - 16*a/wid s))=wid s:=bC.ez.wid
    have aS:=fun hw af=>HL dD bC a3 hw af
    unfold vC mJ
    rw[DP bC.ez]
    have vD:jZ s (aR (wid s) a l (k - 16*a/wid s))=decide (dY n k a l n=n):=by
     unfold jZ
     rw[cZ,h.wd,Bool.eq_iff_iff,decide_eq_true_iff,decide_eq_true_iff]
     omega
    rw[vD] at aS⊢
    rw[if_neg (show¬dY n k a l n=0 by omega)]
    have hle:=IJ n k a l n
    by_cases ai:dY n k a l n=n
    ·rw[if_pos (decide_eq_true ai),if_neg (by omega),if_pos ⟨rfl,ai⟩,dO]
     exact hr.set (DN hr.im oa (q:=vB) (.inr rfl)) oa (.inr rfl)
    ·rw[if_neg (by rw[decide_eq_false ai];decide),if_neg (show¬(true=true∧dY n k a l n=n) from fun q=>ai q.2),dO]
     have gm:=hr.eu k oa
     by_cases aq:eV X k=2
     ·rw[if_pos (gm.symm.trans aq),if_pos ⟨rfl,by omega,aq⟩]
      exact hr
     ·rw[if_neg (fun q=>aq (gm.trans q)),if_neg (fun q=>aq q.2.2)]
      obtain⟨cx,cM,w3,fV⟩:=p9 (oB h.im.bits) a3
      have mq:=(bC.gz k (.inr (by omega))).1
      have mC:=O1 hr oa (b9:=b9) (y:=y k) fun q=>aF k bU (by rw[h.eu k bU,←BU mq,←hr.eu k oa];exact q)
      have cQ:=xW hr.ok (c:=k) (by rw[hr.len];exact oa) b9
      have Zl:=Zj (oB h.im.bits) a3
      rw[←Zl]
      have Zm:=aS (decide_eq_false ai) (by rw[dO];exact fun q=>aq (gm.trans q))
      have m5:=HG hr.im (p:=aR (wid s) a l (k - 16*a/wid s)) (by rw[dO];exact oa) (bs:=k4 (List.replicate (16*l) 0) (aR (wid s) a l (k - 16*a/wid s))) (y:=y k) cx (by rw[EC];exact cM) (Bp cx (by omega)) Zm
      have gh:(laid (dR (ej s a l y (k - 16*a/wid s)) k (some (y k))) (aR (wid s) a l (k - 16*a/wid s)).a ((aR (wid s) a l (k - 16*a/wid s)).b - (aR (wid s) a l (k - 16*a/wid s)).a) (k4 (List.replicate (16*l) 0) (aR (wid s) a l (k - 16*a/wid s)))).length=16*n:=by
       rw[HE (by rw[mC,cQ];have:=h.wd;omega) (Bp cx (by omega)),mC,cQ]
      have hx:=h.lay eC (X:=dR (ej s a l y (k - 16*a/wid s)) k (some (y k))) (by rw[mC];exact cQ) ⟨dA,dB⟩ gh
      rw[mC] at hx
      have BZ:=hr.put (x:=mI n k a (k7 n X k b9) (List.replicate (16*l) 0) n) m5 (by rw[dO];exact oa) (by rw[dO,mC];exact hx) (BM n (Nat.le_of_eq cQ.symm)) (by omega)
      rw[dO] at BZ
      exact BZ
   ·rw[BW (fun q=>g (cK.2 q))]
    have e:mJ n a l (List.replicate (16*l) 0) b9 true X k=X:=if_pos (by omega)
    rw[e]
    exact hr
 have:=key _ (Nat.le_refl _)
 rw[BX (h.fits c9),←h.len] at this
 exact this
end
end Go.Proofs.YteoamepgonpdlaaGreat
namespace Go.Proofs.YteoamepgonpdlaaGreat
set_option linter.unusedVariables false
set_option linter.unusedSimpArgs false
set_option maxRecDepth 10000
open Go.RowKit Go.Proofs
theorem Zn {l:List (List UInt8)} (h:l.Nodup):(l.mergeSort Go.leB).Pairwise (· < ·):=by
 have Zo: ∀a b c:List UInt8,Go.leB a b=true→Go.leB b c=true→Go.leB a c=true:=fun a b c aa af=>by simp only[Go.leB,decide_eq_true_eq] at*;exact List.le_trans aa af
 have to: ∀a b:List UInt8,(Go.leB a b||Go.leB b a)=true:=fun a b=>by simp only[Go.leB,Bool.or_eq_true,decide_eq_true_eq];exact List.le_total a b
 have aa:(l.mergeSort Go.leB).Pairwise fun a b=>Go.leB a b=true:=List.pairwise_mergeSort Zo to _
 have af:(l.mergeSort Go.leB).Nodup:=(List.mergeSort_perm _ _).nodup_iff.2 h
 exact List.Pairwise.imp₂ (fun a b hle bf=>by
  have hle:a≤b:=by simpa[Go.leB] using hle
  rcases List.le_iff_lt_or_eq.1 hle with h |h
  ·exact h
  ·exact absurd h bf) aa af
theorem O2: ∀{a b:List (List UInt8)},a.Pairwise (· < ·)→b.Pairwise (· < ·)→(∀x,x∈a↔x∈b)→a=b
 | [],[],_,_,_=>rfl
 | [],y::b,_,_,h=>absurd ((h y).2 (List.mem_cons_self ..)) (List.not_mem_nil)
 |x::a,[],_,_,h=>absurd ((h x).1 (List.mem_cons_self ..)) (List.not_mem_nil)
 |x::a,y::b,ha,ag,h=>by
  obtain⟨ct,cB⟩:=List.pairwise_cons.1 ha
  obtain⟨bQ,cn⟩:=List.pairwise_cons.1 ag
  have e:x=y:=by
   rcases List.mem_cons.1 ((h x).1 (List.mem_cons_self ..)) with e |e
   ·exact e
   ·rcases List.mem_cons.1 ((h y).2 (List.mem_cons_self ..)) with aq |aq
    ·exact aq.symm
    ·exact absurd (List.lt_trans (bQ x e) (ct y aq)) (List.lt_irrefl _)
  subst e
  rw[O2 cB cn fun z=>?_]
  constructor
  ·intro aS
   rcases List.mem_cons.1 ((h z).1 (List.mem_cons_of_mem _ aS)) with e |e
   ·subst e;exact absurd (ct z aS) (List.lt_irrefl _)
   ·exact e
  ·intro aS
   rcases List.mem_cons.1 ((h z).2 (List.mem_cons_of_mem _ aS)) with e |e
   ·subst e;exact absurd (bQ z aS) (List.lt_irrefl _)
   ·exact e
theorem Jo {L:List aH} (h:(L.map (·.nm)).Nodup):(ic L).Pairwise (· < ·):=by
 unfold ic s6
 rw[vJ]
 exact Zn h
theorem Zp {L:List aH} {n:List UInt8}:n∈ic L↔n∈L.map (·.nm):=by
 unfold ic s6
 rw[List.mem_mergeSort,vJ]
theorem Zq {L:List aH} {n:List UInt8}:n∈ic L↔ ∃d,dk L n=some d:=by
 constructor
 ·exact Ih
 ·rintro⟨d,hd⟩
  rw[Zp]
  obtain⟨aa,af⟩:=cT hd
  exact List.mem_map.2 ⟨d,aa,af⟩
def tu (L:List aH) (l:List bJ):Prop:= ∀x,(cI l x).map (fun e=>er e)=(dk L x).map (·.back)
theorem tu.get {L:List aH} {l:List bJ} (h:tu L l) (x:List UInt8):(dk L x=none∧cI l x=none)∨ ∃d e,dk L x=some d∧cI l x=some e∧er e=d.back:=by
 have:=h x
 cases ai:dk L x with
 |none=>
  rw[ai] at this
  cases aq:cI l x with
  |none=>exact .inl ⟨rfl,rfl⟩
  |some e=>rw[aq] at this;cases this
 |some d=>
  rw[ai] at this
  cases aq:cI l x with
  |none=>rw[aq] at this;cases this
  |some e=>rw[aq] at this;injection this with this;exact .inr ⟨d,e,rfl,rfl,this⟩
theorem tu.l7 {L:List aH} {l:List bJ} (h:tu L l) {x:List UInt8} {k:Nat} (bW:dK L x k): ∀f,k≤f→lS l f x=k:=by
 induction bW with
 | @gone nm aC=>
  intro f _
  cases f with
  |zero=>rfl
  |succ f=>
   rcases h.get nm with⟨_,e⟩ |⟨d,e,ai,_⟩
   ·have:g6 l nm=none:=by unfold g6;rw[e]
    rw[lS,this]
   ·rw[aC] at ai;cases ai
 | @base nm d aC ag=>
  intro f _
  cases f with
  |zero=>rfl
  |succ f=>
   rcases h.get nm with⟨ai,_⟩ |⟨d2,e,ai,aq,bk⟩
   ·rw[aC] at ai;cases ai
   ·rw[aC] at ai
    injection ai with ai
    subst ai
    have:g6 l nm=none:=by unfold g6;rw[aq];exact if_pos (bk.trans ag)
    rw[lS,this]
 | @step nm d k aC ag bW aY=>
  intro f hf
  cases f with
  |zero=>omega
  |succ f=>
   rcases h.get nm with⟨ai,_⟩ |⟨d2,e,ai,aq,bk⟩
   ·rw[aC] at ai;cases ai
   ·rw[aC] at ai
    injection ai with ai
    subst ai
    have:g6 l nm=some d.back:=by
     unfold g6;rw[aq];simp only
     rw[if_neg (fun q=>ag (bk.symm.trans q)),bk]
    rw[lS,this]
    simp only
    rw[aY f (by omega)]
theorem tu.vX {L:List aH} {l:List bJ} (h:tu L l) (bf: ∀d,d∈L→d.nm≠[]) {x:List UInt8} {k:Nat} (bW:dK L x k): ∀f,k+1≤f→kP l f x:=by
 induction bW with
 | @gone nm aC=>
  intro f hf
  rcases h.get nm with⟨_,e⟩ |⟨d,e,ai,_⟩
  ·cases f with
   |zero=>exact e
   |succ f=>unfold kP;rw[e];trivial
  ·rw[aC] at ai;cases ai
 | @base nm d aC ag=>
  intro f hf
  cases f with
  |zero=>omega
  |succ f=>
   rcases h.get nm with⟨ai,_⟩ |⟨d2,e,ai,aq,bk⟩
   ·rw[aC] at ai;cases ai
   ·rw[aC] at ai
    injection ai with ai
    subst ai
    unfold kP
    rw[aq]
    simp only
    rw[bk,ag]
    have bt:cI l []=none:=by
     rcases h.get [] with⟨_,e⟩ |⟨d3,e,ai,_⟩
     ·exact e
     ·obtain⟨g1,g2⟩:=cT ai
      exact absurd g2 (bf _ g1)
    cases f with
    |zero=>exact bt
    |succ f=>unfold kP;rw[bt];trivial
 | @step nm d k aC ag bW aY=>
  intro f hf
  cases f with
  |zero=>omega
  |succ f=>
   rcases h.get nm with⟨ai,_⟩ |⟨d2,e,ai,aq,bk⟩
   ·rw[aC] at ai;cases ai
   ·rw[aC] at ai
    injection ai with ai
    subst ai
    unfold kP
    rw[aq]
    simp only
    rw[bk]
    exact aY f (by omega)
structure cV (n bits room:Nat) (L:List aH) (l:List bJ):Prop where
 gj:n=2 ^bits
 nm:l.map (fun e=>b7 e)=ic L
 tv:tu L l
 mO: ∀x d e,dk L x=some d→cI l x=some e→dZ n d.im (bB e)
section
variable {n bits room:Nat} {L:List aH} {l:List bJ} {s:bz} {m:c6}
theorem cV.get (h:cV n bits room L l) {x:List UInt8} {d:aH} (hd:dk L x=some d): ∃e,cI l x=some e∧er e=d.back∧dZ n d.im (bB e):=by
 rcases h.tv.get x with⟨ai,_⟩ |⟨d2,e,ai,aq,bk⟩
 ·rw[hd] at ai;cases ai
 ·rw[hd] at ai
  injection ai with ai
  subst ai
  exact⟨e,aq,bk,h.mO x d e hd aq⟩
theorem cV.no (h:cV n bits room L l) {x:List UInt8} (hd:dk L x=none):cI l x=none:=by
 rcases h.tv.get x with⟨_,e⟩ |⟨d2,e,ai,_⟩
 ·exact e
 ·rw[hd] at ai;cases ai
theorem cV.len (h:cV n bits room L l):l.length=L.length:=by
 have:=congrArg List.length h.nm
 rw[List.length_map,D5] at this
 exact this
theorem cV.mem (h:cV n bits room L l) (bG:bV bits room L) {e:bJ} (he:e∈l): ∃d,dk L (b7 e)=some d∧cI l (b7 e)=some e:=by
 have aa:b7 e∈ic L:=by rw[←h.nm];exact List.mem_map.2 ⟨e,he,rfl⟩
 obtain⟨d,hd⟩:=Ih aa
 refine⟨d,hd,?_⟩
 have dD:(l.map (fun e=>b7 e)).Nodup:=by
  rw[h.nm]
  exact(Jo bG.kg).imp fun bH e=>by subst e;exact List.lt_irrefl _ bH
 obtain⟨aq,g1,_⟩:=h.get hd
 obtain⟨i,ay,_,i2,i3⟩:=qh g1
 obtain⟨j,ak,rfl⟩:=List.getElem_of_mem he
 have fD:i=j:=by
  have ai:(l.map (fun e=>b7 e))[i]'(by rw[List.length_map];exact ay)=(l.map (fun e=>b7 e))[j]'(by rw[List.length_map];exact ak):=by
   rw[List.getElem_map,List.getElem_map,i2]
   exact i3
  exact(List.getElem_inj dD).1 ai
 subst fD
 rw[g1,←i2]
theorem cV.zX (h:cV n bits room L l) (bG:bV bits room L):uE n l where
 len:=by rw[h.len];exact bG.len
 ok:=fun e he=>by
  obtain⟨d,hd,bl⟩:=h.mem bG he
  exact(h.mO _ d e hd bl).ok
 vX:=fun x=>by
  obtain⟨aa,af⟩:=bG.dep x
  exact h.tv.vX bG.ne aa 19 (by omega)
theorem cV.l7 (h:cV n bits room L l) (bG:bV bits room L) (x:List UInt8):jL l x=cm L x:=by
 obtain⟨aa,af⟩:=bG.dep x
 exact h.tv.l7 aa 99 (by omega)
theorem x5 {l:List bJ} {x:List UInt8} {e:bJ} (h:cI l x=some e):b7 e=x:=by
 obtain⟨_,_,_,_,g⟩:=qh h
 exact g
theorem O3 {f:List UInt8→Bool} {g:bJ→Bool}: ∀{l:List bJ},(∀e,e∈l→g e=f (b7 e))→(l.filter g).map (fun e=>b7 e)=(l.map (fun e=>b7 e)).filter f
 | [],_=>rfl
 |e::l,h=>by
  have aY:=O3 (f:=f) (g:=g) (l:=l) fun e he=>h e (List.mem_cons_of_mem _ he)
  have aC:=h e (List.mem_cons_self ..)
  rw[List.map_cons,List.filter_cons,List.filter_cons,←aC]
  cases g e with
  |true=>simp only[if_true];rw[List.map_cons,aY]
  |false=>exact aY
theorem cV.us (h:cV n bits room L l) (bG:bV bits room L) (x:List UInt8):ng l x=o8 L x:=by
 unfold ng o8
 rw[←h.nm]
 refine O3 (l:=l) fun e he=>?_
 obtain⟨d,hd,bl⟩:=h.mem bG he
 obtain⟨aq,g1,g2,_⟩:=h.get hd
 rw[bl] at g1
 injection g1 with g1
 subst g1
 unfold kL
 rw[hd,g2]
 rfl
theorem cV.see (h:cV n bits room L l) (bG:bV bits room L) (c:Nat) {x:List UInt8} {k:Nat} (bW:dK L x k) (hx: ∃d,dk L x=some d): ∀f,k < f→ ∀i,
  eZ bits L c (x::cH L k x) i=match ij l c f x with
   |some (j,y)=>(((dk L y).map fun d=>dR d.im c none).getD [],i+j)
   |none=>(List.replicate (16*2 ^bits) 0,0):=by
 have one: ∀{nm:List UInt8} {d:aH} {e:bJ},dk L nm=some d→dZ n d.im (bB e)→((c < d.im.t.length∧(d.im.t.getD c s0).1≠0)↔(c < (aL (bB e)).length∧eV (bB e) c≠0)):=fun {nm d e} hd hr=>by
  rw[hr.len]
  constructor
  ·rintro⟨g1,g2⟩;exact⟨g1,by rw[hr.eu c g1];exact g2⟩
  ·rintro⟨g1,g2⟩;exact⟨g1,by rw[←hr.eu c g1];exact g2⟩
 induction bW with
 | @gone nm aC=>obtain⟨d,hd⟩:=hx;rw[aC] at hd;cases hd
 | @base nm d aC ag=>
  intro f hf i
  obtain⟨e,g1,g2,bL⟩:=h.get aC
  cases f with
  |zero=>omega
  |succ f=>
   show eZ bits L c [nm] i=_
   rw[ij,g1]
   simp only
   by_cases q:c < d.im.t.length∧(d.im.t.getD c s0).1≠0
   ·rw[if_pos ((one aC bL).1 q),OR aC q]
    simp only
    rw[aC]
    rfl
   ·rw[if_neg (fun w=>q ((one aC bL).2 w)),Jj aC q]
    have bt:cI l (er e)=none:=by
     rw[g2,ag]
     refine h.no ?_
     cases eR:dk L [] with
     |none=>rfl
     |some d3=>obtain⟨cx,cM⟩:=cT eR;exact absurd cM (bG.ne _ cx)
    have gW:ij l c f (er e)=none:=by
     cases f with
     |zero=>rfl
     |succ f=>rw[ij,bt]
    rw[gW]
    rfl
 | @step nm d k aC ag bW aY=>
  intro f hf i
  obtain⟨e,g1,g2,bL⟩:=h.get aC
  cases f with
  |zero=>omega
  |succ f=>
   have rV:cH L (k+1) nm=d.back::cH L k d.back:=by rw[cH,aC]
   rw[rV,ij,g1]
   simp only
   by_cases q:c < d.im.t.length∧(d.im.t.getD c s0).1≠0
   ·rw[if_pos ((one aC bL).1 q),OR aC q]
    simp only
    rw[aC]
    rfl
   ·rw[if_neg (fun w=>q ((one aC bL).2 w)),Jj aC q,aY (bG.qT d (cT aC).1 ag) f (by omega) (i+1),g2]
    cases ij l c f d.back with
    |none=>rfl
    |some p=>
     show(_,i+1+p.1)=(_,i+(p.1+1))
     rw[show i+1+p.1=i+(p.1+1) by omega]
theorem dZ.rd (h:dZ n s m) {c:Nat} (hc:c < s.t.length) (au:eV m c≠0):qg n m (c*n) n=dR s c none:=by
 have dz:c < (aL m).length:=by rw[h.len];exact hc
 have eM:=h.ok.eM
 have bt:dR s c none=k7 n m c []:=by
  have aa:=h.BT c hc
  have gm:=h.eu c hc
  unfold k7
  rw[List.getElem?_eq_getElem dz]
  simp only
  rw[←th dz,←x4 dz,if_neg au]
  by_cases e:eV m c=1
  ·rw[if_pos e];exact aa e
  ·rw[if_neg e]
   unfold dR
   rw[List.getD_eq_getElem?_getD,List.getElem?_eq_getElem hc] at gm
   rw[List.getElem?_eq_getElem hc]
   simp only[Option.getD_some] at gm⊢
   rw[if_neg (fun q=>e (gm.trans q)),if_neg (fun q=>au (gm.trans q))]
   unfold jF
   rw[h.wd]
 have aB:=xW h.ok dz []
 rw[bt]
 have e:=EB (Z:=k7 n m c []) (f:=fun k=>vT n m (c*n+k)) (g:=fun k=>qg n m (c*n) k) rfl (fun _=>rfl) n (Nat.le_of_eq aB.symm) fun k au=>by
  show _=vT n m (c*n+k)
  unfold vT sec
  have d1:(c*n+k)/n=c:=by rw[Nat.mul_comm,Nat.mul_add_div eM,Nat.div_eq_of_lt au,Nat.add_zero]
  have d2:(c*n+k) % n=k:=by rw[Nat.mul_comm,Nat.mul_add_mod,Nat.mod_eq_of_lt au]
  rw[d1,d2,Nat.mul_comm 16 k]
 rw[←aB,List.take_length] at e
 exact e.symm
theorem cV.jr (h:cV n bits room L l) (bG:bV bits room L) {x:List UInt8} (hx: ∃d,dk L x=some d) (c:Nat):mL n l x c=m9 bits L x (cm L x) c:=by
 obtain⟨bW,j6⟩:=bG.dep x
 unfold m9 mL
 rw[h.see bG c bW hx 20 (by omega) 0]
 cases Bv:ij l c 20 x with
 |none=>simp only;rw[h.gj]
 |some p=>
  obtain⟨j,y⟩:=p
  obtain⟨_,e,g1,g2,bL⟩:=Ew l c 20 x j y Bv
  simp only
  rcases h.tv.get y with⟨_,aq⟩ |⟨d,aq,cx,cM,_⟩
  ·rw[g1] at aq;cases aq
  ·rw[g1] at cM
   injection cM with cM
   subst cM
   have hr:=h.mO y d e cx g1
   rw[g1,cx]
   simp only[Option.map_some,Option.getD_some]
   rw[(Ox hr.ok g2).2.1]
   exact hr.rd (by rw[←hr.len];exact g2) bL
theorem cV.O4 (h:cV n bits room L l) (bG:bV bits room L) {x:List UInt8} (hx: ∃d,dk L x=some d) (c:Nat):ni l c x=(vW bits L x c:Nat):=by
 obtain⟨bW,j6⟩:=bG.dep x
 unfold vW ni
 rw[h.see bG c bW hx 20 (by omega) 0]
 cases ij l c 20 x with
 |none=>rfl
 |some p=>show((p.1:Nat):Int)=((0+p.1:Nat):Int);rw[Nat.zero_add]
theorem cV.eu (h:cV n bits room L l) (bG:bV bits room L) {x:List UInt8} (hx: ∃d,dk L x=some d) (k:Nat):pG l x k=mK bits L x k:=by
 unfold pG mK
 exact List.map_congr_left fun c _=>h.O4 bG hx c
theorem cV.al (h:cV n bits room L l) (bG:bV bits room L) {x:List UInt8} (hx: ∃d,dk L x=some d): ∀k,fK bits L x (cm L x) 0 (n*k)=qU n l x k
 |0=>rfl
 |k+1=>by
  have eM:1≤n:=by rw[h.gj];exact Nat.one_le_two_pow
  have aB:=Ex (h.zX bG) x k
  have e:=EB (Z:=mL n l x k) (f:=fun j=>s5 bits L x (cm L x) (0+(n*k+j))) (g:=fun j=>(fK bits L x (cm L x) 0 (n*k+j)).drop (fK bits L x (cm L x) 0 (n*k)).length) (by simp) (fun j=>by
   show(fK bits L x (cm L x) 0 (n*k+(j+1))).drop _=_
   rw[show n*k+(j+1)=(n*k+j)+1 by omega,fK,List.drop_append_of_le_length]
   induction j with
   |zero=>exact Nat.le_refl _
   |succ j aY=>rw[show n*k+(j+1)=(n*k+j)+1 by omega,fK,List.length_append];omega) n (Nat.le_of_eq aB.symm) fun j ak=>by
   show _=s5 bits L x (cm L x) (0+(n*k+j))
   rw[Y7,Nat.zero_add,←h.gj,Nat.mul_add_div eM,Nat.div_eq_of_lt ak,Nat.add_zero,Nat.mul_add_mod,Nat.mod_eq_of_lt ak,h.jr bG hx k]
  rw[←aB,List.take_length] at e
  have aq:fK bits L x (cm L x) 0 (n*(k+1))=fK bits L x (cm L x) 0 (n*k)++mL n l x k:=by
   rw[e,Nat.mul_succ]
   have key: ∀j,(fK bits L x (cm L x) 0 (n*k+j)).take (fK bits L x (cm L x) 0 (n*k)).length=fK bits L x (cm L x) 0 (n*k):=fun j=>by
    induction j with
    |zero=>exact List.take_length
    |succ j aY=>
     have hle:(fK bits L x (cm L x) 0 (n*k)).length≤(fK bits L x (cm L x) 0 (n*k+j)).length:=by
      have:=congrArg List.length aY
      rw[List.length_take] at this
      omega
     rw[show n*k+(j+1)=(n*k+j)+1 by omega,fK,List.take_append_of_le_length hle,aY]
   have:=List.take_append_drop (fK bits L x (cm L x) 0 (n*k)).length (fK bits L x (cm L x) 0 (n*k+n))
   rw[key n] at this
   exact this.symm
  rw[aq,h.al bG hx k,qU]
end
end Go.Proofs.YteoamepgonpdlaaGreat
namespace Go.Proofs.YteoamepgonpdlaaGreat
set_option linter.unusedVariables false
set_option linter.unusedSimpArgs false
set_option maxRecDepth 10000
open Go.RowKit Go.Proofs
theorem ED {l:List bJ} {y:List UInt8}:y∈l.map (fun e=>b7 e)↔ ∃e,cI l y=some e:=by
 induction l with
 |nil=>
      constructor
      ·intro h;cases h
      ·rintro⟨e,h⟩;cases h
 |cons p l aY=>
  rw[List.map_cons,List.mem_cons,cI]
  by_cases e:b7 p=y
  ·rw[if_pos e]
   exact⟨fun _=>⟨p,rfl⟩,fun _=>.inl e.symm⟩
  ·rw[if_neg e,←aY]
   constructor
   ·rintro(h |h)
    ·exact absurd h.symm e
    ·exact h
   ·exact .inr
theorem B0 (a b:List bJ) (y:List UInt8):cI (a++b) y=(cI a y).or (cI b y):=by
 induction a with
 |nil=>rfl
 |cons p a aY=>
  rw[List.cons_append,cI,cI,aY]
  by_cases e:b7 p=y
  ·rw[if_pos e,if_pos e];rfl
  ·rw[if_neg e,if_neg e]
section
variable {n bits room:Nat} {L gl:List aH} {l l':List bJ}
theorem cV.of (af:n=2 ^bits) (bG:bV bits room gl) (hr:(l'.map (fun e=>b7 e)).Pairwise (· < ·))
  (aF: ∀y,(dk gl y=none∧cI l' y=none)∨ ∃d e,dk gl y=some d∧cI l' y=some e∧er e=d.back∧dZ n d.im (bB e)):cV n bits room gl l' where
 gj:=af
 nm:=O2 hr (Jo bG.kg) fun y=>by
  rw[ED,Zq]
  rcases aF y with⟨ai,aq⟩ |⟨d,e,ai,aq,_⟩
  ·rw[ai,aq]
   exact⟨fun⟨_,h⟩=>(by cases h),fun⟨_,h⟩=>(by cases h)⟩
  ·rw[ai,aq]
   exact⟨fun _=>⟨d,rfl⟩,fun _=>⟨e,rfl⟩⟩
 tv:=fun y=>by
  rcases aF y with⟨ai,aq⟩ |⟨d,e,ai,aq,bk,_⟩
  ·rw[ai,aq];rfl
  ·rw[ai,aq];exact congrArg some bk
 mO:=fun y d e hd he=>by
  rcases aF y with⟨ai,aq⟩ |⟨d2,aq,bk,cX,_,eR⟩
  ·rw[hd] at ai;cases ai
  ·rw[hd] at bk
   rw[he] at cX
   injection bk with bk
   injection cX with cX
   subst bk cX
   exact eR
theorem cV.EE (h:cV n bits room L l) (bG:bV bits room L):(l.map (fun e=>b7 e)).Pairwise (· < ·):=by
 rw[h.nm];exact Jo bG.kg
theorem cV.both (h:cV n bits room L l) (y:List UInt8):(dk L y=none∧cI l y=none)∨ ∃d e,dk L y=some d∧cI l y=some e∧er e=d.back∧dZ n d.im (bB e):=by
 rcases h.tv.get y with e |⟨d,e,ai,aq,bk⟩
 ·exact .inl e
 ·exact .inr ⟨d,e,ai,aq,bk,h.mO y d e ai aq⟩
theorem cV.oE (h:cV n bits room L l) {x:List UInt8}:(0≤cc l x↔(dk L x).isSome=true)∧(cc l x < 0↔dk L x=none):=by
 rcases h.both x with⟨ai,aq⟩ |⟨d,e,ai,aq,_⟩
 ·rw[XV aq,ai]
  exact⟨⟨fun h=>absurd h (by decide),fun h=>by cases h⟩,fun _=>rfl,fun _=>by decide⟩
 ·obtain⟨i,_,bk,_⟩:=qh aq
  rw[bk,ai]
  exact⟨⟨fun _=>rfl,fun _=>by omega⟩,fun h=>by omega,fun h=>by cases h⟩
theorem Jp {x:List UInt8} {e e':bJ} (he:cI l x=some e) (hn:b7 e'=x):(jv l x e').map (fun e=>b7 e)=l.map (fun e=>b7 e):=by
 obtain⟨i,ay,ai,aq,bk⟩:=qh he
 unfold jv
 rw[ai,Int.toNat_natCast,List.map_set]
 apply List.ext_getElem?
 intro j
 by_cases q:i=j
 ·subst q
  rw[List.getElem?_set_self (by rw[List.length_map];exact ay),List.getElem?_map,List.getElem?_eq_getElem ay,Option.map_some,aq,hn,bk]
 ·rw[List.getElem?_set_ne q]
theorem O5: ∀{l:List bJ} {i:Nat} (ay:i < l.length) {e':bJ} (y:List UInt8),b7 e'=b7 l[i]→(l.map (fun e=>b7 e)).Nodup→cI (l.set i e') y=if y=b7 l[i] then some e' else cI l y
 | [],i,ay,_,_,_,_=>absurd ay (Nat.not_lt_zero _)
 |p::l,0,_,e',y,hn,_=>by
  show cI (e'::l) y=if y=b7 p then some e' else cI (p::l) y
  have hn:b7 e'=b7 p:=hn
  rw[cI,cI,hn]
  by_cases q:b7 p=y
  ·rw[if_pos q,if_pos q.symm]
  ·rw[if_neg q,if_neg (Ne.symm q),if_neg q]
 |p::l,i+1,ay,e',y,hn,hd=>by
  have ay:i < l.length:=Nat.lt_of_succ_lt_succ ay
  obtain⟨d1,d2⟩:=List.nodup_cons.1 hd
  have aY:=O5 ay (e':=e') y hn d2
  show cI (p::l.set i e') y=if y=b7 l[i] then some e' else cI (p::l) y
  rw[cI,cI,aY]
  by_cases q:b7 p=y
  ·rw[if_pos q,if_pos q]
   by_cases c5:y=b7 l[i]
   ·exfalso
    exact d1 (List.mem_map.2 ⟨l[i],List.getElem_mem ay,(q.trans c5).symm⟩)
   ·rw[if_neg c5]
  ·rw[if_neg q,if_neg q]
theorem cV.nodup (h:cV n bits room L l) (bG:bV bits room L):(l.map (fun e=>b7 e)).Nodup:=(h.EE bG).imp fun bH e=>by subst e;exact List.lt_irrefl _ bH
theorem cV.Jq (h:cV n bits room L l) (bG:bV bits room L) {x:List UInt8} {e e':bJ} (he:cI l x=some e) (hn:b7 e'=x) (y:List UInt8):cI (jv l x e') y=if y=x then some e' else cI l y:=by
 obtain⟨i,ay,ai,aq,bk⟩:=qh he
 unfold jv
 rw[ai,Int.toNat_natCast,O5 ay y (by rw[aq,bk,hn]) (h.nodup bG),aq,bk]
theorem cV.st (h:cV n bits room L l) (bG:bV bits room L) (dr:bV bits room gl) {x:List UInt8} {d d':aH} {e e':bJ} (hd:dk L x=some d) (he:cI l x=some e) (hn:b7 e'=x) (au: ∀y,dk gl y=if y=x then some d' else dk L y) (ag:er e'=d'.back) (ay:dZ n d'.im (bB e')):cV n bits room gl (jv l x e'):=by
 refine cV.of h.gj dr (by rw[Jp he hn];exact h.EE bG) fun y=>?_
 rw[h.Jq bG he hn,au]
 by_cases q:y=x
 ·rw[if_pos q,if_pos q]
  exact .inr ⟨d',e',rfl,rfl,ag,ay⟩
 ·rw[if_neg q,if_neg q]
  exact h.both y
theorem O6 {x:List UInt8} {e' aq:bJ} (h:aq∈jv l x e'):aq∈l∨aq=e':=List.mem_or_eq_of_mem_set h
theorem Jr (l:List bJ) (d:bJ): ∃j,j≤l.length∧vV l d=l.take j++[d]++l.drop j∧(∀(i:Nat) (ay:i < l.length),i < j→ ¬b7 d < b7 l[i])∧(∀(ak:j < l.length),b7 d < b7 l[j]):=by
 have key: ∀k,k≤l.length→((eE l d k).2=false∧(eE l d k).1=l.take k∧ ∀(i:Nat) (ay:i < l.length),i < k→ ¬b7 d < b7 l[i])∨
   ((eE l d k).2=true∧ ∃(j:Nat) (ak:j < l.length),j < k∧(eE l d k).1=l.take j++[d]++(l.take k).drop j∧(∀(i:Nat) (ay:i < l.length),i < j→ ¬b7 d < b7 l[i])∧b7 d < b7 l[j]):=fun k=>by
  induction k with
  |zero=>intro _;exact .inl ⟨rfl,rfl,fun i _ h=>absurd h (Nat.not_lt_zero _)⟩
  |succ k aY=>
   intro au
   have bU:k < l.length:=au
   have e:eE l d (k+1)=if(eE l d k).2=false∧b7 d < b7 l[k] then((eE l d k).1++[d]++[l[k]],true) else((eE l d k).1++[l[k]],(eE l d k).2):=by
    rw[eE,List.getElem?_eq_getElem bU]
   rcases aY (by omega) with⟨i1,i2,i3⟩ |⟨i1,j,ak,i2,i3,i4,i5⟩
   ·by_cases q:b7 d < b7 l[k]
    ·rw[if_pos ⟨i1,q⟩] at e
     right
     rw[e]
     refine⟨rfl,k,bU,Nat.lt_succ_self _,?_,i3,q⟩
     show(eE l d k).1++[d]++[l[k]]=_
     rw[i2,List.take_succ_eq_append_getElem bU,List.drop_append_of_le_length (by rw[List.length_take];omega),List.drop_of_length_le (by rw[List.length_take];omega)]
     rfl
    ·rw[if_neg (fun w=>q w.2)] at e
     left
     rw[e]
     refine⟨i1,?_,fun i ay abx=>?_⟩
     ·show(eE l d k).1++[l[k]]=_
      rw[i2,List.take_succ_eq_append_getElem bU]
     ·rcases Nat.lt_or_ge i k with h |h
      ·exact i3 i ay h
      ·have:i=k:=by omega
       subst this
       exact q
   ·rw[if_neg (fun w=>absurd (i1.symm.trans w.1) (by decide))] at e
    right
    rw[e]
    refine⟨i1,j,ak,by omega,?_,i4,i5⟩
    show(eE l d k).1++[l[k]]=_
    rw[i3,List.take_succ_eq_append_getElem bU,List.drop_append_of_le_length (by rw[List.length_take];omega),List.append_assoc]
 unfold vV
 rcases key _ (Nat.le_refl _) with⟨i1,i2,i3⟩ |⟨i1,j,ak,_,i3,i4,i5⟩
 ·rw[if_neg (by rw[i1];decide),i2]
  exact⟨l.length,Nat.le_refl _,by rw[List.drop_length,List.append_nil],i3,fun h=>absurd h (Nat.lt_irrefl _)⟩
 ·rw[if_pos i1,i3]
  refine⟨j,Nat.le_of_lt ak,by rw[List.take_length],i4,fun _=>i5⟩
theorem Zr {a b:List UInt8} (h: ¬a < b) (bf:b≠a):b < a:=by
 rcases List.le_iff_lt_or_eq.1 (List.not_lt.1 h) with h |h
 ·exact h
 ·exact absurd h bf
theorem Zs {l:List bJ} {d:bJ} (hr:(l.map (fun e=>b7 e)).Pairwise (· < ·)) (hn:cI l (b7 d)=none):((vV l d).map (fun e=>b7 e)).Pairwise (· < ·):=by
 obtain⟨j,ak,e,aa,af⟩:=Jr l d
 have bf: ∀e,e∈l→b7 e≠b7 d:=fun e he q=>by
  obtain⟨w,hw⟩:=ED.1 (List.mem_map.2 ⟨e,he,q⟩)
  rw[hn] at hw
  cases hw
 rw[e,List.map_append,List.map_append]
 have hs:l.take j++l.drop j=l:=List.take_append_drop ..
 have tR:=hr
 rw[←hs,List.map_append,List.pairwise_append] at tR
 obtain⟨r1,r2,gv⟩:=tR
 have before: ∀a,a∈(l.take j).map (fun e=>b7 e)→a < b7 d:=fun a ha=>by
  obtain⟨w,hw,rfl⟩:=List.mem_map.1 ha
  obtain⟨i,ay,rfl⟩:=List.getElem_of_mem hw
  rw[List.length_take] at ay
  have nc:i < l.length:=by omega
  have vD:(l.take j)[i]'(by rw[List.length_take];omega)=l[i]:=List.getElem_take
  rw[vD]
  exact Zr (aa i nc (by omega)) (bf _ (List.getElem_mem nc))
 have after: ∀b,b∈(l.drop j).map (fun e=>b7 e)→b7 d < b:=fun b ag=>by
  obtain⟨w,hw,rfl⟩:=List.mem_map.1 ag
  have oc:j < l.length:=by
   rcases Nat.lt_or_ge j l.length with h |h
   ·exact h
   ·rw[List.drop_of_length_le h] at hw;cases hw
  rw[List.drop_eq_getElem_cons oc] at hw r2
  rcases List.mem_cons.1 hw with q |q
  ·rw[q];exact af oc
  ·rw[List.map_cons] at r2
   exact List.lt_trans (af oc) ((List.pairwise_cons.1 r2).1 _ (List.mem_map.2 ⟨w,q,rfl⟩))
 rw[List.pairwise_append,List.pairwise_append]
 refine⟨⟨r1,List.pairwise_singleton _ _,fun a ha b ag=>?_⟩,r2,fun a ha b ag=>?_⟩
 ·rw[List.map_cons,List.map_nil,List.mem_singleton] at ag
  rw[ag];exact before a ha
 ·rcases List.mem_append.1 ha with ha |ha
  ·exact gv a ha b ag
  ·rw[List.map_cons,List.map_nil,List.mem_singleton] at ha
   rw[ha];exact after b ag
theorem Zt {l:List bJ} {d:bJ} (hn:cI l (b7 d)=none) (y:List UInt8):cI (vV l d) y=if y=b7 d then some d else cI l y:=by
 obtain⟨j,_,e,_,_⟩:=Jr l d
 have hs:l.take j++l.drop j=l:=List.take_append_drop ..
 have aB: ∀z,cI l z=(cI (l.take j) z).or (cI (l.drop j) z):=fun z=>by rw[←B0,hs]
 rw[e,B0,B0,aB y]
 show((cI (l.take j) y).or (if b7 d=y then some d else none)).or (cI (l.drop j) y)=_
 by_cases q:y=b7 d
 ·subst q
  rw[aB] at hn
  rw[if_pos rfl,if_pos rfl]
  cases ai:cI (l.take j) (b7 d) with
  |none=>rfl
  |some w=>rw[ai] at hn;cases hn
 ·rw[if_neg q,if_neg (Ne.symm q)]
  cases cI (l.take j) y <;>rfl
theorem dZ.new {bits size room:Int} (h:iR bits size room=true):dZ (2 ^bits.toNat) (ia bits.toNat size.toNat room.toNat) (nY bits size room):=by
 obtain⟨⟨ct,cB⟩,⟨a3,a4⟩,a5,gT⟩:=Ei h
 have az:=XM h
 have e:nY bits size room=nW ((2 ^bits.toNat:Nat):Int) room (List.replicate size.toNat (hO 0 0)) [] []:=by unfold nY;rw[h]
 rw[e] at az⊢
 have Bj: ∀c,eV (nW ((2 ^bits.toNat:Nat):Int) room (List.replicate size.toNat (hO 0 0)) [] []) c=0:=fun c=>by
  unfold eV
  show gq ((List.replicate size.toNat (hO 0 0)).getD c (hO 0 0))=0
  rw[List.getD_eq_getElem?_getD,List.getElem?_replicate]
  split <;>rfl
 refine⟨MZ (by omega) (by omega) (by omega),az,rfl,?_,?_,fun c hc=>?_,fun c hc au=>?_,fun c d hc hd au _ _=>?_⟩
 ·show(List.replicate _ _).length=(List.replicate _ _).length
  rw[List.length_replicate,List.length_replicate]
 ·show room=((List.replicate room.toNat (0:Int)).length:Nat)
  rw[List.length_replicate]
  omega
 ·rw[Bj]
  show(0:Int)=((List.replicate size.toNat s0).getD c s0).1
  rw[List.getD_eq_getElem?_getD,List.getElem?_replicate]
  split <;>rfl
 ·rw[Bj] at au;exact absurd au (by decide)
 ·rw[Bj] at au;exact absurd au (by decide)
theorem Zu {d e:bJ} (h:e∈vV l d):e∈l∨e=d:=by
 obtain⟨j,_,q,_,_⟩:=Jr l d
 rw[q] at h
 rcases List.mem_append.1 h with h |h
 ·rcases List.mem_append.1 h with h |h
  ·exact .inl (List.mem_of_mem_take h)
  ·exact .inr (List.mem_singleton.1 h)
 ·exact .inl (List.mem_of_mem_drop h)
theorem cV.add (h:cV n bits room L l) (bG:bV bits room L) (nm:List UInt8) (size:Int) (cP:List UInt8) (p:Nat×Nat) (dr:bV bits room (mH bits room L nm size cP p).L):
  (uG bits room l nm size cP).2=(mH bits room L nm size cP p).e∧cV n bits room (mH bits room L nm size cP p).L (uG bits room l nm size cP).1∧ ∀e,e∈(uG bits room l nm size cP).1→e∈l∨cU (bB e)=[]:=by
 obtain⟨Zv,Zw⟩:=h.oE (x:=nm)
 obtain⟨w8,rE⟩:=h.oE (x:=cP)
 unfold mH at dr⊢
 unfold uG
 by_cases bp:iR bits size room=false
 ·rw[if_pos bp,if_pos (by rw[bp,Bool.and_false])]
  exact⟨rfl,h,fun e he=>.inl he⟩
 have Js:iR bits size room=true:=by simpa using bp
 rw[if_neg bp]
 by_cases bq:iB nm=false
 ·rw[if_pos bq,if_pos (by rw[bq,Bool.false_and])]
  exact⟨rfl,h,fun e he=>.inl he⟩
 have Zx:iB nm=true:=by simpa using bq
 rw[if_neg bq]
 have Zy: ¬(iB nm&&iR bits size room)=false:=by rw[Js,Zx];decide
 rw[if_neg Zy] at dr⊢
 by_cases b8:0≤cc l nm
 ·rw[if_pos b8,if_pos (.inl (Zv.1 b8))]
  exact⟨rfl,h,fun e he=>.inl he⟩
 rw[if_neg b8]
 have bL:dk L nm=none:=Zw.1 (by omega)
 by_cases fB:16≤l.length
 ·rw[if_pos fB,if_pos (.inr (by rw[←h.len];exact fB))]
  exact⟨rfl,h,fun e he=>.inl he⟩
 rw[if_neg fB]
 have Zz: ¬((dk L nm).isSome=true∨16≤L.length):=by
  rw[bL,←h.len]
  rintro(q |q)
  ·cases q
  ·exact fB q
 rw[if_neg Zz] at dr⊢
 by_cases gp:cP≠[]∧cc l cP < 0
 ·rw[if_pos gp,if_pos (by rw[decide_eq_false gp.1,rE.1 gp.2];rfl)]
  exact⟨rfl,h,fun e he=>.inl he⟩
 rw[if_neg gp]
 have xb: ¬(decide (cP=[])||(dk L cP).isSome)=false:=fun q=>by
  simp only[Bool.or_eq_false_iff,decide_eq_false_iff_not] at q
  refine gp ⟨q.1,rE.2 ?_⟩
  cases e:dk L cP with
  |none=>rfl
  |some d=>rw[e] at q;cases q.2
 rw[if_neg xb] at dr⊢
 rw[h.l7 bG cP]
 by_cases ld:cP≠[]∧8≤cm L cP
 ·rw[if_pos ld,if_pos ⟨ld.1,by omega⟩]
  exact⟨rfl,h,fun e he=>.inl he⟩
 rw[if_neg ld]
 have ZA: ¬(cP≠[]∧8 < cm L cP+1):=fun q=>ld ⟨q.1,by omega⟩
 rw[if_neg ZA] at dr⊢
 have gn:cI l (b7 (iX nm cP (nY bits size room)))=none:=h.no bL
 refine⟨rfl,cV.of h.gj dr (Zs (h.EE bG) gn) fun y=>?_,fun e he=>?_⟩
 ·rw[Zt gn,IG]
  show(_∧(if y=nm then _ else _)=none)∨_
  by_cases q:y=nm
  ·subst q
   right
   refine⟨_,_,by rw[bL,if_pos rfl];rfl,if_pos rfl,rfl,?_⟩
   have:=dZ.new Js
   rw[Int.toNat_natCast,Int.toNat_natCast,←h.gj] at this
   exact this
  ·rw[if_neg (Ne.symm q)]
   have bt:(dk L y).or none=dk L y:=by cases dk L y <;>rfl
   rw[bt]
   rcases h.both y with⟨ai,aq⟩ |⟨d,e,ai,aq,bk,cX⟩
   ·exact .inl ⟨ai,by rw[if_neg q];exact aq⟩
   ·exact .inr ⟨d,e,ai,by rw[if_neg q];exact aq,bk,cX⟩
 ·rcases Zu he with he |he
  ·exact .inl he
  ·right
   subst he
   show cU (nY bits size room)=[]
   unfold nY
   rw[Js]
theorem O7 {nm:List UInt8}: ∀{L:List aH},(L.map (·.nm)).Nodup→dk (jH L nm) nm=none
 | [],_=>rfl
 |d::L,h=>by
  obtain⟨aa,af⟩:=List.nodup_cons.1 h
  unfold jH
  by_cases e:d.nm=nm
  ·rw[if_pos e]
   cases w:dk L nm with
   |none=>rfl
   |some v=>
    exfalso
    obtain⟨g1,g2⟩:=cT w
    exact aa (List.mem_map.2 ⟨v,g1,g2.trans e.symm⟩)
  ·rw[if_neg e,nU,if_neg e]
   exact O7 af
theorem cV.BS (h:cV n bits room L l) (bG:bV bits room L) (nm:List UInt8):(xZ l nm).x=[]∧(xZ l nm).e=(r0 L nm).e∧cV n bits room (r0 L nm).L (xZ l nm).l∧ ∀e,e∈(xZ l nm).l→e∈l:=by
 have dr:=NX bG nm
 have FP:=h.us bG nm
 unfold r0 at dr⊢
 unfold xZ
 rcases h.both nm with⟨ai,aq⟩ |⟨d,e,ai,aq,bk,cX⟩
 ·rw[ai,aq]
  exact⟨rfl,rfl,h,fun e he=>he⟩
 rw[ai] at dr⊢
 rw[aq]
 simp only at dr⊢
 rw[FP]
 by_cases c:o8 L nm=[]
 ·rw[if_pos c] at dr⊢
  rw[if_neg (by rw[c];decide)]
  obtain⟨i,ay,i1,i2,i3⟩:=qh aq
  have ZB:(cc l nm).toNat=i:=by rw[i1];exact Int.toNat_natCast i
  refine⟨rfl,rfl,?_,fun w hw=>?_⟩
  ·show cV n bits room (jH L nm) (l.take (cc l nm).toNat++l.drop ((cc l nm).toNat+1))
   rw[ZB]
   have hr:=h.EE bG
   have hs:l.take i++(l[i]::l.drop (i+1))=l:=by rw[←List.drop_eq_getElem_cons ay];exact List.take_append_drop ..
   have aB: ∀z,cI l z=(cI (l.take i) z).or (if nm=z then some l[i] else cI (l.drop (i+1)) z):=fun z=>by
    have:cI l z=cI (l.take i++(l[i]::l.drop (i+1))) z:=by rw[hs]
    rw[this,B0,cI,i2,i3]
   have HN:((l.take i++l.drop (i+1)).map (fun e=>b7 e)).Pairwise (· < ·):=by
    have iN:(l.take i++l.drop (i+1)).Sublist (l.take i++(l[i]::l.drop (i+1))):=List.Sublist.append_left (List.sublist_cons_self ..) _
    rw[hs] at iN
    exact hr.sublist (iN.map _)
   refine cV.of h.gj dr HN fun y=>?_
   rw[B0]
   by_cases q:y=nm
   ·subst q
    left
    refine⟨O7 bG.kg,?_⟩
    have dD:=h.nodup bG
    rw[←hs,List.map_append,List.map_cons] at dD
    have uX:cI (l.take i) y=none:=by
     cases w:cI (l.take i) y with
     |none=>rfl
     |some v=>
      exfalso
      have hm:=ED.2 ⟨v,w⟩
      exact(List.nodup_append.1 dD).2.2 _ hm _ (by rw[i2,i3];exact List.mem_cons_self ..) rfl
    have jc:cI (l.drop (i+1)) y=none:=by
     cases w:cI (l.drop (i+1)) y with
     |none=>rfl
     |some v=>
      exfalso
      have hm:=ED.2 ⟨v,w⟩
      have:=(List.nodup_cons.1 (List.nodup_append.1 dD).2.1).1
      rw[i2,i3] at this
      exact this hm
    rw[uX,jc]
    rfl
   ·rw[BH q]
    have:=aB y
    rw[if_neg (Ne.symm q)] at this
    rw[←this]
    exact h.both y
  ·rcases List.mem_append.1 hw with hw |hw
   ·exact List.mem_of_mem_take hw
   ·exact List.mem_of_mem_drop hw
 ·rw[if_neg c] at dr⊢
  have:0 < (o8 L nm).length:=List.length_pos_iff.2 c
  rw[if_pos this]
  exact⟨rfl,rfl,h,fun e he=>he⟩
end
end Go.Proofs.YteoamepgonpdlaaGreat
namespace Go.Proofs.YteoamepgonpdlaaGreat
set_option linter.unusedVariables false
set_option linter.unusedSimpArgs false
set_option maxRecDepth 10000
open Go.RowKit Go.Proofs
section
variable {bits room:Nat} {L:List aH} {nm:List UInt8}
end
theorem B1 {L:List aH} {nm:List UInt8} {k:Nat} (h:dK L nm k) {i:Nat} (ay:i < k):(cH L k nm)[i]? =some (en L (i+1) nm):=by
 have aa:=D1 h i ay
 have af:=mD h
 rw[List.take_add_one] at aa
 have aA:=List.append_cancel_left aa
 rw[List.getElem?_eq_getElem (by omega)] at aA⊢
 injection aA with aA
 rw[aA]
theorem O8 {α:Type} (p:α→Bool): ∀(l:List α) (j:Nat),j≤l.length→(∀i x,i < j→l[i]? =some x→p x=true)→(j=l.length∨ ∃x,l[j]? =some x∧p x=false)→l.takeWhile p=l.take j
 | [],j,ak,_,_=>by
  have:j=0:=by simpa using ak
  subst this
  rfl
 |a::l,0,_,_,h=>by
  rcases h with h |⟨x,hx,hp⟩
  ·cases h
  ·injection hx with hx
   subst hx
   rw[List.takeWhile_cons,hp]
   rfl
 |a::l,j+1,ak,aa,af=>by
  have ha:=aa 0 a (Nat.succ_pos j) rfl
  rw[List.takeWhile_cons,ha]
  show a::l.takeWhile p=a::l.take j
  rw[O8 p l j (by simpa using ak) (fun i x ay hx=>aa (i+1) x (by omega) hx) (af.imp (fun e=>by simpa using e) id)]
def gy (L:List aH) (top base:List UInt8):List (List UInt8):=(cH L (cm L top) top).takeWhile fun n=> !decide (n=base)
def iZ (L:List aH) (top base:List UInt8):Bool:=(dk L top).isSome&&(decide (base=[])||decide (base∈cH L (cm L top) top))
def jN (L:List aH) (n:List UInt8) (k:Nat):Bool:=match dk L n with
 |none=>true
 |some d=>decide (d.im.t.length≤k)||decide ((d.im.t.getD k s0).1=0)
def pI (L:List aH) (top base:List UInt8) (k:Nat):Bool:=jN L top k&&(gy L top base).any fun n=> !jN L n k
def lp (L:List aH) (nm:List UInt8):Nat:=match dk L nm with
 |none=>0
 |some d=>d.im.t.length
def lW (L:List aH) (top base:List UInt8):Option Nat:=if iZ L top base=true then(List.range (lp L top)).find? (pI L top base) else none
structure ZC where
 done:Bool
 e:Int
 L:List aH
 over:Bool
def jO (bits:Nat) (L:List aH) (top base:List UInt8) (over:Bool):ZC:=if(over|| !(dk L top).isSome)=true then⟨false,160,L,over⟩ else match lW L top base with
 |some k=>⟨false,(iV bits L top ((k*2 ^bits:Nat):Int) (k9 bits L top (k:Int))).e,(iV bits L top ((k*2 ^bits:Nat):Int) (k9 bits L top (k:Int))).L,over⟩
 |none=>⟨decide ((gx L top base).e=0),(gx L top base).e,(gx L top base).L,decide ((gx L top base).e=0)⟩
def EF (bits:Nat) (L:List aH) (nm:List UInt8):List UInt8:=match dk L nm with
 |none=>[]
 |some d=>fK bits L nm (cm L nm) 0 (d.im.t.length*2 ^bits)
section
variable {bits room:Nat} {L:List aH} {nm:List UInt8}
theorem ZD (L:List aH) {t n:List UInt8} {d:aH} {im:bz} (hd:dk L t=some d) (hs:jg d.im im):lp (lim L t im none) n=lp L n∧(dk (lim L t im none) n).isSome=(dk L n).isSome:=by
 by_cases e:n=t
 ·subst e
  unfold lp
  rw[BB hd,hd]
  exact⟨hs.tl,rfl⟩
 ·unfold lp
  rw[Ix e]
  exact⟨rfl,rfl⟩
end
section
variable {bits room:Nat} {L:List aH} {top base:List UInt8}
theorem ZE (h:bV bits room L) {d:aH} (hd:dk L top=some d) (ay:iZ L top base=true):cH L (cm L top) top=gy L top base++(if base=[] then[] else base::cH L (cm L base) base)∧(base=[]∨ ∃e,dk L base=some e)∧cm L base+(gy L top base).length+(if base=[] then 0 else 1)=cm L top:=by
 have key: ∀(k:Nat) (nm:List UInt8),dK L nm k→(∃d,dk L nm=some d)→(base=[]∨base∈cH L k nm)→cH L k nm=(cH L k nm).takeWhile (fun n=> !decide (n=base))++(if base=[] then[] else base::cH L (cm L base) base)∧(base=[]∨ ∃e,dk L base=some e):=by
  intro k nm bW
  induction bW with
  |gone bl=>rintro⟨d,hd⟩;rw[bl] at hd;cases hd
  |base aa af=>
   rintro _ ag
   rcases ag with ag |ag
   ·rw[if_pos ag]
    exact⟨rfl,.inl ag⟩
   ·cases ag
  | @step nm d k aa af aA aY=>
   rintro _ ag
   have gP:=h.qT d (cT aa).1 af
   have eC:cH L (k+1) nm=d.back::cH L k d.back:=by
    conv=>lhs;unfold cH
    rw[aa]
   rw[eC] at ag⊢
   rw[List.takeWhile_cons]
   by_cases e:d.back=base
   ·rw[decide_eq_true e]
    have Jt: ¬base=[]:=by rw[←e];exact af
    rw[if_neg Jt]
    refine⟨?_,.inr (by rw[←e];exact gP)⟩
    show d.back::cH L k d.back=[]++_
    rw[List.nil_append,e]
    rw[e] at aA
    rw[BC aA (h.dep base).1]
   ·rw[decide_eq_false e]
    obtain⟨g1,g2⟩:=aY gP (ag.imp id fun x=>(List.mem_cons.1 x).resolve_left fun y=>e y.symm)
    refine⟨?_,g2⟩
    show d.back::cH L k d.back=d.back::_++_
    rw[List.cons_append,←g1]
 unfold iZ at ay
 rw[Bool.and_eq_true,Bool.or_eq_true] at ay
 obtain⟨g1,g2⟩:=key _ top (h.dep top).1 ⟨d,hd⟩ (ay.2.imp of_decide_eq_true of_decide_eq_true)
 refine⟨g1,g2,?_⟩
 have aB:=congrArg List.length g1
 rw[mD (h.dep top).1,List.length_append] at aB
 have aby:=mD (h.dep base).1
 unfold gy
 by_cases e:base=[]
 ·rw[if_pos e] at aB⊢
  have:cm L base=0:=by
   have hn:dk L base=none:=by
    cases x:dk L base with
    |none=>rfl
    |some y=>exact absurd e (zR h ⟨y,x⟩)
   exact zy (.gone hn) (by omega)
  rw[List.length_nil] at aB
  omega
 ·rw[if_neg e] at aB⊢
  rw[List.length_cons] at aB
  omega
theorem ZF (h:bV bits room L) {d:aH} (hd:dk L top=some d): ∀n,n∈gy L top base→n≠top∧ ∃e,dk L n=some e:=fun n hn=>by
 have hm:n∈cH L (cm L top) top:=(List.takeWhile_sublist _).mem hn
 refine⟨fun e=>?_,h.Jk ⟨d,hd⟩ n (List.mem_cons_of_mem _ hm)⟩
 rw[e] at hm
 exact NH (h.dep top).1 hm
end
end Go.Proofs.YteoamepgonpdlaaGreat
