/-
Part 10 of the proof that stands in YteoamepgonpdlaaGreatPbRow, with what it needs from the parts ahead; the parts of this text: Iw.
-/
import Derived.Test.YteoamepgonpdlaaGreatPb9
namespace Go.Proofs.YteoamepgonpdlaaGreat
set_option linter.unusedVariables false
set_option linter.unusedSimpArgs false
set_option maxRecDepth 10000
open Go.RowKit Go.Proofs
structure bz where
 bits:Nat
 t:List eD
 l:List Int
 f:kI
@[reducible] def UL (n:Int):List bx:=[.d (.int .i64 n),.ptr 1002 0,.ptr 1003 0,.mp 1004,.ee]
@[reducible] def dh (s:bz):aG:=[(1001,.cells (UL s.bits)),(1002,.obj (qK s.t)),(1003,.obj (qL s.l)),(1004,.obj (mz s.f))]
def iQ (s:bz):bK:=.ud 1001 (dh s)
theorem UM (t:List eD):Fn Tryz.prog 105 [aI 1001] [(1001,.obj (qK t))] [] (aD (t.length:Nat)) [(1001,.obj (qK t))]:=
 Fn.GH (sN:=fun es:{es//nQ t es}=>.ud 1001 (oz (t.length:Nat) es.1)) (by kernel_rfl) (fun _ _ _ _ ⟨es,h,bl⟩=>⟨⟨es,h⟩,bl⟩) fun es=>
  Fn.close [1002] (Ui _ es.1) (fun _ _ _ _ h=>h) (fun _ _ _ _ h=>⟨es.1,es.2,h⟩) rfl rfl
theorem Bi (t:List eD) (aB:t.length≤256) (c:Nat) (hc:c < t.length):Fn Tryz.prog 108 [aI 1001,aD (c:Int)] [(1001,.obj (qK t))] [] (.c (oX t[c])) [(1001,.obj (qK t))]:=
 Fn.GH (sN:=fun es:{es//nQ t es}=>.ud 1001 (oz (t.length:Nat) es.1)) (by kernel_rfl) (fun _ _ _ _ ⟨es,h,bl⟩=>⟨⟨es,h⟩,bl⟩) fun es=>
  Fn.close [1002] (Mr es.2 aB c hc) (fun _ _ _ _ h=>h) (fun _ _ _ _ h=>⟨es.1,es.2,h⟩) rfl rfl
theorem UN (t:List eD) (aB:t.length≤256) (c:Nat) (hc:c < t.length) (s:eD) (hs:sW s) (hr:qJ s=true):
  Fn Tryz.prog 145 [aI 1001,aD (c:Int),.c (oX s)] [(1001,.obj (qK t))] [] (.c8 [oX t[c],fO 0]) [(1001,.obj (qK (t.set c s)))]:=
 Fn.GH (sN:=fun es:{es//nQ t es}=>.ud 1001 (oz (t.length:Nat) es.1)) (by kernel_rfl) (fun _ _ _ _ ⟨es,h,bl⟩=>⟨⟨es,h⟩,bl⟩) fun es=>
  Fn.close [1002] (Uq es.2 aB c hc s hs hr) (fun _ _ _ _ h=>h) (fun _ _ _ _ h=>⟨_,es.2.set c s hs,by rw[List.length_set];exact h⟩) rfl rfl
theorem UO (l:List Int) (h:Nat) (n:Int) (hn:l[h]? =some n) (aa:1≤n) (af:n≤65535):Fn Tryz.prog 153 [aI 1001,aD (h:Int)] [(1001,.obj (qL l))] [] (.c8 [.one (.d (.int .i64 (n - 1))),fO 0]) [(1001,.obj (qL (l.set h (n - 1))))]:=
 Fn.close [1002] (Uw l h n hn aa af) (fun _ _ _ _ h=>h) (fun _ _ _ _ h=>h) rfl rfl
theorem UP (l:List Int) (aB:l.length≤1000000):Fn Tryz.prog 135 [aI 1001] [(1001,.obj (qL l))] [] (aD (zeros l:Nat)) [(1001,.obj (qL l))]:=
 Fn.close [1002] (Uz l aB) (fun _ _ _ _ h=>h) (fun _ _ _ _ h=>h) rfl rfl
theorem UQ (l:List Int) (aB:l.length≤1000000) (h:Nat) (bM:l[h]? =some 0) (hf: ∀j,j < h→l[j]? ≠some 0):Fn Tryz.prog 136 [aI 1001] [(1001,.obj (qL l))] [] (.c8 [.one (.d (.int .i64 (h:Int))),fO 0]) [(1001,.obj (qL (l.set h 1)))]:=
 Fn.close [1002] (UB l aB h bM hf) (fun _ _ _ _ h=>h) (fun _ _ _ _ h=>h) rfl rfl
def wid (s:bz):Nat:=16*2 ^s.bits
theorem mA {b:Nat} (h:b≤3):1≤2 ^b∧2 ^b≤8:=by
 match b,h with
 |0,_=>decide
 |1,_=>decide
 |2,_=>decide
 |3,_=>decide
theorem uq {s:bz} (h:s.bits≤3):16≤wid s∧wid s≤128:=by
 have:=mA h
 unfold wid
 omega
theorem p6 (s:bz) (ag:s.bits≤3):Fn Tryz.prog 126 [aI 1001] (dh s) [] (aD (wid s:Nat)) (dh s):=by
 have h:=mA ag
 have e:(16:Int)*((2 ^s.bits:Nat):Int)=((wid s:Nat):Int):=by unfold wid;omega
 refine Fn.of aj [] _ _ _ _ _ Tryz.func126 rfl rfl (by kernel_rfl) (by kernel_rfl) rfl (aK aj) rfl ?_
 have m:(0:Int)≤16∧(0:Int)≤(s.bits:Int)∧(s.bits:Int)≤64:=by omega
 have bX:(-9223372036854775808:Int)≤16*((2 ^s.bits:Nat):Int)∧(16:Int)*((2 ^s.bits:Nat):Int)≤9223372036854775807:=by omega
 refine⟨m,bX,?_⟩
 exact⟨_,_,_,ah.refl _ _,rfl,e,⟨rfl,rfl,rfl,rfl,trivial⟩,rfl⟩
theorem vv (s:bz):Fn Tryz.prog 64 [aI 1001] (dh s) [] (aD (s.t.length:Nat)) (dh s):=by
 refine Fn.of aj [] _ _ _ _ _ Tryz.func64 rfl rfl (by kernel_rfl) (by kernel_rfl) rfl (aK aj) rfl ?_
 refine⟨_,_,_,_,Fn.ren [(1001,1002)] (UM s.t),⟨rfl,trivial⟩,rfl,?_⟩
 exact⟨_,_,_,ah.refl _ _,rfl,rfl,⟨rfl,rfl,rfl,rfl,trivial⟩,rfl⟩
theorem UR (s:bz) (aB:s.t.length≤256) (c:Nat) (hc:c < s.t.length):Fn Tryz.prog 76 [aI 1001,aD (c:Int)] (dh s) [] (aD (s.t[c]).1) (dh s):=by
 refine Fn.of aj [] _ _ _ _ _ Tryz.func76 rfl rfl (by kernel_rfl) (by kernel_rfl) rfl (aK aj) rfl ?_
 refine⟨_,_,_,_,Fn.ren [(1001,1002)] (Bi s.t aB c hc),⟨rfl,trivial⟩,rfl,?_⟩
 refine⟨_,_,fun N=>G5 rfl Tryz.underlying188 rfl Tryz.underlying3 rfl rfl rfl N,rfl,?_⟩
 exact⟨_,_,_,ah.refl _ _,rfl,rfl,⟨rfl,rfl,rfl,rfl,trivial⟩,rfl⟩
theorem ME (s:bz) (aB:s.l.length≤1000000):Fn Tryz.prog 118 [aI 1001] (dh s) [] (aD (zeros s.l:Nat)) (dh s):=by
 refine Fn.of aj [] _ _ _ _ _ Tryz.func118 rfl rfl (by kernel_rfl) (by kernel_rfl) rfl (aK aj) rfl ?_
 refine⟨_,_,_,_,Fn.ren [(1001,1003),(1002,2003)] (UP s.l aB),⟨rfl,trivial⟩,rfl,?_⟩
 exact⟨_,_,_,ah.refl _ _,rfl,rfl,⟨rfl,rfl,rfl,rfl,trivial⟩,rfl⟩
theorem MF (x:List UInt8) (hx:x.length≤4294967296):Fn Tryz.prog 137 [iL 1001] [(1001,.row 5 .u8 x)] [1002] (iL 1002) [(1001,.row 5 .u8 x),(1002,.row 5 .u8 x)]:=by
 refine Fn.of aj [1] _ _ _ _ _ Tryz.func137 rfl rfl (by kernel_rfl) (by kernel_rfl) rfl (aK aj) rfl ?_
 show aE _ _ _ _ _ _ _
 refine aE.sJ aj (by kernel_rfl) ?_
 refine⟨_,TT (c:=1001) rfl rfl rfl Tryz.underlying34,fun v e h=>?_⟩
 obtain⟨b,ag,rfl,rfl⟩:=h
 cases b
 ·refine⟨rfl,?_⟩
  have bw:([]:List UInt8).length+x.length≤4294967296:=by simp;omega
  refine⟨bw,rfl,?_⟩
  exact⟨_,_,_,ah.ren 7 1002 rfl,rfl,rfl,⟨rfl,rfl,trivial⟩,rfl⟩
 ·have ag:=ag rfl
  subst ag
  exact⟨_,_,_,ah.nil 2 1002 5 .u8 rfl rfl,rfl,rfl,⟨rfl,rfl,trivial⟩,rfl⟩
theorem US (x:List UInt8) (hx:x.length≤4294967296):Fn Tryz.prog 137 [cJ .u8 x] [] [2001] (iL 2001) [(2001,.row 5 .u8 x)]:=by
 refine Fn.of aj [1] _ _ _ _ _ Tryz.func137 rfl rfl (by kernel_rfl) (by kernel_rfl) rfl (aK aj) rfl ?_
 show aE _ _ _ _ _ _ _
 refine aE.sJ aj (by kernel_rfl) ?_
 refine⟨_,TV rfl rfl Tryz.underlying34,fun v e h=>?_⟩
 obtain⟨b,ag,rfl,rfl⟩:=h
 cases b
 ·refine⟨rfl,?_⟩
  have aB:0+x.length≤4294967296:=by omega
  refine⟨aB,rfl,?_⟩
  exact⟨_,_,_,ah.ren 7 2001 rfl,rfl,rfl,⟨rfl,trivial⟩,rfl⟩
 ·have ag:=ag rfl
  subst ag
  exact⟨_,_,_,ah.nil 2 2001 5 .u8 rfl rfl,rfl,rfl,⟨rfl,trivial⟩,rfl⟩
theorem MG {f:kI} {k:Int} {xs:List UInt8} (h:f k=some xs):jf f k xs=f:=funext fun j=>by
 unfold jf
 split
 ·rename_i e;rw[e,h]
 ·rfl
theorem Hp:(Tryz.prog.info? 34).map (fun i=>(i.zero,i.size,i.bytes))=some (some (.slice none 0 0),1,24):=by kernel_rfl
def jF (s:bz):List UInt8:=List.replicate (wid s) 0
def dR (s:bz) (c:Nat) (y:Option (List UInt8)):List UInt8:=match s.t[c]? with
 |some q=>if q.1=1 then(s.f q.2.1).getD [] else if q.1=0 then(match y with
  |some y=>if y.length=wid s then y else jF s
  |none=>jF s) else jF s
 |none=>[]
theorem UT (s:bz) (ag:s.bits≤3) (aB:s.t.length≤256) (c:Nat) (hc:c < s.t.length) (hf:(s.t[c]).1=1→ ∃xs,s.f (s.t[c]).2.1=some xs∧xs.length≤128):
  Fn Tryz.prog 120 [aI 1001,aD (c:Int),.c (.one (.raw .nilFunc))] (dh s) [2001] (iL 2001) (dh s++[(2001,.row 5 .u8 (dR s c none))]):=by
 obtain⟨inf,i1,i2,i3,i4⟩:=info_parts Hp
 have hw:=uq ag
 have cQ:dR s c none=if(s.t[c]).1=1 then(s.f (s.t[c]).2.1).getD [] else jF s:=by
  unfold dR
  rw[List.getElem?_eq_getElem hc]
  simp
 refine Fn.of aj [] _ _ _ _ _ Tryz.func120 rfl rfl (by kernel_rfl) (by kernel_rfl) rfl (aK aj) rfl ?_
 refine⟨_,_,_,_,Fn.ren [(1001,1002)] (Bi s.t aB c hc),⟨rfl,trivial⟩,rfl,?_⟩
 refine⟨rfl,?_⟩
 refine⟨fun h=>?_,fun h=>?_⟩
 ·have h:=of_decide_eq_true h
  obtain⟨xs,hx,uY⟩:=hf h
  rw[if_pos h,hx] at cQ
  refine⟨_,_,fun N=>Dz (d:=5001) (k:=(s.t[c]).2.1) rfl Tryz.underlying162 Tryz.underlying3 rfl i1 i2 rfl rfl rfl hx N,rfl,?_⟩
  refine⟨_,_,_,_,Fn.ren [(1001,5001),(1002,2001)] (MF xs (by omega)),⟨rfl,trivial⟩,rfl,?_⟩
  refine⟨rfl,?_⟩
  exact⟨_,_,_,ah.DA 1004 5001 (MG hx) rfl rfl (by decide) (by rw[hx];rfl),rfl,rfl,⟨rfl,rfl,rfl,rfl,by rw[cQ];rfl,trivial⟩,rfl⟩
 ·have h:=of_decide_eq_false h
  rw[if_neg h] at cQ
  have m:(0:Int)≤(wid s:Nat)∧((wid s:Nat):Int)≤4294967296:=by omega
  refine⟨fun aC=>?_,fun aC=>?_⟩
  ·refine⟨_,_,fun N=>T' (.inr ⟨rfl,rfl⟩) rfl Tryz.underlying168 rfl N,rfl,?_⟩
   refine⟨_,_,_,_,p6 s ag,⟨rfl,rfl,rfl,rfl,trivial⟩,rfl,?_⟩
   refine⟨⟨rfl,m⟩,rfl,?_⟩
   exact⟨_,_,_,ah.ren 45 2001 rfl,rfl,rfl,⟨rfl,rfl,rfl,rfl,by rw[cQ];rfl,trivial⟩,rfl⟩
  ·refine⟨_,_,_,_,p6 s ag,⟨rfl,rfl,rfl,rfl,trivial⟩,rfl,?_⟩
   refine⟨⟨rfl,m⟩,rfl,?_⟩
   exact⟨_,_,_,ah.ren 45 2001 rfl,rfl,rfl,⟨rfl,rfl,rfl,rfl,by rw[cQ];rfl,trivial⟩,rfl⟩
@[reducible] def m4 (bQ cn:Nat):aN:=.c (.one (.d (.fn (114,[bQ,cn]))))
@[reducible] def fy (s:bz) (R:bn→bK):aG:=dh s++[(9000,.dep 1001 R)]
def DD (s:bz) (R:bn→bK) (bQ cn:Nat) (c:Nat) (y:List UInt8):Prop:=
 y.length≤1000000∧Fn Tryz.prog 114 [aD (c:Int),mY bQ,mY cn] (fy s R) [] (cJ .u8 y) (fy s R)
set_option maxHeartbeats 1000000 in
theorem UU (s:bz) (R:bn→bK) (bQ cn:Nat) (ag:s.bits≤3) (aB:s.t.length≤256) (c:Nat) (hc:c < s.t.length) (hf:(s.t[c]).1=1→ ∃xs,s.f (s.t[c]).2.1=some xs∧xs.length≤128) (y:List UInt8) (eA:(s.t[c]).1=0→DD s R bQ cn c y):
  Fn Tryz.prog 120 [aI 1001,aD (c:Int),m4 bQ cn] (fy s R) [2001] (iL 2001) (fy s R++[(2001,.row 5 .u8 (dR s c (some y)))]):=by
 obtain⟨inf,i1,i2,i3,i4⟩:=info_parts Hp
 have hw:=uq ag
 have cQ:dR s c (some y)=if(s.t[c]).1=1 then(s.f (s.t[c]).2.1).getD [] else if(s.t[c]).1=0 then(if y.length=wid s then y else jF s) else jF s:=by
  unfold dR
  rw[List.getElem?_eq_getElem hc]
 refine Fn.of aj [7,8] _ _ _ _ _ Tryz.func120 rfl rfl (by kernel_rfl) (by kernel_rfl) rfl (aK aj) rfl ?_
 refine⟨_,_,_,_,Fn.ren [(1001,1002)] (Bi s.t aB c hc),⟨rfl,trivial⟩,rfl,?_⟩
 refine⟨rfl,?_⟩
 refine⟨fun h=>?_,fun h=>?_⟩
 ·have h:=of_decide_eq_true h
  obtain⟨xs,hx,uY⟩:=hf h
  rw[if_pos h,hx] at cQ
  refine⟨_,_,fun N=>Dz (d:=5001) (k:=(s.t[c]).2.1) rfl Tryz.underlying162 Tryz.underlying3 rfl i1 i2 rfl rfl rfl hx N,rfl,?_⟩
  refine⟨_,_,_,_,Fn.ren [(1001,5001),(1002,2001)] (MF xs (by omega)),⟨rfl,trivial⟩,rfl,?_⟩
  refine⟨rfl,?_⟩
  exact⟨_,_,_,ah.DA 1004 5001 (MG hx) rfl rfl (by decide) (by rw[hx];rfl),rfl,rfl,⟨rfl,rfl,rfl,rfl,rfl,by rw[cQ];rfl,trivial⟩,rfl⟩
 ·have h:=of_decide_eq_false h
  rw[if_neg h] at cQ
  have m:(0:Int)≤(wid s:Nat)∧((wid s:Nat):Int)≤4294967296:=by omega
  refine⟨fun aC=>?_,fun aC=>?_⟩
  ·have aC:=of_decide_eq_true aC
   obtain⟨abn,eA⟩:=eA aC
   rw[if_pos aC] at cQ
   refine⟨_,_,fun N=>T9 (.inr ⟨rfl,rfl⟩) rfl Tryz.underlying168 rfl N,rfl,?_⟩
   refine⟨_,_,_,_,eA,⟨rfl,rfl,rfl,rfl,rfl,trivial⟩,rfl,?_⟩
   refine⟨_,_,_,_,p6 s ag,⟨rfl,rfl,rfl,rfl,trivial⟩,rfl,?_⟩
   refine⟨fun af=>?_,fun af=>?_⟩
   ·have af:(y.length:Int)=(wid s:Nat):=of_decide_eq_true af
    have af:y.length=wid s:=by omega
    rw[if_pos af] at cQ
    show aE _ _ _ _ _ _ _
    refine aE.go aj (aK aj) [] (by kernel_rfl) (ah.sub (K':=[(8,cJ .u8 y)]) (B':=fy s R) ⟨rfl,trivial⟩ ⟨rfl,rfl,rfl,rfl,rfl,trivial⟩) ?_
    refine⟨_,_,_,_,US y (by omega),trivial,rfl,?_⟩
    exact⟨_,_,_,ah.refl _ _,rfl,rfl,⟨rfl,rfl,rfl,rfl,rfl,by rw[cQ];rfl,trivial⟩,rfl⟩
   ·have af: ¬(y.length:Int)=(wid s:Nat):=of_decide_eq_false af
    have af: ¬y.length=wid s:=by omega
    rw[if_neg af] at cQ
    show aE _ _ _ _ _ _ _
    refine aE.go aj (aK aj) [] (by kernel_rfl) (ah.sub (K':=[(0,aI 1001)]) (B':=fy s R) ⟨rfl,trivial⟩ ⟨rfl,rfl,rfl,rfl,rfl,trivial⟩) ?_
    refine⟨_,_,_,_,p6 s ag,⟨rfl,rfl,rfl,rfl,trivial⟩,rfl,?_⟩
    refine⟨⟨rfl,m⟩,rfl,?_⟩
    exact⟨_,_,_,ah.ren 45 2001 rfl,rfl,rfl,⟨rfl,rfl,rfl,rfl,rfl,by rw[cQ];rfl,trivial⟩,rfl⟩
  ·have aC:=of_decide_eq_false aC
   rw[if_neg aC] at cQ
   show aE _ _ _ _ _ _ _
   refine aE.go aj (aK aj) [] (by kernel_rfl) (ah.sub (K':=[(0,aI 1001)]) (B':=fy s R) ⟨rfl,trivial⟩ ⟨rfl,rfl,rfl,rfl,rfl,trivial⟩) ?_
   refine⟨_,_,_,_,p6 s ag,⟨rfl,rfl,rfl,rfl,trivial⟩,rfl,?_⟩
   refine⟨⟨rfl,m⟩,rfl,?_⟩
   exact⟨_,_,_,ah.ren 45 2001 rfl,rfl,rfl,⟨rfl,rfl,rfl,rfl,rfl,by rw[cQ];rfl,trivial⟩,rfl⟩
def y7 (s:bz) (q:eD):bz:=if q.1=1 then {s with l:=s.l.set q.2.1.toNat 0,f:=Bf s.f q.2.1} else s
theorem UW (s:bz) (q:eD) (bh:q.1=1→ ∃h:Nat,q.2.1=(h:Int)∧s.l[h]? =some 1):Fn Tryz.prog 146 [aI 1001,.c (oX q)] (dh s) [] sM (dh (y7 s q)):=by
 refine Fn.of aj [] _ _ _ _ _ Tryz.func146 rfl rfl (by kernel_rfl) (by kernel_rfl) rfl (aK aj) rfl ?_
 refine⟨rfl,?_⟩
 refine⟨fun aa=>?_,fun aa=>?_⟩
 ·have aa: ¬q.1=1:=by
   have aa:(!decide (q.1=1))=true:=aa
   simpa using aa
  rw[show y7 s q=s from if_neg aa]
  exact⟨_,_,_,ah.refl _ _,rfl,trivial,⟨rfl,rfl,rfl,rfl,trivial⟩,rfl⟩
 ·have aa:q.1=1:=by
   have aa:(!decide (q.1=1))=false:=aa
   simpa using aa
  obtain⟨h,e,aB⟩:=bh aa
  rw[show y7 s q={s with l:=s.l.set q.2.1.toNat 0,f:=Bf s.f q.2.1} from if_pos aa]
  obtain⟨k,x,o⟩:=q
  simp only at e
  subst e
  refine⟨_,_,_,_,Fn.ren [(1001,1003),(1002,2003)] (UO s.l h 1 aB (by decide) (by decide)),⟨rfl,trivial⟩,rfl,?_⟩
  refine⟨rfl,?_⟩
  refine⟨fun _=>?_,fun h=>absurd h (by decide)⟩
  refine⟨_,_,fun N=>UK (k:=(h:Int)) rfl Tryz.underlying162 Tryz.underlying3 rfl rfl rfl rfl N,rfl,?_⟩
  refine⟨rfl,?_⟩
  exact⟨_,_,_,ah.refl _ _,rfl,trivial,⟨rfl,rfl,rfl,rfl,trivial⟩,rfl⟩
def qO (s:bz) (c:Nat) (q:eD):bz:=y7 {s with t:=s.t.set c q} (s.t.getD c s0)
theorem Hq (s:bz) (aB:s.t.length≤256) (c:Nat) (hc:c < s.t.length) (q:eD) (hs:sW q) (hr:qJ q=true) (bh:(s.t.getD c s0).1=1→ ∃h:Nat,(s.t.getD c s0).2.1=(h:Int)∧s.l[h]? =some 1):
  Fn Tryz.prog 127 [aI 1001,aD (c:Int),.c (oX q)] (dh s) [] sM (dh (qO s c q)):=by
 have e:s.t[c]=s.t.getD c s0:=by rw[List.getD_eq_getElem?_getD,List.getElem?_eq_getElem hc];rfl
 have iM:=UN s.t aB c hc q hs hr
 unfold qO
 rw[e] at iM
 generalize s.t.getD c s0=qp at bh iM
 refine Fn.of aj [] _ _ _ _ _ Tryz.func127 rfl rfl (by kernel_rfl) (by kernel_rfl) rfl (aK aj) rfl ?_
 refine⟨rfl,?_⟩
 refine⟨_,_,_,_,Fn.ren [(1001,1002)] iM,⟨rfl,trivial⟩,rfl,?_⟩
 refine⟨rfl,?_⟩
 refine⟨rfl,?_⟩
 refine⟨_,_,_,_,UW {s with t:=s.t.set c q} qp bh,⟨rfl,rfl,rfl,rfl,trivial⟩,rfl,?_⟩
 exact⟨_,_,_,ah.refl _ _,rfl,trivial,⟨rfl,rfl,rfl,rfl,trivial⟩,rfl⟩
structure lM where
 c:Nat
 a:Nat
 b:Nat
 at_:Nat
@[reducible] def ur (p:lM):List bx:=[.d (.int .i64 (p.c:Int)),.d (.int .i64 (p.a:Int)),.d (.int .i64 (p.b:Int)),.d (.int .i64 (p.at_:Int))]
@[reducible] def p7 (p:lM):aN:=.c (.agg (ur p))
def gw (s:bz) (c:Nat):Bool:= !vp (s.t.getD c s0)
theorem Hr (s:bz) (aB:s.t.length≤256) (p:lM) (hc:p.c < s.t.length):Fn Tryz.prog 117 [aI 1001,p7 p] (dh s) [] (g9 (gw s p.c)) (dh s):=by
 have e:s.t[p.c]=s.t.getD p.c s0:=by rw[List.getD_eq_getElem?_getD,List.getElem?_eq_getElem hc];rfl
 have eP:=Bi s.t aB p.c hc
 unfold gw
 rw[e] at eP
 refine Fn.of aj [] _ _ _ _ _ Tryz.func117 rfl rfl (by kernel_rfl) (by kernel_rfl) rfl (aK aj) rfl ?_
 refine⟨rfl,?_⟩
 refine⟨_,_,_,_,Fn.ren [(1001,1002)] eP,⟨rfl,trivial⟩,rfl,?_⟩
 refine⟨_,_,_,_,Uh (s.t.getD p.c s0),trivial,rfl,?_⟩
 refine⟨rfl,?_⟩
 exact⟨_,_,_,ah.refl _ _,rfl,rfl,⟨rfl,rfl,rfl,rfl,trivial⟩,rfl⟩
structure fI (s:bz):Prop where
 bits:s.bits≤3
 tl:s.t.length≤256
 k3:s.l.length≤512
 slot: ∀(c:Nat) (q:eD),s.t[c]? =some q→q=s0∨q=((2:Int),(0:Int),false)∨ ∃h:Nat,q=((1:Int),(h:Int),true)∧s.l[h]? =some 1∧ ∃xs,s.f (h:Int)=some xs∧xs.length=wid s
 inj: ∀(c d:Nat) (h:Int),s.t[c]? =some ((1:Int),h,true)→s.t[d]? =some ((1:Int),h,true)→c=d
 cnt: ∀(h:Nat) n,s.l[h]? =some n→n=0∨n=1
 free: ∀h:Nat,s.l[h]? =some 0→s.f (h:Int)=none
 used: ∀h:Nat,s.l[h]? =some 1→ ∃c:Nat,s.t[c]? =some ((1:Int),(h:Int),true)
 dom: ∀(k:Int) xs,s.f k=some xs→xs.length≤128
def gZ (l:List Int):Nat:=l.findIdx fun n=>decide (n=0)
theorem Hs {l:List Int} (h:0 < zeros l):l[gZ l]? =some 0∧ ∀j,j < gZ l→l[j]? ≠some 0:=by
 have bH:gZ l < l.length:=by
  unfold gZ
  rw[List.findIdx_lt_length]
  unfold zeros at h
  obtain⟨x,hx⟩:=List.exists_mem_of_length_pos h
  rw[List.mem_filter] at hx
  exact⟨x,hx.1,hx.2⟩
 refine⟨?_,fun j ak e=>?_⟩
 ·have:=List.findIdx_getElem (xs:=l) (p:=fun n=>decide (n=0)) (w:=bH)
  rw[List.getElem?_eq_getElem bH]
  exact congrArg some (of_decide_eq_true this)
 ·have fJ:j < l.length:=by omega
  have:=List.not_of_lt_findIdx (p:=fun n=>decide (n=0)) (xs:=l) ak
  rw[List.getElem?_eq_getElem fJ] at e
  injection e with e
  simp[e] at this
def mB (s:bz) (c:Nat) (y:List UInt8):bz:=
 if gw s c=true then {s with t:=s.t.set c ((1:Int),(gZ s.l:Int),true),l:=s.l.set (gZ s.l) 1,f:=jf s.f (gZ s.l:Int) (dR s c (some y))} else s
def DE (s:bz) (p:lM) (bs:List UInt8):bz:={s with f:=jf s.f (s.t.getD p.c s0).2.1 (laid ((s.f (s.t.getD p.c s0).2.1).getD []) p.a (p.b - p.a) bs)}
def xw (s:bz) (p:lM) (bs:List UInt8) (y:List UInt8):bz:=DE (mB s p.c y) p bs
@[reducible] def MH (bs:List UInt8):aQ:=[(0,aI 1001),(2,cJ .u8 bs),(5,aI 5)]
@[reducible] def MI (s:bz) (R:bn→bK) (p:lM):aG:=(5,.cells (ur p))::fy s R
theorem y8 {t:List eD} {c:Nat} {q:eD} (h:t[c]? =some q):t.getD c s0=q:=by
 rw[List.getD_eq_getElem?_getD,h];rfl
theorem xx {s:bz} (aT:fI s) {c:Nat} (hc:c < s.t.length) (y:Option (List UInt8)):(dR s c y).length=wid s:=by
 have aS:(jF s).length=wid s:=List.length_replicate
 have bl:s.t[c]? =some s.t[c]:=List.getElem?_eq_getElem hc
 unfold dR
 rw[bl]
 simp only
 rcases aT.slot c _ bl with e |e |⟨h,e,_,xs,hx,aB⟩
 ·rw[e,if_neg (by decide),if_pos (by decide)]
  split
  ·split
   ·rename_i h;exact h
   ·exact aS
  ·exact aS
 ·rw[e,if_neg (by decide),if_neg (by decide)]
  exact aS
 ·rw[e,if_pos rfl]
  simp only[hx,Option.getD_some]
  exact aB
theorem y9 {s:bz} (aT:fI s) {c:Nat} (hc:c < s.t.length):(gw s c=true∧(s.t.getD c s0=s0∨s.t.getD c s0=((2:Int),(0:Int),false)))∨(gw s c=false∧ ∃h:Nat,s.t[c]? =some ((1:Int),(h:Int),true)∧s.l[h]? =some 1∧ ∃xs,s.f (h:Int)=some xs∧xs.length=wid s):=by
 have bl:s.t[c]? =some s.t[c]:=List.getElem?_eq_getElem hc
 have hd:=y8 bl
 unfold gw vp
 rw[hd]
 rcases aT.slot c _ bl with e |e |⟨h,e,af⟩
 ·rw[e];exact .inl ⟨rfl,.inl rfl⟩
 ·rw[e];exact .inl ⟨rfl,.inr rfl⟩
 ·rw[e] at bl⊢;exact .inr ⟨rfl,h,bl,af⟩
theorem MJ {s:bz} (h:s.bits≤3):wid s≤128:=by
 have:=mA h
 show 16*2 ^s.bits≤128
 omega
theorem MK {f:kI} (h: ∀(k:Int) xs,f k=some xs→xs.length≤128) {Bj:Int} {ys:List UInt8} (aF:ys.length≤128): ∀(k:Int) xs,jf f Bj ys k=some xs→xs.length≤128:=fun k xs au=>by
 unfold jf at au
 split at au
 ·injection au with au
  rw[←au]
  exact aF
 ·exact h k xs au
theorem ML {s:bz} (aT:fI s) {c:Nat} (hc:c < s.t.length) (y:List UInt8) (aS:gw s c=true→0 < zeros s.l):
  fI (mB s c y)∧wid (mB s c y)=wid s∧(mB s c y).t.length=s.t.length∧ ∃h:Nat,(mB s c y).t[c]? =some ((1:Int),(h:Int),true)∧(mB s c y).f (h:Int)=some (dR s c (some y)):=by
 rcases y9 aT hc with⟨hn,bh⟩ |⟨hn,h,aa,af,xs,aA,bE⟩
 ·obtain⟨fq,nG⟩:=Hs (aS hn)
  have bH:gZ s.l < s.l.length:=(List.getElem?_eq_some_iff.1 fq).1
  have nJ:=aT.free _ fq
  have cQ:=xx aT hc (some y)
  have hold:s.t[c]? =some (s.t.getD c s0):=by rw[List.getD_eq_getElem?_getD,List.getElem?_eq_getElem hc];rfl
  rw[show mB s c y={s with t:=s.t.set c ((1:Int),(gZ s.l:Int),true),l:=s.l.set (gZ s.l) 1,f:=jf s.f (gZ s.l:Int) (dR s c (some y))} from if_pos hn]
  generalize dR s c (some y)=xs at cQ
  generalize gZ s.l=aC at*
  have MM: ∀(d:Nat),s.t[d]? ≠some ((1:Int),(aC:Int),true):=fun d e=>by
   rcases aT.slot d _ e with aq |aq |⟨h,aq,aA,_⟩
   ·cases aq
   ·cases aq
   ·have:(aC:Int)=(h:Int):=by injection aq with _ aq;injection aq
    have:aC=h:=by omega
    subst this
    rw[fq] at aA
    cases aA
  refine⟨⟨aT.bits,by show(s.t.set _ _).length≤256;rw[List.length_set];exact aT.tl,by show(s.l.set _ _).length≤512;rw[List.length_set];exact aT.k3,fun d q bh=>?_,fun d e h hd he=>?_,fun h n hn=>?_,fun h bM=>?_,fun h bM=>?_,MK aT.dom (by rw[cQ];exact MJ aT.bits)⟩,rfl,List.length_set,aC,?_,if_pos rfl⟩
  ·rw[List.getElem?_set] at bh
   split at bh
   ·rename_i e
    subst e
    injection bh with bh
    exact .inr (.inr ⟨aC,bh.symm,by rw[List.getElem?_set_self bH],xs,if_pos rfl,cQ⟩)
   ·rcases aT.slot d q bh with e |e |⟨h,e,g1,ys,g2,bL⟩
    ·exact .inl e
    ·exact .inr (.inl e)
    ·have bf:aC≠h:=fun e=>by subst e;rw[fq] at g1;cases g1
     exact .inr (.inr ⟨h,e,by rw[List.getElem?_set_ne bf];exact g1,ys,by show(if(h:Int)=(aC:Int) then some xs else s.f h)=some ys;rw[if_neg (by omega)];exact g2,bL⟩)
  ·rw[List.getElem?_set] at hd he
   split at hd
   ·rename_i ai
    split at he
    ·rename_i aq;rw[←ai,←aq]
    ·have:(aC:Int)=h:=by injection hd with hd;injection hd with _ hd;injection hd
     subst this
     exact absurd he (MM e)
   ·split at he
    ·rename_i aq
     have:(aC:Int)=h:=by injection he with hd;injection hd with _ hd;injection hd
     subst this
     exact absurd hd (MM d)
    ·exact aT.inj d e h hd he
  ·rw[List.getElem?_set] at hn
   split at hn
   ·rename_i e
    injection hn with hn
    exact .inr hn.symm
   ·exact aT.cnt h n hn
  ·rw[List.getElem?_set] at bM
   split at bM
   ·rename_i e
    injection bM with bM
    exact absurd bM (by decide)
   ·rename_i e
    show(if(h:Int)=(aC:Int) then some xs else s.f h)=none
    rw[if_neg (by omega)]
    exact aT.free h bM
  ·by_cases e:aC=h
   ·subst e
    exact⟨c,List.getElem?_set_self hc⟩
   ·rw[List.getElem?_set_ne e] at bM
    obtain⟨d,hd⟩:=aT.used h bM
    have bf:c≠d:=fun aq=>by
     subst aq
     rw[hold] at hd
     injection hd with hd
     rw[hd] at bh
     rcases bh with bh |bh <;>cases bh
    exact⟨d,by rw[List.getElem?_set_ne bf];exact hd⟩
  ·exact List.getElem?_set_self hc
 ·have e:mB s c y=s:=if_neg (by rw[hn];decide)
  rw[e]
  refine⟨aT,rfl,rfl,h,aa,?_⟩
  unfold dR
  rw[aa]
  simp only[if_pos,aA,Option.getD_some]
set_option maxHeartbeats 1000000 in
theorem MN (s:bz) (R:bn→bK) (bQ cn:Nat) (aT:fI s) (p:lM) (hc:p.c < s.t.length) (bs:List UInt8) (aa:p.a≤p.b) (af:p.b≤wid s) (aA:bs.length=p.b - p.a) (y:List UInt8) (eA:(s.t[p.c]).1=0→DD s R bQ cn p.c y) (aS:gw s p.c=true→0 < zeros s.l):
  Fn Tryz.prog 119 [aI 1001,p7 p,cJ .u8 bs,m4 bQ cn] (fy s R) [] sM (fy (xw s p bs y) R):=by
 obtain⟨inf,i1,i2,i3,i4⟩:=info_parts Hp
 have hw:=uq aT.bits
 have e:s.t[p.c]=s.t.getD p.c s0:=by rw[List.getD_eq_getElem?_getD,List.getElem?_eq_getElem hc];rfl
 obtain⟨fG,iy,p8,iq,uu,vw⟩:=ML aT hc y aS
 have cQ:=xx aT hc (some y)
 unfold xw
 have oK:=UU s R bQ cn aT.bits aT.tl p.c hc (fun h=>by
  rcases aT.slot p.c _ (List.getElem?_eq_getElem hc) with aq |aq |⟨h,aq,_,xs,hx,aB⟩
  ·rw[aq] at h;cases h
  ·rw[aq] at h;cases h
  ·rw[aq];exact⟨xs,hx,by omega⟩) y eA
 generalize dH:mB s p.c y=s' at fG iy p8 uu vw
 have Ht:=y8 uu
 have uN:s'.t[p.c]'(by omega)=((1:Int),(iq:Int),true):=by
  have:=List.getElem?_eq_getElem (l:=s'.t) (i:=p.c) (by omega)
  rw[uu] at this
  injection this with this
  exact this.symm
 have za:=Bi s'.t fG.tl p.c (by omega)
 rw[uN] at za
 unfold DE
 rw[Ht]
 simp only[vw,Option.getD_some]
 have m:(0:Int)≤(p.a:Int)∧(p.a:Int)≤(p.b:Int)∧(p.b:Int)≤(((dR s p.c (some y)).length:Nat):Int):=by omega
 have bX:p.a+(p.b - p.a)≤(dR s p.c (some y)).length:=by omega
 have uZ:jf s'.f (iq:Int) (laid (dR s p.c (some y)) p.a (p.b - p.a) bs)=jf s'.f (iq:Int) (laid (dR s p.c (some y)) p.a (p.b - p.a) bs):=rfl
 refine Fn.of aj [3,5,6] _ _ _ _ _ Tryz.func119 rfl rfl (by kernel_rfl) (by kernel_rfl) rfl (aK aj) rfl ?_
 refine⟨rfl,?_⟩
 refine⟨_,_,_,_,Hr s aT.tl p hc,⟨rfl,rfl,rfl,rfl,trivial⟩,rfl,?_⟩
 refine⟨fun hn=>?_,fun hn=>?_⟩
 ·obtain⟨fq,nG⟩:=Hs (aS hn)
  refine⟨_,_,_,_,oK,⟨rfl,rfl,rfl,rfl,rfl,trivial⟩,rfl,?_⟩
  show aE _ _ _ _ _ _ _
  refine aE.go aj (aK aj) [5,6] (by kernel_rfl) (ah.sub (K':=[(0,aI 1001),(2,cJ .u8 bs),(5,aI 5),(8,iL 2001)]) (B':=(5,.cells (ur p))::(2001,.row 5 .u8 (dR s p.c (some y)))::fy s R) ⟨rfl,rfl,rfl,rfl,trivial⟩ ⟨rfl,rfl,rfl,rfl,rfl,rfl,rfl,trivial⟩) ?_
  refine⟨_,_,_,_,Fn.ren [(1001,1003),(1002,2003)] (UQ s.l (by have:=aT.k3;omega) (gZ s.l) fq nG),⟨rfl,trivial⟩,rfl,?_⟩
  refine⟨_,_,fun N=>UI (d:=2001) (k:=(gZ s.l:Int)) rfl Tryz.underlying162 Tryz.underlying3 rfl rfl rfl rfl rfl rfl (by decide) (aT.free _ fq) N,rfl,?_⟩
  show aE _ _ _ _ _ _ _
  refine aE.go aj (aK aj) [6] (by kernel_rfl) (ah.sub (K':=[(0,aI 1001),(2,cJ .u8 bs),(5,aI 5),(9,aD (gZ s.l:Nat))]) (B':=(5,.cells (ur p))::fy {s with l:=s.l.set (gZ s.l) 1,f:=jf s.f (gZ s.l:Int) (dR s p.c (some y))} R) ⟨rfl,rfl,rfl,rfl,trivial⟩ ⟨rfl,rfl,rfl,rfl,rfl,rfl,trivial⟩) ?_
  have iM:Fn Tryz.prog 127 [aI 1001,aD (p.c:Int),.c (oX ((1:Int),(gZ s.l:Int),true))] (dh {s with l:=s.l.set (gZ s.l) 1,f:=jf s.f (gZ s.l:Int) (dR s p.c (some y))}) [] sM (dh s'):=by
   have bH:gZ s.l < s.l.length:=(List.getElem?_eq_some_iff.1 fq).1
   have qF:=aT.k3
   have sL: ¬(s.t.getD p.c s0).1=1:=by
    rcases y9 aT hc with⟨_,h⟩ |⟨h,_⟩
    ·rcases h with h |h <;>rw[h] <;>decide
    ·rw[hn] at h;cases h
   have h:=Hq {s with l:=s.l.set (gZ s.l) 1,f:=jf s.f (gZ s.l:Int) (dR s p.c (some y))} aT.tl p.c hc ((1:Int),(gZ s.l:Int),true) ⟨⟨by show(-1000000:Int)≤1;decide,by show(1:Int)≤1000000;decide⟩,by show(-1000000:Int)≤(gZ s.l:Int);omega,by show((gZ s.l:Nat):Int)≤1000000;omega⟩ (by
    show(if(1:Int)=1 then decide (0≤(gZ s.l:Int))&&decide ((gZ s.l:Int) < 512) else _)=true
    rw[if_pos rfl,decide_eq_true (by omega),decide_eq_true (by omega)]
    rfl) (fun h=>absurd h sL)
   rwa[show qO {s with l:=s.l.set (gZ s.l) 1,f:=jf s.f (gZ s.l:Int) (dR s p.c (some y))} p.c ((1:Int),(gZ s.l:Int),true)=s' by
    rw[←dH]
    unfold qO y7 mB
    rw[if_neg sL,if_pos hn]] at h
  refine⟨_,_,_,_,Fn.arg iM ⟨rfl,rfl,⟨rfl,rfl,rfl,trivial⟩,trivial⟩,⟨rfl,rfl,rfl,rfl,trivial⟩,rfl,?_⟩
  show aE _ _ _ _ _ _ _
  refine aE.go aj (aK aj) [] (by kernel_rfl) (ah.sub (K':=MH bs) (B':=MI s' R p) ⟨rfl,rfl,rfl,trivial⟩ ⟨rfl,rfl,rfl,rfl,rfl,rfl,trivial⟩) ?_
  refine⟨_,_,_,_,Fn.ren [(1001,1002)] za,⟨rfl,trivial⟩,rfl,?_⟩
  refine⟨_,_,fun N=>G5 rfl Tryz.underlying188 rfl Tryz.underlying3 rfl rfl rfl N,rfl,?_⟩
  refine⟨_,_,fun N=>Dz (d:=5001) (k:=(iq:Int)) rfl Tryz.underlying162 Tryz.underlying3 rfl i1 i2 rfl rfl rfl vw N,rfl,?_⟩
  refine⟨m,?_⟩
  refine⟨bX,?_⟩
  refine⟨rfl,?_⟩
  exact⟨_,_,_,ah.DA 1004 5001 uZ rfl rfl (by decide) (by rw[vw];rfl),rfl,trivial,⟨rfl,rfl,rfl,rfl,rfl,trivial⟩,rfl⟩
 ·have e6:s=s':=by rw[←dH];unfold mB;rw[if_neg (by rw[hn];decide)]
  subst e6
  show aE _ _ _ _ _ _ _
  refine aE.go aj (aK aj) [] (by kernel_rfl) (ah.sub (K':=MH bs) (B':=MI s R p) ⟨rfl,rfl,rfl,trivial⟩ ⟨rfl,rfl,rfl,rfl,rfl,rfl,trivial⟩) ?_
  refine⟨_,_,_,_,Fn.ren [(1001,1002)] za,⟨rfl,trivial⟩,rfl,?_⟩
  refine⟨_,_,fun N=>G5 rfl Tryz.underlying188 rfl Tryz.underlying3 rfl rfl rfl N,rfl,?_⟩
  refine⟨_,_,fun N=>Dz (d:=5001) (k:=(iq:Int)) rfl Tryz.underlying162 Tryz.underlying3 rfl i1 i2 rfl rfl rfl vw N,rfl,?_⟩
  refine⟨m,?_⟩
  refine⟨bX,?_⟩
  refine⟨rfl,?_⟩
  exact⟨_,_,_,ah.DA 1004 5001 uZ rfl rfl (by decide) (by rw[vw];rfl),rfl,trivial,⟨rfl,rfl,rfl,rfl,rfl,trivial⟩,rfl⟩
def eO (s:bz):Nat:=s.t.length*2 ^s.bits
def dJ (s:bz) (at_ long:Int):Int:=if long < 0 then 1 else if at_ < 0∨long >eO s∨at_ >eO s - long then 121 else 0
theorem vz (s:bz) (aT:fI s) (at_ long:Int):Fn Tryz.prog 115 [aI 1001,aD at_,aD long] (dh s) [] (aD (dJ s at_ long)) (dh s):=by
 have hp:=mA aT.bits
 have o3:=aT.tl
 have aa:s.t.length*2 ^s.bits≤256*8:=Nat.mul_le_mul o3 hp.2
 have e:((s.t.length:Nat):Int)*((2 ^s.bits:Nat):Int)=((eO s:Nat):Int):=by unfold eO;rw[Int.natCast_mul]
 have c9:eO s≤2048:=aa
 refine Fn.of aj [1,2] _ _ _ _ _ Tryz.func115 rfl rfl (by kernel_rfl) (by kernel_rfl) rfl (aK aj) rfl ?_
 show aE _ _ _ _ _ _ _
 refine aE.ro 64 (by decide) ?_
 refine aE.go aj (aK aj) [2] (by kernel_rfl) (ah.refl _ _) ?_
 refine⟨_,_,fun N=>A8 rfl rfl rfl (vv s) (by exact⟨rfl,rfl,rfl,rfl,trivial⟩) rfl (fun _=>rfl) N,rfl,?_⟩
 have bw:(0:Int)≤(s.t.length:Nat)∧(0:Int)≤(s.bits:Int)∧(s.bits:Int)≤64:=by have:=aT.bits;omega
 have bX:(-9223372036854775808:Int)≤((s.t.length:Nat):Int)*((2 ^s.bits:Nat):Int)∧((s.t.length:Nat):Int)*((2 ^s.bits:Nat):Int)≤9223372036854775807:=by rw[e];omega
 refine⟨bw,bX,?_⟩
 refine⟨rfl,?_⟩
 show aE _ _ _ _ _ _ _
 refine aE.go aj (aK aj) [] (by kernel_rfl) (ah.sub (K':=[(1,aD at_),(2,aD long),(7,aD (eO s:Nat))]) (B':=dh s) ⟨rfl,rfl,e,trivial⟩ ⟨rfl,rfl,rfl,rfl,trivial⟩) ?_
 refine⟨fun h=>?_,fun h=>?_⟩
 ·have h:long < 0:=of_decide_eq_true h
  exact⟨_,_,_,ah.refl _ _,rfl,(show(1:Int)=dJ s at_ long by unfold dJ;rw[if_pos h]),⟨rfl,rfl,rfl,rfl,trivial⟩,rfl⟩
 ·have h: ¬long < 0:=of_decide_eq_false h
  have Hu: ∀(_:at_ < 0∨long >eO s∨at_ >eO s - long),(121:Int)=dJ s at_ long:=fun af=>by unfold dJ;rw[if_neg h,if_pos af]
  refine⟨fun aa=>?_,fun aa=>?_⟩
  ·have aa:at_ < 0:=of_decide_eq_true aa
   exact⟨_,_,_,ah.refl _ _,rfl,Hu (.inl aa),⟨rfl,rfl,rfl,rfl,trivial⟩,rfl⟩
  ·have aa: ¬at_ < 0:=of_decide_eq_false aa
   refine⟨fun af=>?_,fun af=>?_⟩
   ·have af:((eO s:Nat):Int) < long:=of_decide_eq_true af
    exact⟨_,_,_,ah.refl _ _,rfl,Hu (.inr (.inl af)),⟨rfl,rfl,rfl,rfl,trivial⟩,rfl⟩
   ·have af: ¬((eO s:Nat):Int) < long:=of_decide_eq_false af
    have fT:(-9223372036854775808:Int)≤((eO s:Nat):Int) - long∧((eO s:Nat):Int) - long≤9223372036854775807:=by omega
    refine⟨fT,?_⟩
    refine⟨fun aA=>?_,fun aA=>?_⟩
    ·have aA:((eO s:Nat):Int) - long < at_:=of_decide_eq_true aA
     exact⟨_,_,_,ah.refl _ _,rfl,Hu (.inr (.inr aA)),⟨rfl,rfl,rfl,rfl,trivial⟩,rfl⟩
    ·have aA: ¬((eO s:Nat):Int) - long < at_:=of_decide_eq_false aA
     exact⟨_,_,_,ah.refl _ _,rfl,(show(0:Int)=dJ s at_ long by unfold dJ;rw[if_neg h,if_neg (by omega)]),⟨rfl,rfl,rfl,rfl,trivial⟩,rfl⟩
def aR (W a l k:Nat):lM:=⟨16*a/W+k,16*a - (16*a/W+k)*W,min (16*(a+l) - (16*a/W+k)*W) W,(16*a/W+k)*W+(16*a - (16*a/W+k)*W) - 16*a⟩
def b5 (W a l:Nat):Nat:=if l=0 then 0 else(16*(a+l)+W - 1)/W - 16*a/W
def vA (W:Nat):Prop:=W=16∨W=32∨W=64∨W=128
theorem oB {s:bz} (h:s.bits≤3):vA (wid s):=by
 unfold vA wid
 generalize s.bits=b at h
 match b,h with
 |0,_=>exact .inl rfl
 |1,_=>exact .inr (.inl rfl)
 |2,_=>exact .inr (.inr (.inl rfl))
 |3,_=>exact .inr (.inr (.inr rfl))
theorem uv {W a l k:Nat} (dW:vA W):(0 < l∧(16*a/W+k)*W < 16*(a+l))↔k < b5 W a l:=by
 unfold b5
 rcases dW with rfl |rfl |rfl |rfl <;>(split <;>omega)
theorem p9 {W a l k:Nat} (dW:vA W) (au:k < b5 W a l):(aR W a l k).a≤(aR W a l k).b∧(aR W a l k).b≤W∧(aR W a l k).at_+((aR W a l k).b - (aR W a l k).a)≤16*l∧(aR W a l k).c*W < 16*(a+l):=by
 have h:=(uv (a:=a) (l:=l) (k:=k) dW).2 au
 unfold aR
 simp only
 rcases dW with rfl |rfl |rfl |rfl <;>omega
@[reducible] def Hv (l:Nat):aN:=.c (.one (.raw (.func (.yield l) #[] #[])))
@[reducible] def qa (a l:Int):aG:=[(2001,.cells [.ptr 1001 0]),(2002,.cells [.d (.int .i64 a)]),(2003,.cells [.d (.int .i64 l)])]
@[reducible] def MO (y W a l k:Nat):aQ:=[(0,Hv y),(1,aI 2001),(2,aI 2002),(3,aI 2003),(5,aD (W:Nat)),(6,aD ((16*a:Nat):Int)),(7,aD ((16*(a+l):Nat):Int)),(8,aD ((16*a/W+k:Nat):Int))]
@[reducible] def DF (a l:Nat) (o:bK):aG:=[(2001,.cells [.ptr 1001 0]),(2002,.cells [.d (.int .i64 (a:Int))]),(2003,.cells [.d (.int .i64 (l:Int))]),(1001,.obj o)]
@[reducible] def UX (y W:Nat):aQ:=[(0,Hv y),(1,aI 2001),(2,aI 2002),(3,aI 2003),(5,aD (W:Nat))]
theorem UY {W a l k:Nat} (dW:vA W):(((16*a/W+k:Nat):Int))*(W:Int)=(((16*a/W+k)*W:Nat):Int)∧max (((16*a:Nat):Int) - (((16*a/W+k)*W:Nat):Int)) 0=((aR W a l k).a:Int)∧(k < b5 W a l→min (((16*(a+l):Nat):Int) - (((16*a/W+k)*W:Nat):Int)) (W:Int)=((aR W a l k).b:Int))∧(((16*a/W+k)*W:Nat):Int)+((aR W a l k).a:Int) - ((16*a:Nat):Int)=((aR W a l k).at_:Int):=by
 refine⟨by rw[Int.natCast_mul],?_,fun au=>?_,?_⟩
 ·unfold aR;simp only;omega
 ·have h:=(uv (a:=a) (l:=l) (k:=k) dW).2 au
  unfold aR;simp only;omega
 ·unfold aR
  simp only
  rcases dW with rfl |rfl |rfl |rfl <;>omega
theorem zb (y W a l:Nat) (dW:vA W) (ha:a≤10000) (aB:l≤10000) (fu:Nat→bK) (ag: ∀k,Fn Tryz.prog 126 [aI 1001] [(1001,.obj (fu k))] [] (aD (W:Nat)) [(1001,.obj (fu k))])
  (aF: ∀k,k < b5 W a l→yU Tryz.prog y [p7 (aR W a l k)] [(1001,.obj (fu k))] (fun _:Unit=>Co true) (fun _=>[(1001,.obj (fu (k+1)))])):
  Fn Tryz.prog 133 [Hv y,aI 2001,aI 2002,aI 2003] (DF a l (fu 0)) [] (.c8 []) [(1001,.obj (fu (b5 W a l)))]:=by
 have UZ:16≤W∧W≤128:=by rcases dW with rfl |rfl |rfl |rfl <;>omega
 refine Fn.of aj [1,7] _ _ _ _ _ Tryz.func133 rfl rfl (by kernel_rfl) (by kernel_rfl) rfl (aK aj) rfl ?_
 refine⟨_,_,_,_,ag 0,⟨rfl,trivial⟩,rfl,?_⟩
 show aE _ _ _ _ _ _ _
 refine aE.go aj (aK aj) [7] (by kernel_rfl) (ah.sub (K':=UX y W) (B':=DF a l (fu 0)) ⟨rfl,rfl,rfl,rfl,rfl,trivial⟩ ⟨rfl,rfl,rfl,rfl,trivial⟩) ?_
 have bw:(-9223372036854775808:Int)≤(a:Int)*16∧(a:Int)*16≤9223372036854775807:=by omega
 have bX:(-9223372036854775808:Int)≤(a:Int)+(l:Int)∧(a:Int)+(l:Int)≤9223372036854775807:=by omega
 have fT:(-9223372036854775808:Int)≤((a:Int)+(l:Int))*16∧((a:Int)+(l:Int))*16≤9223372036854775807:=by omega
 refine⟨bw,bX,fT,rfl,?_⟩
 have bt:((a:Int)*16)/(W:Int)=((16*a/W+0:Nat):Int):=by rcases dW with rfl |rfl |rfl |rfl <;>omega
 have kK:(0:Int)≤(a:Int)*16∧(0:Int) < (W:Int):=by omega
 have rA:16*a/W≤10000:=by rcases dW with rfl |rfl |rfl |rfl <;>omega
 have sZ:(-9223372036854775808:Int)≤((a:Int)*16)/(W:Int)∧((a:Int)*16)/(W:Int)≤9223372036854775807:=by rw[bt];generalize 16*a/W=q at rA;omega
 refine⟨kK,sZ,?_⟩
 show aE _ _ _ _ _ _ _
 refine aE.loop aj (aK aj) [7] (by kernel_rfl) (X:=Nat) (MO y W a l) (fun k=>DF a l (fu k)) (fun k=>k≤b5 W a l) (fun k=>b5 W a l - k) 0 (Nat.zero_le _) ?_ ?_
 ·exact ah.sub ⟨rfl,rfl,rfl,rfl,rfl,(by show(a:Int)*16=((16*a:Nat):Int);omega),(by show((a:Int)+(l:Int))*16=((16*(a+l):Nat):Int);omega),bt,trivial⟩ ⟨rfl,rfl,rfl,rfl,trivial⟩
 intro k au
 obtain⟨g1,g2,bL,gU⟩:=UY (a:=a) (l:=l) (k:=k) dW
 have qs:=uv (a:=a) (l:=l) (k:=k) dW
 have dn:b5 W a l≤30000:=by
  unfold b5
  rcases dW with rfl |rfl |rfl |rfl <;>(split <;>omega)
 have cQ:(16*a/W+k)*W≤40000*128:=Nat.mul_le_mul (by omega) UZ.2
 have out: ∀(h: ¬k < b5 W a l),k=b5 W a l:=fun h=>by omega
 refine⟨fun aa=>?_,fun aa=>?_⟩
 ·have aa:(0:Int) < (l:Int):=of_decide_eq_true aa
  have eM:(-9223372036854775808:Int)≤((16*a/W+k:Nat):Int)*(W:Int)∧((16*a/W+k:Nat):Int)*(W:Int)≤9223372036854775807:=by rw[g1];omega
  refine⟨eM,?_⟩
  refine⟨fun af=>?_,fun af=>?_⟩
  ·have af:((16*a/W+k:Nat):Int)*(W:Int) < ((16*(a+l):Nat):Int):=of_decide_eq_true af
   have qP:k < b5 W a l:=qs.1 ⟨by omega,by rw[g1] at af;omega⟩
   have gj:(-9223372036854775808:Int)≤((16*a:Nat):Int) - ((16*a/W+k:Nat):Int)*(W:Int)∧((16*a:Nat):Int) - ((16*a/W+k:Nat):Int)*(W:Int)≤9223372036854775807:=by rw[g1];omega
   have L4:(-9223372036854775808:Int)≤((16*(a+l):Nat):Int) - ((16*a/W+k:Nat):Int)*(W:Int)∧((16*(a+l):Nat):Int) - ((16*a/W+k:Nat):Int)*(W:Int)≤9223372036854775807:=by rw[g1];omega
   refine⟨eM,gj,eM,L4,rfl,?_⟩
   have U0:(-9223372036854775808:Int)≤((16*a/W+k:Nat):Int)*(W:Int)+max (((16*a:Nat):Int) - ((16*a/W+k:Nat):Int)*(W:Int)) 0∧((16*a/W+k:Nat):Int)*(W:Int)+max (((16*a:Nat):Int) - ((16*a/W+k:Nat):Int)*(W:Int)) 0≤9223372036854775807:=by rw[g1];omega
   have n5:(-9223372036854775808:Int)≤((16*a/W+k:Nat):Int)*(W:Int)+max (((16*a:Nat):Int) - ((16*a/W+k:Nat):Int)*(W:Int)) 0 - ((16*a:Nat):Int)∧((16*a/W+k:Nat):Int)*(W:Int)+max (((16*a:Nat):Int) - ((16*a/W+k:Nat):Int)*(W:Int)) 0 - ((16*a:Nat):Int)≤9223372036854775807:=by rw[g1];omega
   refine⟨eM,U0,n5,?_⟩
   have oK: [bx.d (.int .i64 ((16*a/W+k:Nat):Int)),.d (.int .i64 (max (((16*a:Nat):Int) - ((16*a/W+k:Nat):Int)*(W:Int)) 0)),.d (.int .i64 (min (((16*(a+l):Nat):Int) - ((16*a/W+k:Nat):Int)*(W:Int)) (W:Int))),.d (.int .i64 (((16*a/W+k:Nat):Int)*(W:Int)+max (((16*a:Nat):Int) - ((16*a/W+k:Nat):Int)*(W:Int)) 0 - ((16*a:Nat):Int)))]=ur (aR W a l k):=by
    rw[g1,g2,bL qP,gU]
    rfl
   show aE _ _ _ _ _ _ _
   refine aE.le (ah.sub (K':=(9,aI 9)::MO y W a l k) (B':=(9,.cells (ur (aR W a l k)))::DF a l (fu k)) ⟨rfl,rfl,rfl,rfl,rfl,rfl,rfl,rfl,rfl,trivial⟩ ⟨?_,rfl,rfl,rfl,rfl,trivial⟩) ?_
   ·exact congrArg (fun l=>some (bF.cells l)) oK
   refine aE.sJ aj (by kernel_rfl) ?_
   refine⟨Unit,_,_,_,aF k qP,⟨rfl,trivial⟩,fun _=>rfl,fun _=>?_⟩
   have n6:(-9223372036854775808:Int)≤((16*a/W+k:Nat):Int)+1∧((16*a/W+k:Nat):Int)+1≤9223372036854775807:=by generalize 16*a/W=q at rA;omega
   refine⟨n6,k+1,qP,by omega,ah.sub ⟨rfl,rfl,rfl,rfl,rfl,rfl,rfl,rfl,trivial⟩ ⟨rfl,rfl,rfl,rfl,trivial⟩⟩
  ·have af: ¬((16*a/W+k:Nat):Int)*(W:Int) < ((16*(a+l):Nat):Int):=of_decide_eq_false af
   have qP:k=b5 W a l:=out fun h=>af (by have:=(qs.2 h).2;rw[g1];omega)
   subst qP
   exact⟨_,_,_,ah.refl _ _,rfl,trivial,⟨rfl,trivial⟩,rfl⟩
 ·have aa: ¬(0:Int) < (l:Int):=of_decide_eq_false aa
  have qP:k=b5 W a l:=out fun h=>aa (by have:=(qs.2 h).1;omega)
  subst qP
  exact⟨_,_,_,ah.refl _ _,rfl,trivial,⟨rfl,trivial⟩,rfl⟩
theorem zc (s:bz) (a l:Int):Fn Tryz.prog 116 [aI 1001,aD a,aD l] (dh s) [2001,2002,2003] (.c (.one (.eH 133 [.p 2001 0,.p 2002 0,.p 2003 0]))) (dh s++qa a l):=by
 refine Fn.of aj [] _ _ _ _ _ Tryz.func116 rfl rfl (by kernel_rfl) (by kernel_rfl) rfl (aK aj) rfl ?_
 refine⟨rfl,rfl,rfl,?_⟩
 exact⟨_,_,_,(ah.ren 3 2001 rfl).trans ((ah.ren 4 2002 rfl).trans (ah.ren 5 2003 rfl)),rfl,rfl,⟨rfl,rfl,rfl,rfl,rfl,rfl,rfl,trivial⟩,rfl⟩
theorem U1 (s:bz) (aT:fI s) (c:Nat) (hc:c < s.t.length):Fn Tryz.prog 120 [aI 1001,aD (c:Int),.c (.one (.raw .nilFunc))] (dh s) [] (cJ .u8 (dR s c none)) (dh s):=
 Fn.dV (UT s aT.bits aT.tl c hc fun h=>by
  rcases aT.slot c _ (List.getElem?_eq_getElem hc) with aq |aq |⟨h,aq,_,xs,hx,aB⟩
  ·rw[aq] at h;cases h
  ·rw[aq] at h;cases h
  ·rw[aq];exact⟨xs,hx,by have:=(uq aT.bits).2;omega⟩) rfl rfl
def ze (s:bz) (a l k:Nat):List UInt8:=((dR s (aR (wid s) a l k).c none).take (aR (wid s) a l k).b).drop (aR (wid s) a l k).a
def xy (s:bz) (a l:Nat):Nat→List UInt8
 |0=>[]
 |k+1=>xy s a l k++ze s a l k
def Hw (s:bz) (a l:Nat):List UInt8:=xy s a l (b5 (wid s) a l)
@[reducible] def U2:aQ:=[(3,aI 3),(9,aI 9)]
@[reducible] def Hx (s:bz) (acc:List UInt8):aG:=dh s++[(3,.cells [.ptr 1001 0]),(9,.cells [.own 5002]),(5002,.row 5 .u8 acc)]
@[reducible] def U3 (s:bz) (acc:List UInt8):aG:=dh s++[(3,.cells [.ptr 1001 0]),(9,.cells [.own 33]),(33,.row 5 .u8 acc)]
theorem MP {s:bz} (aT:fI s) {a l:Nat}: ∀k,(xy s a l k).length≤k*128
 |0=>Nat.le_refl _
 |k+1=>by
  have h:=MP aT (a:=a) (l:=l) k
  have af:(ze s a l k).length≤128:=by
   unfold ze
   rw[List.length_drop,List.length_take]
   have aA:(aR (wid s) a l k).b≤128:=by
    unfold aR;simp only
    have:=(uq aT.bits).2
    omega
   omega
  show(xy s a l k++ze s a l k).length≤_
  rw[List.length_append]
  omega
set_option maxHeartbeats 1000000 in
theorem MQ (s:bz) (aT:fI s) (a l:Nat) (aC:dJ s a l=0):Fn Tryz.prog 92 [aI 1001,aD (a:Int),aD (l:Int)] (dh s) [] (.c8 [.one (.d (.cW .u8 (Hw s a l))),fO 0]) (dh s):=by
 have dW:=oB aT.bits
 have c9:(a:Int)+(l:Int)≤(eO s:Nat):=by
  unfold dJ at aC
  split at aC
  ·cases aC
  ·split at aC
   ·cases aC
   ·omega
 have s4:eO s≤2048:=Nat.mul_le_mul aT.tl (mA aT.bits).2
 refine Fn.of aj [4,5] _ _ _ _ _ Tryz.func92 rfl rfl (by kernel_rfl) (by kernel_rfl) rfl (aK aj) rfl ?_
 refine⟨rfl,?_⟩
 refine⟨_,_,_,_,vz s aT a l,⟨rfl,rfl,rfl,rfl,trivial⟩,rfl,?_⟩
 rw[aC]
 refine⟨fun h=>absurd h (by decide),fun _=>?_⟩
 show aE _ _ _ _ _ _ _
 refine aE.go aj (aK aj) [5] (by kernel_rfl) (ah.refl _ _) ?_
 refine⟨rfl,?_⟩
 show aE _ _ _ _ _ _ _
 refine aE.go aj (aK aj) [] (by kernel_rfl) ((ah.Ss 9 0 5002 5 .u8 rfl rfl rfl).trans (ah.sub (K':=[(1,aD (a:Int)),(2,aD (l:Int)),(3,aI 3),(9,aI 9)]) (B':=Hx s []) ⟨rfl,rfl,rfl,rfl,trivial⟩ ⟨rfl,rfl,rfl,rfl,rfl,rfl,rfl,trivial⟩)) ?_
 refine⟨_,_,_,_,zc s a l,⟨rfl,rfl,rfl,rfl,trivial⟩,rfl,?_⟩
 show aE _ _ _ _ _ _ _
 refine aE.le (ah.sub (K':=[(21,.c (.one (.eH 133 [.p 2001 0,.p 2002 0,.p 2003 0]))),(3,aI 3),(9,aI 9)]) (B':=qa a l++Hx s []) ⟨rfl,rfl,rfl,trivial⟩ ⟨rfl,rfl,rfl,rfl,rfl,rfl,rfl,rfl,rfl,rfl,trivial⟩) ?_
 refine aE.range aj [] (pl:=[22]) rfl (by kernel_rfl) (by kernel_rfl) (by kernel_rfl) (by kernel_rfl) [1001,1002,1003,1004,3,9] _ U2 (qa a l) (fun k:Nat=>Hx s (xy s a l k)) 1001 0 (b5 (wid s) a l) (fun k vs k'=>k < b5 (wid s) a l∧vs=[p7 (aR (wid s) a l k)]∧k'=k+1) rfl (by exact⟨rfl,rfl,trivial⟩) rfl rfl ?_ ?_ ?_
 ·rintro k vs k' ⟨au,rfl,rfl⟩
  obtain⟨dO,cZ,dA,dB⟩:=p9 dW au
  have hc:(aR (wid s) a l k).c < s.t.length:=by
   have e:eO s*16=s.t.length*wid s:=by unfold eO wid;rw[Nat.mul_assoc,Nat.mul_comm (2 ^s.bits) 16]
   have aa:(aR (wid s) a l k).c*wid s < s.t.length*wid s:=by omega
   exact Nat.lt_of_mul_lt_mul_right aa
  have cQ:=xx aT hc none
  have hlen:=MP aT (a:=a) (l:=l) k
  have qP:k≤3000:=by
   have aa:=(uv (a:=a) (l:=l) (k:=k) dW).2 au
   rcases dW with e |e |e |e <;>rw[e] at aa <;>omega
  have bw:(0:Int)≤((aR (wid s) a l k).a:Int)∧((aR (wid s) a l k).a:Int)≤((aR (wid s) a l k).b:Int)∧((aR (wid s) a l k).b:Int)≤(((dR s (aR (wid s) a l k).c none).length:Nat):Int):=by omega
  have bX:(xy s a l k).length+(((dR s (aR (wid s) a l k).c none).take (aR (wid s) a l k).b).drop (aR (wid s) a l k).a).length≤4294967296:=by
   rw[List.length_drop,List.length_take]
   omega
  have U4:=U1 s aT _ hc
  refine⟨rfl,rfl,?_⟩
  refine⟨rfl,?_⟩
  refine⟨rfl,?_⟩
  refine⟨_,_,_,_,U4,⟨rfl,rfl,rfl,rfl,trivial⟩,rfl,?_⟩
  refine⟨bw,?_⟩
  refine⟨bX,rfl,?_⟩
  refine⟨rfl,?_⟩
  exact⟨rfl,(ah.sub (K':=[]) (B':=U3 s (xy s a l (k+1))) trivial ⟨rfl,rfl,rfl,rfl,rfl,rfl,rfl,trivial⟩).trans (ah.ren 33 5002 rfl)⟩
 ·intro y fu rQ aF
  exact zb y (wid s) a l dW (by omega) (by omega) fu (fun k=>rQ _ _ _ k k (Fn.more _ (p6 s aT.bits) rfl rfl) rfl rfl) (fun k au=>aF k _ (k+1) ⟨au,rfl,rfl⟩)
 ·refine⟨_,_,_,ah.dV 5002 rfl,rfl,⟨rfl,rfl,trivial⟩,⟨rfl,rfl,rfl,rfl,trivial⟩,rfl⟩
theorem U5 (s:bz) (aT:fI s) (a l:Int) (aC:dJ s a l≠0):Fn Tryz.prog 92 [aI 1001,aD a,aD l] (dh s) [] (.c8 [.one .ee,fO (dJ s a l)]) (dh s):=by
 refine Fn.of aj [] _ _ _ _ _ Tryz.func92 rfl rfl (by kernel_rfl) (by kernel_rfl) rfl (aK aj) rfl ?_
 refine⟨rfl,?_⟩
 refine⟨_,_,_,_,vz s aT a l,⟨rfl,rfl,rfl,rfl,trivial⟩,rfl,?_⟩
 refine⟨fun _=>?_,fun h=>absurd (show dJ s a l=0 by have h:(!decide (dJ s a l=0))=false:=h;simpa using h) aC⟩
 exact⟨_,_,_,ah.refl _ _,rfl,⟨rfl,rfl,trivial⟩,⟨rfl,rfl,rfl,rfl,trivial⟩,rfl⟩
theorem qQ {s:bz} (aT:fI s) {a l:Nat} (c9:a+l≤eO s) {k:Nat} (au:k < b5 (wid s) a l):(aR (wid s) a l k).c < s.t.length∧k≤3000:=by
 have dW:=oB aT.bits
 have s4:eO s≤2048:=Nat.mul_le_mul aT.tl (mA aT.bits).2
 obtain⟨dO,cZ,dA,dB⟩:=p9 dW au
 refine⟨?_,?_⟩
 ·have e:eO s*16=s.t.length*wid s:=by unfold eO wid;rw[Nat.mul_assoc,Nat.mul_comm (2 ^s.bits) 16]
  have aa:(aR (wid s) a l k).c*wid s < s.t.length*wid s:=by omega
  exact Nat.lt_of_mul_lt_mul_right aa
 ·have aa:=(uv (a:=a) (l:=l) (k:=k) dW).2 au
  rcases dW with e |e |e |e <;>rw[e] at aa <;>omega
theorem rR {s:bz} {a l:Nat} (aC:dJ s a l=0):a+l≤eO s:=by
 unfold dJ at aC
 split at aC
 ·cases aC
 ·split at aC
  ·cases aC
  ·omega
def fP (s:bz) (a l:Nat):Nat→Nat
 |0=>0
 |k+1=>fP s a l k+(if gw s (aR (wid s) a l k).c=true then 1 else 0)
def k4 (bs:List UInt8) (p:lM):List UInt8:=(bs.take (p.at_+p.b - p.a)).drop p.at_
def gD (s:bz) (a l:Nat) (bs:List UInt8) (y:Nat→List UInt8):Nat→bz
 |0=>s
 |k+1=>xw (gD s a l bs y k) (aR (wid s) a l k) (k4 bs (aR (wid s) a l k)) (y (aR (wid s) a l k).c)
theorem U6 (s:bz) (a l k:Nat):fP s a l k≤k:=by
 induction k with
 |zero=>exact Nat.le_refl _
 |succ k aY=>
  show fP s a l k+_≤k+1
  split <;>omega
@[reducible] def Hy (s:bz) (R:bn→bK) (bs:List UInt8) (bQ cn:Nat) (n:Nat):aG:=fy s R++[(4,.cells [.ptr 1001 0]),(6,.cells [.d (.cW .u8 bs)]),(7,.cells [.d (.fn (114,[bQ,cn]))]),(11,.cells [.d (.int .i64 (n:Int))])]
@[reducible] def Bk (s:bz) (R:bn→bK) (bs:List UInt8) (bQ cn:Nat):aG:=fy s R++[(4,.cells [.ptr 1001 0]),(6,.cells [.d (.cW .u8 bs)]),(7,.cells [.d (.fn (114,[bQ,cn]))])]
@[reducible] def Hz (a l:Nat):aQ:=[(1,aD (a:Int)),(4,aI 4),(6,aI 6),(7,aI 7),(9,aD (l:Int))]
@[reducible] def HA (a l:Nat):aQ:=[(1,aD (a:Int)),(4,aI 4),(6,aI 6),(7,aI 7),(9,aD (l:Int)),(11,aI 11)]
set_option maxHeartbeats 1000000 in
theorem U7 (s:bz) (R:bn→bK) (bQ cn:Nat) (aT:fI s) (a l:Nat) (bs:List UInt8) (eC:bs.length=16*l) (aC:dJ s a l=0) (y:Nat→List UInt8) (r:Int) (s':bz) (eS:zeros s.l < fP s a l (b5 (wid s) a l)→r=120∧s'=s) (HB:fP s a l (b5 (wid s) a l)≤zeros s.l→r=0∧s'=gD s a l bs y (b5 (wid s) a l))
  (iq:fP s a l (b5 (wid s) a l)≤zeros s.l→ ∀k,k < b5 (wid s) a l→Fn Tryz.prog 119 [aI 1001,p7 (aR (wid s) a l k),cJ .u8 (k4 bs (aR (wid s) a l k)),m4 bQ cn] (fy (gD s a l bs y k) R) [] sM (fy (gD s a l bs y (k+1)) R)) (zf:fP s a l (b5 (wid s) a l)≤zeros s.l→ ∀k,k≤b5 (wid s) a l→(gD s a l bs y k).bits=s.bits):
  Fn Tryz.prog 91 [aI 1001,aD (a:Int),cJ .u8 bs,m4 bQ cn] (fy s R) [] (aD r) (fy s' R):=by
 have dW:=oB aT.bits
 have c9:=rR aC
 have s4:eO s≤2048:=Nat.mul_le_mul aT.tl (mA aT.bits).2
 have bh:((bs.length:Nat):Int)/16=(l:Int):=by omega
 have hr:((bs.length:Nat):Int) % 16=0:=by omega
 refine Fn.of aj [4,7,8,12,14,17] _ _ _ _ _ Tryz.func91 rfl rfl (by kernel_rfl) (by kernel_rfl) rfl (aK aj) rfl ?_
 refine⟨rfl,rfl,rfl,?_⟩
 have bw:(0:Int)≤((bs.length:Nat):Int)∧(0:Int) < 16:=by omega
 have bX:(-9223372036854775808:Int)≤((bs.length:Nat):Int)/16∧((bs.length:Nat):Int)/16≤9223372036854775807:=by omega
 have fT:(-9223372036854775808:Int)≤((bs.length:Nat):Int) % 16∧((bs.length:Nat):Int) % 16≤9223372036854775807:=by omega
 refine⟨bw,bX,?_⟩
 refine⟨bw,fT,?_⟩
 refine⟨fun h=>(by
  have h:(!decide ((((bs.length:Nat):Int)) % 16=0))=true:=h
  rw[decide_eq_true hr] at h
  cases h),fun _=>?_⟩
 show aE _ _ _ _ _ _ _
 refine aE.go aj (aK aj) [7] (by kernel_rfl) (ah.sub (K':=[(1,aD (a:Int)),(4,aI 4),(6,aI 6),(7,aI 7),(9,aD (l:Int))]) (B':=Bk s R bs bQ cn) ⟨rfl,rfl,rfl,rfl,bh,trivial⟩ ⟨rfl,rfl,rfl,rfl,rfl,rfl,rfl,rfl,trivial⟩) ?_
 refine⟨_,_,_,_,vz s aT a l,⟨rfl,rfl,rfl,rfl,trivial⟩,rfl,?_⟩
 rw[aC]
 refine⟨fun h=>absurd h (by decide),fun _=>?_⟩
 show aE _ _ _ _ _ _ _
 refine aE.go aj (aK aj) [8] (by kernel_rfl) (ah.refl _ _) ?_
 refine⟨rfl,?_⟩
 show aE _ _ _ _ _ _ _
 refine aE.go aj (aK aj) [] (by kernel_rfl) (ah.sub (K':=HA a l) (B':=Hy s R bs bQ cn 0) ⟨rfl,rfl,rfl,rfl,rfl,rfl,trivial⟩ ⟨rfl,rfl,rfl,rfl,rfl,rfl,rfl,rfl,rfl,trivial⟩) ?_
 refine⟨_,_,_,_,zc s a l,⟨rfl,rfl,rfl,rfl,trivial⟩,rfl,?_⟩
 show aE _ _ _ _ _ _ _
 refine aE.le (ah.sub (K':=(31,.c (.one (.eH 133 [.p 2001 0,.p 2002 0,.p 2003 0])))::HA a l) (B':=qa a l++Hy s R bs bQ cn 0) ⟨rfl,rfl,rfl,rfl,rfl,rfl,rfl,trivial⟩ ⟨rfl,rfl,rfl,rfl,rfl,rfl,rfl,rfl,rfl,rfl,rfl,rfl,trivial⟩) ?_
 refine aE.range aj [] (pl:=[32]) rfl (by kernel_rfl) (by kernel_rfl) (by kernel_rfl) (by kernel_rfl) [1001,1002,1003,1004,9000,4,6,7,11] _ (HA a l) (qa a l) (fun k:Nat=>Hy s R bs bQ cn (fP s a l k)) 1001 0 (b5 (wid s) a l) (fun k vs k'=>k < b5 (wid s) a l∧vs=[p7 (aR (wid s) a l k)]∧k'=k+1) rfl (by exact⟨rfl,rfl,rfl,rfl,rfl,rfl,trivial⟩) rfl rfl ?_ ?_ ?_
 ·rintro k vs k' ⟨au,rfl,rfl⟩
  obtain⟨hc,qP⟩:=qQ aT c9 au
  have U8:=U6 s a l k
  refine⟨rfl,rfl,?_⟩
  refine⟨rfl,?_⟩
  refine⟨rfl,?_⟩
  refine⟨_,_,_,_,Hr s aT.tl _ hc,⟨rfl,rfl,rfl,rfl,trivial⟩,rfl,?_⟩
  refine⟨fun hn=>?_,fun hn=>?_⟩
  ·have e:((fP s a l k:Nat):Int)+1=((fP s a l (k+1):Nat):Int):=by
    show _=((fP s a l k+_:Nat):Int)
    rw[if_pos hn]
    omega
   have kK:(-9223372036854775808:Int)≤((fP s a l k:Nat):Int)+1∧((fP s a l k:Nat):Int)+1≤9223372036854775807:=by omega
   refine⟨kK,?_⟩
   exact⟨rfl,ah.sub trivial ⟨rfl,rfl,rfl,rfl,rfl,rfl,rfl,rfl,by rw[←e];rfl,trivial⟩⟩
  ·have e:fP s a l (k+1)=fP s a l k:=by
    show fP s a l k+_=_
    rw[if_neg (by rw[hn];decide)]
    exact Nat.add_zero _
   exact⟨rfl,ah.sub trivial ⟨rfl,rfl,rfl,rfl,rfl,rfl,rfl,rfl,by rw[e];rfl,trivial⟩⟩
 ·intro y fu rQ aF
  exact zb y (wid s) a l dW (by omega) (by omega) fu (fun k=>rQ _ _ _ k k (Fn.more [(9000,.dep 1001 R),(4,.cells [.ptr 1001 0]),(6,.cells [.d (.cW .u8 bs)]),(7,.cells [.d (.fn (114,[bQ,cn]))]),(11,.cells [.d (.int .i64 (fP s a l k:Int))])] (p6 s aT.bits) rfl rfl) rfl rfl) (fun k au=>aF k _ (k+1) ⟨au,rfl,rfl⟩)
 ·have aS:zeros s.l≤512:=Nat.le_trans (Hj _) aT.k3
  show aE _ _ _ _ _ _ _
  refine aE.go aj (aK aj) [14,17] (by kernel_rfl) (ah.refl _ _) ?_
  refine⟨_,_,_,_,ME s (by have:=aT.k3;omega),⟨rfl,rfl,rfl,rfl,trivial⟩,rfl,?_⟩
  refine⟨rfl,?_⟩
  refine⟨fun h=>?_,fun h=>?_⟩
  ·have h:((zeros s.l:Nat):Int) < ((fP s a l (b5 (wid s) a l):Nat):Int):=of_decide_eq_true h
   obtain⟨rfl,rfl⟩:=eS (by omega)
   exact⟨_,_,_,ah.refl _ _,rfl,rfl,⟨rfl,rfl,rfl,rfl,rfl,trivial⟩,rfl⟩
  have h: ¬((zeros s.l:Nat):Int) < ((fP s a l (b5 (wid s) a l):Nat):Int):=of_decide_eq_false h
  have dD:fP s a l (b5 (wid s) a l)≤zeros s.l:=by omega
  obtain⟨rfl,rfl⟩:=HB dD
  have iq:=iq dD
  have zf:=zf dD
  show aE _ _ _ _ _ _ _
  refine aE.go aj (aK aj) [17] (by kernel_rfl) (ah.sub (K':=Hz a l) (B':=Bk s R bs bQ cn) ⟨rfl,rfl,rfl,rfl,rfl,trivial⟩ ⟨rfl,rfl,rfl,rfl,rfl,rfl,rfl,rfl,trivial⟩) ?_
  refine⟨_,_,_,_,zc s a l,⟨rfl,rfl,rfl,rfl,trivial⟩,rfl,?_⟩
  show aE _ _ _ _ _ _ _
  refine aE.le (ah.sub (K':=(45,.c (.one (.eH 133 [.p 2001 0,.p 2002 0,.p 2003 0])))::Hz a l) (B':=qa a l++Bk s R bs bQ cn) ⟨rfl,rfl,rfl,rfl,rfl,rfl,trivial⟩ ⟨rfl,rfl,rfl,rfl,rfl,rfl,rfl,rfl,rfl,rfl,rfl,trivial⟩) ?_
  refine aE.range aj [] (pl:=[46]) rfl (by kernel_rfl) (by kernel_rfl) (by kernel_rfl) (by kernel_rfl) [1001,1002,1003,1004,9000,4,6,7] _ (Hz a l) (qa a l) (fun k:Nat=>Bk (gD s a l bs y k) R bs bQ cn) 1001 0 (b5 (wid s) a l) (fun k vs k'=>k < b5 (wid s) a l∧vs=[p7 (aR (wid s) a l k)]∧k'=k+1) rfl (by exact⟨rfl,rfl,rfl,rfl,rfl,trivial⟩) rfl rfl ?_ ?_ ?_
  ·rintro k vs k' ⟨au,rfl,rfl⟩
   obtain⟨hc,qP⟩:=qQ aT c9 au
   obtain⟨dO,cZ,dA,dB⟩:=p9 dW au
   have iq:=iq k au
   have hw:=uq aT.bits
   refine⟨rfl,rfl,?_⟩
   refine⟨rfl,?_⟩
   refine⟨rfl,?_⟩
   have hx:k4 bs (aR (wid s) a l k)=(bs.take (((aR (wid s) a l k).at_:Int)+((aR (wid s) a l k).b:Int) - ((aR (wid s) a l k).a:Int)).toNat).drop (((aR (wid s) a l k).at_:Int)).toNat:=by
    unfold k4
    rw[show(((aR (wid s) a l k).at_:Int)+((aR (wid s) a l k).b:Int) - ((aR (wid s) a l k).a:Int)).toNat=(aR (wid s) a l k).at_+(aR (wid s) a l k).b - (aR (wid s) a l k).a by omega]
    rfl
   have kK:(-9223372036854775808:Int)≤((aR (wid s) a l k).at_:Int)+((aR (wid s) a l k).b:Int)∧((aR (wid s) a l k).at_:Int)+((aR (wid s) a l k).b:Int)≤9223372036854775807:=by omega
   have sZ:(-9223372036854775808:Int)≤((aR (wid s) a l k).at_:Int)+((aR (wid s) a l k).b:Int) - ((aR (wid s) a l k).a:Int)∧((aR (wid s) a l k).at_:Int)+((aR (wid s) a l k).b:Int) - ((aR (wid s) a l k).a:Int)≤9223372036854775807:=by omega
   have qR:(0:Int)≤((aR (wid s) a l k).at_:Int)∧((aR (wid s) a l k).at_:Int)≤((aR (wid s) a l k).at_:Int)+((aR (wid s) a l k).b:Int) - ((aR (wid s) a l k).a:Int)∧((aR (wid s) a l k).at_:Int)+((aR (wid s) a l k).b:Int) - ((aR (wid s) a l k).a:Int)≤((bs.length:Nat):Int):=by omega
   rw[hx] at iq
   refine⟨kK,sZ,qR,?_⟩
   refine⟨_,_,_,_,iq,⟨rfl,rfl,rfl,rfl,rfl,trivial⟩,rfl,?_⟩
   refine⟨rfl,?_⟩
   exact⟨rfl,ah.sub trivial ⟨rfl,rfl,rfl,rfl,rfl,rfl,rfl,rfl,trivial⟩⟩
  ·intro xz fu rQ aF
   have h:=zb xz (wid s) a l dW (by omega) (by omega) (fun k=>fu (min k (b5 (wid s) a l))) (fun k=>rQ _ _ _ (min k (b5 (wid s) a l)) (min k (b5 (wid s) a l)) (by
    have ag:=zf (min k (b5 (wid s) a l)) (Nat.min_le_right _ _)
    have af:=p6 (gD s a l bs y (min k (b5 (wid s) a l))) (by rw[ag];exact aT.bits)
    rw[show wid (gD s a l bs y (min k (b5 (wid s) a l)))=wid s from congrArg (fun b=>16*2 ^b) ag] at af
    exact Fn.more [(9000,.dep 1001 R),(4,.cells [.ptr 1001 0]),(6,.cells [.d (.cW .u8 bs)]),(7,.cells [.d (.fn (114,[bQ,cn]))])] af rfl rfl) rfl rfl) (fun k au=>by
    have h:=aF k _ (k+1) ⟨au,rfl,rfl⟩
    rw[Nat.min_eq_left (by omega),Nat.min_eq_left (by omega)]
    exact h)
   simp only[Nat.zero_min,Nat.min_self] at h
   exact h
  ·show aE _ _ _ _ _ _ _
   refine aE.go aj (aK aj) [] (by kernel_rfl) (ah.refl _ _) ?_
   exact⟨_,_,_,ah.refl _ _,rfl,rfl,⟨rfl,rfl,rfl,rfl,rfl,trivial⟩,rfl⟩
theorem U9 (s:bz) (R:bn→bK) (bQ cn:Nat) (a:Int) (bs:List UInt8) (h:bs.length % 16≠0) (aB:bs.length≤1000000000):Fn Tryz.prog 91 [aI 1001,aD a,cJ .u8 bs,m4 bQ cn] (fy s R) [] (aD 1) (fy s R):=by
 have hr: ¬((bs.length:Nat):Int) % 16=0:=by omega
 refine Fn.of aj [] _ _ _ _ _ Tryz.func91 rfl rfl (by kernel_rfl) (by kernel_rfl) rfl (aK aj) rfl ?_
 refine⟨rfl,rfl,rfl,?_⟩
 have bw:(0:Int)≤((bs.length:Nat):Int)∧(0:Int) < 16:=by omega
 have bX:(-9223372036854775808:Int)≤((bs.length:Nat):Int)/16∧((bs.length:Nat):Int)/16≤9223372036854775807:=by omega
 have fT:(-9223372036854775808:Int)≤((bs.length:Nat):Int) % 16∧((bs.length:Nat):Int) % 16≤9223372036854775807:=by omega
 refine⟨bw,bX,?_⟩
 refine⟨bw,fT,?_⟩
 refine⟨fun _=>?_,fun h=>(by
  have h:(!decide ((((bs.length:Nat):Int)) % 16=0))=false:=h
  rw[decide_eq_false hr] at h
  cases h)⟩
 exact⟨_,_,_,ah.refl _ _,rfl,rfl,⟨rfl,rfl,rfl,rfl,rfl,trivial⟩,rfl⟩
theorem U' (s:bz) (R:bn→bK) (bQ cn:Nat) (aT:fI s) (a:Int) (l:Nat) (bs:List UInt8) (eC:bs.length=16*l) (aB:l≤100000000) (aC:dJ s a l≠0):Fn Tryz.prog 91 [aI 1001,aD a,cJ .u8 bs,m4 bQ cn] (fy s R) [] (aD (dJ s a l)) (fy s R):=by
 have bh:((bs.length:Nat):Int)/16=(l:Int):=by omega
 have hr:((bs.length:Nat):Int) % 16=0:=by omega
 refine Fn.of aj [4] _ _ _ _ _ Tryz.func91 rfl rfl (by kernel_rfl) (by kernel_rfl) rfl (aK aj) rfl ?_
 refine⟨rfl,rfl,rfl,?_⟩
 have bw:(0:Int)≤((bs.length:Nat):Int)∧(0:Int) < 16:=by omega
 have bX:(-9223372036854775808:Int)≤((bs.length:Nat):Int)/16∧((bs.length:Nat):Int)/16≤9223372036854775807:=by omega
 have fT:(-9223372036854775808:Int)≤((bs.length:Nat):Int) % 16∧((bs.length:Nat):Int) % 16≤9223372036854775807:=by omega
 refine⟨bw,bX,?_⟩
 refine⟨bw,fT,?_⟩
 refine⟨fun h=>(by
  have h:(!decide ((((bs.length:Nat):Int)) % 16=0))=true:=h
  rw[decide_eq_true hr] at h
  cases h),fun _=>?_⟩
 show aE _ _ _ _ _ _ _
 refine aE.go aj (aK aj) [] (by kernel_rfl) (ah.sub (K':=[(1,aD a),(4,aI 4),(9,aD (l:Int))]) (B':=Bk s R bs bQ cn) ⟨rfl,rfl,bh,trivial⟩ ⟨rfl,rfl,rfl,rfl,rfl,rfl,rfl,rfl,trivial⟩) ?_
 refine⟨_,_,_,_,vz s aT a l,⟨rfl,rfl,rfl,rfl,trivial⟩,rfl,?_⟩
 refine⟨fun _=>?_,fun h=>absurd (show dJ s a l=0 by have h:(!decide (dJ s a l=0))=false:=h;simpa using h) aC⟩
 exact⟨_,_,_,ah.refl _ _,rfl,rfl,⟨rfl,rfl,rfl,rfl,rfl,trivial⟩,rfl⟩
def iI (s:bz) (a l:Nat):Nat→bz
 |0=>s
 |k+1=>if(aR (wid s) a l k).b - (aR (wid s) a l k).a=wid s then qO (iI s a l k) (aR (wid s) a l k).c s0 else iI s a l k
@[reducible] def HC (s:bz):aG:=dh s++[(3,.cells [.ptr 1001 0])]
@[reducible] def MR:aQ:=[(3,aI 3)]
set_option maxHeartbeats 1000000 in
theorem Va (s:bz) (aT:fI s) (a l:Nat) (aC:dJ s a l=0) (iq: ∀k,k < b5 (wid s) a l→Fn Tryz.prog 127 [aI 1001,aD ((aR (wid s) a l k).c:Int),.c (oX s0)] (dh (iI s a l k)) [] sM (dh (qO (iI s a l k) (aR (wid s) a l k).c s0))) (zf: ∀k,k≤b5 (wid s) a l→(iI s a l k).bits=s.bits):
  Fn Tryz.prog 102 [aI 1001,aD (a:Int),aD (l:Int)] (dh s) [] (aD 0) (dh (iI s a l (b5 (wid s) a l))):=by
 have dW:=oB aT.bits
 have hw:=uq aT.bits
 have c9:=rR aC
 have s4:eO s≤2048:=Nat.mul_le_mul aT.tl (mA aT.bits).2
 refine Fn.of aj [4,8] _ _ _ _ _ Tryz.func102 rfl rfl (by kernel_rfl) (by kernel_rfl) rfl (aK aj) rfl ?_
 refine⟨rfl,?_⟩
 refine⟨_,_,_,_,vz s aT a l,⟨rfl,rfl,rfl,rfl,trivial⟩,rfl,?_⟩
 rw[aC]
 refine⟨fun h=>absurd h (by decide),fun _=>?_⟩
 show aE _ _ _ _ _ _ _
 refine aE.go aj (aK aj) [8] (by kernel_rfl) (ah.sub (K':=[(1,aD (a:Int)),(2,aD (l:Int)),(3,aI 3)]) (B':=HC s) ⟨rfl,rfl,rfl,trivial⟩ ⟨rfl,rfl,rfl,rfl,rfl,trivial⟩) ?_
 refine⟨_,_,_,_,zc s a l,⟨rfl,rfl,rfl,rfl,trivial⟩,rfl,?_⟩
 show aE _ _ _ _ _ _ _
 refine aE.le (ah.sub (K':=(19,.c (.one (.eH 133 [.p 2001 0,.p 2002 0,.p 2003 0])))::MR) (B':=qa a l++HC s) ⟨rfl,rfl,trivial⟩ ⟨rfl,rfl,rfl,rfl,rfl,rfl,rfl,rfl,trivial⟩) ?_
 refine aE.range aj [] (pl:=[20]) rfl (by kernel_rfl) (by kernel_rfl) (by kernel_rfl) (by kernel_rfl) [1001,1002,1003,1004,3] _ MR (qa a l) (fun k:Nat=>HC (iI s a l k)) 1001 0 (b5 (wid s) a l) (fun k vs k'=>k < b5 (wid s) a l∧vs=[p7 (aR (wid s) a l k)]∧k'=k+1) rfl (by exact⟨rfl,trivial⟩) rfl rfl ?_ ?_ ?_
 ·rintro k vs k' ⟨au,rfl,rfl⟩
  obtain⟨dO,cZ,dA,dB⟩:=p9 dW au
  have iq:=iq k au
  have ag:=zf k (Nat.le_of_lt au)
  have af:=p6 (iI s a l k) (by rw[ag];exact aT.bits)
  rw[show wid (iI s a l k)=wid s from congrArg (fun b=>16*2 ^b) ag] at af
  have kK:(-9223372036854775808:Int)≤((aR (wid s) a l k).b:Int) - ((aR (wid s) a l k).a:Int)∧((aR (wid s) a l k).b:Int) - ((aR (wid s) a l k).a:Int)≤9223372036854775807:=by omega
  refine⟨rfl,rfl,?_⟩
  refine⟨rfl,?_⟩
  refine⟨rfl,?_⟩
  refine⟨kK,?_⟩
  refine⟨_,_,_,_,af,⟨rfl,rfl,rfl,rfl,trivial⟩,rfl,?_⟩
  refine⟨rfl,?_⟩
  refine⟨fun h=>?_,fun h=>?_⟩
  ·have h:((aR (wid s) a l k).b:Int) - ((aR (wid s) a l k).a:Int)=((wid s:Nat):Int):=of_decide_eq_true h
   have e:iI s a l (k+1)=qO (iI s a l k) (aR (wid s) a l k).c s0:=if_pos (by omega)
   refine⟨_,_,_,_,Fn.arg iq ⟨rfl,rfl,⟨rfl,rfl,rfl,trivial⟩,trivial⟩,⟨rfl,rfl,rfl,rfl,trivial⟩,rfl,?_⟩
   rw[e]
   exact⟨rfl,ah.sub trivial ⟨rfl,rfl,rfl,rfl,rfl,trivial⟩⟩
  ·have h: ¬((aR (wid s) a l k).b:Int) - ((aR (wid s) a l k).a:Int)=((wid s:Nat):Int):=of_decide_eq_false h
   have e:iI s a l (k+1)=iI s a l k:=if_neg (by omega)
   rw[e]
   exact⟨rfl,ah.sub trivial ⟨rfl,rfl,rfl,rfl,rfl,trivial⟩⟩
 ·intro xz fu rQ aF
  have h:=zb xz (wid s) a l dW (by omega) (by omega) (fun k=>fu (min k (b5 (wid s) a l))) (fun k=>rQ _ _ _ (min k (b5 (wid s) a l)) (min k (b5 (wid s) a l)) (by
   have ag:=zf (min k (b5 (wid s) a l)) (Nat.min_le_right _ _)
   have af:=p6 (iI s a l (min k (b5 (wid s) a l))) (by rw[ag];exact aT.bits)
   rw[show wid (iI s a l (min k (b5 (wid s) a l)))=wid s from congrArg (fun b=>16*2 ^b) ag] at af
   exact Fn.more [(3,.cells [.ptr 1001 0])] af rfl rfl) rfl rfl) (fun k au=>by
   have h:=aF k _ (k+1) ⟨au,rfl,rfl⟩
   rw[Nat.min_eq_left (by omega),Nat.min_eq_left (by omega)]
   exact h)
  simp only[Nat.zero_min,Nat.min_self] at h
  exact h
 ·show aE _ _ _ _ _ _ _
  refine aE.go aj (aK aj) [] (by kernel_rfl) (ah.refl _ _) ?_
  exact⟨_,_,_,ah.refl _ _,rfl,rfl,⟨rfl,rfl,rfl,rfl,trivial⟩,rfl⟩
theorem Vb (s:bz) (aT:fI s) (a l:Int) (aC:dJ s a l≠0):Fn Tryz.prog 102 [aI 1001,aD a,aD l] (dh s) [] (aD (dJ s a l)) (dh s):=by
 refine Fn.of aj [] _ _ _ _ _ Tryz.func102 rfl rfl (by kernel_rfl) (by kernel_rfl) rfl (aK aj) rfl ?_
 refine⟨rfl,?_⟩
 refine⟨_,_,_,_,vz s aT a l,⟨rfl,rfl,rfl,rfl,trivial⟩,rfl,?_⟩
 refine⟨fun _=>?_,fun h=>absurd (show dJ s a l=0 by have h:(!decide (dJ s a l=0))=false:=h;simpa using h) aC⟩
 exact⟨_,_,_,ah.refl _ _,rfl,rfl,⟨rfl,rfl,rfl,rfl,trivial⟩,rfl⟩
end Go.Proofs.YteoamepgonpdlaaGreat
