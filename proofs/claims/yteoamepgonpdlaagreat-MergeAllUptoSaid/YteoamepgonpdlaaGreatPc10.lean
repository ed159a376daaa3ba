/-
Part 10 of the proof that stands in YteoamepgonpdlaaGreatPcRow, with what it needs from the parts ahead; the parts of this text: Iw.
-/
import Derived.Test.YteoamepgonpdlaaGreatPc9
set_option linter.unusedVariables false
set_option linter.unusedSimpArgs false
set_option maxRecDepth 10000
namespace Go.Proofs.YteoamepgonpdlaaGreat
open Go.RowKit Go.Proofs
structure bE where
 bits:Nat
 t:List eG
 l:List Int
 f:k3
@[reducible] def VI (n:Int):List bD:=[.d (.int .i64 n),.ptr 1002 0,.ptr 1003 0,.mp 1004,.ec]
@[reducible] def di (s:bE):aG:=[(1001,.cells (VI s.bits)),(1002,.obj (rE s.t)),(1003,.obj (rF s.l)),(1004,.obj (mX s.f))]
def jd (s:bE):bN:=.uQ 1001 (di s)
theorem VJ (t:List eG):Fn Tryz.prog 105 [aH 1001] [(1001,.obj (rE t))] [] (aC (t.length:Nat)) [(1001,.obj (rE t))]:=
 Fn.Hr (tF:=fun es:{es//ot t es}=>.uQ 1001 (oZ (t.length:Nat) es.1)) (by kernel_rfl) (fun _ _ _ _ ⟨es,h,bk⟩=>⟨⟨es,h⟩,bk⟩) fun es=>
  Fn.close [1002] (Vg _ es.1) (fun _ _ _ _ h=>h) (fun _ _ _ _ h=>⟨es.1,es.2,h⟩) rfl rfl
theorem BO (t:List eG) (aB:t.length≤256) (c:Nat) (hc:c < t.length):Fn Tryz.prog 108 [aH 1001,aC (c:Int)] [(1001,.obj (rE t))] [] (.c (pY t[c])) [(1001,.obj (rE t))]:=
 Fn.Hr (tF:=fun es:{es//ot t es}=>.uQ 1001 (oZ (t.length:Nat) es.1)) (by kernel_rfl) (fun _ _ _ _ ⟨es,h,bk⟩=>⟨⟨es,h⟩,bk⟩) fun es=>
  Fn.close [1002] (Nj es.2 aB c hc) (fun _ _ _ _ h=>h) (fun _ _ _ _ h=>⟨es.1,es.2,h⟩) rfl rfl
theorem VK (t:List eG) (aB:t.length≤256) (c:Nat) (hc:c < t.length) (s:eG) (hs:tM s) (hr:rD s=true):
  Fn Tryz.prog 145 [aH 1001,aC (c:Int),.c (pY s)] [(1001,.obj (rE t))] [] (.c6 [pY t[c],fh 0]) [(1001,.obj (rE (t.set c s)))]:=
 Fn.Hr (tF:=fun es:{es//ot t es}=>.uQ 1001 (oZ (t.length:Nat) es.1)) (by kernel_rfl) (fun _ _ _ _ ⟨es,h,bk⟩=>⟨⟨es,h⟩,bk⟩) fun es=>
  Fn.close [1002] (Vo es.2 aB c hc s hs hr) (fun _ _ _ _ h=>h) (fun _ _ _ _ h=>⟨_,es.2.set c s hs,by rw[List.length_set];exact h⟩) rfl rfl
theorem VL (l:List Int) (h:Nat) (n:Int) (hn:l[h]? =some n) (aa:1≤n) (af:n≤65535):Fn Tryz.prog 153 [aH 1001,aC (h:Int)] [(1001,.obj (rF l))] [] (.c6 [.one (.d (.int .i64 (n - 1))),fh 0]) [(1001,.obj (rF (l.set h (n - 1))))]:=
 Fn.close [1002] (Vu l h n hn aa af) (fun _ _ _ _ h=>h) (fun _ _ _ _ h=>h) rfl rfl
theorem VM (l:List Int) (aB:l.length≤1000000):Fn Tryz.prog 135 [aH 1001] [(1001,.obj (rF l))] [] (aC (zeros l:Nat)) [(1001,.obj (rF l))]:=
 Fn.close [1002] (Vx l aB) (fun _ _ _ _ h=>h) (fun _ _ _ _ h=>h) rfl rfl
theorem VN (l:List Int) (aB:l.length≤1000000) (h:Nat) (bZ:l[h]? =some 0) (hf: ∀j,j < h→l[j]? ≠some 0):Fn Tryz.prog 136 [aH 1001] [(1001,.obj (rF l))] [] (.c6 [.one (.d (.int .i64 (h:Int))),fh 0]) [(1001,.obj (rF (l.set h 1)))]:=
 Fn.close [1002] (Vz l aB h bZ hf) (fun _ _ _ _ h=>h) (fun _ _ _ _ h=>h) rfl rfl
def wid (s:bE):Nat:=16*2 ^s.bits
theorem k5 {b:Nat} (h:b≤3):1≤2 ^b∧2 ^b≤8:=by
 match b,h with
 |0,_=>decide
 |1,_=>decide
 |2,_=>decide
 |3,_=>decide
theorem u0 {s:bE} (h:s.bits≤3):16≤wid s∧wid s≤128:=by
 have:=k5 h
 unfold wid
 omega
theorem qC (s:bE) (ag:s.bits≤3):Fn Tryz.prog 126 [aH 1001] (di s) [] (aC (wid s:Nat)) (di s):=by
 have h:=k5 ag
 have e:(16:Int)*((2 ^s.bits:Nat):Int)=((wid s:Nat):Int):=by unfold wid;omega
 refine Fn.of ai [] _ _ _ _ _ Tryz.func126 rfl rfl (by kernel_rfl) (by kernel_rfl) rfl (aJ ai) rfl ?_
 have m:(0:Int)≤16∧(0:Int)≤(s.bits:Int)∧(s.bits:Int)≤64:=by omega
 have m2:(-9223372036854775808:Int)≤16*((2 ^s.bits:Nat):Int)∧(16:Int)*((2 ^s.bits:Nat):Int)≤9223372036854775807:=by omega
 refine⟨m,m2,?_⟩
 exact⟨_,_,_,ah.refl _ _,rfl,e,⟨rfl,rfl,rfl,rfl,trivial⟩,rfl⟩
theorem qD (s:bE):Fn Tryz.prog 64 [aH 1001] (di s) [] (aC (s.t.length:Nat)) (di s):=by
 refine Fn.of ai [] _ _ _ _ _ Tryz.func64 rfl rfl (by kernel_rfl) (by kernel_rfl) rfl (aJ ai) rfl ?_
 refine⟨_,_,_,_,Fn.ren [(1001,1002)] (VJ s.t),⟨rfl,trivial⟩,rfl,?_⟩
 exact⟨_,_,_,ah.refl _ _,rfl,rfl,⟨rfl,rfl,rfl,rfl,trivial⟩,rfl⟩
theorem VO (s:bE) (aB:s.t.length≤256) (c:Nat) (hc:c < s.t.length):Fn Tryz.prog 76 [aH 1001,aC (c:Int)] (di s) [] (aC (s.t[c]).1) (di s):=by
 refine Fn.of ai [] _ _ _ _ _ Tryz.func76 rfl rfl (by kernel_rfl) (by kernel_rfl) rfl (aJ ai) rfl ?_
 refine⟨_,_,_,_,Fn.ren [(1001,1002)] (BO s.t aB c hc),⟨rfl,trivial⟩,rfl,?_⟩
 refine⟨_,_,fun N=>HP rfl Tryz.underlying188 rfl Tryz.underlying3 rfl rfl rfl N,rfl,?_⟩
 exact⟨_,_,_,ah.refl _ _,rfl,rfl,⟨rfl,rfl,rfl,rfl,trivial⟩,rfl⟩
theorem Nx (s:bE) (aB:s.l.length≤1000000):Fn Tryz.prog 118 [aH 1001] (di s) [] (aC (zeros s.l:Nat)) (di s):=by
 refine Fn.of ai [] _ _ _ _ _ Tryz.func118 rfl rfl (by kernel_rfl) (by kernel_rfl) rfl (aJ ai) rfl ?_
 refine⟨_,_,_,_,Fn.ren [(1001,1003),(1002,2003)] (VM s.l aB),⟨rfl,trivial⟩,rfl,?_⟩
 exact⟨_,_,_,ah.refl _ _,rfl,rfl,⟨rfl,rfl,rfl,rfl,trivial⟩,rfl⟩
theorem Ny (x:List UInt8) (hx:x.length≤4294967296):Fn Tryz.prog 137 [iO 1001] [(1001,.row 5 .u8 x)] [1002] (iO 1002) [(1001,.row 5 .u8 x),(1002,.row 5 .u8 x)]:=by
 refine Fn.of ai [1] _ _ _ _ _ Tryz.func137 rfl rfl (by kernel_rfl) (by kernel_rfl) rfl (aJ ai) rfl ?_
 show av _ _ _ _ _ _ _
 refine av.uP ai (by kernel_rfl) ?_
 refine⟨_,US (c:=1001) rfl rfl rfl Tryz.underlying34,fun v e h=>?_⟩
 obtain⟨b,ag,rfl,rfl⟩:=h
 cases b
 ·refine⟨rfl,?_⟩
  have m1:([]:List UInt8).length+x.length≤4294967296:=by simp;omega
  refine⟨m1,rfl,?_⟩
  exact⟨_,_,_,ah.ren 7 1002 rfl,rfl,rfl,⟨rfl,rfl,trivial⟩,rfl⟩
 ·have ag:=ag rfl
  subst ag
  exact⟨_,_,_,ah.nil 2 1002 5 .u8 rfl rfl,rfl,rfl,⟨rfl,rfl,trivial⟩,rfl⟩
theorem VP (x:List UInt8) (hx:x.length≤4294967296):Fn Tryz.prog 137 [cI .u8 x] [] [2001] (iO 2001) [(2001,.row 5 .u8 x)]:=by
 refine Fn.of ai [1] _ _ _ _ _ Tryz.func137 rfl rfl (by kernel_rfl) (by kernel_rfl) rfl (aJ ai) rfl ?_
 show av _ _ _ _ _ _ _
 refine av.uP ai (by kernel_rfl) ?_
 refine⟨_,UU rfl rfl Tryz.underlying34,fun v e h=>?_⟩
 obtain⟨b,ag,rfl,rfl⟩:=h
 cases b
 ·refine⟨rfl,?_⟩
  have aB:0+x.length≤4294967296:=by omega
  refine⟨aB,rfl,?_⟩
  exact⟨_,_,_,ah.ren 7 2001 rfl,rfl,rfl,⟨rfl,trivial⟩,rfl⟩
 ·have ag:=ag rfl
  subst ag
  exact⟨_,_,_,ah.nil 2 2001 5 .u8 rfl rfl,rfl,rfl,⟨rfl,trivial⟩,rfl⟩
theorem Nz {f:k3} {k:Int} {xs:List UInt8} (h:f k=some xs):jt f k xs=f:=funext fun j=>by
 unfold jt
 split
 ·rename_i e;rw[e,h]
 ·rfl
theorem H8:(Tryz.prog.info? 34).map (fun i=>(i.zero,i.size,i.bytes))=some (some (.slice none 0 0),1,24):=by kernel_rfl
def jV (s:bE):List UInt8:=List.replicate (wid s) 0
def dZ (s:bE) (c:Nat) (y:Option (List UInt8)):List UInt8:=match s.t[c]? with
 |some q=>if q.1=1 then(s.f q.2.1).getD [] else if q.1=0 then(match y with
  |some y=>if y.length=wid s then y else jV s
  |none=>jV s) else jV s
 |none=>[]
theorem VQ (s:bE) (ag:s.bits≤3) (aB:s.t.length≤256) (c:Nat) (hc:c < s.t.length) (hf:(s.t[c]).1=1→ ∃xs,s.f (s.t[c]).2.1=some xs∧xs.length≤128):
  Fn Tryz.prog 120 [aH 1001,aC (c:Int),.c (.one (.raw .nilFunc))] (di s) [2001] (iO 2001) (di s++[(2001,.row 5 .u8 (dZ s c none))]):=by
 obtain⟨inf,i1,i2,i3,i4⟩:=info_parts H8
 have hw:=u0 ag
 have cP:dZ s c none=if(s.t[c]).1=1 then(s.f (s.t[c]).2.1).getD [] else jV s:=by
  unfold dZ
  rw[List.getElem?_eq_getElem hc]
  simp
 refine Fn.of ai [] _ _ _ _ _ Tryz.func120 rfl rfl (by kernel_rfl) (by kernel_rfl) rfl (aJ ai) rfl ?_
 refine⟨_,_,_,_,Fn.ren [(1001,1002)] (BO s.t aB c hc),⟨rfl,trivial⟩,rfl,?_⟩
 refine⟨rfl,?_⟩
 refine⟨fun h=>?_,fun h=>?_⟩
 ·have h:=of_decide_eq_true h
  obtain⟨xs,hx,uE⟩:=hf h
  rw[if_pos h,hx] at cP
  refine⟨_,_,fun N=>D4 (d:=5001) (k:=(s.t[c]).2.1) rfl Tryz.underlying162 Tryz.underlying3 rfl i1 i2 rfl rfl rfl hx N,rfl,?_⟩
  refine⟨_,_,_,_,Fn.ren [(1001,5001),(1002,2001)] (Ny xs (by omega)),⟨rfl,trivial⟩,rfl,?_⟩
  refine⟨rfl,?_⟩
  exact⟨_,_,_,ah.D5 1004 5001 (Nz hx) rfl rfl (by decide) (by rw[hx];rfl),rfl,rfl,⟨rfl,rfl,rfl,rfl,by rw[cP];rfl,trivial⟩,rfl⟩
 ·have h:=of_decide_eq_false h
  rw[if_neg h] at cP
  have m:(0:Int)≤(wid s:Nat)∧((wid s:Nat):Int)≤4294967296:=by omega
  refine⟨fun aE=>?_,fun aE=>?_⟩
  ·refine⟨_,_,fun N=>U8 (.inr ⟨rfl,rfl⟩) rfl Tryz.underlying168 rfl N,rfl,?_⟩
   refine⟨_,_,_,_,qC s ag,⟨rfl,rfl,rfl,rfl,trivial⟩,rfl,?_⟩
   refine⟨⟨rfl,m⟩,rfl,?_⟩
   exact⟨_,_,_,ah.ren 45 2001 rfl,rfl,rfl,⟨rfl,rfl,rfl,rfl,by rw[cP];rfl,trivial⟩,rfl⟩
  ·refine⟨_,_,_,_,qC s ag,⟨rfl,rfl,rfl,rfl,trivial⟩,rfl,?_⟩
   refine⟨⟨rfl,m⟩,rfl,?_⟩
   exact⟨_,_,_,ah.ren 45 2001 rfl,rfl,rfl,⟨rfl,rfl,rfl,rfl,by rw[cP];rfl,trivial⟩,rfl⟩
@[reducible] def nD (b1 b2:Nat):aO:=.c (.one (.d (.fn (114,[b1,b2]))))
@[reducible] def fE (s:bE) (R:bq→bN):aG:=di s++[(9000,.dep 1001 R)]
def D8 (s:bE) (R:bq→bN) (b1 b2:Nat) (c:Nat) (y:List UInt8):Prop:=
 y.length≤1000000∧Fn Tryz.prog 114 [aC (c:Int),kC b1,kC b2] (fE s R) [] (cI .u8 y) (fE s R)
set_option maxHeartbeats 1000000 in
theorem VR (s:bE) (R:bq→bN) (b1 b2:Nat) (ag:s.bits≤3) (aB:s.t.length≤256) (c:Nat) (hc:c < s.t.length) (hf:(s.t[c]).1=1→ ∃xs,s.f (s.t[c]).2.1=some xs∧xs.length≤128) (y:List UInt8) (dy:(s.t[c]).1=0→D8 s R b1 b2 c y):
  Fn Tryz.prog 120 [aH 1001,aC (c:Int),nD b1 b2] (fE s R) [2001] (iO 2001) (fE s R++[(2001,.row 5 .u8 (dZ s c (some y)))]):=by
 obtain⟨inf,i1,i2,i3,i4⟩:=info_parts H8
 have hw:=u0 ag
 have cP:dZ s c (some y)=if(s.t[c]).1=1 then(s.f (s.t[c]).2.1).getD [] else if(s.t[c]).1=0 then(if y.length=wid s then y else jV s) else jV s:=by
  unfold dZ
  rw[List.getElem?_eq_getElem hc]
 refine Fn.of ai [7,8] _ _ _ _ _ Tryz.func120 rfl rfl (by kernel_rfl) (by kernel_rfl) rfl (aJ ai) rfl ?_
 refine⟨_,_,_,_,Fn.ren [(1001,1002)] (BO s.t aB c hc),⟨rfl,trivial⟩,rfl,?_⟩
 refine⟨rfl,?_⟩
 refine⟨fun h=>?_,fun h=>?_⟩
 ·have h:=of_decide_eq_true h
  obtain⟨xs,hx,uE⟩:=hf h
  rw[if_pos h,hx] at cP
  refine⟨_,_,fun N=>D4 (d:=5001) (k:=(s.t[c]).2.1) rfl Tryz.underlying162 Tryz.underlying3 rfl i1 i2 rfl rfl rfl hx N,rfl,?_⟩
  refine⟨_,_,_,_,Fn.ren [(1001,5001),(1002,2001)] (Ny xs (by omega)),⟨rfl,trivial⟩,rfl,?_⟩
  refine⟨rfl,?_⟩
  exact⟨_,_,_,ah.D5 1004 5001 (Nz hx) rfl rfl (by decide) (by rw[hx];rfl),rfl,rfl,⟨rfl,rfl,rfl,rfl,rfl,by rw[cP];rfl,trivial⟩,rfl⟩
 ·have h:=of_decide_eq_false h
  rw[if_neg h] at cP
  have m:(0:Int)≤(wid s:Nat)∧((wid s:Nat):Int)≤4294967296:=by omega
  refine⟨fun aE=>?_,fun aE=>?_⟩
  ·have aE:=of_decide_eq_true aE
   obtain⟨adb,dy⟩:=dy aE
   rw[if_pos aE] at cP
   refine⟨_,_,fun N=>U7 (.inr ⟨rfl,rfl⟩) rfl Tryz.underlying168 rfl N,rfl,?_⟩
   refine⟨_,_,_,_,dy,⟨rfl,rfl,rfl,rfl,rfl,trivial⟩,rfl,?_⟩
   refine⟨_,_,_,_,qC s ag,⟨rfl,rfl,rfl,rfl,trivial⟩,rfl,?_⟩
   refine⟨fun af=>?_,fun af=>?_⟩
   ·have af:(y.length:Int)=(wid s:Nat):=of_decide_eq_true af
    have af:y.length=wid s:=by omega
    rw[if_pos af] at cP
    show av _ _ _ _ _ _ _
    refine av.go ai (aJ ai) [] (by kernel_rfl) (ah.sub (K':=[(8,cI .u8 y)]) (B':=fE s R) ⟨rfl,trivial⟩ ⟨rfl,rfl,rfl,rfl,rfl,trivial⟩) ?_
    refine⟨_,_,_,_,VP y (by omega),trivial,rfl,?_⟩
    exact⟨_,_,_,ah.refl _ _,rfl,rfl,⟨rfl,rfl,rfl,rfl,rfl,by rw[cP];rfl,trivial⟩,rfl⟩
   ·have af: ¬(y.length:Int)=(wid s:Nat):=of_decide_eq_false af
    have af: ¬y.length=wid s:=by omega
    rw[if_neg af] at cP
    show av _ _ _ _ _ _ _
    refine av.go ai (aJ ai) [] (by kernel_rfl) (ah.sub (K':=[(0,aH 1001)]) (B':=fE s R) ⟨rfl,trivial⟩ ⟨rfl,rfl,rfl,rfl,rfl,trivial⟩) ?_
    refine⟨_,_,_,_,qC s ag,⟨rfl,rfl,rfl,rfl,trivial⟩,rfl,?_⟩
    refine⟨⟨rfl,m⟩,rfl,?_⟩
    exact⟨_,_,_,ah.ren 45 2001 rfl,rfl,rfl,⟨rfl,rfl,rfl,rfl,rfl,by rw[cP];rfl,trivial⟩,rfl⟩
  ·have aE:=of_decide_eq_false aE
   rw[if_neg aE] at cP
   show av _ _ _ _ _ _ _
   refine av.go ai (aJ ai) [] (by kernel_rfl) (ah.sub (K':=[(0,aH 1001)]) (B':=fE s R) ⟨rfl,trivial⟩ ⟨rfl,rfl,rfl,rfl,rfl,trivial⟩) ?_
   refine⟨_,_,_,_,qC s ag,⟨rfl,rfl,rfl,rfl,trivial⟩,rfl,?_⟩
   refine⟨⟨rfl,m⟩,rfl,?_⟩
   exact⟨_,_,_,ah.ren 45 2001 rfl,rfl,rfl,⟨rfl,rfl,rfl,rfl,rfl,by rw[cP];rfl,trivial⟩,rfl⟩
def zI (s:bE) (q:eG):bE:=if q.1=1 then {s with l:=s.l.set q.2.1.toNat 0,f:=BL s.f q.2.1} else s
theorem VS (s:bE) (q:eG) (bp:q.1=1→ ∃h:Nat,q.2.1=(h:Int)∧s.l[h]? =some 1):Fn Tryz.prog 146 [aH 1001,.c (pY q)] (di s) [] ry (di (zI s q)):=by
 refine Fn.of ai [] _ _ _ _ _ Tryz.func146 rfl rfl (by kernel_rfl) (by kernel_rfl) rfl (aJ ai) rfl ?_
 refine⟨rfl,?_⟩
 refine⟨fun aa=>?_,fun aa=>?_⟩
 ·have aa: ¬q.1=1:=by
   have aa:(!decide (q.1=1))=true:=aa
   simpa using aa
  rw[show zI s q=s from if_neg aa]
  exact⟨_,_,_,ah.refl _ _,rfl,trivial,⟨rfl,rfl,rfl,rfl,trivial⟩,rfl⟩
 ·have aa:q.1=1:=by
   have aa:(!decide (q.1=1))=false:=aa
   simpa using aa
  obtain⟨h,e,aB⟩:=bp aa
  rw[show zI s q={s with l:=s.l.set q.2.1.toNat 0,f:=BL s.f q.2.1} from if_pos aa]
  obtain⟨k,x,o⟩:=q
  simp only at e
  subst e
  refine⟨_,_,_,_,Fn.ren [(1001,1003),(1002,2003)] (VL s.l h 1 aB (by decide) (by decide)),⟨rfl,trivial⟩,rfl,?_⟩
  refine⟨rfl,?_⟩
  refine⟨fun _=>?_,fun h=>absurd h (by decide)⟩
  refine⟨_,_,fun N=>VH (k:=(h:Int)) rfl Tryz.underlying162 Tryz.underlying3 rfl rfl rfl rfl N,rfl,?_⟩
  refine⟨rfl,?_⟩
  exact⟨_,_,_,ah.refl _ _,rfl,trivial,⟨rfl,rfl,rfl,rfl,trivial⟩,rfl⟩
def rI (s:bE) (c:Nat) (q:eG):bE:=zI {s with t:=s.t.set c q} (s.t.getD c s0)
theorem H9 (s:bE) (aB:s.t.length≤256) (c:Nat) (hc:c < s.t.length) (q:eG) (hs:tM q) (hr:rD q=true) (bp:(s.t.getD c s0).1=1→ ∃h:Nat,(s.t.getD c s0).2.1=(h:Int)∧s.l[h]? =some 1):
  Fn Tryz.prog 127 [aH 1001,aC (c:Int),.c (pY q)] (di s) [] ry (di (rI s c q)):=by
 have e:s.t[c]=s.t.getD c s0:=by rw[List.getD_eq_getElem?_getD,List.getElem?_eq_getElem hc];rfl
 have iY:=VK s.t aB c hc q hs hr
 unfold rI
 rw[e] at iY
 generalize s.t.getD c s0=qY at bp iY
 refine Fn.of ai [] _ _ _ _ _ Tryz.func127 rfl rfl (by kernel_rfl) (by kernel_rfl) rfl (aJ ai) rfl ?_
 refine⟨rfl,?_⟩
 refine⟨_,_,_,_,Fn.ren [(1001,1002)] iY,⟨rfl,trivial⟩,rfl,?_⟩
 refine⟨rfl,?_⟩
 refine⟨rfl,?_⟩
 refine⟨_,_,_,_,VS {s with t:=s.t.set c q} qY bp,⟨rfl,rfl,rfl,rfl,trivial⟩,rfl,?_⟩
 exact⟨_,_,_,ah.refl _ _,rfl,trivial,⟨rfl,rfl,rfl,rfl,trivial⟩,rfl⟩
structure mA where
 c:Nat
 a:Nat
 b:Nat
 at_:Nat
@[reducible] def u5 (p:mA):List bD:=[.d (.int .i64 (p.c:Int)),.d (.int .i64 (p.a:Int)),.d (.int .i64 (p.b:Int)),.d (.int .i64 (p.at_:Int))]
@[reducible] def qE (p:mA):aO:=.c (.agg (u5 p))
def gC (s:bE) (c:Nat):Bool:= !wg (s.t.getD c s0)
theorem Ia (s:bE) (aB:s.t.length≤256) (p:mA) (hc:p.c < s.t.length):Fn Tryz.prog 117 [aH 1001,qE p] (di s) [] (iw (gC s p.c)) (di s):=by
 have e:s.t[p.c]=s.t.getD p.c s0:=by rw[List.getD_eq_getElem?_getD,List.getElem?_eq_getElem hc];rfl
 have eB:=BO s.t aB p.c hc
 unfold gC
 rw[e] at eB
 refine Fn.of ai [] _ _ _ _ _ Tryz.func117 rfl rfl (by kernel_rfl) (by kernel_rfl) rfl (aJ ai) rfl ?_
 refine⟨rfl,?_⟩
 refine⟨_,_,_,_,Fn.ren [(1001,1002)] eB,⟨rfl,trivial⟩,rfl,?_⟩
 refine⟨_,_,_,_,Vf (s.t.getD p.c s0),trivial,rfl,?_⟩
 refine⟨rfl,?_⟩
 exact⟨_,_,_,ah.refl _ _,rfl,rfl,⟨rfl,rfl,rfl,rfl,trivial⟩,rfl⟩
structure fP (s:bE):Prop where
 bits:s.bits≤3
 tl:s.t.length≤256
 lS:s.l.length≤512
 slot: ∀(c:Nat) (q:eG),s.t[c]? =some q→q=s0∨q=((2:Int),(0:Int),false)∨ ∃h:Nat,q=((1:Int),(h:Int),true)∧s.l[h]? =some 1∧ ∃xs,s.f (h:Int)=some xs∧xs.length=wid s
 inj: ∀(c d:Nat) (h:Int),s.t[c]? =some ((1:Int),h,true)→s.t[d]? =some ((1:Int),h,true)→c=d
 cnt: ∀(h:Nat) n,s.l[h]? =some n→n=0∨n=1
 free: ∀h:Nat,s.l[h]? =some 0→s.f (h:Int)=none
 used: ∀h:Nat,s.l[h]? =some 1→ ∃c:Nat,s.t[c]? =some ((1:Int),(h:Int),true)
 dom: ∀(k:Int) xs,s.f k=some xs→xs.length≤128
def hG (l:List Int):Nat:=l.findIdx fun n=>decide (n=0)
theorem Ib {l:List Int} (h:0 < zeros l):l[hG l]? =some 0∧ ∀j,j < hG l→l[j]? ≠some 0:=by
 have bF:hG l < l.length:=by
  unfold hG
  rw[List.findIdx_lt_length]
  unfold zeros at h
  obtain⟨x,hx⟩:=List.exists_mem_of_length_pos h
  rw[List.mem_filter] at hx
  exact⟨x,hx.1,hx.2⟩
 refine⟨?_,fun j au e=>?_⟩
 ·have:=List.findIdx_getElem (xs:=l) (p:=fun n=>decide (n=0)) (w:=bF)
  rw[List.getElem?_eq_getElem bF]
  exact congrArg some (of_decide_eq_true this)
 ·have fQ:j < l.length:=by omega
  have:=List.not_of_lt_findIdx (p:=fun n=>decide (n=0)) (xs:=l) au
  rw[List.getElem?_eq_getElem fQ] at e
  injection e with e
  simp[e] at this
def mY (s:bE) (c:Nat) (y:List UInt8):bE:=
 if gC s c=true then {s with t:=s.t.set c ((1:Int),(hG s.l:Int),true),l:=s.l.set (hG s.l) 1,f:=jt s.f (hG s.l:Int) (dZ s c (some y))} else s
def D9 (s:bE) (p:mA) (bs:List UInt8):bE:={s with f:=jt s.f (s.t.getD p.c s0).2.1 (laid ((s.f (s.t.getD p.c s0).2.1).getD []) p.a (p.b - p.a) bs)}
def x4 (s:bE) (p:mA) (bs:List UInt8) (y:List UInt8):bE:=D9 (mY s p.c y) p bs
@[reducible] def NA (bs:List UInt8):aQ:=[(0,aH 1001),(2,cI .u8 bs),(5,aH 5)]
@[reducible] def NB (s:bE) (R:bq→bN) (p:mA):aG:=(5,.cells (u5 p))::fE s R
theorem zJ {t:List eG} {c:Nat} {q:eG} (h:t[c]? =some q):t.getD c s0=q:=by
 rw[List.getD_eq_getElem?_getD,h];rfl
theorem x5 {s:bE} (aV:fP s) {c:Nat} (hc:c < s.t.length) (y:Option (List UInt8)):(dZ s c y).length=wid s:=by
 have aS:(jV s).length=wid s:=List.length_replicate
 have bk:s.t[c]? =some s.t[c]:=List.getElem?_eq_getElem hc
 unfold dZ
 rw[bk]
 simp only
 rcases aV.slot c _ bk with e |e |⟨h,e,_,xs,hx,aB⟩
 ·rw[e,if_neg (by decide),if_pos (by decide)]
  split
  ·split
   ·rename_i h;exact h
   ·exact aS
  ·exact aS
 ·rw[e,if_neg (by decide),if_neg (by decide)]
  exact aS
 ·rw[e,if_pos rfl]
  simp only[hx,Option.getD_some]
  exact aB
theorem zK {s:bE} (aV:fP s) {c:Nat} (hc:c < s.t.length):(gC s c=true∧(s.t.getD c s0=s0∨s.t.getD c s0=((2:Int),(0:Int),false)))∨(gC s c=false∧ ∃h:Nat,s.t[c]? =some ((1:Int),(h:Int),true)∧s.l[h]? =some 1∧ ∃xs,s.f (h:Int)=some xs∧xs.length=wid s):=by
 have bk:s.t[c]? =some s.t[c]:=List.getElem?_eq_getElem hc
 have hd:=zJ bk
 unfold gC wg
 rw[hd]
 rcases aV.slot c _ bk with e |e |⟨h,e,af⟩
 ·rw[e];exact .inl ⟨rfl,.inl rfl⟩
 ·rw[e];exact .inl ⟨rfl,.inr rfl⟩
 ·rw[e] at bk⊢;exact .inr ⟨rfl,h,bk,af⟩
theorem NC {s:bE} (h:s.bits≤3):wid s≤128:=by
 have:=k5 h
 show 16*2 ^s.bits≤128
 omega
theorem ND {f:k3} (h: ∀(k:Int) xs,f k=some xs→xs.length≤128) {BP:Int} {ys:List UInt8} (aF:ys.length≤128): ∀(k:Int) xs,jt f BP ys k=some xs→xs.length≤128:=fun k xs aq=>by
 unfold jt at aq
 split at aq
 ·injection aq with aq
  rw[←aq]
  exact aF
 ·exact h k xs aq
theorem NF {s:bE} (aV:fP s) {c:Nat} (hc:c < s.t.length) (y:List UInt8) (aS:gC s c=true→0 < zeros s.l):
  fP (mY s c y)∧wid (mY s c y)=wid s∧(mY s c y).t.length=s.t.length∧ ∃h:Nat,(mY s c y).t[c]? =some ((1:Int),(h:Int),true)∧(mY s c y).f (h:Int)=some (dZ s c (some y)):=by
 rcases zK aV hc with⟨hn,bp⟩ |⟨hn,h,aa,af,xs,ay,bu⟩
 ·obtain⟨fB,n4⟩:=Ib (aS hn)
  have bF:hG s.l < s.l.length:=(List.getElem?_eq_some_iff.1 fB).1
  have kW:=aV.free _ fB
  have cP:=x5 aV hc (some y)
  have hold:s.t[c]? =some (s.t.getD c s0):=by rw[List.getD_eq_getElem?_getD,List.getElem?_eq_getElem hc];rfl
  rw[show mY s c y={s with t:=s.t.set c ((1:Int),(hG s.l:Int),true),l:=s.l.set (hG s.l) 1,f:=jt s.f (hG s.l:Int) (dZ s c (some y))} from if_pos hn]
  generalize dZ s c (some y)=xs at cP
  generalize hG s.l=aE at*
  have NG: ∀(d:Nat),s.t[d]? ≠some ((1:Int),(aE:Int),true):=fun d e=>by
   rcases aV.slot d _ e with ak |ak |⟨h,ak,ay,_⟩
   ·cases ak
   ·cases ak
   ·have:(aE:Int)=(h:Int):=by injection ak with _ ak;injection ak
    have:aE=h:=by omega
    subst this
    rw[fB] at ay
    cases ay
  refine⟨⟨aV.bits,by show(s.t.set _ _).length≤256;rw[List.length_set];exact aV.tl,by show(s.l.set _ _).length≤512;rw[List.length_set];exact aV.lS,fun d q bp=>?_,fun d e h hd he=>?_,fun h n hn=>?_,fun h bZ=>?_,fun h bZ=>?_,ND aV.dom (by rw[cP];exact NC aV.bits)⟩,rfl,List.length_set,aE,?_,if_pos rfl⟩
  ·rw[List.getElem?_set] at bp
   split at bp
   ·rename_i e
    subst e
    injection bp with bp
    exact .inr (.inr ⟨aE,bp.symm,by rw[List.getElem?_set_self bF],xs,if_pos rfl,cP⟩)
   ·rcases aV.slot d q bp with e |e |⟨h,e,g1,ys,g2,bL⟩
    ·exact .inl e
    ·exact .inr (.inl e)
    ·have bg:aE≠h:=fun e=>by subst e;rw[fB] at g1;cases g1
     exact .inr (.inr ⟨h,e,by rw[List.getElem?_set_ne bg];exact g1,ys,by show(if(h:Int)=(aE:Int) then some xs else s.f h)=some ys;rw[if_neg (by omega)];exact g2,bL⟩)
  ·rw[List.getElem?_set] at hd he
   split at hd
   ·rename_i aj
    split at he
    ·rename_i ak;rw[←aj,←ak]
    ·have:(aE:Int)=h:=by injection hd with hd;injection hd with _ hd;injection hd
     subst this
     exact absurd he (NG e)
   ·split at he
    ·rename_i ak
     have:(aE:Int)=h:=by injection he with hd;injection hd with _ hd;injection hd
     subst this
     exact absurd hd (NG d)
    ·exact aV.inj d e h hd he
  ·rw[List.getElem?_set] at hn
   split at hn
   ·rename_i e
    injection hn with hn
    exact .inr hn.symm
   ·exact aV.cnt h n hn
  ·rw[List.getElem?_set] at bZ
   split at bZ
   ·rename_i e
    injection bZ with bZ
    exact absurd bZ (by decide)
   ·rename_i e
    show(if(h:Int)=(aE:Int) then some xs else s.f h)=none
    rw[if_neg (by omega)]
    exact aV.free h bZ
  ·by_cases e:aE=h
   ·subst e
    exact⟨c,List.getElem?_set_self hc⟩
   ·rw[List.getElem?_set_ne e] at bZ
    obtain⟨d,hd⟩:=aV.used h bZ
    have bg:c≠d:=fun ak=>by
     subst ak
     rw[hold] at hd
     injection hd with hd
     rw[hd] at bp
     rcases bp with bp |bp <;>cases bp
    exact⟨d,by rw[List.getElem?_set_ne bg];exact hd⟩
  ·exact List.getElem?_set_self hc
 ·have e:mY s c y=s:=if_neg (by rw[hn];decide)
  rw[e]
  refine⟨aV,rfl,rfl,h,aa,?_⟩
  unfold dZ
  rw[aa]
  simp only[if_pos,ay,Option.getD_some]
set_option maxHeartbeats 1000000 in
theorem NH (s:bE) (R:bq→bN) (b1 b2:Nat) (aV:fP s) (p:mA) (hc:p.c < s.t.length) (bs:List UInt8) (aa:p.a≤p.b) (af:p.b≤wid s) (ay:bs.length=p.b - p.a) (y:List UInt8) (dy:(s.t[p.c]).1=0→D8 s R b1 b2 p.c y) (aS:gC s p.c=true→0 < zeros s.l):
  Fn Tryz.prog 119 [aH 1001,qE p,cI .u8 bs,nD b1 b2] (fE s R) [] ry (fE (x4 s p bs y) R):=by
 obtain⟨inf,i1,i2,i3,i4⟩:=info_parts H8
 have hw:=u0 aV.bits
 have e:s.t[p.c]=s.t.getD p.c s0:=by rw[List.getD_eq_getElem?_getD,List.getElem?_eq_getElem hc];rfl
 obtain⟨fJ,iJ,qF,gO,u6,wo⟩:=NF aV hc y aS
 have cP:=x5 aV hc (some y)
 unfold x4
 have nZ:=VR s R b1 b2 aV.bits aV.tl p.c hc (fun h=>by
  rcases aV.slot p.c _ (List.getElem?_eq_getElem hc) with ak |ak |⟨h,ak,_,xs,hx,aB⟩
  ·rw[ak] at h;cases h
  ·rw[ak] at h;cases h
  ·rw[ak];exact⟨xs,hx,by omega⟩) y dy
 generalize dM:mY s p.c y=s' at fJ iJ qF u6 wo
 have zL:=zJ u6
 have qi:s'.t[p.c]'(by omega)=((1:Int),(gO:Int),true):=by
  have:=List.getElem?_eq_getElem (l:=s'.t) (i:=p.c) (by omega)
  rw[u6] at this
  injection this with this
  exact this.symm
 have zM:=BO s'.t fJ.tl p.c (by omega)
 rw[qi] at zM
 unfold D9
 rw[zL]
 simp only[wo,Option.getD_some]
 have m:(0:Int)≤(p.a:Int)∧(p.a:Int)≤(p.b:Int)∧(p.b:Int)≤(((dZ s p.c (some y)).length:Nat):Int):=by omega
 have m2:p.a+(p.b - p.a)≤(dZ s p.c (some y)).length:=by omega
 have vR:jt s'.f (gO:Int) (laid (dZ s p.c (some y)) p.a (p.b - p.a) bs)=jt s'.f (gO:Int) (laid (dZ s p.c (some y)) p.a (p.b - p.a) bs):=rfl
 refine Fn.of ai [3,5,6] _ _ _ _ _ Tryz.func119 rfl rfl (by kernel_rfl) (by kernel_rfl) rfl (aJ ai) rfl ?_
 refine⟨rfl,?_⟩
 refine⟨_,_,_,_,Ia s aV.tl p hc,⟨rfl,rfl,rfl,rfl,trivial⟩,rfl,?_⟩
 refine⟨fun hn=>?_,fun hn=>?_⟩
 ·obtain⟨fB,n4⟩:=Ib (aS hn)
  refine⟨_,_,_,_,nZ,⟨rfl,rfl,rfl,rfl,rfl,trivial⟩,rfl,?_⟩
  show av _ _ _ _ _ _ _
  refine av.go ai (aJ ai) [5,6] (by kernel_rfl) (ah.sub (K':=[(0,aH 1001),(2,cI .u8 bs),(5,aH 5),(8,iO 2001)]) (B':=(5,.cells (u5 p))::(2001,.row 5 .u8 (dZ s p.c (some y)))::fE s R) ⟨rfl,rfl,rfl,rfl,trivial⟩ ⟨rfl,rfl,rfl,rfl,rfl,rfl,rfl,trivial⟩) ?_
  refine⟨_,_,_,_,Fn.ren [(1001,1003),(1002,2003)] (VN s.l (by have:=aV.lS;omega) (hG s.l) fB n4),⟨rfl,trivial⟩,rfl,?_⟩
  refine⟨_,_,fun N=>VF (d:=2001) (k:=(hG s.l:Int)) rfl Tryz.underlying162 Tryz.underlying3 rfl rfl rfl rfl rfl rfl (by decide) (aV.free _ fB) N,rfl,?_⟩
  show av _ _ _ _ _ _ _
  refine av.go ai (aJ ai) [6] (by kernel_rfl) (ah.sub (K':=[(0,aH 1001),(2,cI .u8 bs),(5,aH 5),(9,aC (hG s.l:Nat))]) (B':=(5,.cells (u5 p))::fE {s with l:=s.l.set (hG s.l) 1,f:=jt s.f (hG s.l:Int) (dZ s p.c (some y))} R) ⟨rfl,rfl,rfl,rfl,trivial⟩ ⟨rfl,rfl,rfl,rfl,rfl,rfl,trivial⟩) ?_
  have iY:Fn Tryz.prog 127 [aH 1001,aC (p.c:Int),.c (pY ((1:Int),(hG s.l:Int),true))] (di {s with l:=s.l.set (hG s.l) 1,f:=jt s.f (hG s.l:Int) (dZ s p.c (some y))}) [] ry (di s'):=by
   have bF:hG s.l < s.l.length:=(List.getElem?_eq_some_iff.1 fB).1
   have qx:=aV.lS
   have tE: ¬(s.t.getD p.c s0).1=1:=by
    rcases zK aV hc with⟨_,h⟩ |⟨h,_⟩
    ·rcases h with h |h <;>rw[h] <;>decide
    ·rw[hn] at h;cases h
   have h:=H9 {s with l:=s.l.set (hG s.l) 1,f:=jt s.f (hG s.l:Int) (dZ s p.c (some y))} aV.tl p.c hc ((1:Int),(hG s.l:Int),true) ⟨⟨by show(-1000000:Int)≤1;decide,by show(1:Int)≤1000000;decide⟩,by show(-1000000:Int)≤(hG s.l:Int);omega,by show((hG s.l:Nat):Int)≤1000000;omega⟩ (by
    show(if(1:Int)=1 then decide (0≤(hG s.l:Int))&&decide ((hG s.l:Int) < 512) else _)=true
    rw[if_pos rfl,decide_eq_true (by omega),decide_eq_true (by omega)]
    rfl) (fun h=>absurd h tE)
   rwa[show rI {s with l:=s.l.set (hG s.l) 1,f:=jt s.f (hG s.l:Int) (dZ s p.c (some y))} p.c ((1:Int),(hG s.l:Int),true)=s' by
    rw[←dM]
    unfold rI zI mY
    rw[if_neg tE,if_pos hn]] at h
  refine⟨_,_,_,_,Fn.arg iY ⟨rfl,rfl,⟨rfl,rfl,rfl,trivial⟩,trivial⟩,⟨rfl,rfl,rfl,rfl,trivial⟩,rfl,?_⟩
  show av _ _ _ _ _ _ _
  refine av.go ai (aJ ai) [] (by kernel_rfl) (ah.sub (K':=NA bs) (B':=NB s' R p) ⟨rfl,rfl,rfl,trivial⟩ ⟨rfl,rfl,rfl,rfl,rfl,rfl,trivial⟩) ?_
  refine⟨_,_,_,_,Fn.ren [(1001,1002)] zM,⟨rfl,trivial⟩,rfl,?_⟩
  refine⟨_,_,fun N=>HP rfl Tryz.underlying188 rfl Tryz.underlying3 rfl rfl rfl N,rfl,?_⟩
  refine⟨_,_,fun N=>D4 (d:=5001) (k:=(gO:Int)) rfl Tryz.underlying162 Tryz.underlying3 rfl i1 i2 rfl rfl rfl wo N,rfl,?_⟩
  refine⟨m,?_⟩
  refine⟨m2,?_⟩
  refine⟨rfl,?_⟩
  exact⟨_,_,_,ah.D5 1004 5001 vR rfl rfl (by decide) (by rw[wo];rfl),rfl,trivial,⟨rfl,rfl,rfl,rfl,rfl,trivial⟩,rfl⟩
 ·have eR:s=s':=by rw[←dM];unfold mY;rw[if_neg (by rw[hn];decide)]
  subst eR
  show av _ _ _ _ _ _ _
  refine av.go ai (aJ ai) [] (by kernel_rfl) (ah.sub (K':=NA bs) (B':=NB s R p) ⟨rfl,rfl,rfl,trivial⟩ ⟨rfl,rfl,rfl,rfl,rfl,rfl,trivial⟩) ?_
  refine⟨_,_,_,_,Fn.ren [(1001,1002)] zM,⟨rfl,trivial⟩,rfl,?_⟩
  refine⟨_,_,fun N=>HP rfl Tryz.underlying188 rfl Tryz.underlying3 rfl rfl rfl N,rfl,?_⟩
  refine⟨_,_,fun N=>D4 (d:=5001) (k:=(gO:Int)) rfl Tryz.underlying162 Tryz.underlying3 rfl i1 i2 rfl rfl rfl wo N,rfl,?_⟩
  refine⟨m,?_⟩
  refine⟨m2,?_⟩
  refine⟨rfl,?_⟩
  exact⟨_,_,_,ah.D5 1004 5001 vR rfl rfl (by decide) (by rw[wo];rfl),rfl,trivial,⟨rfl,rfl,rfl,rfl,rfl,trivial⟩,rfl⟩
def eV (s:bE):Nat:=s.t.length*2 ^s.bits
def dK (s:bE) (at_ long:Int):Int:=if long < 0 then 1 else if at_ < 0∨long >eV s∨at_ >eV s - long then 121 else 0
theorem wq (s:bE) (aV:fP s) (at_ long:Int):Fn Tryz.prog 115 [aH 1001,aC at_,aC long] (di s) [] (aC (dK s at_ long)) (di s):=by
 have hp:=k5 aV.bits
 have lT:=aV.tl
 have aa:s.t.length*2 ^s.bits≤256*8:=Nat.mul_le_mul lT hp.2
 have e:((s.t.length:Nat):Int)*((2 ^s.bits:Nat):Int)=((eV s:Nat):Int):=by unfold eV;rw[Int.natCast_mul]
 have dh:eV s≤2048:=aa
 refine Fn.of ai [1,2] _ _ _ _ _ Tryz.func115 rfl rfl (by kernel_rfl) (by kernel_rfl) rfl (aJ ai) rfl ?_
 show av _ _ _ _ _ _ _
 refine av.ro 64 (by decide) ?_
 refine av.go ai (aJ ai) [2] (by kernel_rfl) (ah.refl _ _) ?_
 refine⟨_,_,fun N=>xX rfl rfl rfl (qD s) (by exact⟨rfl,rfl,rfl,rfl,trivial⟩) rfl (fun _=>rfl) N,rfl,?_⟩
 have m1:(0:Int)≤(s.t.length:Nat)∧(0:Int)≤(s.bits:Int)∧(s.bits:Int)≤64:=by have:=aV.bits;omega
 have m2:(-9223372036854775808:Int)≤((s.t.length:Nat):Int)*((2 ^s.bits:Nat):Int)∧((s.t.length:Nat):Int)*((2 ^s.bits:Nat):Int)≤9223372036854775807:=by rw[e];omega
 refine⟨m1,m2,?_⟩
 refine⟨rfl,?_⟩
 show av _ _ _ _ _ _ _
 refine av.go ai (aJ ai) [] (by kernel_rfl) (ah.sub (K':=[(1,aC at_),(2,aC long),(7,aC (eV s:Nat))]) (B':=di s) ⟨rfl,rfl,e,trivial⟩ ⟨rfl,rfl,rfl,rfl,trivial⟩) ?_
 refine⟨fun h=>?_,fun h=>?_⟩
 ·have h:long < 0:=of_decide_eq_true h
  exact⟨_,_,_,ah.refl _ _,rfl,(show(1:Int)=dK s at_ long by unfold dK;rw[if_pos h]),⟨rfl,rfl,rfl,rfl,trivial⟩,rfl⟩
 ·have h: ¬long < 0:=of_decide_eq_false h
  have Ic: ∀(_:at_ < 0∨long >eV s∨at_ >eV s - long),(121:Int)=dK s at_ long:=fun af=>by unfold dK;rw[if_neg h,if_pos af]
  refine⟨fun aa=>?_,fun aa=>?_⟩
  ·have aa:at_ < 0:=of_decide_eq_true aa
   exact⟨_,_,_,ah.refl _ _,rfl,Ic (.inl aa),⟨rfl,rfl,rfl,rfl,trivial⟩,rfl⟩
  ·have aa: ¬at_ < 0:=of_decide_eq_false aa
   refine⟨fun af=>?_,fun af=>?_⟩
   ·have af:((eV s:Nat):Int) < long:=of_decide_eq_true af
    exact⟨_,_,_,ah.refl _ _,rfl,Ic (.inr (.inl af)),⟨rfl,rfl,rfl,rfl,trivial⟩,rfl⟩
   ·have af: ¬((eV s:Nat):Int) < long:=of_decide_eq_false af
    have m3:(-9223372036854775808:Int)≤((eV s:Nat):Int) - long∧((eV s:Nat):Int) - long≤9223372036854775807:=by omega
    refine⟨m3,?_⟩
    refine⟨fun ay=>?_,fun ay=>?_⟩
    ·have ay:((eV s:Nat):Int) - long < at_:=of_decide_eq_true ay
     exact⟨_,_,_,ah.refl _ _,rfl,Ic (.inr (.inr ay)),⟨rfl,rfl,rfl,rfl,trivial⟩,rfl⟩
    ·have ay: ¬((eV s:Nat):Int) - long < at_:=of_decide_eq_false ay
     exact⟨_,_,_,ah.refl _ _,rfl,(show(0:Int)=dK s at_ long by unfold dK;rw[if_neg h,if_neg (by omega)]),⟨rfl,rfl,rfl,rfl,trivial⟩,rfl⟩
def aT (W a l k:Nat):mA:=⟨16*a/W+k,16*a - (16*a/W+k)*W,min (16*(a+l) - (16*a/W+k)*W) W,(16*a/W+k)*W+(16*a - (16*a/W+k)*W) - 16*a⟩
def bU (W a l:Nat):Nat:=if l=0 then 0 else(16*(a+l)+W - 1)/W - 16*a/W
def wu (W:Nat):Prop:=W=16∨W=32∨W=64∨W=128
theorem o4 {s:bE} (h:s.bits≤3):wu (wid s):=by
 unfold wu wid
 generalize s.bits=b at h
 match b,h with
 |0,_=>exact .inl rfl
 |1,_=>exact .inr (.inl rfl)
 |2,_=>exact .inr (.inr (.inl rfl))
 |3,_=>exact .inr (.inr (.inr rfl))
theorem u7 {W a l k:Nat} (dY:wu W):(0 < l∧(16*a/W+k)*W < 16*(a+l))↔k < bU W a l:=by
 unfold bU
 rcases dY with rfl |rfl |rfl |rfl <;>(split <;>omega)
theorem qG {W a l k:Nat} (dY:wu W) (aq:k < bU W a l):(aT W a l k).a≤(aT W a l k).b∧(aT W a l k).b≤W∧(aT W a l k).at_+((aT W a l k).b - (aT W a l k).a)≤16*l∧(aT W a l k).c*W < 16*(a+l):=by
 have h:=(u7 (a:=a) (l:=l) (k:=k) dY).2 aq
 unfold aT
 simp only
 rcases dY with rfl |rfl |rfl |rfl <;>omega
@[reducible] def Ie (l:Nat):aO:=.c (.one (.raw (.func (.yield l) #[] #[])))
@[reducible] def qH (a l:Int):aG:=[(2001,.cells [.ptr 1001 0]),(2002,.cells [.d (.int .i64 a)]),(2003,.cells [.d (.int .i64 l)])]
@[reducible] def NI (y W a l k:Nat):aQ:=[(0,Ie y),(1,aH 2001),(2,aH 2002),(3,aH 2003),(5,aC (W:Nat)),(6,aC ((16*a:Nat):Int)),(7,aC ((16*(a+l):Nat):Int)),(8,aC ((16*a/W+k:Nat):Int))]
@[reducible] def Ea (a l:Nat) (o:bN):aG:=[(2001,.cells [.ptr 1001 0]),(2002,.cells [.d (.int .i64 (a:Int))]),(2003,.cells [.d (.int .i64 (l:Int))]),(1001,.obj o)]
@[reducible] def VT (y W:Nat):aQ:=[(0,Ie y),(1,aH 2001),(2,aH 2002),(3,aH 2003),(5,aC (W:Nat))]
theorem VU {W a l k:Nat} (dY:wu W):(((16*a/W+k:Nat):Int))*(W:Int)=(((16*a/W+k)*W:Nat):Int)∧max (((16*a:Nat):Int) - (((16*a/W+k)*W:Nat):Int)) 0=((aT W a l k).a:Int)∧(k < bU W a l→min (((16*(a+l):Nat):Int) - (((16*a/W+k)*W:Nat):Int)) (W:Int)=((aT W a l k).b:Int))∧(((16*a/W+k)*W:Nat):Int)+((aT W a l k).a:Int) - ((16*a:Nat):Int)=((aT W a l k).at_:Int):=by
 refine⟨by rw[Int.natCast_mul],?_,fun aq=>?_,?_⟩
 ·unfold aT;simp only;omega
 ·have h:=(u7 (a:=a) (l:=l) (k:=k) dY).2 aq
  unfold aT;simp only;omega
 ·unfold aT
  simp only
  rcases dY with rfl |rfl |rfl |rfl <;>omega
theorem zN (y W a l:Nat) (dY:wu W) (ha:a≤10000) (aB:l≤10000) (fD:Nat→bN) (ag: ∀k,Fn Tryz.prog 126 [aH 1001] [(1001,.obj (fD k))] [] (aC (W:Nat)) [(1001,.obj (fD k))])
  (aF: ∀k,k < bU W a l→zv Tryz.prog y [qE (aT W a l k)] [(1001,.obj (fD k))] (fun _:Unit=>w8 true) (fun _=>[(1001,.obj (fD (k+1)))])):
  Fn Tryz.prog 133 [Ie y,aH 2001,aH 2002,aH 2003] (Ea a l (fD 0)) [] (.c6 []) [(1001,.obj (fD (bU W a l)))]:=by
 have VV:16≤W∧W≤128:=by rcases dY with rfl |rfl |rfl |rfl <;>omega
 refine Fn.of ai [1,7] _ _ _ _ _ Tryz.func133 rfl rfl (by kernel_rfl) (by kernel_rfl) rfl (aJ ai) rfl ?_
 refine⟨_,_,_,_,ag 0,⟨rfl,trivial⟩,rfl,?_⟩
 show av _ _ _ _ _ _ _
 refine av.go ai (aJ ai) [7] (by kernel_rfl) (ah.sub (K':=VT y W) (B':=Ea a l (fD 0)) ⟨rfl,rfl,rfl,rfl,rfl,trivial⟩ ⟨rfl,rfl,rfl,rfl,trivial⟩) ?_
 have m1:(-9223372036854775808:Int)≤(a:Int)*16∧(a:Int)*16≤9223372036854775807:=by omega
 have m2:(-9223372036854775808:Int)≤(a:Int)+(l:Int)∧(a:Int)+(l:Int)≤9223372036854775807:=by omega
 have m3:(-9223372036854775808:Int)≤((a:Int)+(l:Int))*16∧((a:Int)+(l:Int))*16≤9223372036854775807:=by omega
 refine⟨m1,m2,m3,rfl,?_⟩
 have bx:((a:Int)*16)/(W:Int)=((16*a/W+0:Nat):Int):=by rcases dY with rfl |rfl |rfl |rfl <;>omega
 have je:(0:Int)≤(a:Int)*16∧(0:Int) < (W:Int):=by omega
 have si:16*a/W≤10000:=by rcases dY with rfl |rfl |rfl |rfl <;>omega
 have mB:(-9223372036854775808:Int)≤((a:Int)*16)/(W:Int)∧((a:Int)*16)/(W:Int)≤9223372036854775807:=by rw[bx];generalize 16*a/W=q at si;omega
 refine⟨je,mB,?_⟩
 show av _ _ _ _ _ _ _
 refine av.loop ai (aJ ai) [7] (by kernel_rfl) (X:=Nat) (NI y W a l) (fun k=>Ea a l (fD k)) (fun k=>k≤bU W a l) (fun k=>bU W a l - k) 0 (Nat.zero_le _) ?_ ?_
 ·exact ah.sub ⟨rfl,rfl,rfl,rfl,rfl,(by show(a:Int)*16=((16*a:Nat):Int);omega),(by show((a:Int)+(l:Int))*16=((16*(a+l):Nat):Int);omega),bx,trivial⟩ ⟨rfl,rfl,rfl,rfl,trivial⟩
 intro k aq
 obtain⟨g1,g2,bL,gH⟩:=VU (a:=a) (l:=l) (k:=k) dY
 have q2:=u7 (a:=a) (l:=l) (k:=k) dY
 have c4:bU W a l≤30000:=by
  unfold bU
  rcases dY with rfl |rfl |rfl |rfl <;>(split <;>omega)
 have cP:(16*a/W+k)*W≤40000*128:=Nat.mul_le_mul (by omega) VV.2
 have out: ∀(h: ¬k < bU W a l),k=bU W a l:=fun h=>by omega
 refine⟨fun aa=>?_,fun aa=>?_⟩
 ·have aa:(0:Int) < (l:Int):=of_decide_eq_true aa
  have ee:(-9223372036854775808:Int)≤((16*a/W+k:Nat):Int)*(W:Int)∧((16*a/W+k:Nat):Int)*(W:Int)≤9223372036854775807:=by rw[g1];omega
  refine⟨ee,?_⟩
  refine⟨fun af=>?_,fun af=>?_⟩
  ·have af:((16*a/W+k:Nat):Int)*(W:Int) < ((16*(a+l):Nat):Int):=of_decide_eq_true af
   have rJ:k < bU W a l:=q2.1 ⟨by omega,by rw[g1] at af;omega⟩
   have eO:(-9223372036854775808:Int)≤((16*a:Nat):Int) - ((16*a/W+k:Nat):Int)*(W:Int)∧((16*a:Nat):Int) - ((16*a/W+k:Nat):Int)*(W:Int)≤9223372036854775807:=by rw[g1];omega
   have zD:(-9223372036854775808:Int)≤((16*(a+l):Nat):Int) - ((16*a/W+k:Nat):Int)*(W:Int)∧((16*(a+l):Nat):Int) - ((16*a/W+k:Nat):Int)*(W:Int)≤9223372036854775807:=by rw[g1];omega
   refine⟨ee,eO,ee,zD,rfl,?_⟩
   have Ig:(-9223372036854775808:Int)≤((16*a/W+k:Nat):Int)*(W:Int)+max (((16*a:Nat):Int) - ((16*a/W+k:Nat):Int)*(W:Int)) 0∧((16*a/W+k:Nat):Int)*(W:Int)+max (((16*a:Nat):Int) - ((16*a/W+k:Nat):Int)*(W:Int)) 0≤9223372036854775807:=by rw[g1];omega
   have n5:(-9223372036854775808:Int)≤((16*a/W+k:Nat):Int)*(W:Int)+max (((16*a:Nat):Int) - ((16*a/W+k:Nat):Int)*(W:Int)) 0 - ((16*a:Nat):Int)∧((16*a/W+k:Nat):Int)*(W:Int)+max (((16*a:Nat):Int) - ((16*a/W+k:Nat):Int)*(W:Int)) 0 - ((16*a:Nat):Int)≤9223372036854775807:=by rw[g1];omega
   refine⟨ee,Ig,n5,?_⟩
   have nZ: [bD.d (.int .i64 ((16*a/W+k:Nat):Int)),.d (.int .i64 (max (((16*a:Nat):Int) - ((16*a/W+k:Nat):Int)*(W:Int)) 0)),.d (.int .i64 (min (((16*(a+l):Nat):Int) - ((16*a/W+k:Nat):Int)*(W:Int)) (W:Int))),.d (.int .i64 (((16*a/W+k:Nat):Int)*(W:Int)+max (((16*a:Nat):Int) - ((16*a/W+k:Nat):Int)*(W:Int)) 0 - ((16*a:Nat):Int)))]=u5 (aT W a l k):=by
    rw[g1,g2,bL rJ,gH]
    rfl
   show av _ _ _ _ _ _ _
   refine av.le (ah.sub (K':=(9,aH 9)::NI y W a l k) (B':=(9,.cells (u5 (aT W a l k)))::Ea a l (fD k)) ⟨rfl,rfl,rfl,rfl,rfl,rfl,rfl,rfl,rfl,trivial⟩ ⟨?_,rfl,rfl,rfl,rfl,trivial⟩) ?_
   ·exact congrArg (fun l=>some (bw.cells l)) nZ
   refine av.uP ai (by kernel_rfl) ?_
   refine⟨Unit,_,_,_,aF k rJ,⟨rfl,trivial⟩,fun _=>rfl,fun _=>?_⟩
   have n6:(-9223372036854775808:Int)≤((16*a/W+k:Nat):Int)+1∧((16*a/W+k:Nat):Int)+1≤9223372036854775807:=by generalize 16*a/W=q at si;omega
   refine⟨n6,k+1,rJ,by omega,ah.sub ⟨rfl,rfl,rfl,rfl,rfl,rfl,rfl,rfl,trivial⟩ ⟨rfl,rfl,rfl,rfl,trivial⟩⟩
  ·have af: ¬((16*a/W+k:Nat):Int)*(W:Int) < ((16*(a+l):Nat):Int):=of_decide_eq_false af
   have rJ:k=bU W a l:=out fun h=>af (by have:=(q2.2 h).2;rw[g1];omega)
   subst rJ
   exact⟨_,_,_,ah.refl _ _,rfl,trivial,⟨rfl,trivial⟩,rfl⟩
 ·have aa: ¬(0:Int) < (l:Int):=of_decide_eq_false aa
  have rJ:k=bU W a l:=out fun h=>aa (by have:=(q2.2 h).1;omega)
  subst rJ
  exact⟨_,_,_,ah.refl _ _,rfl,trivial,⟨rfl,trivial⟩,rfl⟩
theorem zO (s:bE) (a l:Int):Fn Tryz.prog 116 [aH 1001,aC a,aC l] (di s) [2001,2002,2003] (.c (.one (.eM 133 [.p 2001 0,.p 2002 0,.p 2003 0]))) (di s++qH a l):=by
 refine Fn.of ai [] _ _ _ _ _ Tryz.func116 rfl rfl (by kernel_rfl) (by kernel_rfl) rfl (aJ ai) rfl ?_
 refine⟨rfl,rfl,rfl,?_⟩
 exact⟨_,_,_,(ah.ren 3 2001 rfl).trans ((ah.ren 4 2002 rfl).trans (ah.ren 5 2003 rfl)),rfl,rfl,⟨rfl,rfl,rfl,rfl,rfl,rfl,rfl,trivial⟩,rfl⟩
theorem VW (s:bE) (aV:fP s) (c:Nat) (hc:c < s.t.length):Fn Tryz.prog 120 [aH 1001,aC (c:Int),.c (.one (.raw .nilFunc))] (di s) [] (cI .u8 (dZ s c none)) (di s):=
 Fn.dU (VQ s aV.bits aV.tl c hc fun h=>by
  rcases aV.slot c _ (List.getElem?_eq_getElem hc) with ak |ak |⟨h,ak,_,xs,hx,aB⟩
  ·rw[ak] at h;cases h
  ·rw[ak] at h;cases h
  ·rw[ak];exact⟨xs,hx,by have:=(u0 aV.bits).2;omega⟩) rfl rfl
def zP (s:bE) (a l k:Nat):List UInt8:=((dZ s (aT (wid s) a l k).c none).take (aT (wid s) a l k).b).drop (aT (wid s) a l k).a
def x6 (s:bE) (a l:Nat):Nat→List UInt8
 |0=>[]
 |k+1=>x6 s a l k++zP s a l k
def Ih (s:bE) (a l:Nat):List UInt8:=x6 s a l (bU (wid s) a l)
@[reducible] def VX:aQ:=[(3,aH 3),(9,aH 9)]
@[reducible] def Ii (s:bE) (acc:List UInt8):aG:=di s++[(3,.cells [.ptr 1001 0]),(9,.cells [.own 5002]),(5002,.row 5 .u8 acc)]
@[reducible] def VY (s:bE) (acc:List UInt8):aG:=di s++[(3,.cells [.ptr 1001 0]),(9,.cells [.own 33]),(33,.row 5 .u8 acc)]
theorem NJ {s:bE} (aV:fP s) {a l:Nat}: ∀k,(x6 s a l k).length≤k*128
 |0=>Nat.le_refl _
 |k+1=>by
  have h:=NJ aV (a:=a) (l:=l) k
  have af:(zP s a l k).length≤128:=by
   unfold zP
   rw[List.length_drop,List.length_take]
   have ay:(aT (wid s) a l k).b≤128:=by
    unfold aT;simp only
    have:=(u0 aV.bits).2
    omega
   omega
  show(x6 s a l k++zP s a l k).length≤_
  rw[List.length_append]
  omega
set_option maxHeartbeats 1000000 in
theorem NK (s:bE) (aV:fP s) (a l:Nat) (aE:dK s a l=0):Fn Tryz.prog 92 [aH 1001,aC (a:Int),aC (l:Int)] (di s) [] (.c6 [.one (.d (.cT .u8 (Ih s a l))),fh 0]) (di s):=by
 have dY:=o4 aV.bits
 have dh:(a:Int)+(l:Int)≤(eV s:Nat):=by
  unfold dK at aE
  split at aE
  ·cases aE
  ·split at aE
   ·cases aE
   ·omega
 have tP:eV s≤2048:=Nat.mul_le_mul aV.tl (k5 aV.bits).2
 refine Fn.of ai [4,5] _ _ _ _ _ Tryz.func92 rfl rfl (by kernel_rfl) (by kernel_rfl) rfl (aJ ai) rfl ?_
 refine⟨rfl,?_⟩
 refine⟨_,_,_,_,wq s aV a l,⟨rfl,rfl,rfl,rfl,trivial⟩,rfl,?_⟩
 rw[aE]
 refine⟨fun h=>absurd h (by decide),fun _=>?_⟩
 show av _ _ _ _ _ _ _
 refine av.go ai (aJ ai) [5] (by kernel_rfl) (ah.refl _ _) ?_
 refine⟨rfl,?_⟩
 show av _ _ _ _ _ _ _
 refine av.go ai (aJ ai) [] (by kernel_rfl) ((ah.L8 9 0 5002 5 .u8 rfl rfl rfl).trans (ah.sub (K':=[(1,aC (a:Int)),(2,aC (l:Int)),(3,aH 3),(9,aH 9)]) (B':=Ii s []) ⟨rfl,rfl,rfl,rfl,trivial⟩ ⟨rfl,rfl,rfl,rfl,rfl,rfl,rfl,trivial⟩)) ?_
 refine⟨_,_,_,_,zO s a l,⟨rfl,rfl,rfl,rfl,trivial⟩,rfl,?_⟩
 show av _ _ _ _ _ _ _
 refine av.le (ah.sub (K':=[(21,.c (.one (.eM 133 [.p 2001 0,.p 2002 0,.p 2003 0]))),(3,aH 3),(9,aH 9)]) (B':=qH a l++Ii s []) ⟨rfl,rfl,rfl,trivial⟩ ⟨rfl,rfl,rfl,rfl,rfl,rfl,rfl,rfl,rfl,rfl,trivial⟩) ?_
 refine av.range ai [] (pl:=[22]) rfl (by kernel_rfl) (by kernel_rfl) (by kernel_rfl) (by kernel_rfl) [1001,1002,1003,1004,3,9] _ VX (qH a l) (fun k:Nat=>Ii s (x6 s a l k)) 1001 0 (bU (wid s) a l) (fun k vs k'=>k < bU (wid s) a l∧vs=[qE (aT (wid s) a l k)]∧k'=k+1) rfl (by exact⟨rfl,rfl,trivial⟩) rfl rfl ?_ ?_ ?_
 ·rintro k vs k' ⟨aq,rfl,rfl⟩
  obtain⟨dS,cW,dF,dG⟩:=qG dY aq
  have hc:(aT (wid s) a l k).c < s.t.length:=by
   have e:eV s*16=s.t.length*wid s:=by unfold eV wid;rw[Nat.mul_assoc,Nat.mul_comm (2 ^s.bits) 16]
   have aa:(aT (wid s) a l k).c*wid s < s.t.length*wid s:=by omega
   exact Nat.lt_of_mul_lt_mul_right aa
  have cP:=x5 aV hc none
  have hlen:=NJ aV (a:=a) (l:=l) k
  have rJ:k≤3000:=by
   have aa:=(u7 (a:=a) (l:=l) (k:=k) dY).2 aq
   rcases dY with e |e |e |e <;>rw[e] at aa <;>omega
  have m1:(0:Int)≤((aT (wid s) a l k).a:Int)∧((aT (wid s) a l k).a:Int)≤((aT (wid s) a l k).b:Int)∧((aT (wid s) a l k).b:Int)≤(((dZ s (aT (wid s) a l k).c none).length:Nat):Int):=by omega
  have m2:(x6 s a l k).length+(((dZ s (aT (wid s) a l k).c none).take (aT (wid s) a l k).b).drop (aT (wid s) a l k).a).length≤4294967296:=by
   rw[List.length_drop,List.length_take]
   omega
  have VZ:=VW s aV _ hc
  refine⟨rfl,rfl,?_⟩
  refine⟨rfl,?_⟩
  refine⟨rfl,?_⟩
  refine⟨_,_,_,_,VZ,⟨rfl,rfl,rfl,rfl,trivial⟩,rfl,?_⟩
  refine⟨m1,?_⟩
  refine⟨m2,rfl,?_⟩
  refine⟨rfl,?_⟩
  exact⟨rfl,(ah.sub (K':=[]) (B':=VY s (x6 s a l (k+1))) trivial ⟨rfl,rfl,rfl,rfl,rfl,rfl,rfl,trivial⟩).trans (ah.ren 33 5002 rfl)⟩
 ·intro y fD sF aF
  exact zN y (wid s) a l dY (by omega) (by omega) fD (fun k=>sF _ _ _ k k (Fn.more _ (qC s aV.bits) rfl rfl) rfl rfl) (fun k aq=>aF k _ (k+1) ⟨aq,rfl,rfl⟩)
 ·refine⟨_,_,_,ah.dU 5002 rfl,rfl,⟨rfl,rfl,trivial⟩,⟨rfl,rfl,rfl,rfl,trivial⟩,rfl⟩
theorem V0 (s:bE) (aV:fP s) (a l:Int) (aE:dK s a l≠0):Fn Tryz.prog 92 [aH 1001,aC a,aC l] (di s) [] (.c6 [.one .ec,fh (dK s a l)]) (di s):=by
 refine Fn.of ai [] _ _ _ _ _ Tryz.func92 rfl rfl (by kernel_rfl) (by kernel_rfl) rfl (aJ ai) rfl ?_
 refine⟨rfl,?_⟩
 refine⟨_,_,_,_,wq s aV a l,⟨rfl,rfl,rfl,rfl,trivial⟩,rfl,?_⟩
 refine⟨fun _=>?_,fun h=>absurd (show dK s a l=0 by have h:(!decide (dK s a l=0))=false:=h;simpa using h) aE⟩
 exact⟨_,_,_,ah.refl _ _,rfl,⟨rfl,rfl,trivial⟩,⟨rfl,rfl,rfl,rfl,trivial⟩,rfl⟩
theorem rK {s:bE} (aV:fP s) {a l:Nat} (dh:a+l≤eV s) {k:Nat} (aq:k < bU (wid s) a l):(aT (wid s) a l k).c < s.t.length∧k≤3000:=by
 have dY:=o4 aV.bits
 have tP:eV s≤2048:=Nat.mul_le_mul aV.tl (k5 aV.bits).2
 obtain⟨dS,cW,dF,dG⟩:=qG dY aq
 refine⟨?_,?_⟩
 ·have e:eV s*16=s.t.length*wid s:=by unfold eV wid;rw[Nat.mul_assoc,Nat.mul_comm (2 ^s.bits) 16]
  have aa:(aT (wid s) a l k).c*wid s < s.t.length*wid s:=by omega
  exact Nat.lt_of_mul_lt_mul_right aa
 ·have aa:=(u7 (a:=a) (l:=l) (k:=k) dY).2 aq
  rcases dY with e |e |e |e <;>rw[e] at aa <;>omega
theorem rL {s:bE} {a l:Nat} (aE:dK s a l=0):a+l≤eV s:=by
 unfold dK at aE
 split at aE
 ·cases aE
 ·split at aE
  ·cases aE
  ·omega
def fX (s:bE) (a l:Nat):Nat→Nat
 |0=>0
 |k+1=>fX s a l k+(if gC s (aT (wid s) a l k).c=true then 1 else 0)
def lU (bs:List UInt8) (p:mA):List UInt8:=(bs.take (p.at_+p.b - p.a)).drop p.at_
def gJ (s:bE) (a l:Nat) (bs:List UInt8) (y:Nat→List UInt8):Nat→bE
 |0=>s
 |k+1=>x4 (gJ s a l bs y k) (aT (wid s) a l k) (lU bs (aT (wid s) a l k)) (y (aT (wid s) a l k).c)
theorem V1 (s:bE) (a l k:Nat):fX s a l k≤k:=by
 induction k with
 |zero=>exact Nat.le_refl _
 |succ k aZ=>
  show fX s a l k+_≤k+1
  split <;>omega
@[reducible] def Ij (s:bE) (R:bq→bN) (bs:List UInt8) (b1 b2:Nat) (n:Nat):aG:=fE s R++[(4,.cells [.ptr 1001 0]),(6,.cells [.d (.cT .u8 bs)]),(7,.cells [.d (.fn (114,[b1,b2]))]),(11,.cells [.d (.int .i64 (n:Int))])]
@[reducible] def BQ (s:bE) (R:bq→bN) (bs:List UInt8) (b1 b2:Nat):aG:=fE s R++[(4,.cells [.ptr 1001 0]),(6,.cells [.d (.cT .u8 bs)]),(7,.cells [.d (.fn (114,[b1,b2]))])]
@[reducible] def Ik (a l:Nat):aQ:=[(1,aC (a:Int)),(4,aH 4),(6,aH 6),(7,aH 7),(9,aC (l:Int))]
@[reducible] def Il (a l:Nat):aQ:=[(1,aC (a:Int)),(4,aH 4),(6,aH 6),(7,aH 7),(9,aC (l:Int)),(11,aH 11)]
set_option maxHeartbeats 1000000 in
theorem V2 (s:bE) (R:bq→bN) (b1 b2:Nat) (aV:fP s) (a l:Nat) (bs:List UInt8) (e6:bs.length=16*l) (aE:dK s a l=0) (y:Nat→List UInt8) (r:Int) (s':bE) (gR:zeros s.l < fX s a l (bU (wid s) a l)→r=120∧s'=s) (Im:fX s a l (bU (wid s) a l)≤zeros s.l→r=0∧s'=gJ s a l bs y (bU (wid s) a l))
  (gO:fX s a l (bU (wid s) a l)≤zeros s.l→ ∀k,k < bU (wid s) a l→Fn Tryz.prog 119 [aH 1001,qE (aT (wid s) a l k),cI .u8 (lU bs (aT (wid s) a l k)),nD b1 b2] (fE (gJ s a l bs y k) R) [] ry (fE (gJ s a l bs y (k+1)) R)) (zQ:fX s a l (bU (wid s) a l)≤zeros s.l→ ∀k,k≤bU (wid s) a l→(gJ s a l bs y k).bits=s.bits):
  Fn Tryz.prog 91 [aH 1001,aC (a:Int),cI .u8 bs,nD b1 b2] (fE s R) [] (aC r) (fE s' R):=by
 have dY:=o4 aV.bits
 have dh:=rL aE
 have tP:eV s≤2048:=Nat.mul_le_mul aV.tl (k5 aV.bits).2
 have bp:((bs.length:Nat):Int)/16=(l:Int):=by omega
 have hr:((bs.length:Nat):Int) % 16=0:=by omega
 refine Fn.of ai [4,7,8,12,14,17] _ _ _ _ _ Tryz.func91 rfl rfl (by kernel_rfl) (by kernel_rfl) rfl (aJ ai) rfl ?_
 refine⟨rfl,rfl,rfl,?_⟩
 have m1:(0:Int)≤((bs.length:Nat):Int)∧(0:Int) < 16:=by omega
 have m2:(-9223372036854775808:Int)≤((bs.length:Nat):Int)/16∧((bs.length:Nat):Int)/16≤9223372036854775807:=by omega
 have m3:(-9223372036854775808:Int)≤((bs.length:Nat):Int) % 16∧((bs.length:Nat):Int) % 16≤9223372036854775807:=by omega
 refine⟨m1,m2,?_⟩
 refine⟨m1,m3,?_⟩
 refine⟨fun h=>(by
  have h:(!decide ((((bs.length:Nat):Int)) % 16=0))=true:=h
  rw[decide_eq_true hr] at h
  cases h),fun _=>?_⟩
 show av _ _ _ _ _ _ _
 refine av.go ai (aJ ai) [7] (by kernel_rfl) (ah.sub (K':=[(1,aC (a:Int)),(4,aH 4),(6,aH 6),(7,aH 7),(9,aC (l:Int))]) (B':=BQ s R bs b1 b2) ⟨rfl,rfl,rfl,rfl,bp,trivial⟩ ⟨rfl,rfl,rfl,rfl,rfl,rfl,rfl,rfl,trivial⟩) ?_
 refine⟨_,_,_,_,wq s aV a l,⟨rfl,rfl,rfl,rfl,trivial⟩,rfl,?_⟩
 rw[aE]
 refine⟨fun h=>absurd h (by decide),fun _=>?_⟩
 show av _ _ _ _ _ _ _
 refine av.go ai (aJ ai) [8] (by kernel_rfl) (ah.refl _ _) ?_
 refine⟨rfl,?_⟩
 show av _ _ _ _ _ _ _
 refine av.go ai (aJ ai) [] (by kernel_rfl) (ah.sub (K':=Il a l) (B':=Ij s R bs b1 b2 0) ⟨rfl,rfl,rfl,rfl,rfl,rfl,trivial⟩ ⟨rfl,rfl,rfl,rfl,rfl,rfl,rfl,rfl,rfl,trivial⟩) ?_
 refine⟨_,_,_,_,zO s a l,⟨rfl,rfl,rfl,rfl,trivial⟩,rfl,?_⟩
 show av _ _ _ _ _ _ _
 refine av.le (ah.sub (K':=(31,.c (.one (.eM 133 [.p 2001 0,.p 2002 0,.p 2003 0])))::Il a l) (B':=qH a l++Ij s R bs b1 b2 0) ⟨rfl,rfl,rfl,rfl,rfl,rfl,rfl,trivial⟩ ⟨rfl,rfl,rfl,rfl,rfl,rfl,rfl,rfl,rfl,rfl,rfl,rfl,trivial⟩) ?_
 refine av.range ai [] (pl:=[32]) rfl (by kernel_rfl) (by kernel_rfl) (by kernel_rfl) (by kernel_rfl) [1001,1002,1003,1004,9000,4,6,7,11] _ (Il a l) (qH a l) (fun k:Nat=>Ij s R bs b1 b2 (fX s a l k)) 1001 0 (bU (wid s) a l) (fun k vs k'=>k < bU (wid s) a l∧vs=[qE (aT (wid s) a l k)]∧k'=k+1) rfl (by exact⟨rfl,rfl,rfl,rfl,rfl,rfl,trivial⟩) rfl rfl ?_ ?_ ?_
 ·rintro k vs k' ⟨aq,rfl,rfl⟩
  obtain⟨hc,rJ⟩:=rK aV dh aq
  have V3:=V1 s a l k
  refine⟨rfl,rfl,?_⟩
  refine⟨rfl,?_⟩
  refine⟨rfl,?_⟩
  refine⟨_,_,_,_,Ia s aV.tl _ hc,⟨rfl,rfl,rfl,rfl,trivial⟩,rfl,?_⟩
  refine⟨fun hn=>?_,fun hn=>?_⟩
  ·have e:((fX s a l k:Nat):Int)+1=((fX s a l (k+1):Nat):Int):=by
    show _=((fX s a l k+_:Nat):Int)
    rw[if_pos hn]
    omega
   have je:(-9223372036854775808:Int)≤((fX s a l k:Nat):Int)+1∧((fX s a l k:Nat):Int)+1≤9223372036854775807:=by omega
   refine⟨je,?_⟩
   exact⟨rfl,ah.sub trivial ⟨rfl,rfl,rfl,rfl,rfl,rfl,rfl,rfl,by rw[←e];rfl,trivial⟩⟩
  ·have e:fX s a l (k+1)=fX s a l k:=by
    show fX s a l k+_=_
    rw[if_neg (by rw[hn];decide)]
    exact Nat.add_zero _
   exact⟨rfl,ah.sub trivial ⟨rfl,rfl,rfl,rfl,rfl,rfl,rfl,rfl,by rw[e];rfl,trivial⟩⟩
 ·intro y fD sF aF
  exact zN y (wid s) a l dY (by omega) (by omega) fD (fun k=>sF _ _ _ k k (Fn.more [(9000,.dep 1001 R),(4,.cells [.ptr 1001 0]),(6,.cells [.d (.cT .u8 bs)]),(7,.cells [.d (.fn (114,[b1,b2]))]),(11,.cells [.d (.int .i64 (fX s a l k:Int))])] (qC s aV.bits) rfl rfl) rfl rfl) (fun k aq=>aF k _ (k+1) ⟨aq,rfl,rfl⟩)
 ·have aS:zeros s.l≤512:=Nat.le_trans (HY _) aV.lS
  show av _ _ _ _ _ _ _
  refine av.go ai (aJ ai) [14,17] (by kernel_rfl) (ah.refl _ _) ?_
  refine⟨_,_,_,_,Nx s (by have:=aV.lS;omega),⟨rfl,rfl,rfl,rfl,trivial⟩,rfl,?_⟩
  refine⟨rfl,?_⟩
  refine⟨fun h=>?_,fun h=>?_⟩
  ·have h:((zeros s.l:Nat):Int) < ((fX s a l (bU (wid s) a l):Nat):Int):=of_decide_eq_true h
   obtain⟨rfl,rfl⟩:=gR (by omega)
   exact⟨_,_,_,ah.refl _ _,rfl,rfl,⟨rfl,rfl,rfl,rfl,rfl,trivial⟩,rfl⟩
  have h: ¬((zeros s.l:Nat):Int) < ((fX s a l (bU (wid s) a l):Nat):Int):=of_decide_eq_false h
  have dJ:fX s a l (bU (wid s) a l)≤zeros s.l:=by omega
  obtain⟨rfl,rfl⟩:=Im dJ
  have gO:=gO dJ
  have zQ:=zQ dJ
  show av _ _ _ _ _ _ _
  refine av.go ai (aJ ai) [17] (by kernel_rfl) (ah.sub (K':=Ik a l) (B':=BQ s R bs b1 b2) ⟨rfl,rfl,rfl,rfl,rfl,trivial⟩ ⟨rfl,rfl,rfl,rfl,rfl,rfl,rfl,rfl,trivial⟩) ?_
  refine⟨_,_,_,_,zO s a l,⟨rfl,rfl,rfl,rfl,trivial⟩,rfl,?_⟩
  show av _ _ _ _ _ _ _
  refine av.le (ah.sub (K':=(45,.c (.one (.eM 133 [.p 2001 0,.p 2002 0,.p 2003 0])))::Ik a l) (B':=qH a l++BQ s R bs b1 b2) ⟨rfl,rfl,rfl,rfl,rfl,rfl,trivial⟩ ⟨rfl,rfl,rfl,rfl,rfl,rfl,rfl,rfl,rfl,rfl,rfl,trivial⟩) ?_
  refine av.range ai [] (pl:=[46]) rfl (by kernel_rfl) (by kernel_rfl) (by kernel_rfl) (by kernel_rfl) [1001,1002,1003,1004,9000,4,6,7] _ (Ik a l) (qH a l) (fun k:Nat=>BQ (gJ s a l bs y k) R bs b1 b2) 1001 0 (bU (wid s) a l) (fun k vs k'=>k < bU (wid s) a l∧vs=[qE (aT (wid s) a l k)]∧k'=k+1) rfl (by exact⟨rfl,rfl,rfl,rfl,rfl,trivial⟩) rfl rfl ?_ ?_ ?_
  ·rintro k vs k' ⟨aq,rfl,rfl⟩
   obtain⟨hc,rJ⟩:=rK aV dh aq
   obtain⟨dS,cW,dF,dG⟩:=qG dY aq
   have gO:=gO k aq
   have hw:=u0 aV.bits
   refine⟨rfl,rfl,?_⟩
   refine⟨rfl,?_⟩
   refine⟨rfl,?_⟩
   have hx:lU bs (aT (wid s) a l k)=(bs.take (((aT (wid s) a l k).at_:Int)+((aT (wid s) a l k).b:Int) - ((aT (wid s) a l k).a:Int)).toNat).drop (((aT (wid s) a l k).at_:Int)).toNat:=by
    unfold lU
    rw[show(((aT (wid s) a l k).at_:Int)+((aT (wid s) a l k).b:Int) - ((aT (wid s) a l k).a:Int)).toNat=(aT (wid s) a l k).at_+(aT (wid s) a l k).b - (aT (wid s) a l k).a by omega]
    rfl
   have je:(-9223372036854775808:Int)≤((aT (wid s) a l k).at_:Int)+((aT (wid s) a l k).b:Int)∧((aT (wid s) a l k).at_:Int)+((aT (wid s) a l k).b:Int)≤9223372036854775807:=by omega
   have mB:(-9223372036854775808:Int)≤((aT (wid s) a l k).at_:Int)+((aT (wid s) a l k).b:Int) - ((aT (wid s) a l k).a:Int)∧((aT (wid s) a l k).at_:Int)+((aT (wid s) a l k).b:Int) - ((aT (wid s) a l k).a:Int)≤9223372036854775807:=by omega
   have rM:(0:Int)≤((aT (wid s) a l k).at_:Int)∧((aT (wid s) a l k).at_:Int)≤((aT (wid s) a l k).at_:Int)+((aT (wid s) a l k).b:Int) - ((aT (wid s) a l k).a:Int)∧((aT (wid s) a l k).at_:Int)+((aT (wid s) a l k).b:Int) - ((aT (wid s) a l k).a:Int)≤((bs.length:Nat):Int):=by omega
   rw[hx] at gO
   refine⟨je,mB,rM,?_⟩
   refine⟨_,_,_,_,gO,⟨rfl,rfl,rfl,rfl,rfl,trivial⟩,rfl,?_⟩
   refine⟨rfl,?_⟩
   exact⟨rfl,ah.sub trivial ⟨rfl,rfl,rfl,rfl,rfl,rfl,rfl,rfl,trivial⟩⟩
  ·intro x7 fD sF aF
   have h:=zN x7 (wid s) a l dY (by omega) (by omega) (fun k=>fD (min k (bU (wid s) a l))) (fun k=>sF _ _ _ (min k (bU (wid s) a l)) (min k (bU (wid s) a l)) (by
    have ag:=zQ (min k (bU (wid s) a l)) (Nat.min_le_right _ _)
    have af:=qC (gJ s a l bs y (min k (bU (wid s) a l))) (by rw[ag];exact aV.bits)
    rw[show wid (gJ s a l bs y (min k (bU (wid s) a l)))=wid s from congrArg (fun b=>16*2 ^b) ag] at af
    exact Fn.more [(9000,.dep 1001 R),(4,.cells [.ptr 1001 0]),(6,.cells [.d (.cT .u8 bs)]),(7,.cells [.d (.fn (114,[b1,b2]))])] af rfl rfl) rfl rfl) (fun k aq=>by
    have h:=aF k _ (k+1) ⟨aq,rfl,rfl⟩
    rw[Nat.min_eq_left (by omega),Nat.min_eq_left (by omega)]
    exact h)
   simp only[Nat.zero_min,Nat.min_self] at h
   exact h
  ·show av _ _ _ _ _ _ _
   refine av.go ai (aJ ai) [] (by kernel_rfl) (ah.refl _ _) ?_
   exact⟨_,_,_,ah.refl _ _,rfl,rfl,⟨rfl,rfl,rfl,rfl,rfl,trivial⟩,rfl⟩
theorem V4 (s:bE) (R:bq→bN) (b1 b2:Nat) (a:Int) (bs:List UInt8) (h:bs.length % 16≠0) (aB:bs.length≤1000000000):Fn Tryz.prog 91 [aH 1001,aC a,cI .u8 bs,nD b1 b2] (fE s R) [] (aC 1) (fE s R):=by
 have hr: ¬((bs.length:Nat):Int) % 16=0:=by omega
 refine Fn.of ai [] _ _ _ _ _ Tryz.func91 rfl rfl (by kernel_rfl) (by kernel_rfl) rfl (aJ ai) rfl ?_
 refine⟨rfl,rfl,rfl,?_⟩
 have m1:(0:Int)≤((bs.length:Nat):Int)∧(0:Int) < 16:=by omega
 have m2:(-9223372036854775808:Int)≤((bs.length:Nat):Int)/16∧((bs.length:Nat):Int)/16≤9223372036854775807:=by omega
 have m3:(-9223372036854775808:Int)≤((bs.length:Nat):Int) % 16∧((bs.length:Nat):Int) % 16≤9223372036854775807:=by omega
 refine⟨m1,m2,?_⟩
 refine⟨m1,m3,?_⟩
 refine⟨fun _=>?_,fun h=>(by
  have h:(!decide ((((bs.length:Nat):Int)) % 16=0))=false:=h
  rw[decide_eq_false hr] at h
  cases h)⟩
 exact⟨_,_,_,ah.refl _ _,rfl,rfl,⟨rfl,rfl,rfl,rfl,rfl,trivial⟩,rfl⟩
theorem V5 (s:bE) (R:bq→bN) (b1 b2:Nat) (aV:fP s) (a:Int) (l:Nat) (bs:List UInt8) (e6:bs.length=16*l) (aB:l≤100000000) (aE:dK s a l≠0):Fn Tryz.prog 91 [aH 1001,aC a,cI .u8 bs,nD b1 b2] (fE s R) [] (aC (dK s a l)) (fE s R):=by
 have bp:((bs.length:Nat):Int)/16=(l:Int):=by omega
 have hr:((bs.length:Nat):Int) % 16=0:=by omega
 refine Fn.of ai [4] _ _ _ _ _ Tryz.func91 rfl rfl (by kernel_rfl) (by kernel_rfl) rfl (aJ ai) rfl ?_
 refine⟨rfl,rfl,rfl,?_⟩
 have m1:(0:Int)≤((bs.length:Nat):Int)∧(0:Int) < 16:=by omega
 have m2:(-9223372036854775808:Int)≤((bs.length:Nat):Int)/16∧((bs.length:Nat):Int)/16≤9223372036854775807:=by omega
 have m3:(-9223372036854775808:Int)≤((bs.length:Nat):Int) % 16∧((bs.length:Nat):Int) % 16≤9223372036854775807:=by omega
 refine⟨m1,m2,?_⟩
 refine⟨m1,m3,?_⟩
 refine⟨fun h=>(by
  have h:(!decide ((((bs.length:Nat):Int)) % 16=0))=true:=h
  rw[decide_eq_true hr] at h
  cases h),fun _=>?_⟩
 show av _ _ _ _ _ _ _
 refine av.go ai (aJ ai) [] (by kernel_rfl) (ah.sub (K':=[(1,aC a),(4,aH 4),(9,aC (l:Int))]) (B':=BQ s R bs b1 b2) ⟨rfl,rfl,bp,trivial⟩ ⟨rfl,rfl,rfl,rfl,rfl,rfl,rfl,rfl,trivial⟩) ?_
 refine⟨_,_,_,_,wq s aV a l,⟨rfl,rfl,rfl,rfl,trivial⟩,rfl,?_⟩
 refine⟨fun _=>?_,fun h=>absurd (show dK s a l=0 by have h:(!decide (dK s a l=0))=false:=h;simpa using h) aE⟩
 exact⟨_,_,_,ah.refl _ _,rfl,rfl,⟨rfl,rfl,rfl,rfl,rfl,trivial⟩,rfl⟩
def iT (s:bE) (a l:Nat):Nat→bE
 |0=>s
 |k+1=>if(aT (wid s) a l k).b - (aT (wid s) a l k).a=wid s then rI (iT s a l k) (aT (wid s) a l k).c s0 else iT s a l k
@[reducible] def Io (s:bE):aG:=di s++[(3,.cells [.ptr 1001 0])]
@[reducible] def NL:aQ:=[(3,aH 3)]
set_option maxHeartbeats 1000000 in
theorem V6 (s:bE) (aV:fP s) (a l:Nat) (aE:dK s a l=0) (gO: ∀k,k < bU (wid s) a l→Fn Tryz.prog 127 [aH 1001,aC ((aT (wid s) a l k).c:Int),.c (pY s0)] (di (iT s a l k)) [] ry (di (rI (iT s a l k) (aT (wid s) a l k).c s0))) (zQ: ∀k,k≤bU (wid s) a l→(iT s a l k).bits=s.bits):
  Fn Tryz.prog 102 [aH 1001,aC (a:Int),aC (l:Int)] (di s) [] (aC 0) (di (iT s a l (bU (wid s) a l))):=by
 have dY:=o4 aV.bits
 have hw:=u0 aV.bits
 have dh:=rL aE
 have tP:eV s≤2048:=Nat.mul_le_mul aV.tl (k5 aV.bits).2
 refine Fn.of ai [4,8] _ _ _ _ _ Tryz.func102 rfl rfl (by kernel_rfl) (by kernel_rfl) rfl (aJ ai) rfl ?_
 refine⟨rfl,?_⟩
 refine⟨_,_,_,_,wq s aV a l,⟨rfl,rfl,rfl,rfl,trivial⟩,rfl,?_⟩
 rw[aE]
 refine⟨fun h=>absurd h (by decide),fun _=>?_⟩
 show av _ _ _ _ _ _ _
 refine av.go ai (aJ ai) [8] (by kernel_rfl) (ah.sub (K':=[(1,aC (a:Int)),(2,aC (l:Int)),(3,aH 3)]) (B':=Io s) ⟨rfl,rfl,rfl,trivial⟩ ⟨rfl,rfl,rfl,rfl,rfl,trivial⟩) ?_
 refine⟨_,_,_,_,zO s a l,⟨rfl,rfl,rfl,rfl,trivial⟩,rfl,?_⟩
 show av _ _ _ _ _ _ _
 refine av.le (ah.sub (K':=(19,.c (.one (.eM 133 [.p 2001 0,.p 2002 0,.p 2003 0])))::NL) (B':=qH a l++Io s) ⟨rfl,rfl,trivial⟩ ⟨rfl,rfl,rfl,rfl,rfl,rfl,rfl,rfl,trivial⟩) ?_
 refine av.range ai [] (pl:=[20]) rfl (by kernel_rfl) (by kernel_rfl) (by kernel_rfl) (by kernel_rfl) [1001,1002,1003,1004,3] _ NL (qH a l) (fun k:Nat=>Io (iT s a l k)) 1001 0 (bU (wid s) a l) (fun k vs k'=>k < bU (wid s) a l∧vs=[qE (aT (wid s) a l k)]∧k'=k+1) rfl (by exact⟨rfl,trivial⟩) rfl rfl ?_ ?_ ?_
 ·rintro k vs k' ⟨aq,rfl,rfl⟩
  obtain⟨dS,cW,dF,dG⟩:=qG dY aq
  have gO:=gO k aq
  have ag:=zQ k (Nat.le_of_lt aq)
  have af:=qC (iT s a l k) (by rw[ag];exact aV.bits)
  rw[show wid (iT s a l k)=wid s from congrArg (fun b=>16*2 ^b) ag] at af
  have je:(-9223372036854775808:Int)≤((aT (wid s) a l k).b:Int) - ((aT (wid s) a l k).a:Int)∧((aT (wid s) a l k).b:Int) - ((aT (wid s) a l k).a:Int)≤9223372036854775807:=by omega
  refine⟨rfl,rfl,?_⟩
  refine⟨rfl,?_⟩
  refine⟨rfl,?_⟩
  refine⟨je,?_⟩
  refine⟨_,_,_,_,af,⟨rfl,rfl,rfl,rfl,trivial⟩,rfl,?_⟩
  refine⟨rfl,?_⟩
  refine⟨fun h=>?_,fun h=>?_⟩
  ·have h:((aT (wid s) a l k).b:Int) - ((aT (wid s) a l k).a:Int)=((wid s:Nat):Int):=of_decide_eq_true h
   have e:iT s a l (k+1)=rI (iT s a l k) (aT (wid s) a l k).c s0:=if_pos (by omega)
   refine⟨_,_,_,_,Fn.arg gO ⟨rfl,rfl,⟨rfl,rfl,rfl,trivial⟩,trivial⟩,⟨rfl,rfl,rfl,rfl,trivial⟩,rfl,?_⟩
   rw[e]
   exact⟨rfl,ah.sub trivial ⟨rfl,rfl,rfl,rfl,rfl,trivial⟩⟩
  ·have h: ¬((aT (wid s) a l k).b:Int) - ((aT (wid s) a l k).a:Int)=((wid s:Nat):Int):=of_decide_eq_false h
   have e:iT s a l (k+1)=iT s a l k:=if_neg (by omega)
   rw[e]
   exact⟨rfl,ah.sub trivial ⟨rfl,rfl,rfl,rfl,rfl,trivial⟩⟩
 ·intro x7 fD sF aF
  have h:=zN x7 (wid s) a l dY (by omega) (by omega) (fun k=>fD (min k (bU (wid s) a l))) (fun k=>sF _ _ _ (min k (bU (wid s) a l)) (min k (bU (wid s) a l)) (by
   have ag:=zQ (min k (bU (wid s) a l)) (Nat.min_le_right _ _)
   have af:=qC (iT s a l (min k (bU (wid s) a l))) (by rw[ag];exact aV.bits)
   rw[show wid (iT s a l (min k (bU (wid s) a l)))=wid s from congrArg (fun b=>16*2 ^b) ag] at af
   exact Fn.more [(3,.cells [.ptr 1001 0])] af rfl rfl) rfl rfl) (fun k aq=>by
   have h:=aF k _ (k+1) ⟨aq,rfl,rfl⟩
   rw[Nat.min_eq_left (by omega),Nat.min_eq_left (by omega)]
   exact h)
  simp only[Nat.zero_min,Nat.min_self] at h
  exact h
 ·show av _ _ _ _ _ _ _
  refine av.go ai (aJ ai) [] (by kernel_rfl) (ah.refl _ _) ?_
  exact⟨_,_,_,ah.refl _ _,rfl,rfl,⟨rfl,rfl,rfl,rfl,trivial⟩,rfl⟩
theorem V7 (s:bE) (aV:fP s) (a l:Int) (aE:dK s a l≠0):Fn Tryz.prog 102 [aH 1001,aC a,aC l] (di s) [] (aC (dK s a l)) (di s):=by
 refine Fn.of ai [] _ _ _ _ _ Tryz.func102 rfl rfl (by kernel_rfl) (by kernel_rfl) rfl (aJ ai) rfl ?_
 refine⟨rfl,?_⟩
 refine⟨_,_,_,_,wq s aV a l,⟨rfl,rfl,rfl,rfl,trivial⟩,rfl,?_⟩
 refine⟨fun _=>?_,fun h=>absurd (show dK s a l=0 by have h:(!decide (dK s a l=0))=false:=h;simpa using h) aE⟩
 exact⟨_,_,_,ah.refl _ _,rfl,rfl,⟨rfl,rfl,rfl,rfl,trivial⟩,rfl⟩
end Go.Proofs.YteoamepgonpdlaaGreat
