/-
A part of the proof of this claim: lemmas, with no condition beyond what each says.
-/
import Derived.Test.YthnboghbhgapcaaGreatZa18
set_option linter.unusedVariables false
set_option linter.unusedSimpArgs false
set_option maxRecDepth 10000
namespace Go.Proofs.YthnboghbhgapcaaGreat
open Go.RowKit Go.Proofs
section
def mj (b:List UInt8):List UInt8×Bool:=if b.length < 4 then([],false) else if rG (b.take (b.length - 4))=b then(b.take (b.length - 4),true) else([],false)
theorem alF (b:List UInt8) (O:b.length<=1000000):Fn Tryz.prog 214 [bS .u8 b] [] [] (.ce [.one (.d (.ck .u8 (mj b).1)),.one (.d (.bool (mj b).2))]) []:=by
 unfold mj;refine aW [] Tryz.func214 rfl rfl rfl rfl ?_;refine⟨fun c=>?_,fun c=>?_⟩
 .have c:(b.length:Int) < 4:=gd c;rw[if_pos (show b.length < 4 by omega)];exact aT aH rfl ac trivial rfl
 have c: ¬(b.length:Int) < 4:=mu c;rw[if_neg (show¬b.length < 4 by omega)];have q: -9223372036854775808<=(b.length:Int) - 4/\(b.length:Int) - 4<=9223372036854775807:=by omega
 have cA:0<=(b.length:Int) - 4/\(b.length:Int) - 4<=(b.length:Nat):=by omega
 have e:((b.length:Int) - 4).toNat=b.length - 4:=by omega
 have aq:(b.take (b.length - 4)).length<=1000000:=by rw[ap8];omega
 have ax:(rG (b.take (b.length - 4))).length<=4294967296:=by
  unfold rG;rw[ap1,qv];omega
 have bm:List.drop 0 (List.take ((b.length:Int) - 4).toNat b)=b.take (b.length - 4):=by rw[e,List.drop_zero]
 refine⟨q,cA,au (Fn.arg (Vt (b.take (b.length - 4)) aq) ⟨bm,trivial⟩) ?_⟩;refine au (U9 (rG (b.take (b.length - 4))) b ax au5) ?_;refine⟨fun d=>?_,fun d=>?_⟩
 .have d: ¬rG (b.take (b.length - 4))=b:=by simpa using d
  rw[if_neg d];exact aT aH rfl ac trivial rfl
 .have d:rG (b.take (b.length - 4))=b:=by simpa using d
  rw[if_pos d];refine⟨q,cA,au (Fn.arg (KY (b.take (b.length - 4)) au5) ⟨bm,trivial⟩) ?_⟩;exact aT aH rfl ac trivial rfl
theorem AD {m:bY} {L:dN} {b:Nat} (cW:hL L b=some m):Fn Tryz.prog 216 [dn b] [(1003,.aG (.bA (eR L)))] [] (ae m.n) [(1003,.aG (.bA (eR L)))]:=by
 have:=Ax (akH m) cW rfl rfl
 rwa[Hq cW] at this
theorem VB {m:bY} {L:dN} {b:Nat} (cW:hL L b=some m) (h:e2 m) (at_ a2:Int) (aw:0<=a2) (aI:m.kz at_ a2=true):Fn Tryz.prog 213 [dn b,ae at_,ae a2] [(1003,.aG (.bA (eR L)))] [] (.ce [.one (.d (.ck .u8 (pc m.bF at_ a2.toNat))),dw 0]) [(1003,.aG (.bA (eR L)))]:=by
 have:=Ax (alc m at_ a2 aw aI h.ky h.cH h.bF.wf) cW rfl rfl
 rwa[Hq cW] at this
def ml (m:bY) (k:Int):List UInt8:=pc m.bF k 1
def ix (x:List UInt8):Nat×Nat×Nat:=((fx 4 (x,0)).2,(fx 4 (fx 4 (x,0)).1).2,(fx 4 (fx 4 (fx 4 (x,0)).1).1).2)
def nt (m:bY) (k:Int):List UInt8:=pc m.bF (2+k*dq m.n) (dq m.n).toNat
def mU (m:bY) (k:Int):List UInt8×Int:=match(mj (ml m k)).2 with
 |false=>([],0)
 |true=>match decide (((ix (mj (ml m k)).1).1:Int) < 1)||decide ((1073741824:Int) < ((ix (mj (ml m k)).1).1:Int))||decide (dq m.n*16 < ((ix (mj (ml m k)).1).2.1:Int)) with
  |true=>([],0)
  |false=>match decide (jh ((nt m k).take (ix (mj (ml m k)).1).2.1)=((ix (mj (ml m k)).1).2.2:Int)) with
   |false=>([],0)
   |true=>((nt m k).take (ix (mj (ml m k)).1).2.1,((ix (mj (ml m k)).1).1:Int))
theorem Dr {n:Int} (G:2<=n) (E:n<=4096):0<=dq n/\2+dq n+dq n<=n:=by unfold dq;omega
theorem alG {m:bY} (ai:e2 m) (G:2<=m.n) (k:Int):(nt m k).length=16*(dq m.n).toNat:=Hg ai.bF.wf _ _
set_option maxHeartbeats 1000000 in
theorem alH {m:bY} (ai:e2 m) (G:2<=m.n) (k:Int) (ab:k=0\/k=1) {s:Nat} {M:dN} (ar:hL M s=some m):Fn Tryz.prog 196 [dn s,ae k] [(1003,.aG (.bA (eR M)))] [] (.ce [.one (.d (.ck .u8 (mU m k).1)),.one (.d (.int .i64 (mU m k).2))]) [(1003,.aG (.bA (eR M)))]:=by
 have jZ:=ai.cH;have dW:m.kz k 1=true:=by simp only[bY.kz,vj,ar5];omega
 obtain⟨a0,b4⟩:=Dr G jZ;unfold mU;refine aW [] Tryz.func196 rfl rfl rfl rfl ?_;refine au (VB ar ai k 1 au6 dW) ?_
 have bl:(ml m k).length<=1000000:=by
  have:=Hg ai.bF.wf k 1;unfold ml;omega
 refine au (alF (ml m k) bl) ?_;refine da ?_
 cases vI:(mj (ml m k)).2 with
 |false=>
  refine eO ?_;exact aT aH rfl ac ac rfl
 |true=>
  refine da ?_
  have hx:(mj (ml m k)).1.length<=4294967296:=by
   unfold mj
   split
   .simp
   .split
    .show((ml m k).take _).length<=_;rw[ap8];omega
    .simp
  generalize(mj (ml m k)).1=x at hx⊢;refine au (G0 x hx) ?_;refine au (o5 (x,0) 4 (by unfold W;omega)) ?_;refine au (o5 (fx 4 (x,0)).1 4 (by unfold W;omega)) ?_;refine au (o5 (fx 4 (fx 4 (x,0)).1).1 4 (by unfold W;omega)) ?_;refine⟨fun cB=>?_,fun cB=>?_⟩
  .have cB:decide (((ix x).1:Int) < 1)=true:=cB;rw[cB];exact aT aH rfl ac ac rfl
  have cB:decide (((ix x).1:Int) < 1)=false:=cB;rw[cB];refine⟨fun cL=>?_,fun cL=>?_⟩
  .have cL:decide ((1073741824:Int) < ((ix x).1:Int))=true:=cL;rw[cL];exact aT aH rfl ac ac rfl
  have cL:decide ((1073741824:Int) < ((ix x).1:Int))=false:=cL;rw[cL];refine au (AD ar) ?_;refine au (M4 m.n ai.ky ai.cH) ?_;refine⟨fun gP=>?_,fun gP=>?_⟩
  .have gP:decide (dq m.n*16 < ((ix x).2.1:Int))=true:=gP;rw[gP];exact aT aH rfl ac ac rfl
  have gP:decide (dq m.n*16 < ((ix x).2.1:Int))=false:=gP;rw[gP];have b6:=alG ai G k
  have mI:(ix x).2.1<=(nt m k).length:=by
   have:=mu gP;omega
  refine au (AD ar) ?_;refine au (Hp m.n ai.ky ai.cH) ?_;have cx: -9223372036854775808<=k*dq m.n/\k*dq m.n<=9223372036854775807:=by rcases ab with rfl |rfl <;>omega
  have cA: -9223372036854775808<=2+k*dq m.n/\2+k*dq m.n<=9223372036854775807:=by rcases ab with rfl |rfl <;>omega
  have pL:m.kz (2+k*dq m.n) (dq m.n)=true:=by
   simp only[bY.kz,vj,ar5];rcases ab with rfl |rfl <;>omega
  refine⟨cx,cA,au (AD ar) ?_⟩;refine au (Hp m.n ai.ky ai.cH) ?_;refine au (VB ar ai (2+k*dq m.n) (dq m.n) a0 pL) ?_;have dy:0<=((ix x).2.1:Int)/\((ix x).2.1:Int)<=((nt m k).length:Nat):=by omega
  refine⟨dy,?_⟩;have c0:([List.drop 0 (List.take (((ix x).2.1:Nat):Int).toNat (nt m k))]:List (List UInt8))=[(nt m k).take (ix x).2.1]:=rfl;refine au (Fn.arg (MO [(nt m k).take (ix x).2.1] au7 (fun y aC=>by rw[aq0] at aC;rw[aC,ap8];omega)) ⟨c0,trivial⟩) ?_;have fQ:([(nt m k).take (ix x).2.1]:List (List UInt8)).flatten=(nt m k).take (ix x).2.1:=by simp
  rw[fQ];refine⟨fun tx=>?_,fun tx=>?_⟩
  .have tx:(!decide (jh ((nt m k).take (ix x).2.1)=((ix x).2.2:Int)))=true:=tx;have Cy:decide (jh ((nt m k).take (ix x).2.1)=((ix x).2.2:Int))=false:=by simpa using tx
   rw[Cy];exact aT aH rfl ac ac rfl
  .have tx:(!decide (jh ((nt m k).take (ix x).2.1)=((ix x).2.2:Int)))=false:=tx;have Cy:decide (jh ((nt m k).take (ix x).2.1)=((ix x).2.2:Int))=true:=by simpa using tx
   rw[Cy];refine⟨_,_,fun N=>abY eN rfl rfl rfl rfl rfl rfl dy.1 dy.2 N,rfl,?_⟩;exact aT aH rfl ac ac rfl
def gu (m:bY):Nat->Int×List UInt8×Int
 |0=>(-1,[],0)
 |j+1=>if(gu m j).2.2 < (mU m (j:Nat)).2 then((j:Nat),(mU m (j:Nat)).1,(mU m (j:Nat)).2) else gu m j
abbrev alI (m:bY) (s j:Nat):a1:=[(0,dn s),(5,ae (gu m j).1),(6,ae (gu m j).2.2),(7,bS .u8 (gu m j).2.1),(11,ae (j:Nat))]
theorem M7 {m:bY} (ai:e2 m) (G:2<=m.n) {s:Nat} {M:dN} (ar:hL M s=some m):Fn Tryz.prog 169 [dn s] [(1003,.aG (.bA (eR M)))] [] (.ce [.one (.d (.int .i64 (gu m 2).1)),.one (.d (.ck .u8 (gu m 2).2.1)),.one (.d (.int .i64 (gu m 2).2.2))]) [(1003,.aG (.bA (eR M)))]:=by
 refine aW [] Tryz.func169 rfl rfl rfl rfl ?_;refine dX [] (X:=Nat) (alI m s) (fun _=>[(1003,.aG (.bA (eR M)))]) (fun j=>j<=2) (fun j=>2 - j) 0 au6 ?_ ?_
 .exact af.sub ac ac
 intro j aa;refine⟨fun h=>?_,fun h=>?_⟩
 .have h:(j:Int) < 2:=gd h;refine au (alH ai G (j:Nat) au5 ar) ?_;refine⟨fun c=>?_,fun c=>?_⟩
  .have c:(gu m j).2.2 < (mU m (j:Nat)).2:=gd c;have e:gu m (j+1)=(((j:Nat):Int),(mU m (j:Nat)).1,(mU m (j:Nat)).2):=if_pos c;refine⟨au5,j+1,au5,au5,af.sub ⟨rfl,?_,?_,?_,rfl,trivial⟩ ac⟩
   .rw[e];rfl
   .rw[e];rfl
   .rw[e];rfl
  .have c: ¬(gu m j).2.2 < (mU m (j:Nat)).2:=mu c;have e:gu m (j+1)=gu m j:=if_neg c;refine⟨au5,j+1,au5,au5,af.sub ⟨rfl,?_,?_,?_,rfl,trivial⟩ ac⟩
   .rw[e];rfl
   .rw[e];rfl
   .rw[e];rfl
 .have h: ¬(j:Int) < 2:=mu h;have fh:j=2:=by omega
  subst fh;exact aT aH rfl ac ac rfl
end
section
abbrev i3:=Option (Int×List UInt8)
inductive yv (L:List (Nat×bh)) (bD:Nat):Z .fn->i3->Prop
 |f:yv L bD (qB bD) none
 |w {a b:Nat} {at_:Int} {x:List UInt8}:eg L a=some (hd (.int .i64 at_))->eg L b=some (hd (.ck .u8 x))->yv L bD (oo bD a b) (some (at_,x))
def pR (L:List (Nat×bh)) (bD:Nat):List (Z .fn)->List i3->Prop
 | [],[]=>True
 |f::l,t::m=>yv L bD f t/\pR L bD l m
 |_,_=>False
theorem VC {a:Nat} {o:bh}: ∀{L:List (Nat×bh)},eg L a=some o->a∈L.map (·.1)
 | [],h=>by cases h
 |(b,q)::L,h=>by
  unfold eg at h
  split at h
  .rename_i e;rw[aq4];exact ap3.2 (.inl e.symm)
  .rw[aq4];exact ap2 _ (VC h)
theorem Ds {a b:Nat} {o q:bh} {L:List (Nat×bh)} (h:eg L a=some o) (hn:b∉L.map (·.1)):eg ((b,q)::L) a=some o:=by
 have ba: ¬b=a:=fun e=>hn (e▸VC h)
 unfold eg;rw[if_neg ba];exact h
theorem yv.qh {L:List (Nat×bh)} {bD b:Nat} {q:bh} (hn:b∉L.map (·.1)) {f:Z .fn} {t:i3} (h:yv L bD f t):yv ((b,q)::L) bD f t:=by
 cases h with
 |f=>exact .f
 |w E G=>exact .w (Ds E hn) (Ds G hn)
theorem pR.qh {L:List (Nat×bh)} {bD b:Nat} {q:bh} (hn:b∉L.map (·.1)): ∀{l:List (Z .fn)} {m:List i3},pR L bD l m->pR ((b,q)::L) bD l m
 | [],[],_=>trivial
 |f::l,t::m,h=>⟨h.1.qh hn,pR.qh hn h.2⟩
 | [],_::_,h=>h.elim
 |_::_,[],h=>h.elim
theorem pR.qN {L:List (Nat×bh)} {bD:Nat} {f:Z .fn} {t:i3} (G:yv L bD f t): ∀{l:List (Z .fn)} {m:List i3},pR L bD l m->pR L bD (l++[f]) (m++[t])
 | [],[],_=>⟨G,trivial⟩
 |f::l,t::m,h=>⟨h.1,pR.qN G h.2⟩
 | [],_::_,h=>h.elim
 |_::_,[],h=>h.elim
theorem pR.len {L:List (Nat×bh)} {bD:Nat}: ∀{l:List (Z .fn)} {m:List i3},pR L bD l m->l.length=m.length
 | [],[],_=>rfl
 |f::l,t::m,h=>by rw[as4,as4,pR.len h.2]
 | [],_::_,h=>h.elim
 |_::_,[],h=>h.elim
theorem yw (x:D):(hd x).oP:=fun I F w p h=>(h.1 _).2 rfl
structure qE (L:List (Nat×bh)) (bD s:Nat) (eJ:List (Z .fn)) (gg:List i3):Prop where
 an: ∀p∈L,p.2.oP
 ag:eg L bD=some (hd (.aM (some s)))
 aF:pR L bD eJ gg
theorem qE.write {L:List (Nat×bh)} {bD s a b:Nat} {eJ:List (Z .fn)} {gg:List i3} {at_:Int} {x:List UInt8} (h:qE L bD s eJ gg) (hn:(((b,hd (.ck .u8 x))::(a,hd (.int .i64 at_))::L).map (·.1)).Nodup):
  qE ((b,hd (.ck .u8 x))::(a,hd (.int .i64 at_))::L) bD s (eJ++[oo bD a b]) (gg++[some (at_,x)]):=by
 rw[aq4,aq7,aq4,aq7] at hn;obtain⟨cH,dF,la⟩:=hn;rw[ap3,not_or] at cH
 have O:b∉((a,hd (.int .i64 at_))::L).map (·.1):=by
  rw[aq4,ap3,not_or];exact cH
 refine⟨fun p ag=>?_,Ds (Ds h.ag dF) O,pR.qN (.w (Ds ?_ O) ?_) ((h.aF.qh dF).qh O)⟩
 .rcases ap3.1 ag with rfl |ag
  .exact yw _
  .rcases ap3.1 ag with rfl |ag
   .exact yw _
   .exact h.an p ag
 .unfold eg;rw[if_pos rfl]
 .unfold eg;rw[if_pos rfl]
theorem qE.ol {L:List (Nat×bh)} {bD s:Nat} {eJ:List (Z .fn)} {gg:List i3} (h:qE L bD s eJ gg):qE L bD s (eJ++[qB bD]) (gg++[none]):=⟨h.an,h.ag,h.aF.qN .f⟩
abbrev tH (e:Int) (eJ:List (Z .fn)) (L:List (Nat×bh)):ay:=[(1001,.cells [.d (.ck .fn eJ),.d (.int .i64 e)]),(1005,.aG (.bA L))]
def rI (s:Nat) (gg:List i3) (e:Int):bh where
 R:=fun I F w p=> ∃(bD:Nat) (eJ:List (Z .fn)) (L:List (Nat×bh)),qE L bD s eJ gg/\iA 1001 (tH e eJ L) I F w p
 cg:=fun I F w I' w' p ⟨bD,eJ,L,ab,h⟩ V bj aR=>⟨bD,eJ,L,ab,(bh.iX 1001 (tH e eJ L)).cg I F w I' w' p h V bj aR⟩
def lm (b:List UInt8) (j:Nat):List UInt8:=laid (List.replicate 16 0) 0 16 (b.drop (16*j))
def kW (b:List UInt8) (k kA:Int):Nat->List i3
 |0=>[]
 |j+1=>kW b k kA j++[some (2+k*kA+(j:Nat),lm b j)]
theorem yx (b:List UInt8) (k kA:Int): ∀j,(kW b k kA j).length=j
 |0=>rfl
 |j+1=>by rw[kW,ap1,yx];rfl
def g8 (b:List UInt8):Nat:=(b.length+15)/16
def pS (b:List UInt8) (n:Int):List UInt8:=rG (ez 4 [(n+1).toNat,b.length,(jh b).toNat])
def sM (b:List UInt8) (k kA n:Int):List i3:=kW b k kA (g8 b)++[none]++[some (k,pS b n)]++[none]
abbrev VD (b:List UInt8) (bD:Nat) (n k:Int) (j:Nat):a1:=[(1,bS .u8 b),(2,dn bD),(8,ae n),(9,ae k),(10,ao 10),(11,.c (.one (.cT 220 [.d (.aM (some bD))]))),(12,.c (.one (.cT 222 [.p 10 0,.d (.aM (some bD))]))),(13,ae (16*(j:Nat)))]
abbrev VE (M:dN) (d:Nat) (eJ:List (Z .fn)) (L:List (Nat×bh)):ay:=[(10,.cells [.ptr 37 0]),(37,.cells [.own d,.d (.int .i64 0)]),(d,.row 113 .fn eJ),(1005,.aG (.bA L)),(1003,.aG (.bA (eR M)))]
set_option maxHeartbeats 4000000 in
theorem alJ {m:bY} (ai:e2 m) (G:2<=m.n) {s:Nat} {M:dN} (ar:hL M s=some m) (b:List UInt8) (O:(b.length:Int)<=dq m.n*16) (Hr:(gu m 2).2.2 < 1073741824) (Hs:0<=(gu m 2).2.2) (iR: -1<=(gu m 2).1/\(gu m 2).1<=1):
  Fn Tryz.prog 198 [dn s,bS .u8 b] [(1003,.aG (.bA (eR M)))] [2001] (.ce [.one (.ptr 2001 0),dw 0]) [(1003,.aG (.bA (eR M))),(2001,.aG (rI s (sM b (((gu m 2).1+1) % 2) (dq m.n) (gu m 2).2.2) 0))]:=by
 obtain⟨a0,b4⟩:=Dr G ai.cH;have jZ:=ai.cH;have hb:b.length<=1000000:=by omega
 refine aW [8,18,20] Tryz.func198 rfl rfl rfl rfl ?_;refine⟨rfl,au (M7 ai G ar) ?_⟩;generalize gu m 2=bf at Hr Hs iR⊢;obtain⟨wC,apt,n⟩:=bf;simp only at Hr Hs iR⊢;refine au (AD ar) ?_;refine au (M4 m.n ai.ky ai.cH) ?_;refine⟨fun c=>?_,fun _=>?_⟩
 .have c:dq m.n*16 < (b.length:Int):=gd c;omega
 refine⟨fun c=>absurd (gd c) au5,fun _=>?_⟩;have cx: -9223372036854775808<=wC+1/\wC+1<=9223372036854775807:=by omega
 have cA:0<=wC+1/\(0:Int) < 2:=by omega
 have dy: -9223372036854775808<=(wC+1) % 2/\(wC+1) % 2<=9223372036854775807:=by omega
 refine⟨cx,cA,dy,?_⟩;have ab:(wC+1) % 2=0\/(wC+1) % 2=1:=by omega
 generalize(wC+1) % 2=k at ab⊢;refine⟨rfl,rfl,bt.le (af.q8 1005 rfl) ?_⟩;refine bt.le (af.vG 37 0 3006 113 .fn rfl rfl rfl) ?_;refine bt.eY (df.box 2 2 1005 rfl rfl au6 rfl) fun bD=>?_
 refine bz [] (aH) ?_;refine dX [12,15] (X:=Nat×List (Z .fn)×List (Nat×bh)) (fun x=>VD b bD n k x.1) (fun x=>VE M 3006 x.2.1 x.2.2) (fun x=>x.1<=g8 b/\qE x.2.2 bD s x.2.1 (kW b k (dq m.n) x.1)) (fun x=>g8 b - x.1) (0,[],[(bD,hd (.aM (some s)))]) ⟨ap7 _,fun p ag=>(by rw[aq0] at ag;rw[ag];exact yw _),by unfold eg;rw[if_pos rfl],trivial⟩ ?_ ?_
 .exact af.sub ac ac
 rintro⟨j,eJ,L⟩ ⟨aa,di⟩;have aa:j<=g8 b:=aa;have di:qE L bD s eJ (kW b k (dq m.n) j):=di;have b6:=di.aF.len;rw[yx] at b6;refine⟨fun H=>?_,fun H=>?_⟩
 .have H:(16*(j:Nat):Int) < (b.length:Nat):=gd H;have eE:j < g8 b:=by unfold g8;omega
  refine⟨⟨rfl,au6,au6⟩,rfl,?_⟩;have xv:0<=(16*(j:Nat):Int)/\(16*(j:Nat):Int)<=(b.length:Nat):=by omega
  refine⟨xv,au6,bt.le (af.dV 46 rfl) ?_⟩;refine bt.h3 eN au8 ?_;refine⟨_,_,fun N=>BV (q:=1005) rfl Tryz.underlying183 rfl rfl rfl di.ag N,rfl,?_⟩;refine iE ((AD ar).x) fun _=>?_
  refine iE ((Hp m.n ai.ky ai.cH).x) fun _=>?_
  have vQ: -9223372036854775808<=k*dq m.n/\k*dq m.n<=9223372036854775807:=by rcases ab with rfl |rfl <;>omega
  have xw: -9223372036854775808<=2+k*dq m.n/\2+k*dq m.n<=9223372036854775807:=by rcases ab with rfl |rfl <;>omega
  have JI:0<=(16*(j:Nat):Int)/\(0:Int) < 16:=by omega
  have alK: -9223372036854775808<=(16*(j:Nat):Int)/16/\(16*(j:Nat):Int)/16<=9223372036854775807:=by omega
  have Dt:(16*(j:Nat):Int)/16=(j:Nat):=by omega
  have alL: -9223372036854775808<=2+k*dq m.n+(16*(j:Nat):Int)/16/\2+k*dq m.n+(16*(j:Nat):Int)/16<=9223372036854775807:=by rcases ab with rfl |rfl <;>omega
  refine⟨vQ,xw,JI,alK,alL,iE (cv.aX [(1001,10),(1002,37),(1006,3006),(2006,4006)] (Vs (2+k*dq m.n+(16*(j:Nat):Int)/16) _ bD 0 eJ L au5)) fun g=>?_⟩;refine bt.eY (df.BS 1005 ?_ rfl) fun d0=>?_
  .intro p ag;rcases ap3.1 ag with rfl |ag
   .exact yw _
   .rcases ap3.1 ag with rfl |ag
    .exact yw _
    .exact di.an p ag
  have Do:laid (List.replicate (Int.toNat 16) 0) 0 (List.replicate (Int.toNat 16) (0:UInt8)).length (List.drop (16*(j:Nat):Int).toNat (List.take b.length b))=lm b j:=by
   unfold lm;rw[aq9,show(16*(j:Nat):Int).toNat=16*j by omega];rfl
  have alM:qE ((g.2,hd (.ck .u8 (lm b j)))::(g.1,hd (.int .i64 (2+k*dq m.n+(16*(j:Nat):Int)/16)))::L) bD s (eJ++[oo bD g.1 g.2]) (kW b k (dq m.n) (j+1)):=by
   have bK:=di.write (a:=g.1) (b:=g.2) (at_:=2+k*dq m.n+(16*(j:Nat):Int)/16) (x:=lm b j) (by rw[<-Do];exact d0.down);have alN:(some (2+k*dq m.n+(16*(j:Nat):Int)/16,lm b j):i3)=some (2+k*dq m.n+(j:Nat),lm b j):=by rw[Dt]
   rw[alN] at bK;exact bK
  have alO: -9223372036854775808<=(16*(j:Nat):Int)+16/\(16*(j:Nat):Int)+16<=9223372036854775807:=by omega
  refine bz [] (aH) ?_;refine⟨alO,(j+1,eJ++[oo bD g.1 g.2],(g.2,hd (.ck .u8 (lm b j)))::(g.1,hd (.int .i64 (2+k*dq m.n+(16*(j:Nat):Int)/16)))::L),⟨eE,alM⟩,by show g8 b - (j+1) < g8 b - j;omega,af.trans (af.sub (K':=VD b bD n k (j+1)) (B':=VE M 4006 (eJ++[oo bD g.1 g.2]) ((g.2,hd (.ck .u8 (lm b j)))::(g.1,hd (.int .i64 (2+k*dq m.n+(16*(j:Nat):Int)/16)))::L)) ⟨rfl,rfl,rfl,rfl,rfl,rfl,rfl,?_,trivial⟩ ⟨rfl,rfl,rfl,?_,rfl,trivial⟩) (af.aX 4006 3006 rfl)⟩
  .show(16*(j:Nat):Int)+16=16*((j+1:Nat):Int);omega
  .rw[<-Do];rfl
 .have H: ¬(16*(j:Nat):Int) < (b.length:Nat):=mu H;have eE:j=g8 b:=by unfold g8 at aa⊢;omega
  subst eE;have ax:=MN b;have ls:g8 b<=100000:=by unfold g8;omega
  have r1: -9223372036854775808<=n+1/\n+1<=9223372036854775807:=by omega
  refine⟨r1,au (MO [b] au7 (fun y aC=>by rw[aq0] at aC;rw[aC];omega)) ?_⟩;have aj:([b]:List (List UInt8)).flatten=b:=by simp
  rw[aj]
  have ap:([n+1,((b.length:Nat):Int),jh b]:List Int)=sF [(n+1).toNat,b.length,(jh b).toNat]:=by
   show _=[(((n+1).toNat:Nat):Int),((b.length:Nat):Int),(((jh b).toNat:Nat):Int)];rw[show(((n+1).toNat:Nat):Int)=n+1 by omega,show(((jh b).toNat:Nat):Int)=jh b by omega]
  refine⟨_,_,_,_,Fn.arg (Fn.aX [(1002,5002)] (GZ 4 [(n+1).toNat,b.length,(jh b).toNat] (by unfold W;omega) (fun x hx=>by
   simp only[ap3,List.not_mem_nil,or_false] at hx;rcases hx with rfl |rfl |rfl <;>omega) au7)) ⟨rfl,rfl,ap,trivial⟩,trivial,rfl,?_⟩
  have gQ:eJ.length+1<=4294967296:=by omega
  refine⟨gQ,rfl,rfl,bt.le (af.dV 5002 rfl) ?_⟩;refine bt.h3 eN au8 ?_;have alP:(ez 4 [(n+1).toNat,b.length,(jh b).toNat]).length<=1000000:=by rw[nn];simp
  refine iE ((Vt (ez 4 [(n+1).toNat,b.length,(jh b).toNat]) alP).x) fun _=>?_
  refine iE (cv.aX [(1001,10),(1002,37),(1006,83),(2006,4006)] (Vs k (pS b n) bD 0 (eJ++[qB bD]) L (by rw[ap1];simp;omega))) fun g=>?_
  have hc:(eJ++[qB bD]++[oo bD g.1 g.2]).length+1<=4294967296:=by simp;omega
  refine⟨hc,rfl,rfl,bt.eY (df.BS 1005 ?_ rfl) fun d0=>?_⟩
  .intro p ag;rcases ap3.1 ag with rfl |ag
   .exact yw _
   .rcases ap3.1 ag with rfl |ag
    .exact yw _
    .exact di.an p ag
  have alQ:=(di.ol.write (a:=g.1) (b:=g.2) (at_:=k) (x:=pS b n) d0.down).ol;refine bz [] (af.dV 98 rfl) ?_;exact⟨_,_,_,(af.aX 37 2001 rfl).trans (af.close 2001 [(2001,.cells [.d (.ck .fn (eJ++[qB bD]++[oo bD g.1 g.2]++[qB bD])),.d (.int .i64 0)]),(1005,.aG (.bA ((g.2,hd (.ck .u8 (pS b n)))::(g.1,hd (.int .i64 k))::L)))] (o:=rI s (sM b k (dq m.n) n) 0) ac rfl fun I F w p h=>⟨bD,_,_,alQ,iA.aX [(2001,1001)] h⟩),rfl,ac,ac,rfl⟩
end
section
theorem VF {f:FuncId} {args:List aQ} {s:Nat} {gg M8:List i3} {e b5:Int} {aK aP:ay} {res:aQ} (H:jl Tryz.prog f=true)
  (h: ∀(bD:Nat) (eJ:List (Z .fn)) (L:List (Nat×bh)),qE L bD s eJ gg-> ∃(AE:List (Z .fn)),qE L bD s AE M8/\Fn Tryz.prog f args (tH e eJ L++aK) [] res (tH b5 AE L++aP))
  (E: ∀(eJ:List (Z .fn)) (L:List (Nat×bh)),nO 1001 [1005] args (tH e eJ L) aK [] []=true) (G: ∀(eJ:List (Z .fn)) (L:List (Nat×bh)),nP 1001 [1005] res (tH b5 eJ L) aP=true):
  Fn Tryz.prog f args ((1001,.aG (rI s gg e))::aK) [] res ((1001,.aG (rI s M8 b5))::aP):=by
 refine Fn.E7 (Y:={y:Nat×List (Z .fn)×List (Nat×bh)//qE y.2.2 y.1 s y.2.1 gg}) (sc:=fun y=>bh.iX 1001 (tH e y.1.2.1 y.1.2.2)) H (fun I F w p ⟨bD,eJ,L,ab,a6⟩=>⟨⟨(bD,eJ,L),ab⟩,a6⟩) fun⟨⟨bD,eJ,L⟩,ab⟩=>?_
 obtain⟨AE,AS,hf⟩:=h bD eJ L ab;exact(cv.close (bp:=tH e eJ L) (dv:=fun _:Unit=>tH b5 AE L) (aP:=fun _=>aP) (o:=bh.iX 1001 (tH e eJ L)) (o':=fun _=>rI s M8 b5) [1005] hf.x (fun _ _ _ _ h=>h) (fun _ I F w p a6=>⟨bD,AE,L,AS,a6⟩) (E eJ L) (fun _=>G AE L)).fn
theorem alR (s:Nat) (gg:List i3) (e:Int):Fn Tryz.prog 199 [ao 1001] [(1001,.aG (rI s gg e))] [] (ae (gg.length:Nat)) [(1001,.aG (rI s gg e))]:=by
 refine VF (aK:=[]) (aP:=[]) au8 (fun bD eJ L ab=>⟨eJ,ab,?_⟩) (fun _ _=>rfl) fun _ _=>rfl
 refine aW [] Tryz.func199 rfl rfl rfl rfl ?_;exact aT aH rfl (congrArg (fun n:Nat=>(n:Int)) ab.aF.len) ac rfl
def va (m:bY):i3->bY×Int
 |none=>(m.ol,0)
 |some (a,x)=>m.write a x
theorem Ht {α:Type} (f:α) (l:List α):List.drop 1 (List.take (f::l).length (f::l))=l:=by rw[aq9];rfl
set_option maxHeartbeats 1000000 in
theorem alS {s:Nat} {st:i3} {rest:List i3} {M:dN} {m:bY} (ar:hL M s=some m) (ai:e2 m) (aq:m.eV.length<=1073741824) (hx: ∀a x,st=some (a,x)->x.length<=1073741824) (V:(va m st).2=0):
  Fn Tryz.prog 200 [ao 1001] [(1001,.aG (rI s (st::rest) 0)),(1003,.aG (.bA (eR M)))] [] (.ce [.one (.d (.bool (decide ((rest.length:Int)=0)))),dw 0]) [(1001,.aG (rI s rest 0)),(1003,.aG (.bA (eR (g7 M s (va m st).1))))]:=by
 refine VF (aK:=[(1003,.aG (.bA (eR M)))]) (aP:=[(1003,.aG (.bA (eR (g7 M s (va m st).1))))]) au8 (fun bD eJ L ab=>?_) (fun _ _=>rfl) fun _ _=>rfl
 match eJ,ab with
 | [],ab=>exact ab.aF.elim
 |f::l,ab=>
  refine⟨l,⟨ab.an,ab.ag,ab.aF.2⟩,?_⟩;have b6:=ab.aF.2.len;have eu:=ab.aF.1
  cases eu with
  |f=>
   refine aW [] Tryz.func200 rfl rfl rfl rfl ?_;refine⟨fun c=>?_,fun _=>?_⟩
   .have c:(((qB bD::l).length:Nat):Int)=0:=gd c;simp at c;omega
   refine⟨au6,qB bD,rfl,au (alq ab.ag ar) ?_⟩;have q:0<=(1:Int)/\(1:Int)<=(((qB bD::l).length:Nat):Int):=by rw[as4];omega
   refine⟨q,da ?_⟩;refine eO ?_;refine⟨rfl,_,_,_,aH,rfl,⟨?_,rfl,trivial⟩,⟨?_,rfl,rfl,trivial⟩,rfl⟩
   .show decide (((List.drop 1 (List.take (qB bD::l).length (qB bD::l))).length:Int)=0)=_;rw[Ht,b6]
   .show some (bd.cells [.d (.ck .fn (List.drop 1 (List.take (qB bD::l).length (qB bD::l)))),.d (.int .i64 0)])=_;rw[Ht]
  | @w a b at_ x aZ bK=>
   have V:(m.write at_ x).2=0:=V;have hw:=alr ab.ag aZ bK ar ai (hx at_ x rfl) aq;rw[V] at hw;refine aW [] Tryz.func200 rfl rfl rfl rfl ?_;refine⟨fun c=>?_,fun _=>?_⟩
   .have c:(((oo bD a b::l).length:Nat):Int)=0:=gd c;simp at c;omega
   refine⟨au6,oo bD a b,rfl,au hw ?_⟩;have q:0<=(1:Int)/\(1:Int)<=(((oo bD a b::l).length:Nat):Int):=by rw[as4];omega
   refine⟨q,da ?_⟩;refine eO ?_;refine⟨rfl,_,_,_,aH,rfl,⟨?_,rfl,trivial⟩,⟨?_,rfl,rfl,trivial⟩,rfl⟩
   .show decide (((List.drop 1 (List.take (oo bD a b::l).length (oo bD a b::l))).length:Int)=0)=_;rw[Ht,b6]
   .show some (bd.cells [.d (.ck .fn (List.drop 1 (List.take (oo bD a b::l).length (oo bD a b::l)))),.d (.int .i64 0)])=_;rw[Ht]
end
section
def sN (n:Int):i3->Prop
 |none=>True
 |some (a,x)=>0<=a/\a < n/\x.length=16
theorem alT {n:Int} {s:hK} (h:lO n s):(s.length:Int)<=max n 0:=by
 have:=Ho n.toNat (rE s) h.fK fun k ab=>by have:=h.rg k ab;omega
 rw[show(rE s).length=s.length from aq3 _] at this;omega
theorem VG {k:Int} {x:Z gU}: ∀{s:hK},(b0 s (k:Z ak)).isSome=true->(sI s k x).length=s.length
 | [],h=>by cases h
 |p::s,h=>by
  rw[AB]
  cases e:mT k p with
  |true=>rfl
  |false=>
   have G:(b0 s (k:Z ak)).isSome=true:=by
    have h:(match mT k p with |true=>some p.2 |false=>b0 s (k:Z ak)).isSome=true:=h;rw[e] at h;exact h
   simp only[as4];rw[VG G]
theorem VH {k:Int} {x:Z gU}: ∀{s:hK},(b0 s (k:Z ak)).isSome=false->(sI s k x).length=s.length+1
 | [],_=>rfl
 |p::s,h=>by
  rw[AB];have h:(match mT k p with |true=>some p.2 |false=>b0 s (k:Z ak)).isSome=false:=h
  cases e:mT k p with
  |true=>rw[e] at h;cases h
  |false=>
   rw[e] at h;simp only[as4];rw[VH h]
theorem VI {m:bY} (ai:e2 m) (aF:m.n<=m.U) {a:Int} {x:List UInt8} (h:sN m.n (some (a,x))):m.write a x=(m.Hj a x,0):=by
 obtain⟨E,G,al⟩:=h;have aj:u5 x=false:=by unfold u5;rw[al];rfl
 have ap:m.kz a (x.length/16:Nat)=true:=by
  rw[al];simp only[bY.kz,vj,ar5];omega
 have ab:(lO m.n (yn a x m.bF 1)):=M1 E ai.bF 1 au5 au5
 have b6:((yn a x m.bF 1).length:Nat)=m.bF.length+lN m.bF a 1:=by
  show(sI m.bF (a+(0:Nat)) (sH x 0)).length=m.bF.length+(match(b0 m.bF (a+(0:Nat):Int)).isSome with |true=>0 |false=>0+1)
  cases e:(b0 m.bF (a+(0:Nat):Int)).isSome with
  |true=>exact VG e
  |false=>exact VH e
 have bm:m.rF a (x.length/16)=false:=by
  rw[al];unfold bY.rF;rw[Bool.and_eq_false_iff];left;refine ar8 fun bw=>?_
  have bK:=alT ab;have:=ai.ky;have bw:m.U < ((m.bF.length+lN m.bF a 1:Nat):Int):=bw;rw[<-b6] at bw;omega
 unfold bY.write;rw[aj];simp only;rw[ap];simp only;rw[bm]
def nu (m:bY) (l:List i3):bY:=l.foldl (fun m st=>(va m st).1) m
theorem AF (m:bY) (l:List i3) (st:i3):nu m (l++[st])=(va (nu m l) st).1:=by
 unfold nu;rw[at9];rfl
structure M9 (m gm:bY) (i:Nat):Prop where
 ok:e2 gm
 n:gm.n=m.n
 U:gm.U=m.U
 hl:gm.eV.length<=m.eV.length+i
theorem VJ {m:bY} (ai:e2 m) (aF:m.n<=m.U) {st:i3} (h:sN m.n st):(va m st).2=0/\M9 m (va m st).1 1:=by
 match st,h with
 |none,_=>exact⟨rfl,ai.ol,rfl,rfl,ap7 _⟩
 |some (a,x),h=>
  have e:=VI ai aF h;have hw:=ai.write a x;show(m.write a x).2=0/\M9 m (m.write a x).1 1;rw[e] at hw⊢;refine⟨rfl,hw,rfl,rfl,?_⟩;show(wB a x m.eV (x.length/16)).length<=_;rw[MT,h.2.2];exact ap0 _
theorem Du {m:bY} (ai:e2 m) (aF:m.n<=m.U): ∀(i:Nat) (l:List i3),(∀st∈l,sN m.n st)->i<=l.length->M9 m (nu m (l.take i)) i
 |0,l,_,_=>⟨ai,rfl,rfl,ap0 _⟩
 |i+1,l,h,aI=>by
  have br:=Du ai aF i l h au5;rw[as1 aI,AF];have G:=(VJ br.ok (by rw[br.n,br.U];exact aF) (st:=l[i]) (by rw[br.n];exact h _ (ar3 aI))).2;exact⟨G.ok,G.n.trans br.n,G.U.trans br.U,by have:=G.hl;have:=br.hl;omega⟩
theorem VK {a:Nat} {m1 m2:bY}: ∀L:dN,g7 (g7 L a m1) a m2=g7 L a m2
 | []=>rfl
 |p::L=>by
  show g7 (if p.1=a then(p.1,m1)::L else p::g7 L a m1) a m2=if p.1=a then(p.1,m2)::L else p::g7 L a m2
  by_cases e:p.1=a
  .rw[if_pos e,if_pos e];show(if p.1=a then(p.1,m2)::L else _)=_;rw[if_pos e]
  .rw[if_neg e,if_neg e];show(if p.1=a then _ else p::g7 (g7 L a m1) a m2)=_;rw[if_neg e,VK]
theorem VL {a:Nat} {m gm:bY}: ∀{L:dN},hL L a=some m->hL (g7 L a gm) a=some gm
 | [],h=>by cases h
 |p::L,h=>by
  rw[tG] at h;show hL (if p.1=a then(p.1,gm)::L else p::g7 L a gm) a=_
  by_cases e:p.1=a
  .rw[if_pos e,tG,if_pos e]
  .rw[if_neg e] at h⊢;rw[tG,if_neg e];exact VL h
theorem alU (b:List UInt8) (j:Nat):(lm b j).length=16:=by
 unfold lm laid;simp only[ap1,ap8,at1,as7];omega
theorem M' (b:List UInt8) (n:Int):(pS b n).length=16:=by
 unfold pS rG;rw[ap1,qv,nn];rfl
theorem VM {b:List UInt8} {k kA:Int} {st:i3}: ∀{j:Nat},st∈kW b k kA j-> ∃i:Nat,i < j/\st=some (2+k*kA+(i:Nat),lm b i)
 |0,h=>by cases h
 |j+1,h=>by
  rw[kW,aq8,aq0] at h;rcases h with h |h
  .obtain⟨i,E,G⟩:=VM h;exact⟨i,au5,G⟩
  .exact⟨j,au5,h⟩
theorem VN {m:bY} (ai:e2 m) (G:2<=m.n) {b:List UInt8} (O:(b.length:Int)<=dq m.n*16) {k:Int} (ab:k=0\/k=1) (n:Int): ∀st∈sM b k (dq m.n) n,sN m.n st:=by
 obtain⟨a0,b4⟩:=Dr G ai.cH;intro st eu;unfold sM at eu;simp only[aq8,aq0] at eu;rcases eu with((h |h) |h) |h
 .obtain⟨i,E,rfl⟩:=VM h;have:(i:Int) < dq m.n:=by unfold g8 at E;omega
  refine⟨?_,?_,alU b i⟩
  .rcases ab with rfl |rfl <;>omega
  .rcases ab with rfl |rfl <;>omega
 .rw[h];trivial
 .rw[h];exact⟨au5,au5,M' b n⟩
 .rw[h];trivial
theorem alV (b:List UInt8) (k kA n:Int):(sM b k kA n).length=g8 b+3:=by
 unfold sM;simp[yx]
abbrev alW (N i:Nat):a1:=[(5,ao 3001),(6,ae 0),(17,ae (N:Nat)),(18,ae (i:Nat))]
abbrev alX (s:Nat) (gg:List i3) (M:dN):ay:=[(3001,.aG (rI s gg 0)),(1003,.aG (.bA (eR M)))]
theorem alY {m:bY} (ai:e2 m) (aF:m.n<=m.U) {s:Nat} {M:dN} (ar:hL M s=some m) {gg:List i3} (ax: ∀st∈gg,sN m.n st) (aq:m.eV.length+gg.length<=1000000) {i:Nat} (aI:i < gg.length):
  Fn Tryz.prog 200 [ao 1001] [(1001,.aG (rI s (gg.drop i) 0)),(1003,.aG (.bA (eR (g7 M s (nu m (gg.take i))))))] [] (.ce [.one (.d (.bool (decide (((gg.drop (i+1)).length:Int)=0)))),dw 0])
   [(1001,.aG (rI s (gg.drop (i+1)) 0)),(1003,.aG (.bA (eR (g7 M s (nu m (gg.take (i+1)))))))]:=by
 have E:=Du ai aF i gg ax au5;have eu:=ax _ (ar3 aI)
 have G:=alS (s:=s) (st:=gg[i]) (rest:=gg.drop (i+1)) (M:=g7 M s (nu m (gg.take i))) (VL ar) E.ok (by have:=E.hl;omega) (fun a x e=>by
  rw[e] at eu;have:=eu.2.2;omega) (VJ E.ok (by rw[E.n,E.U];exact aF) (by rw[E.n];exact eu)).1
 rw[VK,<-AF,<-as1 aI,<-List.drop_eq_getElem_cons aI] at G;exact G
set_option maxHeartbeats 1000000 in
theorem alZ {m:bY} (ai:e2 m) (G:2<=m.n) (aF:m.n<=m.U) (aq:m.eV.length<=10000) {s:Nat} {M:dN} (ar:hL M s=some m) (b:List UInt8) (O:(b.length:Int)<=dq m.n*16) (Hr:(gu m 2).2.2 < 1073741824) (Hs:0<=(gu m 2).2.2) (iR: -1<=(gu m 2).1/\(gu m 2).1<=1):
  Fn Tryz.prog 172 [dn s,bS .u8 b] [(1003,.aG (.bA (eR M)))] [] (ae 0) [(1003,.aG (.bA (eR (g7 M s (nu m (sM b (((gu m 2).1+1) % 2) (dq m.n) (gu m 2).2.2))))))]:=by
 have y1:=alJ ai G ar b O Hr Hs iR;have bu:=VN ai G O (k:=((gu m 2).1+1) % 2) au5 (gu m 2).2.2;have ho:=alV b (((gu m 2).1+1) % 2) (dq m.n) (gu m 2).2.2;obtain⟨a0,b4⟩:=Dr G ai.cH;have jZ:=ai.cH;have ls:g8 b<=100000:=by unfold g8;omega
 generalize sM b (((gu m 2).1+1) % 2) (dq m.n) (gu m 2).2.2=gg at y1 bu ho⊢;refine aW [] Tryz.func172 rfl rfl rfl rfl ?_;refine au (Fn.aX [(2001,3001)] y1) ?_;refine da ?_;refine au (Fn.aX [(1001,3001)] (alR s gg 0)) ?_;refine dX [] (X:=Nat) (fun i=>alW gg.length i) (fun i=>alX s (gg.drop i) (g7 M s (nu m (gg.take i)))) (fun i=>i<=gg.length) (fun i=>gg.length - i) 0 (ap7 _) ?_ ?_
 .refine af.sub ac ⟨rfl,?_,trivial⟩;show _=some (bd.aG (.bA (eR (g7 M s m))));rw[Hq ar];rfl
 intro i aI;refine⟨fun h=>?_,fun h=>?_⟩
 .have h:decide ((i:Int) < (gg.length:Nat))=true:=h;have dW:i < gg.length:=by simpa using h
  refine au (Fn.aX [(1001,3001)] (alY ai aF ar bu au5 dW)) ?_;exact⟨au5,i+1,au5,au5,af.sub ac ac⟩
 .have h:decide ((i:Int) < (gg.length:Nat))=false:=h;have dW:i=gg.length:=by simp at h;omega
  subst dW;rw[aq9];exact aT aH rfl rfl ac rfl
end
section
def Na (x:Z gU):List UInt8:=x
def wD:List UInt8:=List.replicate 16 0
theorem al0 (a:Int):iI [] a=wD:=rfl
theorem Dv (p:Z ak×Z gU) (s:hK) (a:Int):iI (p::s) a=match mT a p with |true=>Na p.2 |false=>iI s a:=by
 unfold iI Dp;show(match mT a p with |true=>some p.2 |false=>b0 s (a:Z ak)).getD (cK gU)=_
 cases mT a p <;>rfl
theorem VO (k:Int) (x:Z gU) (a:Int): ∀s:hK,iI (sI s k x) a=if k=a then Na x else iI s a
 | []=>by
  rw[Hn,Dv,al0]
  by_cases h:k=a
  .rw[if_pos h,show mT a (yp k x)=true from sJ.2 h.symm];rfl
  .rw[if_neg h,show mT a (yp k x)=false from at4.2 fun e=>h (sJ.1 e).symm]
 |p::s=>by
  rw[AB]
  cases e:mT k p with
  |true=>
   have e:=sJ.1 e;simp only;rw[Dv,Dv]
   by_cases h:k=a
   .rw[if_pos h,show mT a (yp k x)=true from sJ.2 h.symm];rfl
   .rw[if_neg h,show mT a (yp k x)=false from at4.2 fun ap=>h (sJ.1 ap).symm,show mT a p=false from at4.2 fun ap=>h (e.trans (sJ.1 ap).symm)]
  |false=>
   have e: ¬k=Dq p:=fun h=>by rw[sJ.2 h] at e;cases e
   simp only;rw[Dv,Dv,VO k x a s]
   by_cases h:k=a
   .simp only[if_pos h,show mT a p=false from at4.2 fun ap=>e (h.trans (sJ.1 ap))]
   .simp only[if_neg h]
theorem al1 (m:bY) {a:Int} {x:List UInt8} (hx:x.length=16) (i:Int):iI (m.Hj a x).bF i=if a=i then x else iI m.bF i:=by
 show iI (yn a x m.bF (x.length/16)) i=_;rw[hx];show iI (sI m.bF (a+(0:Nat)) (sH x 0)) i=_;rw[VO,show a+((0:Nat):Int)=a by omega]
 have e:Na (sH x 0)=x:=by
  show Hh x 0=x;rw[ald];show(x.drop 0).take 16=x;rw[List.drop_zero,<-hx,aq9]
 rw[e]
theorem VP {m:bY} (ai:e2 m) (aF:m.n<=m.U) {a:Int} {x:List UInt8} (h:sN m.n (some (a,x))) (i:Int):iI (va m (some (a,x))).1.bF i=if a=i then x else iI m.bF i:=by
 show iI (m.write a x).1.bF i=_;rw[VI ai aF h];exact al1 m h.2.2 i
theorem Nb {m:bY} (ai:e2 m) (aF:m.n<=m.U) {b:List UInt8} {k kA:Int} (i:Int): ∀j:Nat,(∀st∈kW b k kA j,sN m.n st)->
  iI (nu m (kW b k kA j)).bF i=if 2+k*kA<=i/\i < 2+k*kA+(j:Nat) then lm b (i - (2+k*kA)).toNat else iI m.bF i
 |0,_=>by
  show iI m.bF i=_;rw[if_neg au5]
 |j+1,h=>by
  have E: ∀st∈kW b k kA j,sN m.n st:=fun st ax=>h st (aq8.2 (.inl ax))
  have G:sN m.n (some (2+k*kA+(j:Nat),lm b j)):=h _ (aq8.2 (.inr (aq0.2 rfl)));have br:=Nb ai aF i j E;have ab:=Du ai aF j (kW b k kA j) E (by rw[yx];exact ap0 _);rw[List.take_of_length_le (by rw[yx];exact ap0 _)] at ab;rw[kW,AF,VP ab.ok (by rw[ab.n,ab.U];exact aF) (by rw[ab.n];exact G),br]
  by_cases e:2+k*kA+(j:Nat)=i
  .rw[if_pos e,if_pos au5]
   congr 1
   omega
  .rw[if_neg e]
   by_cases ap:2+k*kA<=i/\i < 2+k*kA+(j:Nat)
   .rw[if_pos ap,if_pos au5]
   .rw[if_neg ap,if_neg au5]
theorem al2 (b:List UInt8) (j:Nat):lm b j=(b.drop (16*j)).take 16++List.replicate (16 - ((b.drop (16*j)).take 16).length) 0:=by
 unfold lm laid;rw[List.take_zero,List.nil_append,List.drop_replicate,Nat.zero_add]
theorem VQ (b:List UInt8): ∀n:Nat,(List.range n).flatMap (fun i=>lm b i)=b.take (16*n)++List.replicate (16*n - b.length) 0
 |0=>by simp
 |n+1=>by
  rw[List.range_succ,List.flatMap_append,VQ b n];simp only[at7,List.flatMap_nil,as5];rw[al2]
  by_cases h:16*n<=b.length
  .rw[show 16*n - b.length=0 by omega,List.replicate_zero,as5,<-as6]
   have e:b.take (16*n)++(b.drop (16*n)).take 16=b.take (16*(n+1)):=by
    rw[show 16*(n+1)=16*n+16 by omega,List.take_add]
   rw[e]
   congr 2
   rw[ap8,at1];omega
  .rw[List.drop_eq_nil_of_le au5,List.take_nil,List.nil_append,List.length_nil,List.take_of_length_le au5,List.take_of_length_le au5,as6,List.replicate_append_replicate]
   congr 2
   omega
def kB (n U:Int):bY:=⟨n,U,[],[],[]⟩
def vb (n U:Int) (b:List UInt8):bY:=nu (kB n U) (sM b 0 (dq n) 0)
structure yy (m:bY) (n U:Int) (b:List UInt8):Prop where
 ok:e2 m
 n:m.n=n
 U:m.U=U
 hl:m.eV=[]
 Dw:m.lM=m.bF
 cD:iI m.bF 0=pS b 0
 kN:iI m.bF 1=wD
 al3: ∀i:Nat,iI m.bF (2+(i:Nat))=if i < g8 b then lm b i else wD
theorem al4 {n U:Int} (hn:pb n=true) (G:2<=n) (aF:n<=U) {b:List UInt8} (O:(b.length:Int)<=dq n*16):yy (vb n U b) n U b:=by
 have ai:e2 (kB n U):=e2.new hn;have ax:=VN (m:=kB n U) ai G O (k:=0) (.inl rfl) 0;obtain⟨a0,b4⟩:=Dr G ai.cH;have eB:=Du ai aF _ _ ax (ap0 _);rw[aq9] at eB;have E: ∀st∈kW b 0 (dq n) (g8 b),sN n st:=fun st h=>ax st (by unfold sM;simp only[aq8];exact .inl (.inl (.inl h)))
 have hw:=Du ai aF (g8 b) (kW b 0 (dq n) (g8 b)) E (by rw[yx];exact ap0 _);rw[List.take_of_length_le (by rw[yx];exact ap0 _)] at hw;have m':e2 (nu (kB n U) (kW b 0 (dq n) (g8 b))).ol:=hw.ok.ol
 have e:vb n U b=(va (nu (kB n U) (kW b 0 (dq n) (g8 b))).ol (some (0,pS b 0))).1.ol:=by
  unfold vb sM;rw[AF,AF,AF];rfl
 have Dx: ∀i,iI (vb n U b).bF i=if 0=i then pS b 0 else iI (nu (kB n U) (kW b 0 (dq n) (g8 b))).bF i:=fun i=>by
  rw[e]
  exact VP m' (by show(nu (kB n U) (kW b 0 (dq n) (g8 b))).n<=(nu (kB n U) (kW b 0 (dq n) (g8 b))).U;rw[hw.n,hw.U];exact aF) (by
   show sN (nu (kB n U) (kW b 0 (dq n) (g8 b))).n _;rw[hw.n];exact⟨au6,by show(0:Int) < n;omega,M' b 0⟩) i
 have aR: ∀i,iI (kB n U).bF i=wD:=fun i=>rfl
 refine⟨eB.ok,eB.n,eB.U,by rw[e];rfl,by rw[e];rfl,?_,?_,fun i=>?_⟩
 .rw[Dx,if_pos rfl]
 .rw[Dx,if_neg au6,Nb ai aF 1 _ E,if_neg au5,aR]
 .rw[Dx,if_neg au5,Nb ai aF _ _ E,aR]
  by_cases aI:i < g8 b
  .rw[if_pos au5,if_pos aI]
   congr 1
   omega
  .rw[if_neg au5,if_neg aI]
theorem yy.ll {m:bY} {n U:Int} {b:List UInt8} (h:yy m n U b) (ed:List Int):m.ll ed=m:=by
 obtain⟨n',Bs,Dw,Dy,hl⟩:=m;have E:hl=[]:=h.hl;have G:Dw=Dy:=h.Dw;subst E G;rfl
theorem al5 (b:List UInt8):mj (pS b 0)=(ez 4 [(0+1:Int).toNat,b.length,(jh b).toNat],true):=by
 have aq:=M' b 0
 have e:(pS b 0).take ((pS b 0).length - 4)=ez 4 [(0+1:Int).toNat,b.length,(jh b).toNat]:=by
  rw[aq];unfold pS rG;rw[List.take_append_of_le_length (by rw[nn];exact ap0 _),List.take_of_length_le (by rw[nn];exact ap0 _)]
 unfold mj;rw[if_neg (by rw[aq];omega),e];exact if_pos rfl
theorem al6:(mj wD).2=false:=by kernel_rfl
theorem VR (s:hK) (a:Int):pc s a 1=iI s a:=by
 unfold pc;rw[show List.range 1=[0] from rfl,at7,List.flatMap_nil,as5];show iI s (a+((0:Nat):Int))=_;rw[show a+((0:Nat):Int)=a by omega]
theorem Nc {m:bY} {k:Int} (h:iI m.bF k=wD):mU m k=([],0):=by
 unfold mU
 have e:(mj (ml m k)).2=false:=by
  unfold ml;rw[VR,h];exact al6
 rw[e]
theorem al7 {g l c:Nat} (E:g < 256 ^4) (G:l < 256 ^4) (al:c < 256 ^4):ix (ez 4 [g,l,c])=(g,l,c):=by
 have e:ez 4 [g,l,c]=ea g 4++(ea l 4++(ea c 4++[])):=by unfold ez;simp
 unfold ix;rw[e,o6 E,o6 G,o6 al]
theorem al8 {m:bY} {n U:Int} {b:List UInt8} (h:yy m n U b) (O:(b.length:Int)<=dq n*16):(nt m 0).take b.length=b:=by
 have H:g8 b<=(dq n).toNat:=by unfold g8;omega
 have e:nt m 0=(List.range (dq n).toNat).flatMap fun i=>if i < g8 b then lm b i else wD:=by
  unfold nt pc;rw[h.n]
  congr 1
  funext i
  rw[show 2+0*dq n+(i:Int)=2+(i:Int) by omega];exact h.al3 i
 rw[e,show(dq n).toNat=g8 b+((dq n).toNat - g8 b) by omega,List.range_add,List.flatMap_append]
 have ap:((List.range (g8 b)).flatMap fun i=>if i < g8 b then lm b i else wD)=(List.range (g8 b)).flatMap fun i=>lm b i:=by
  rw[List.flatMap_def,List.flatMap_def]
  congr 1
  exact ar1 fun i aI=>if_pos (List.mem_range.1 aI)
 have nZ:b.length<=16*g8 b:=by unfold g8;omega
 rw[ap,VQ,List.take_of_length_le nZ,as6];exact List.take_left' rfl
theorem al9 {m:bY} {n U:Int} {b:List UInt8} (h:yy m n U b) (O:(b.length:Int)<=dq n*16) (aq:b.length<=1000000):mU m 0=(b,1):=by
 have ax:=MN b;have aj:ml m 0=pS b 0:=by unfold ml;rw[VR];exact h.cD
 unfold mU;rw[aj,al5];simp only;rw[al7 au6 au5 au5];simp only;rw[al8 h O,h.n,show(((jh b).toNat:Nat):Int)=jh b by omega];rw[ar8 (show¬(((0+1:Int).toNat:Nat):Int) < 1 by decide),ar8 (show¬(1073741824:Int) < (((0+1:Int).toNat:Nat):Int) by decide),ar8 (show¬dq n*16 < ((b.length:Nat):Int) by omega),aq2 (rfl:jh b=jh b)];rfl
theorem al' {m:bY} {n U:Int} {b:List UInt8} (h:yy m n U b) (O:(b.length:Int)<=dq n*16) (aq:b.length<=1000000):gu m 2=(0,b,1):=by
 have aw:mU m ((0:Nat):Int)=(b,1):=al9 h O aq;have E:mU m ((1:Nat):Int)=([],0):=Nc h.kN
 have aj:gu m 1=(0,b,1):=by
  unfold gu;rw[aw];exact if_pos (show(0:Int) < 1 by decide)
 unfold gu;rw[aj,E];exact if_neg (show¬(1:Int) < 0 by decide)
theorem Hu (n U:Int):gu (kB n U) 2=(-1,[],0):=by
 have aw:mU (kB n U) ((0:Nat):Int)=([],0):=Nc rfl;have E:mU (kB n U) ((1:Nat):Int)=([],0):=Nc rfl
 have aj:gu (kB n U) 1=(-1,[],0):=by
  unfold gu;rw[aw];exact if_neg (show¬(0:Int) < 0 by decide)
 unfold gu;rw[aj,E];exact if_neg (show¬(0:Int) < 0 by decide)
end
section
theorem VS {L:List bM} {b:bM}:gx L b=0↔hi b=true/\L.find? (fun y=>decide (dH y=dH b))=none/\L.length < 64/\(dh b≠[]-> ∃x,L.find? (fun y=>decide (dH y=dh b))=some x/\cS x=cS b):=by
 constructor
 .intro h;obtain⟨b4,ci,a3,a4⟩:=C' h;refine⟨b4,(GW _ _).1 ci,a3,fun ag=>?_⟩;have aw:=a4 (by simpa using ag);obtain⟨x,hx⟩:=De aw;refine⟨x,hx,?_⟩
  by_cases O:cS x=cS b
  .exact O
  .exfalso;have dE:=hx;rw[<-yf] at dE;unfold o2 at dE;rw[if_pos aw] at dE;unfold gx at h;rw[dE] at h
   split at h
   .cases h
   split at h
   .cases h
   rw[if_pos (by simp[ag,O])] at h
   cases h
 .rintro⟨b4,ci,a3,a4⟩;have Qd:=(GW _ _).2 ci;unfold gx;rw[if_neg (by rw[b4];simp;omega)]
  by_cases ag:dh b=[]
  .rw[if_neg (by simp[ag]),if_neg (by simp[ag])]
  .obtain⟨x,hx,O⟩:=a4 ag
   have aw:0<=eq L (dh b):=by
    rcases Int.lt_or_le (eq L (dh b)) 0 with h |h
    .rw[(GW _ _).1 h] at hx;cases hx
    .exact h
   have dE:=hx;rw[<-yf] at dE;unfold o2 at dE;rw[if_pos aw] at dE;rw[if_neg (by simp;omega),dE,if_neg (by simp[O])]
def qF (L:List bM):Prop:= ∀(k:Nat) (b:bM),L[k]? =some b->gx (L.take k) b=0
theorem qF.nil:qF []:=fun k b h=>by simp at h
theorem qF.add {L:List bM} (h:qF L) (b:bM):qF (gr L b):=by
 unfold gr
 split
 .rename_i aY;intro k c H;rcases T8 k c H with E |⟨rfl,rfl⟩
  .have ab:=(ap5.1 E).1;rw[List.take_append_of_le_length au5];exact h k c E
  .rw[List.take_left];exact aY
 .exact h
theorem ama {α:Type} (L:List α) {k j:Nat} (h:k<=j):(L.eraseIdx k).take j=(L.take (j+1)).eraseIdx k:=by
 refine List.ext_getElem? fun i=>?_
 rw[List.getElem?_take,List.getElem?_eraseIdx,List.getElem?_eraseIdx,List.getElem?_take,List.getElem?_take]
 by_cases G:i < k
 .have a:i < j:=by omega
  have b:i < j+1:=by omega
  simp[G,a,b]
 .by_cases E:i < j
  .simp[E,G]
  .simp[E,G]
theorem qF.drop {L:List bM} (h:qF L) (nm:List UInt8):qF (o3 L nm):=by
 unfold o3
 split
 .rename_i aY;obtain⟨E,G⟩:=Um aY;obtain⟨x,hx⟩:=De E;have b1:=List.find?_some hx;simp only[ar5] at b1
  have Gv:L[(eq L nm).toNat]? =some x:=by
   have ci:=yf L nm;unfold o2 at ci;rw[if_pos E,hx] at ci;exact ci
  generalize(eq L nm).toNat=q at*;have aV:=(ap5.1 Gv).1;intro j b O;have amb:b∈L:=List.mem_of_mem_eraseIdx (List.mem_of_getElem? O);rw[List.getElem?_eraseIdx] at O
  split at O
  .rename_i amc
   have:(L.eraseIdx q).take j=L.take j:=by
    refine List.ext_getElem? fun i=>?_
    rw[List.getElem?_take,List.getElem?_take,List.getElem?_eraseIdx]
    by_cases al:i < j
    .rw[if_pos al,if_pos al,if_pos au5]
    .rw[if_neg al,if_neg al]
   rw[this];exact h j b O
  .rename_i amc;rw[ama L au5];have ar:=VS.1 (h (j+1) b O);have Nd:(L.take (j+1))[q]? =some x:=by rw[List.getElem?_take,if_pos au5];exact Gv
   generalize L.take (j+1)=M at*;obtain⟨b4,ci,a3,a4⟩:=ar;have amd:dh b≠nm:=Ul G amb;refine VS.2 ⟨b4,?_,Nat.lt_of_le_of_lt (List.length_eraseIdx_le _ _) a3,fun ag=>?_⟩
   .rw[Mp _ M q x Nd (by
     have:=List.find?_eq_none.1 ci x (List.mem_of_getElem? Nd);simpa using this)]
    exact ci
   .rw[Mp _ M q x Nd (by rw[b1];simpa using fun e=>amd e.symm)];exact a4 ag
 .exact h
def AG (p:j7):wx:=(gf p,mf p)
def tI (b:bM):mR:=(dH b,dh b,cS b,ep b,(cy b).map AG)
theorem VT (b:bM):i2 (tI b)=b:=by
 have h: ∀l:List j7,(l.map AG).map sD=l:=fun l=>by rw[as2];exact List.map_id l
 exact congrArg (fun l:List j7=>((dH b,dh b,cS b,ep b,l):bM)) (h (cy b))
theorem Nf (L:List bM):(L.map tI).map i2=L:=by
 rw[as2,show(i2∘tI)=id from funext VT,List.map_id]
theorem ame {p:j7} (h:0<=gf p/\gf p<=65535/\(mf p).length<=128) (t:List UInt8):u1 (kx p++t,0)=((t,0),AG p):=by
 have aj:fx 2 (kx p++t,0)=((gD (mf p) 2++t,0),(gf p).toNat):=by
  unfold kx;rw[as6];exact o6 au5 _
 have ap:qw 2 (gD (mf p) 2++t,0)=((t,0),mf p):=Dj au5 t;unfold u1;rw[aj];simp only;rw[ap];refine Prod.ext rfl (Prod.ext ?_ rfl);show(((gf p).toNat:Nat):Int)=gf p;omega
theorem VU {bE:List j7} (h: ∀p,p∈bE->0<=gf p/\gf p<=65535/\(mf p).length<=128) (t:List UInt8): ∀k,k<=bE.length->g4 (bE.flatMap kx++t,0) k=(((bE.drop k).flatMap kx++t,0),(bE.take k).map AG)
 |0,_=>by simp[g4]
 |k+1,ab=>by
  have cn:k < bE.length:=by omega
  have br:=VU h t k au5;unfold g4;rw[br];simp only;rw[List.drop_eq_getElem_cons cn,at7,as6,ame (h _ (ar3 cn))];simp only;rw[<-uW cn,as3];rfl
theorem amf {b:bM} (h:u0 b) (t:List UInt8):jT (j8 b++t,0)=((t,0),tI b):=by
 obtain⟨dz,e0,ij,iM,apu,amg⟩:=h
 have aj:E (j8 b++t,0)=((gD (dh b) 1++(ea (cS b).toNat 1++(ea (ep b).toNat 2++(ea (cy b).length 2++((cy b).flatMap kx++t)))),0),dH b):=by
  unfold j8 E;simp only[as6];exact Dj au5 _
 have ap:G (j8 b++t,0)=((ea (cS b).toNat 1++(ea (ep b).toNat 2++(ea (cy b).length 2++((cy b).flatMap kx++t))),0),dh b):=by
  unfold G;rw[aj];exact Dj au5 _
 have bm:al (j8 b++t,0)=((ea (ep b).toNat 2++(ea (cy b).length 2++((cy b).flatMap kx++t)),0),(cS b).toNat):=by
  unfold al;rw[ap];exact o6 au5 _
 have c0:aZ (j8 b++t,0)=((ea (cy b).length 2++((cy b).flatMap kx++t),0),(ep b).toNat):=by
  unfold aZ;rw[bm];exact o6 au5 _
 have fQ:bK (j8 b++t,0)=(((cy b).flatMap kx++t,0),(cy b).length):=by
  unfold bK;rw[c0];exact o6 au5 _
 have hO:=VU amg t (cy b).length (ap0 _);rw[List.drop_length,aq9] at hO;unfold jT UH;rw[fQ];simp only;rw[hO,aj,ap,bm,c0];refine Prod.ext rfl ?_;show(dH b,dh b,(((cS b).toNat:Nat):Int),(((ep b).toNat:Nat):Int),(cy b).map AG)=(dH b,dh b,cS b,ep b,(cy b).map AG);rw[show(((cS b).toNat:Nat):Int)=cS b by omega,show(((ep b).toNat:Nat):Int)=ep b by omega]
theorem VV {L:List bM} (eG:qF L) (hw: ∀b,b∈L->u0 b): ∀k,k<=L.length->oi (L.flatMap j8,0) k=some ((L.take k).map tI,((L.drop k).flatMap j8,0))
 |0,_=>by simp[oi]
 |k+1,ab=>by
  have cn:k < L.length:=by omega
  have br:=VV eG hw k au5;rw[List.drop_eq_getElem_cons cn,at7] at br;have O:=amf (hw _ (ar3 cn)) ((L.drop (k+1)).flatMap j8)
  have:=UL br (by rw[O]) (by
   rw[O,Nf];show gx (L.take k) (i2 (tI L[k]))=0;rw[VT];exact eG k _ (oj cn))
  rw[O] at this;rw[this,<-uW cn,as3];rfl
theorem VW {L:List bM} (eG:qF L) (hw: ∀b,b∈L->u0 b) (aq:L.length<=64):yj (jg L)=some (L.map tI):=by
 have aj:fx 1 (jg L,0)=((L.flatMap j8,0),L.length):=o6 au5 _;have ap:=VV eG hw L.length (ap0 _);rw[aq9,List.drop_length] at ap;unfold yj;rw[aj];simp only;rw[ap];simp[qx]
end
section
end
section
structure wE {aL:bx} (es:List (Z .str×Z aL)):Prop where
 fK:(u7 es).Nodup
 ok: ∀s∈u7 es,gp s=true
 rH:es.length<=16
theorem amh {s:List UInt8} (h:gp s=true):s.length<=15:=by
 simp[gp] at h;exact h.1.2
theorem wE.le {aL:bx} {es:List (Z .str×Z aL)} (h:wE es): ∀s∈u7 es,s.length<=maxLen:=fun s ax=>by
 have:=amh (h.ok s ax);have:(15:Nat)<=maxLen:=by decide
 omega
abbrev VX:List UInt8:=[97]
abbrev ami:List UInt8:=[98]
abbrev MD (b:Nat):List (Z .str×Z .aM):=dr [] (VX:Z .str) (some b:Option Nat)
abbrev d' (b:Nat):List (Z .str×Z .aM):=dr (gG (MD b) (VX:Z .str)) (ami:Z .str) (some b:Option Nat)
end
section
abbrev e3:=List (Z .str×Z .aM)
def kC (es:e3) (k:List UInt8) (a:Option Nat):e3:=dr es (k:Z .str) (a:Z .aM)
def ji (es:e3) (k:List UInt8):e3:=gG es (k:Z .str)
def AH (k:List UInt8) (a:Option Nat):Z .str×Z .aM:=(k,a)
def tJ (k:List UInt8) (p:Z .str×Z .aM):Bool:=fV .str (k:Z .str) p.1
theorem Hv {k:List UInt8} {p:Z .str×Z .aM}:tJ k p=true↔k=pe p:=alE _ _
theorem amj {k:List UInt8} {p:Z .str×Z .aM} (h:tJ k p=false):k≠pe p:=fun e=>by rw[Hv.2 e] at h;cases h
theorem Dz (k:List UInt8) (a:Option Nat):kC [] k a=[AH k a]:=rfl
theorem DA (p:Z .str×Z .aM) (l:e3) (k:List UInt8) (a:Option Nat):kC (p::l) k a=match tJ k p with |true=>AH k a::l |false=>p::kC l k a:=rfl
theorem VY (p:Z .str×Z .aM) (l:e3) (k:List UInt8):ji (p::l) k=match tJ k p with |true=>l |false=>p::ji l k:=rfl
theorem VZ (p:Z .str×Z .aM) (l:e3) (k:List UInt8):iw (p::l) k=match tJ k p with |true=>qD p |false=>iw l k:=by
 unfold iw;show(match tJ k p with |true=>some p.2 |false=>b0 l (k:Z .str)).getD (cK .aM)=_
 cases tJ k p <;>rfl
theorem vc (p:Z .str×Z .aM) (l:e3):u7 (p::l)=pe p::u7 l:=rfl
theorem Ng {k j:List UInt8} {a:Option Nat}: ∀{l:e3},j∈u7 (kC l k a)↔j=k\/j∈u7 l
 | []=>by rw[Dz,vc,ap3];rfl
 |p::l=>by
  rw[DA]
  cases e:tJ k p with
  |true=>rw[vc,vc,<-Hv.1 e,show pe (AH k a)=k from rfl];simp
  |false=>
   simp only;rw[vc,vc,ap3,ap3,Ng];constructor
   .rintro(h |h |h)
    .exact .inr (.inl h)
    .exact .inl h
    .exact .inr (.inr h)
   .rintro(h |h |h)
    .exact .inr (.inl h)
    .exact .inl h
    .exact .inr (.inr h)
theorem V0 {k:List UInt8} {a:Option Nat}: ∀{l:e3},(u7 l).Nodup->(u7 (kC l k a)).Nodup
 | [],_=>by rw[Dz,vc];exact aq7.2 ⟨fun h=>(by cases h),at0⟩
 |p::l,h=>by
  rw[vc,aq7] at h;rw[DA]
  cases e:tJ k p with
  |true=>
   simp only;rw[vc,show pe (AH k a)=k from rfl,Hv.1 e];exact aq7.2 h
  |false=>
   simp only;rw[vc];refine aq7.2 ⟨fun aA=>?_,V0 h.2⟩;rcases Ng.1 aA with bl |bl
   .exact amj e bl.symm
   .exact h.1 bl
theorem AI (k:List UInt8): ∀l:e3,(ji l k).Sublist l
 | []=>List.Sublist.refl _
 |p::l=>by
  rw[VY]
  split
  .exact List.sublist_cons_self _ _
  .exact(AI k l).cons_cons p
theorem V1 {k:List UInt8} {a:Option Nat} {x:Option Nat}: ∀{l:e3},x∈(kC l k a).map qD->x=a\/x∈l.map qD
 | [],h=>by
  rw[Dz,List.map_singleton,aq0] at h;exact .inl h
 |p::l,h=>by
  rw[DA] at h
  split at h
  .rcases ap3.1 h with h |h
   .exact .inl h
   .exact .inr (ap2 _ h)
  .rcases ap3.1 h with h |h
   .exact .inr (h▸aq1 ..)
   .rcases V1 h with h |h
    .exact .inl h
    .exact .inr (ap2 _ h)
theorem Nh {k:List UInt8} {a:Option Nat}: ∀{l:e3},(l.map qD).Nodup->a∉l.map qD->((kC l k a).map qD).Nodup
 | [],_,_=>by rw[Dz];simp
 |p::l,h,hn=>by
  rw[aq4,aq7] at h;rw[aq4,ap3,not_or] at hn;rw[DA]
  split
  .rw[aq4];exact aq7.2 ⟨hn.2,h.2⟩
  .rw[aq4];refine aq7.2 ⟨fun aA=>?_,Nh h.2 hn.2⟩;rcases V1 aA with e |e
   .exact hn.1 e.symm
   .exact h.1 e
theorem Ni {k:List UInt8} {a:Nat}: ∀{l:e3},iw l k=some a->AH k (some a)∈l
 | [],h=>by cases h
 |p::l,h=>by
  rw[VZ] at h
  split at h
  .rename_i e;have e:=Hv.1 e;refine ap3.2 (.inl ?_);show(k,(some a:Option Nat))=p;rw[<-h,e];rfl
  .exact ap2 _ (Ni h)
theorem DB {k:List UInt8} {a:Option Nat} {p:Z .str×Z .aM}: ∀{l:e3},p∈kC l k a->p=AH k a\/p∈l
 | [],h=>by rw[Dz,aq0] at h;exact .inl h
 |q::l,h=>by
  rw[DA] at h
  split at h
  .rcases ap3.1 h with h |h
   .exact .inl h
   .exact .inr (ap2 _ h)
  .rcases ap3.1 h with h |h
   .exact .inr (h▸aq1 ..)
   .rcases DB h with h |h
    .exact .inl h
    .exact .inr (ap2 _ h)
theorem V2 {k:List UInt8} {a:Nat}: ∀{l:e3},iw l k=some a->(l.map qD).Nodup->(some a:Option Nat)∉(ji l k).map qD/\(ji l k).length+1=l.length
 | [],h,_=>by cases h
 |p::l,h,hn=>by
  rw[aq4,aq7] at hn;rw[VZ] at h;rw[VY]
  cases e:tJ k p with
  |true=>
   rw[e] at h;have h:qD p=some a:=h;exact⟨h▸hn.1,rfl⟩
  |false=>
   rw[e] at h;obtain⟨E,G⟩:=V2 h hn.2;refine⟨?_,by simp only[as4];omega⟩;simp only;rw[aq4,ap3,not_or];refine⟨fun ap=>?_,E⟩;exact hn.1 (ap▸aq6 (f:=qD) (Ni h))
theorem wE.put {es:e3} (h:wE es) {k:List UInt8} {a:Option Nat} (ab:gp k=true) (aq:(kC es k a).length<=16):wE (kC es k a):=
 ⟨V0 h.fK,fun s ax=>by
  rcases Ng.1 ax with rfl |ax
  .exact ab
  .exact h.ok s ax,aq⟩
theorem wE.k6 {es:e3} (h:wE es) (k:List UInt8):wE (ji es k):=
 ⟨h.fK.sublist ((AI k es).map _),fun s ax=>h.ok s (((AI k es).map _).subset ax),as9 (AI k es).length_le h.rH⟩
theorem lR.k6 {es:e3} {L:dN} {W:Nat} (h:lR es L W) (k:List UInt8):lR (ji es k) L W:=
 ⟨fun p ag=>h.ex p ((AI k es).subset ag),h.fK.sublist ((AI k es).map _),h.yr,h.ok,h.rH⟩
theorem lR.add {es:e3} {L:dN} {W:Nat} (h:lR es L W) {k:List UInt8} {b:Nat} {m:bY} (O:b∉L.map (·.1)) (aA:e2 m) (aq:m.eV.length<=W):lR (kC es k (some b)) ((b,m)::L) W:=by
 refine⟨fun p ag=>?_,Nh h.fK fun hx=>?_,aq7.2 ⟨O,h.yr⟩,fun p ag=>?_,fun p ag=>?_⟩
 .rcases DB ag with rfl |ag
  .exact⟨b,rfl,aq1 ..⟩
  .obtain⟨a,E,G⟩:=h.ex p ag;exact⟨a,E,ap2 _ G⟩
 .obtain⟨p,ag,e⟩:=ar2.1 hx;obtain⟨a,E,G⟩:=h.ex p ag;rw[e] at E;injection E with E
  exact O (E▸G)
 .rcases ap3.1 ag with rfl |ag
  .exact aA
  .exact h.ok p ag
 .rcases ap3.1 ag with rfl |ag
  .exact aq
  .exact h.rH p ag
theorem lR.aX {es:e3} {L:dN} {W:Nat} (h:lR es L W) {fr to:List UInt8} {a:Nat} (hf:iw es fr=some a):lR (kC (ji es fr) to (some a)) L W:=by
 refine⟨fun p ag=>?_,Nh (h.k6 fr).fK (V2 hf h.fK).1,h.yr,h.ok,h.rH⟩;rcases DB ag with rfl |ag
 .obtain⟨a',E,G⟩:=h.ex _ (Ni hf);exact⟨a',E,G⟩
 .exact(h.k6 fr).ex p ag
theorem V3 (f:Nat->bY->bY) (L:dN):(kV f L).map (·.1)=L.map (·.1):=by
 unfold kV;rw[as2];rfl
theorem Nj (a:Nat) (m:bY): ∀L:dN,(g7 L a m).map (·.1)=L.map (·.1)
 | []=>rfl
 |p::L=>by
  show(if p.1=a then(p.1,m)::L else p::g7 L a m).map (·.1)=_
  split
  .rfl
  .rw[aq4,Nj a m L];rfl
theorem Nk {a:Nat} {m:bY} {p:Nat×bY}: ∀{L:dN},p∈g7 L a m->p.2=m\/p∈L
 | [],h=>by cases h
 |q::L,h=>by
  have h:p∈(if q.1=a then(q.1,m)::L else q::g7 L a m):=h
  split at h
  .rcases ap3.1 h with h |h
   .exact .inl (by rw[h])
   .exact .inr (ap2 _ h)
  .rcases ap3.1 h with h |h
   .exact .inr (h▸aq1 ..)
   .rcases Nk h with h |h
    .exact .inl h
    .exact .inr (ap2 _ h)
theorem lR.set {es:e3} {L:dN} {W j2:Nat} (h:lR es L W) (a:Nat) {m:bY} (aA:e2 m) (aq:m.eV.length<=j2) (hw:W<=j2):lR es (g7 L a m) j2:=by
 refine⟨fun p ag=>?_,h.fK,by rw[Nj];exact h.yr,fun p ag=>?_,fun p ag=>?_⟩
 .rw[Nj];exact h.ex p ag
 .rcases Nk ag with e |ag
  .rw[e];exact aA
  .exact h.ok p ag
 .rcases Nk ag with e |ag
  .rw[e];exact aq
  .exact as9 (h.rH p ag) hw
theorem lR.map {es:e3} {L:dN} {W:Nat} (h:lR es L W) {f:Nat->bY->bY} (E: ∀a m,e2 m->e2 (f a m)) (G: ∀a m,m.eV.length<=W->(f a m).eV.length<=W):lR es (kV f L) W:=by
 refine⟨fun p ag=>?_,h.fK,by rw[V3];exact h.yr,fun p ag=>?_,fun p ag=>?_⟩
 .rw[V3];exact h.ex p ag
 .obtain⟨q,aV,rfl⟩:=ar2.1 ag;exact E _ _ (h.ok q aV)
 .obtain⟨q,aV,rfl⟩:=ar2.1 ag;exact G _ _ (h.rH q aV)
theorem lR.mono {es:e3} {L:dN} {W j2:Nat} (h:lR es L W) (hw:W<=j2):lR es L j2:=⟨h.ex,h.fK,h.yr,h.ok,fun p ag=>as9 (h.rH p ag) hw⟩
end
section
theorem V4 {m:bY} {I F:Nat->Prop} {w:World} {p:bo} (h:(g6 m).R I F w p):F p.bk:=by
 obtain⟨ρ,b8,E,G,al,aZ⟩:=h;obtain⟨bj,_⟩:=G 1001 _ rfl;exact(aZ _).2 ⟨1001,_,rfl,(bj _).2 (by rw[E])⟩
theorem V5 {I:Nat->Prop} {w:World} {b:Nat}: ∀{L:dN} {F:Nat->Prop},fb I w (eR L) F->b∈L.map (·.1)->F b
 | [],_,_,h=>by cases h
 |p::L,F,⟨cu,cI,q,E,G,al,aZ,bK⟩,h=>by
  rcases ap3.1 h with h |h
  .exact(E b).2 (.inl (by rw[h];have:=V4 aZ;rwa[al] at this))
  .exact(E b).2 (.inr (V5 bK h))
theorem df.amk {ids:List Nat} {K:a1} {B:ay} (q:Nat) {L:dN} {b:Nat} {m:bY} (aV:ah B q=some (.aG (.bA (eR ((b,m)::L))))):df ids K B (X:=PLift (b∉L.map (·.1))) (fun _=>K) (fun _=>B):=by
 rintro N C a w ⟨hn,J,ρ,F,ar,av⟩;have bn:fb (bZ C B F w) w (eR ((b,m)::L)) (F q):=ar.holds q _ aV;obtain⟨cu,cI,p,E,G,al,aZ,bK⟩:=bn;refine⟨⟨fun O=>?_⟩,hn,J,ρ,F,ar,av⟩;have aj:=V4 aZ;rw[al] at aj;exact G _ aj (V5 bK O)
end
section
theorem aml {m:bY} (ai:e2 m) (G:2<=m.n) {s:Nat} {M:dN} (ar:hL M s=some m) {b:List UInt8} (aa:gu m 2=(0,b,1)):Fn Tryz.prog 122 [dn s] [(1003,.aG (.bA (eR M)))] [] (.ce [.one (.d (.ck .u8 b)),.one (.d (.int .i64 1)),dw 0]) [(1003,.aG (.bA (eR M)))]:=by
 have hn:=M7 ai G ar;rw[aa] at hn;refine aW [] Tryz.func122 rfl rfl rfl rfl ?_;refine au hn ?_;refine⟨fun h=>absurd h (show¬decide ((0:Int) < 0)=true by decide),fun _=>?_⟩;exact aT aH rfl ac ac rfl
abbrev pT:List UInt8:=[108,105,115,116]
abbrev gv:List UInt8:=[108,105,115,116,46,110,101,119]
abbrev ln (c d:Nat) (L:List bM):ay:=[(c,.cells [.own d]),(d,.row 65 lK L)]
theorem amm (U:Int) (es:e3) {L:dN} {a:Nat} {m:bY} (ha:iw es pT=some a) (aA:hL L a=some m) (ai:e2 m) (G:2<=m.n) {Q:List bM} (aa:gu m 2=(0,jg Q,1)) (aq:(jg Q).length<=100000000) (eG:qF Q) (hw: ∀b,b∈Q->u0 b) (aV:Q.length<=64):
  Fn Tryz.prog 71 [ao 1001] (nr 1001 1002 1003 U es L) [2001,2002] (.ce [.one (.ptr 2001 0),dw 0]) (nr 1001 1002 1003 U es L++ln 2001 2002 ((Q.map tI).map i2)):=by
 have J:=UN (jg Q) aq (some (Q.map tI)) (VW eG hw aV);simp only at J;refine aW [] Tryz.func71 rfl rfl rfl rfl ?_;refine au (MP U es pT a ha) ?_;refine da ?_;refine au (aml ai G aA aa) ?_;refine da ?_;refine au (Fn.aX [(1001,2001),(1002,2002)] J) ?_;exact aT aH rfl ac ac rfl
end
section
theorem amn {m:bY} (ai:e2 m) (G:2<=m.n) {s:Nat} {M:dN} (ar:hL M s=some m) (b:List UInt8) (O:dq m.n*16 < (b.length:Int)):
  Fn Tryz.prog 198 [dn s,bS .u8 b] [(1003,.aG (.bA (eR M)))] [] (.ce [mF,dw 1]) [(1003,.aG (.bA (eR M)))]:=by
 refine aW [] Tryz.func198 rfl rfl rfl rfl ?_;refine⟨rfl,au (M7 ai G ar) ?_⟩;refine au (AD ar) ?_;refine au (M4 m.n ai.ky ai.cH) ?_;refine⟨fun _=>?_,fun c=>absurd O (mu c)⟩;exact aT aH rfl ac ac rfl
theorem amo {m:bY} (ai:e2 m) (G:2<=m.n) {s:Nat} {M:dN} (ar:hL M s=some m) (b:List UInt8) (O:dq m.n*16 < (b.length:Int)):
  Fn Tryz.prog 172 [dn s,bS .u8 b] [(1003,.aG (.bA (eR M)))] [] (ae 1) [(1003,.aG (.bA (eR M)))]:=by
 refine aW [] Tryz.func172 rfl rfl rfl rfl ?_;refine au (amn ai G ar b O) ?_;refine eO ?_;exact aT aH rfl rfl ac rfl
theorem amp (U:Int) (es:e3) {L:dN} (ha:iw es pT=none):
  Fn Tryz.prog 71 [ao 1001] (nr 1001 1002 1003 U es L) [] (.ce [mF,dw 181]) (nr 1001 1002 1003 U es L):=by
 refine aW [] Tryz.func71 rfl rfl rfl rfl ?_;refine au (Ve U es pT ha) ?_;refine eO ?_;exact aT aH rfl ac ac rfl
def wF (n:Int) (Q:List bM):Int:=if((jg Q).length:Int)<=dq n*16 then 0 else 1
def vd (n:Int) (es:e3) (Q:List bM) (b:Nat):e3:=if((jg Q).length:Int)<=dq n*16 then kC (ji (kC (ji es gv) gv (some b)) gv) pT (some b) else kC (ji es gv) gv (some b)
def tK (n U:Int) (Q:List bM) (b:Nat):bY:=if((jg Q).length:Int)<=dq n*16 then vb n U (jg Q) else kB n U
set_option maxHeartbeats 1000000 in
theorem amq (U n:Int) (Hw:2<=n) (hn:pb n=true) (aF:n<=U) (es:e3) {M:dN} (E:iw (ji es gv) gv=none) (G:(ji es gv).length < 16) (al: ∀b,iw (kC (ji es gv) gv (some b)) gv=some b) {Q:List bM} (aV:Q.length<=255) (hw: ∀b,b∈Q->u0 b):
  cv Tryz.prog 128 [ao 3001,ao 1001,ae n] (nr 1001 1002 1003 U es M++ln 3001 3002 Q) [] (X:={b:Nat//b∉M.map (·.1)}) (fun _=>ae (wF n Q))
   (fun g=>nr 1001 1002 1003 U (vd n es Q g.1) ((g.1,tK n U Q g.1)::M)++ln 3001 3002 Q):=by
 have uc: ∀b,hL ((b,kB n U)::M) b=some (kB n U):=fun b=>by rw[tG,if_pos rfl]
 refine hD [2,3] Tryz.func128 rfl rfl rfl rfl ?_;refine au (alm U es gv) ?_;refine bt.h3 eN au8 ?_;refine⟨Nat,_,_,fun b=>_,fun b=>_,ak7 U (ji es gv) (eR M) gv n au6 rfl (by rw[hn,aq2 (show 0<=U by omega)];rfl) E G,ac,rfl,fun _=>rfl,fun b=>?_⟩;refine bt.eY (df.amk 1003 (L:=M) (b:=b) (m:=kB n U) rfl) fun O=>?_
 refine bz [] (aH) ?_;refine da ?_;refine au (Fn.aX [(1001,3001),(1002,3002)] (Uz Q aV hw)) ?_
 by_cases H:((jg Q).length:Int)<=dq n*16
 .have vw:=alZ (m:=kB n U) (e2.new (n:=n) (U:=U) hn) Hw aF (ap7 _) (uc b) (jg Q) H (by rw[Hu];decide) (by rw[Hu];decide) (by rw[Hu];decide);rw[Hu] at vw;have gN:g7 ((b,kB n U)::M) b (vb n U (jg Q))=(b,vb n U (jg Q))::M:=if_pos rfl
  have vw:Fn Tryz.prog 172 [dn b,bS .u8 (jg Q)] [(1003,.aG (.bA (eR ((b,kB n U)::M))))] [] (ae 0) [(1003,.aG (.bA (eR ((b,vb n U (jg Q))::M))))]:=by
   rw[<-gN];exact vw
  refine au vw ?_;refine da ?_;refine au (ak6 U (kC (ji es gv) gv (some b)) gv pT b au6 rfl (al b)) ?_;have aj:wF n Q=0:=if_pos H;have ap:vd n es Q b=_:=if_pos H;have bm:tK n U Q b=_:=if_pos H;exact⟨⟨b,O.down⟩,_,_,_,aH,rfl,aj.symm,⟨rfl,congrArg (fun x=>some (bd.map .str .aM x)) ap.symm,congrArg (fun x=>some (bd.aG (.bA (eR ((b,x)::M))))) bm.symm,rfl,rfl,trivial⟩,rfl⟩
 .have vw:=amo (m:=kB n U) (e2.new (n:=n) (U:=U) hn) Hw (uc b) (jg Q) (by show dq n*16 < _;omega);refine au vw ?_;refine eO ?_;have aj:wF n Q=1:=if_neg H;have ap:vd n es Q b=_:=if_neg H;have bm:tK n U Q b=_:=if_neg H;exact⟨⟨b,O.down⟩,_,_,_,aH,rfl,aj.symm,⟨rfl,congrArg (fun x=>some (bd.map .str .aM x)) ap.symm,congrArg (fun x=>some (bd.aG (.bA (eR ((b,x)::M))))) bm.symm,rfl,rfl,trivial⟩,rfl⟩
end
section
def kX (u:bg->bg) (fy:List Nat) (l:List bg):List bg:=l.map fun x=>if x.ad∈fy then u x else x
theorem amr (u:bg->bg) (l:List bg):kX u [] l=l:=by
 unfold kX;refine(ar1 fun x _=>?_).trans (List.map_id' l);rw[if_neg au7]
theorem V6 {u:bg->bg} {fy:List Nat} {l:List bg} (h: ∀e,e∈l->e.ad∈fy):kX u fy l=l.map u:=by
 unfold kX;exact ar1 fun x hx=>if_pos (h x hx)
theorem ams {u:bg->bg} (a8: ∀e,(u e).ad=e.ad) {fy:List Nat} {a:Nat} (ha:a∉fy) (l:List bg):mQ (kX u fy l) a u=kX u (fy++[a]) l:=by
 unfold mQ kX;rw[as2];refine ar1 fun x _=>?_
 show(if(if x.ad∈fy then u x else x).ad=a then u (if x.ad∈fy then u x else x) else(if x.ad∈fy then u x else x))=if x.ad∈fy++[a] then u x else x
 by_cases E:x.ad∈fy
 .have G: ¬(u x).ad=a:=by rw[a8];exact fun e=>ha (e▸E)
  rw[if_pos E,if_neg G,if_pos (List.mem_append_left _ E)]
 .rw[if_neg E]
  by_cases G:x.ad=a
  .rw[if_pos G,if_pos (by rw[G];simp)]
  .rw[if_neg G,if_neg (by simp[E,G])]
structure qG (u:bg->bg):Prop where
 nm: ∀e,(u e).nm=e.nm
 ad: ∀e,(u e).ad=e.ad
 dp: ∀e,(u e).dp=e.dp
 on: ∀e,(u e).on=e.on
 us: ∀e,(u e).us=e.us
 ok: ∀e,(0<=e.s/\e.s<=4096)/\(1<=e.g/\e.g<=64)/\eZ e.es->(0<=(u e).s/\(u e).s<=4096)/\(1<=(u e).g/\(u e).g<=64)/\eZ (u e).es
theorem qG.Nl {u:bg->bg} (a8:qG u) {l:List bg} (h:dR l) (fy:List Nat):dR (kX u fy l):=by
 have key: ∀{lC:Type} (f:bg->lC),(∀e,f (u e)=f e)->(kX u fy l).map f=l.map f:=fun f hf=>by
  unfold kX;rw[as2];refine ar1 fun x _=>?_
  show f (if x.ad∈fy then u x else x)=f x
  split
  .exact hf x
  .rfl
 refine⟨by rw[key _ a8.nm];exact h.ik,by rw[key _ a8.ad];exact h.lf,by rw[key _ a8.dp];exact h.uT,fun e V=>?_,by unfold kX;rw[aq3];exact h.len⟩;obtain⟨x,hx,rfl⟩:=ar2.1 V;obtain⟨cf,cM,eb,eA⟩:=h.ok x hx
 by_cases H:x.ad∈fy
 .rw[if_pos H];obtain⟨kT,qu,wz⟩:=a8.ok x ⟨cf,cM,eb⟩;exact⟨kT,qu,wz,by rw[a8.nm];exact eA⟩
 .rw[if_neg H];exact⟨cf,cM,eb,eA⟩
theorem qG.ue {u:bg->bg} (a8:qG u) (fy:List Nat) (l:List bg):dQ (kX u fy l)=dQ l:=by
 unfold dQ kX;rw[as2];refine ar1 fun x _=>?_
 show jB (if x.ad∈fy then u x else x)=jB x
 split
 .unfold jB;rw[a8.nm,a8.ad]
 .rfl
theorem qG.D {u:bg->bg} (a8:qG u) (fy:List Nat) (l:List bg):jR (kX u fy l)=jR l:=by
 unfold jR kX;rw[as2];refine ar1 fun x _=>?_
 show wq (if x.ad∈fy then u x else x)=wq x
 split
 .unfold wq;rw[a8.nm,a8.ad,a8.dp,a8.on,a8.us]
 .rfl
theorem qG.M {u:bg->bg} (a8:qG u) {l:List bg} (h:dR l) {fy:List Nat} {e:bg} (V:e∈l) (ha:e.ad∉fy):e5 (jC (kX u fy l)) e.dp (ff (u e).s (u e).g (u e).es)=jC (kX u (fy++[e.ad]) l):=by
 have aA:e∈kX u fy l:=ar2.2 ⟨e,V,if_neg ha⟩;rw[<-ams a8.ad ha,<-TB (a8.Nl h fy) aA (a8.dp e)]
theorem qG.get {u:bg->bg} (a8:qG u) {l:List bg} (h:dR l) {fy:List Nat} {e:bg} (V:e∈l) (ha:e.ad∉fy):eg (jC (kX u fy l)) e.dp=some (ff e.s e.g e.es):=
 (a8.Nl h fy).M (ar2.2 ⟨e,V,if_neg ha⟩)
theorem qG.map {u:bg->bg} (a8:qG u) {l:List bg} (h:dR l):dR (l.map u):=by
 have:=a8.Nl h (l.map (·.ad));rw[V6 fun e V=>aq6 V] at this;exact this
abbrev qH:=Nat×(Z .str×Z .aM)
def ve (p:qH):Option Nat:=p.2.2
structure wG (l:List bg) (lx:List qH) (bF fy:List Nat):Prop where
 Nm: ∀p,p∈lx-> ∀a,ve p=some a->(p.1∈bF↔a∈fy)
theorem amt {l:List bg} {lx:List qH} (ax:lx.map (·.2)=dQ l) {p:qH} (ag:p∈lx): ∃e,e∈l/\p.2=jB e:=by
 have:p.2∈dQ l:=by rw[<-ax];exact aq6 ag
 obtain⟨e,V,ap⟩:=ar2.1 this;exact⟨e,V,ap.symm⟩
theorem amu {l:List bg} (h:dR l) {lx:List qH} (ax:lx.map (·.2)=dQ l):(lx.map ve).Nodup:=by
 have:lx.map ve=(l.map (·.ad)).map some:=by
  have e:lx.map ve=(lx.map (·.2)).map (fun q:Z .str×Z .aM=>(show Option Nat from q.2)):=by rw[as2];rfl
  rw[e,ax];unfold dQ;rw[as2,as2];rfl
 rw[this];exact List.Pairwise.map _ (fun a b amv e=>amv (by injection e)) h.lf
theorem wG.nil (l:List bg) (lx:List qH):wG l lx [] []:=⟨fun _ _ _ _=>by simp⟩
theorem wG.step {l:List bg} {lx:List qH} {bF fy:List Nat} (h:wG l lx bF fy) (O:(lx.map (·.1)).Nodup) (ha:(lx.map ve).Nodup) {p:qH} (ag:p∈lx) {a:Nat} (e:ve p=some a):wG l lx (bF++[p.1]) (fy++[a]):=by
 refine⟨fun q aV b dm=>?_⟩;have E:=h.Nm q aV b dm
 have G:q.1=p.1↔b=a:=⟨fun aj=>by
  have:=uU O aV ag aj;subst this;rw[e] at dm;injection dm with bm
  exact bm.symm,fun aj=>by
  have:=uU ha aV ag (dm.trans (by rw[aj,e]));rw[this]⟩
 simp only[aq8,aq0,E,G]
def yz (bF:List Nat) (l:List qH):List qH:=l.filter fun p=> !bF.contains p.1
theorem amw {bF:List Nat} {l:List qH} {p:qH} (ag:p∈l) (hn:p.1∉bF):(yz (bF++[p.1]) l).length < (yz bF l).length:=by
 have e:yz (bF++[p.1]) l=(yz bF l).filter fun q=> !decide (q.1=p.1):=by
  unfold yz;rw[List.filter_filter];refine List.filter_congr fun q _=>?_
  by_cases e:q.1=p.1 <;>simp[e]
 rw[e];have aA:p∈yz bF l:=at5.2 ⟨ag,by simp[hn]⟩;exact List.length_filter_lt_length_iff_exists.2 ⟨p,aA,au7⟩
abbrev amx (it:Nat) (u:bg->bg) (l:List bg) (b bU:Nat) (lx:List qH) (bF fy:List Nat):ay:=[(1001,.cells [.mp 1002]),(1002,.aG (.vR b .str .aM lx bU)),(1003,.aG (.bA (jR l))),(1004,.aG (.bA (jC (kX u fy l)))),(it,.aG (.vS b bU bF bU))]
def kY (fr bJ:Int) (e:bg):bg:={e with es:=if e.on=true then nj e.s e.g e.es fr bJ else e.es}
theorem V7 (fr bJ:Int):qG (kY fr bJ):=by
 refine⟨fun _=>rfl,fun _=>rfl,fun _=>rfl,fun _=>rfl,fun _=>rfl,fun e h=>⟨h.1,h.2.1,?_⟩⟩;show eZ (if e.on=true then nj e.s e.g e.es fr bJ else e.es)
 split
 .exact LZ h.2.2 fr bJ
 .exact h.2.2
set_option maxHeartbeats 1000000 in
theorem Nn {l:List bg} (h:dR l) (fr bJ:Int):Fn Tryz.prog 83 [ao 1001,ae fr,ae bJ] (ej l) [] gI (ej (l.map (kY fr bJ))):=by
 have a8:=V7 fr bJ;obtain⟨oU,gb,gc⟩:=j5 C6;obtain⟨L4,wu,wv⟩:=j5 GC;refine aW [0] Tryz.func83 rfl rfl rfl rfl ?_;refine bt.eY (df.Qj 1002 rfl) fun x=>?_
 obtain⟨b,lx,bU,u',M6,bw⟩:=x;have O:(lx.map (·.1)).Nodup:=M6.imp fun h=>by omega
 have ha:=amu h u';refine bz [] (aH) ?_;refine⟨_,_,fun N=>Ql (d:=12) rfl Tryz.underlying101 rfl rfl N,rfl,?_⟩;refine dX [1] (X:=List Nat×List Nat) (fun _=>[(1,ae fr),(2,ae bJ),(12,ao 12)]) (fun x=>amx 12 (kY fr bJ) l b bU lx x.1 x.2) (fun x=>wG l lx x.1 x.2) (fun x=>(yz x.1 lx).length) ([],[]) (wG.nil l lx) ?_ ?_
 .exact af.sub ac ⟨rfl,rfl,rfl,(by show _=some (bd.aG (.bA (jC (kX (kY fr bJ) [] l))));rw[amr];rfl),rfl,trivial⟩
 rintro⟨bF,fy⟩ DC;have DC:wG l lx bF fy:=DC;refine bt.h3 eN au8 ?_;refine⟨_,Qp (c:=1002) (r:=12) rfl rfl rfl rfl (fun p ag=>bw _ (aq6 ag)) (ap0 _),fun v e az=>?_⟩;rcases az with⟨p,ag,iD,rfl,rfl⟩ |⟨eB,rfl,rfl⟩
 .obtain⟨e,V,AC⟩:=amt u' ag;have No:ve p=some e.ad:=by unfold ve;rw[AC]
  have Hd:e.ad∉fy:=fun aA=>iD ((DC.Nm p ag e.ad No).2 aA)
  have eu:=DC.step O ha ag No;have q9:=amw ag iD;have b9:=h.D V;have ar:=a8.get h V Hd;have iK:=a8.M h V Hd;obtain⟨cf,cM,eb,eA⟩:=h.ok e V;have gN:=GB (LD e.s e.g e.es fr bJ cf cM) ar rfl rfl rfl rfl;have H:(if e.on=true then nj e.s e.g e.es fr bJ else e.es)=(kY fr bJ e).es:=rfl;have hx:p.2.2=(some e.ad:Option Nat):=No;refine⟨_,_,fun N=>Qq (c:=1002) (r:=12) (p:=p) rfl rfl rfl rfl ag N,rfl,?_⟩;refine⟨_,_,fun N=>iY (b:=e.ad) rfl (by exact nY hx) N,rfl,?_⟩;refine⟨_,_,fun N=>jb rfl Tryz.underlying165 rfl rfl gb (by rw[gc];decide) rfl N,rfl,?_⟩;refine⟨_,_,fun N=>k8 (q:=1003) rfl Tryz.underlying4 rfl rfl rfl b9 rfl N,rfl,?_⟩;refine⟨fun u3=>?_,fun u3=>?_⟩
  .have u3:e.on=true:=u3;rw[if_pos u3] at H;rw[H] at gN;change Fn _ _ _ _ _ _ [(1004,.aG (.bA (e5 (jC (kX (kY fr bJ) fy l)) e.dp (ff (kY fr bJ e).s (kY fr bJ e).g (kY fr bJ e).es))))] at gN;rw[iK] at gN;refine⟨_,_,fun N=>iY (b:=e.ad) rfl (by exact nY hx) N,rfl,?_⟩;refine⟨_,_,fun N=>jb rfl Tryz.underlying165 rfl rfl wu (by rw[wv];decide) rfl N,rfl,?_⟩;refine⟨_,_,fun N=>k8 (q:=1003) rfl Tryz.underlying66 rfl rfl rfl b9 rfl N,rfl,?_⟩;refine au gN ?_;exact⟨(bF++[p.1],fy++[e.ad]),eu,q9,af.sub ac ac⟩
  .have u3:e.on=false:=u3;rw[if_neg (by rw[u3];decide)] at H;have aj:ff (kY fr bJ e).s (kY fr bJ e).g (kY fr bJ e).es=ff e.s e.g e.es:=by rw[<-H];rfl
   rw[aj,xz ar] at iK;exact⟨(bF++[p.1],fy++[e.ad]),eu,q9,af.sub ac ⟨rfl,rfl,rfl,congrArg (fun aB=>some (bd.aG (.bA aB))) iK,rfl,trivial⟩⟩
 .have xM: ∀e,e∈l->e.ad∈fy:=fun e V=>by
   have:jB e∈lx.map (·.2):=by rw[u'];exact aq6 V
   obtain⟨p,ag,ap⟩:=ar2.1 this;exact(DC.Nm p ag e.ad (by unfold ve;rw[ap])).1 (eB p ag)
  have mY:=V6 (u:=kY fr bJ) xM;have oY:lx.map (·.2)=dQ (l.map (kY fr bJ)):=by rw[u',<-mY,a8.ue]
  have sr:jR l=jR (l.map (kY fr bJ)):=by rw[<-mY,a8.D]
  exact⟨_,_,_,af.Qk 1002 rfl,rfl,trivial,⟨rfl,congrArg (fun aB=>some (bd.map .str .aM aB)) oY,congrArg (fun aB=>some (bd.aG (.bA aB))) sr,congrArg (fun aB=>some (bd.aG (.bA (jC aB)))) mY,trivial⟩,rfl⟩
end
section
section
variable {ids:List Nat} {K:a1} {B:ay}
theorem b'.set {ρ:Nat->bo} {I:Nat->Prop} {w:World} {s t:bC} (eu: ∀v,dS ρ I w s v->dS ρ I w t v): ∀{l:List bC} {aD:List Value} {j:Nat},l[j]? =some s->b' ρ I w l aD->b' ρ I w (l.set j t) aD
 | [],_,j,aa,_=>by cases j <;>cases aa
 |x::l,_,0,aa,⟨v,r,e,E,G⟩=>by
  injection aa with aa
  subst aa;exact⟨v,r,e,eu v E,G⟩
 |x::l,_,j+1,aa,⟨v,r,e,E,G⟩=>⟨v,r,e,E,b'.set eu (l:=l) (j:=j) aa G⟩
theorem af.vf (c j:Nat) {l:List bC} (H:ah B c=some (.cells l)) (aa:l[j]? =some (.bI (.pointer none))):af ids K B K ((c,.cells (l.set j (.d (.aM none))))::B):=by
 rintro N C a w ⟨hn,J,ρ,F,ar,av⟩
 obtain⟨bN,aY⟩:=ar.hN (w':=w) (ch:=.cells (l.set j (.d (.aM none)))) H (cJ.refl _ _) fun I bb=>by
  obtain⟨E,aD,T,G,al⟩:=ar.holds c _ H;exact⟨E,aD,T,G,b'.set (s:=.bI (.pointer none)) (t:=.d (.aM none)) (fun v h=>h) aa (b'.mono bb _ _ (fun _ _=>rfl) al)⟩
 exact⟨hn,J,ρ,F,bN,av.mono aY fun _ _ _=>rfl⟩
theorem af.DD (q:Nat) {p:Nat×bh} {L:List (Nat×bh)} (aV:ah B q=some (.aG (.bA (p::L)))):af ids K B K ((q,.aG (.bA [p]))::B):=by
 rintro N C a w ⟨hn,J,ρ,F,ar,av⟩;obtain⟨cu,cI,x,cf,cM,eb,eA,uu⟩:fb _ w (p::L) (F q):=ar.holds q _ aV;obtain⟨bN,aY⟩:=ar.Fe (w':=w) (ch:=.aG (.bA [p])) aV cu (fun b O=>(cf b).2 (.inl O)) (cJ.refl _ _) fun I bb=>⟨cu,fun _=>False,x,fun b=>by simp,fun _ _ h=>h,eb,p.2.cg _ _ _ _ _ _ eA bb (fun _ _=>rfl) (ap0 _),fun _ h=>h⟩
 exact⟨hn,J,ρ,_,bN,av.mono aY fun _ _ _=>rfl⟩
theorem af.V8 (q:Nat) {L:List (Nat×bh)} (aV:ah B q=some (.aG (.bA L))):af ids K B K ((q,.aG (.bA []))::B):=by
 rintro N C a w ⟨hn,J,ρ,F,ar,av⟩;obtain⟨bN,aY⟩:=ar.Fe (w':=w) (ch:=.aG (.bA [])) aV (fun _=>False) (fun b O=>O.elim) (cJ.refl _ _) fun I bb=>fun _ h=>h
 exact⟨hn,J,ρ,_,bN,av.mono aY fun _ _ _=>rfl⟩
def DE (_:bo):bh where
 R:=fun _ F _ _=> ∀x,¬F x
 cg:=fun _ _ _ _ _ _ h _ _ _=>h
theorem af.qI (q d:Nat) {ch:bd} (aV:ah B q=some ch):af ids K B K ((q,.co d DE)::B):=by
 rintro N C a w ⟨hn,J,ρ,F,ar,av⟩;obtain⟨bN,aY⟩:=ar.Fe (w':=w) (ch:=.co d DE) aV (fun _=>False) (fun b O=>O.elim) (cJ.refl _ _) fun I bb=>fun _ h=>h
 exact⟨hn,J,ρ,_,bN,av.mono aY fun _ _ _=>rfl⟩
theorem af.V9 (q d:Nat) (aV:gW ids K B q=true) (ba:d≠q):af ids K B K ((q,.co d DE)::B):=by
 rintro N C a w ⟨hn,J,ρ,F,ar,av⟩;have cz:=kK aV;obtain⟨bN,aY⟩:=ar.make (ch:=.co d DE) (w':=w) aV (Below.refl _ _) (ρ q) (fun _=>False) (fun _ h=>h.elim) (fun I _ _=>fun _ h=>h);exact⟨hn,J,_,_,bN,av.mono aY fun s c H=>de _ _ (fun e=>by subst e;rw[cz.1 s] at H;cases H)⟩
theorem af.Hx (q c d m b:Nat) (bp:ay) {cw:bd} (aV:ah B q=some cw) (uv:(cl bp).contains q=false) (c':kI B bp) (aA:ah B m=some (.co c (e6 b))):af ids K B K ((q,.co d (nT b c d bp))::pq (cl bp) B):=by
 rintro N C a w ⟨hn,J,ρ,F,ar,av⟩;have uv:=vO uv;have aq: ∀{d ch},ah bp d=some ch->ah B d=some ch:=fun {d ch} h=>kk c' h
 have vP: ∀{e ch},ah ((q,bd.co d (nT b c d bp))::pq (cl bp) B) e=some ch->e=q\/e∈cl bp->e=q/\ch= .co d (nT b c d bp):=fun {e ch} V aA=>by
  rw[ca] at V
  split at V
  .rename_i ap;injection V with V;exact⟨ap.symm,V.symm⟩
  .rename_i ap;rcases aA with aA |aA
   .exact absurd aA.symm ap
   .rw[xu,if_pos aA] at V;cases V
 obtain⟨bN,aY⟩:=ar.step (B':=(q,.co d (nT b c d bp))::pq (cl bp) B) (ρ':=ρ) (F':=c5 F q (fun x=> ∃e ch,ah bp e=some ch/\F e x)) (w':=w) (fun e=>e=q\/e∈cl bp) (fun _=>False) (cJ.refl _ _)
  (fun e ch V aA=>by
   rw[ca,if_neg (fun h=>aA (.inl h.symm)),xu,if_neg (fun h=>aA (.inr h))] at V;exact V)
  (fun _ _=>rfl) (fun e aA=>de _ _ (fun h=>aA (.inl h))) (fun _ _ h=>h) (fun _ h=>h.elim) (fun _ _ _ _ _ _ h=>h)
  (fun e ch V aA aY=>by
   obtain⟨rfl,rfl⟩:=vP V aA;rw[c6];exact⟨ρ,F,ps (N:=N) (a:=a) ar av1,rfl,fun d ch h=>Holds.cg aY (fun _ _=>rfl) (ap0 _) ch (fun _ _=>rfl) (ar.holds d ch (aq h)),fun d cZ ch ch' b h h' ba=>ar.e9 d cZ ch ch' b (aq h) (aq h') ba,fun b=>Iff.rfl⟩)
  (fun e ch V aA x hx=>by
   obtain⟨rfl,rfl⟩:=vP V aA;rw[c6] at hx;obtain⟨cZ,ch',E,G⟩:=hx;exact⟨(ar.own cZ ch' (aq E) x G).1,.inl ⟨cZ,ch',aq E,.inr (gl.2 ⟨ch',E⟩),G⟩⟩)
  (fun e b5 ch ch' x V gO aA gk ba=>absurd ((vP V aA).1.trans (vP gO gk).1.symm) ba)
 exact⟨hn,J,ρ,_,bN,av.mono aY fun _ _ _=>rfl⟩
end
inductive jU where
 |no
 |dc (top base:List UInt8) (l:List Nat) (over:Bool)
 |pl (top base:List UInt8) (over:Bool)
 |pu (nm:List UInt8) (n rm:Int) (l:List Nat) (g:List (Nat×List UInt8)) (over done:Bool)
abbrev sO (top base:List UInt8) (l:List Nat) (over:Bool):ay:=[(2001,.cells (Lr top base over)),(2002,.map ak ak (fY l))]
abbrev vg (top base:List UInt8) (over:Bool):ay:=[(2001,.cells (Gr top base over))]
abbrev nv (z:Int) (nm:List UInt8) (n rm:Int) (l:List Nat) (g:List (Nat×List UInt8)) (over done:Bool):ay:=[(2001,.cells (CY nm z n rm over done)),(2002,.map ak ak (fY l)),(2003,.map ak jy (j6 g))]
def V' (z:Int) (b:Nat):jU->bo->bh
 | .no=>DE
 | .dc top base l over=>nT b 2001 1001 (sO top base l over)
 | .pl top base over=>nT b 2001 1001 (vg top base over)
 | .pu nm n rm l g over done=>nT b 2001 1001 (nv z nm n rm l g over done)
abbrev Hy (T b:Nat):Value:=.iface T (.pointer (some ⟨b,0,none⟩))
def qJ (b:Nat):jU->Value
 | .no=>.nilIface
 | .dc .. =>Hy 61 b
 | .pl .. =>Hy 121 b
 | .pu .. =>Hy 62 b
def wH (b:Nat):jU->Option Nat
 | .dc .. =>some b
 |_=>none
def wI (b:Nat):jU->Option Nat
 | .pu .. =>some b
 |_=>none
def tL:jU->Int
 | .no=>0
 | .dc .. =>1
 | .pl .. =>2
 | .pu .. =>3
abbrev DF:=Int×Int×List (Z ak×Z ak)
structure Made where
 fZ:bM
 eK:List UInt8
 ec:Option (Nat×DF)
def amy:Option (Nat×DF)->List (Nat×bh)
 |none=>[]
 |some p=>[(p.1,ff p.2.1 p.2.2.1 p.2.2.2)]
abbrev rJ (l:List bg):bh:=.iX 1001 (ej l)
abbrev rK (Q:List bM):bh:=.iX 1001 (kw Q)
structure cj where
 z:Nat
 U:Nat
 L:List aO
 bc:List UInt8
 db:Nat
 ds:List bg
 es:e3
 M:dN
 lb:Nat
 Q:List bM
 b:Nat
 bQ:jU
 bH:Made
abbrev Hz (z:Int) (bc:List UInt8) (db lb:Nat) (kd:Int) (fz:Value) (dc pu:Option Nat) (m:Made):List bC:=[.d (.int .i64 z),.d (.str bc),.ptr 1001 0,.d (.aM (some db)),.ptr 1201 0,.d (.aM (some lb)),.d (.int .i64 kd),.bI fz,.d (.aM dc),.d (.aM pu),
 .d (.str (dH m.fZ)),.d (.str (dh m.fZ)),.d (.int .i64 (cS m.fZ)),.d (.int .i64 (ep m.fZ)),.d (.ck oc (cy m.fZ)),.d (.str m.eK),.d (.aM (m.ec.map (·.1)))]
abbrev amz (w:cj):List bC:=Hz w.z w.bc w.db w.lb (tL w.bQ) (qJ w.b w.bQ) (wH w.b w.bQ) (wI w.b w.bQ) w.bH
abbrev Wa (w:cj):Nat×bd:=(1401,.cells (amz w))
abbrev Wb (w:cj):Nat×bd:=(1501,.co 1001 (V' w.z w.b w.bQ))
abbrev Wc (w:cj):Nat×bd:=(1601,.aG (.bA (amy w.bH.ec)))
abbrev Np (w:cj):Nat×bd:=(1101,.aG (.bA [(w.db,rJ w.ds)]))
abbrev Wd (w:cj):Nat×bd:=(1301,.aG (.bA [(w.lb,rK w.Q)]))
def DG (z U:Int) (L:List aO):bh:=.iX 1001 (bP z U L)
def yA (es:e3) (M:dN):bh:=.iX 1201 (nr 1201 1202 1203 4096 es M)
abbrev oq (z U:Nat) (L:List aO):Nat×bd:=(1001,.aG (DG z U L))
abbrev pU (es:e3) (M:dN):Nat×bd:=(1201,.aG (yA es M))
abbrev cN (w:cj):ay:=[oq w.z w.U w.L,Np w,pU w.es w.M,Wd w,Wa w,Wb w,Wc w]
section
variable {f:FuncId} {args:List aQ} {z U:Nat} {L:List aO} {aK:ay} {bf:List Nat} {res:aQ}
theorem cv.We {X:Type} {res:X->aQ} {L':X->List aO} {aP:X->ay} (h:cv Tryz.prog f args (bP z U L++aK) bf res (fun g=>bP z U (L' g)++aP g)) (E:nO 1001 [1002,1003,1004] args (bP z U L) aK bf bf=true)
  (G: ∀g,nP 1001 (mE [1002,1003,1004] bf bf) (res g) (bP z U (L' g)) (aP g)=true):cv Tryz.prog f args (oq z U L::aK) bf res (fun g=>oq z U (L' g)::aP g):=
 cv.close (o':=fun g=>DG z U (L' g)) [1002,1003,1004] h (fun _ _ _ _ h=>h) (fun _ _ _ _ _ h=>h) E G
theorem Fn.yB {L':List aO} {aP:ay} (h:Fn Tryz.prog f args (bP z U L++aK) bf res (bP z U L'++aP)) (E:nO 1001 [1002,1003,1004] args (bP z U L) aK bf bf=true)
  (G:nP 1001 (mE [1002,1003,1004] bf bf) res (bP z U L') aP=true):Fn Tryz.prog f args (oq z U L::aK) bf res (oq z U L'::aP):=
 (cv.We (X:=Unit) (L':=fun _=>L') (aP:=fun _=>aP) (res:=fun _=>res) h.x E fun _=>G).fn
theorem Fn.ch {L':List aO} (h:Fn Tryz.prog f args (bP z U L) [] res (bP z U L')) (E:nO 1001 [1002,1003,1004] args (bP z U L) [] [] []=true:=by first |rfl |decide)
  (G:nP 1001 (mE [1002,1003,1004] [] []) res (bP z U L') []=true:=by first |rfl |decide):Fn Tryz.prog f args [oq z U L] [] res [oq z U L']:=
 Fn.yB (aK:=[]) (aP:=[]) (by rw[as5,as5];exact h) E G
end
def bh.i4 {X:Type} (o:X->bh):bh where
 R:=fun I F w p=> ∃g,(o g).R I F w p
 cg:=fun I F w I' w' p ⟨g,h⟩ V bj aR=>⟨g,(o g).cg I F w I' w' p h V bj aR⟩
theorem cv.i4 {P:Program} {f:FuncId} {args:List aQ} {aK:ay} {bf:List Nat} {res:aQ} {X:Type} {q:Nat} {o:X->bh} {aP:ay} (h:cv P f args aK bf (fun _=>res) (fun g=>(q,.aG (o g))::aP)):Fn P f args aK bf res ((q,.aG (.i4 o))::aP):=by
 refine⟨h.1,fun ρ F I w bW b4 ci a3 a4 a5 gw=>(h.2 ρ F I w bW b4 ci a3 a4 a5 gw).mono ?_⟩;rintro e w' ⟨g,x,ρ',F',aj,ap,bm,I',c0,fQ,hO,oX,Nq,Dt⟩
 have l3: ∀{c ch},ah ((q,bd.aG (.i4 o))::aP) c=some ch-> ∃ch',ah ((q,bd.aG (o g))::aP) c=some ch'/\((c=q/\ch= .aG (.i4 o)/\ch'= .aG (o g))\/ch=ch'):=fun {c ch} H=>by
  rw[ca] at H
  split at H
  .rename_i e;injection H with H
   exact⟨_,by rw[ca,if_pos e],.inl ⟨e.symm,H.symm,rfl⟩⟩
  .rename_i e;exact⟨ch,by rw[ca,if_neg e];exact H,.inr rfl⟩
 refine⟨x,ρ',F',aj,ap,bm,I',c0,fQ,fun c ch H=>?_,fun c ch H=>?_,fun c bX ch ch' b H cF ba=>?_,Dt⟩
 .obtain⟨ch',E,G⟩:=l3 H;have:=hO c ch' E;rcases G with⟨rfl,rfl,rfl⟩ |rfl
  .exact⟨g,this⟩
  .exact this
 .obtain⟨ch',E,_⟩:=l3 H;exact oX c ch' E
 .obtain⟨AJ,E,_⟩:=l3 H;obtain⟨DH,G,_⟩:=l3 cF;exact Nq c bX AJ DH b E G ba
theorem Fn.amA {P:Program} {f:FuncId} {args:List aQ} {aK:ay} {bf:List Nat} {res:aQ} {X:Type} {q:Nat} {o:X->bh} {aP:ay} (h:Fn P f args aK bf res ((q,.aG (.i4 o))::aP)):cv P f args aK bf (fun _=>res) (fun g=>(q,.aG (o g))::aP):=by
 refine⟨h.1,fun ρ F I w bW b4 ci a3 a4 a5 gw=>(h.2 ρ F I w bW b4 ci a3 a4 a5 gw).mono ?_⟩;rintro e w' ⟨x,ρ',F',aj,ap,bm,I',c0,fQ,hO,oX,Nq,Dt⟩;have aV:ah ((q,bd.aG (.i4 o))::aP) q=some (.aG (.i4 o)):=by rw[ca,if_pos rfl]
 obtain⟨g,a6⟩:(bh.i4 o).R I' (F' q) w' (ρ' q):=hO q _ aV
 have l3: ∀{c ch},ah ((q,bd.aG (o g))::aP) c=some ch->(c=q/\ch= .aG (o g))\/ah ((q,bd.aG (.i4 o))::aP) c=some ch:=fun {c ch} H=>by
  rw[ca] at H
  split at H
  .rename_i e;injection H with H;exact .inl ⟨e.symm,H.symm⟩
  .rename_i e;exact .inr (by rw[ca,if_neg e];exact H)
 have Nr: ∀{c ch},ah ((q,bd.aG (o g))::aP) c=some ch-> ∃ch',ah ((q,bd.aG (.i4 o))::aP) c=some ch':=fun {c ch} H=>by
  rcases l3 H with⟨rfl,_⟩ |h
  .exact⟨_,aV⟩
  .exact⟨_,h⟩
 refine⟨g,x,ρ',F',aj,ap,bm,I',c0,fQ,fun c ch H=>?_,fun c ch H=>?_,fun c bX ch ch' b H cF ba=>?_,Dt⟩
 .rcases l3 H with⟨rfl,rfl⟩ |h
  .exact a6
  .exact hO c ch h
 .obtain⟨ch',h'⟩:=Nr H;exact oX c ch' h'
 .obtain⟨AJ,E⟩:=Nr H;obtain⟨DH,G⟩:=Nr cF;exact Nq c bX AJ DH b E G ba
theorem af.aG {ids:List Nat} {K:a1} {B:ay} (q:Nat) {o o':bh} (aV:ah B q=some (.aG o)) (h: ∀I F w p,o.R I F w p->o'.R I F w p):af ids K B K ((q,.aG o')::B):=by
 rintro N C a w ⟨hn,J,ρ,F,ar,av⟩;obtain⟨bN,aY⟩:=ar.hN (w':=w) (ch:=.aG o') aV (cJ.refl _ _) fun I bb=>h _ _ _ _ (o.cg _ _ _ _ _ _ (ar.holds q _ aV) bb (fun _ _=>rfl) (ap0 _))
 exact⟨hn,J,ρ,F,bN,av.mono aY fun _ _ _=>rfl⟩
theorem df.i4 {ids:List Nat} {K:a1} {B:ay} (q:Nat) {X:Type} {o:X->bh} (aV:ah B q=some (.aG (.i4 o))):df ids K B (X:=X) (fun _=>K) (fun g=>(q,.aG (o g))::B):=by
 rintro N C a w ⟨hn,J,ρ,F,ar,av⟩;obtain⟨g,a6⟩:(bh.i4 o).R (bZ C B F w) (F q) w (ρ q):=ar.holds q _ aV;obtain⟨bN,aY⟩:=ar.hN (w':=w) (ch:=.aG (o g)) aV (cJ.refl _ _) fun I bb=>(o g).cg _ _ _ _ _ _ a6 bb (fun _ _=>rfl) (ap0 _)
 exact⟨g,hn,J,ρ,F,bN,av.mono aY fun _ _ _=>rfl⟩
end
end Go.Proofs.YthnboghbhgapcaaGreat
