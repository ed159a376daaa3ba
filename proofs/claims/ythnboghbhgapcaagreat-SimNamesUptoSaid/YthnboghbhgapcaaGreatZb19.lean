/-
A part of the proof of this claim: lemmas, with no condition beyond what each says.
-/
import Derived.Test.YthnboghbhgapcaaGreatZb18
set_option linter.unusedVariables false
set_option linter.unusedSimpArgs false
set_option maxRecDepth 10000
set_option maxHeartbeats 4000000
namespace Go.Proofs.YthnboghbhgapcaaGreat
open Go.RowKit Go.Proofs
section
def ml (b:ay4):ay4×Bool:=if b.length < 4 then([],false) else if rK (b.take (b.length - 4))=b then(b.take (b.length - 4),true) else([],false)
theorem alM (b:ay4) (O:b.length<=1000000):Fn Tryz.prog 214 [bS .u8 b] [] [] (.cf [.one (.d (.ck .u8 (ml b).1)),.one (.d (.bool (ml b).2))]) []:=by
 unfold ml;refine aU [] Tryz.func214 ?_;refine⟨fun c=>?_,fun c=>?_⟩
 .have c:(b.length:Int) < 4:=gd c;rw[if_pos (show b.length < 4 by omega)];exact bg
 have c: ¬(b.length:Int) < 4:=mu c;rw[if_neg (show¬b.length < 4 by omega)];have q: -9223372036854775808<=(b.length:Int) - 4/\(b.length:Int) - 4<=9223372036854775807:=av3
 have cA:0<=(b.length:Int) - 4/\(b.length:Int) - 4<=(b.length:Nat):=av3
 have e:((b.length:Int) - 4).toNat=b.length - 4:=av3
 have al:(b.take (b.length - 4)).length<=1000000:=aw5
 have ax:(rK (b.take (b.length - 4))).length<=4294967296:=by
  unfold rK;rw[ap1,qx];omega
 have bl:List.drop 0 (List.take ((b.length:Int) - 4).toNat b)=b.take (b.length - 4):=by rw[e,List.drop_zero]
 refine⟨q,cA,ar (Fn.arg (VC (b.take (b.length - 4)) al) ⟨bl,trivial⟩) <| ar (Vh (rK (b.take (b.length - 4))) b ax au5) ⟨fun d=>?_,fun d=>?_⟩⟩
 .have d: ¬rK (b.take (b.length - 4))=b:=by simpa using d
  rw[if_neg d];exact bg
 .have d:rK (b.take (b.length - 4))=b:=by simpa using d
  rw[if_pos d];exact⟨q,cA,ar (Fn.arg (K6 (b.take (b.length - 4)) au5) ⟨bl,trivial⟩) bg⟩
theorem AK {m:bY} {L:dN} {b:Nat} (cY:hN L b=some m):Fn Tryz.prog 216 [dn b] [(1003,.aG (.bA (eQ L)))] [] (ac m.n) [(1003,.aG (.bA (eQ L)))]:=by
 have:=AE (akO m) cY rfl rfl
 rwa[HA cY] at this
theorem VK {m:bY} {L:dN} {b:Nat} (cY:hN L b=some m) (h:e2 m) (at_ aZ:Int) (av:0<=aZ) (aH:m.kz at_ aZ=true):Fn Tryz.prog 213 [dn b,ac at_,ac aZ] [(1003,.aG (.bA (eQ L)))] [] (.cf [.one (.d (.ck .u8 (pg m.bF at_ aZ.toNat))),dw 0]) [(1003,.aG (.bA (eQ L)))]:=by
 have:=AE (alj m at_ aZ av aH h.ky h.cI h.bF.wf) cY rfl rfl
 rwa[HA cY] at this
def mm (m:bY) (k:Int):ay4:=pg m.bF k 1
def iw (x:ay4):Nat×Nat×Nat:=((fA 4 (x,0)).2,(fA 4 (fA 4 (x,0)).1).2,(fA 4 (fA 4 (fA 4 (x,0)).1).1).2)
def nu (m:bY) (k:Int):ay4:=pg m.bF (2+k*dq m.n) (dq m.n).toNat
def mX (m:bY) (k:Int):ay4×Int:=match(ml (mm m k)).2 with
 |false=>([],0)
 |true=>match decide (((iw (ml (mm m k)).1).1:Int) < 1)||decide ((1073741824:Int) < ((iw (ml (mm m k)).1).1:Int))||decide (dq m.n*16 < ((iw (ml (mm m k)).1).2.1:Int)) with
  |true=>([],0)
  |false=>match decide (jh ((nu m k).take (iw (ml (mm m k)).1).2.1)=((iw (ml (mm m k)).1).2.2:Int)) with
   |false=>([],0)
   |true=>((nu m k).take (iw (ml (mm m k)).1).2.1,((iw (ml (mm m k)).1).1:Int))
theorem Dz {n:Int} (G:2<=n) (E:n<=4096):0<=dq n/\2+dq n+dq n<=n:=by unfold dq;omega
theorem alN {m:bY} (ah:e2 m) (G:2<=m.n) (k:Int):(nu m k).length=16*(dq m.n).toNat:=Hq ah.bF.wf _ _
theorem alO {m:bY} (ah:e2 m) (G:2<=m.n) (k:Int) (ab:k=0\/k=1) {s:Nat} {M:dN} (aq:hN M s=some m):Fn Tryz.prog 196 [dn s,ac k] [(1003,.aG (.bA (eQ M)))] [] (.cf [.one (.d (.ck .u8 (mX m k).1)),.one (.d (.int .i64 (mX m k).2))]) [(1003,.aG (.bA (eQ M)))]:=by
 have jY:=ah.cI;have dX:m.kz k 1=true:=by simp only[bY.kz,vj,ar5];omega
 obtain⟨a0,b4⟩:=Dz G jY;unfold mX;refine aU [] Tryz.func196 ?_;refine ar (VK aq ah k 1 au6 dX) ?_
 have bk:(mm m k).length<=1000000:=by
  have:=Hq ah.bF.wf k 1;unfold mm;omega
 refine ar (alM (mm m k) bk) <| df ?_
 cases vQ:(ml (mm m k)).2 with
 |false=>
  exact e5 bg
 |true=>
  refine df ?_
  have hx:(ml (mm m k)).1.length<=4294967296:=by
   unfold ml
   split
   .simp
   .split
    .show((mm m k).take _).length<=_;rw[ap8];omega
    .simp
  generalize(ml (mm m k)).1=x at hx⊢;refine ar (G' x hx) ?_;refine ar (o9 (x,0) 4 (by unfold W;omega)) ?_;refine ar (o9 (fA 4 (x,0)).1 4 (by unfold W;omega)) ?_;refine ar (o9 (fA 4 (fA 4 (x,0)).1).1 4 (by unfold W;omega)) ⟨fun cC=>?_,fun cC=>?_⟩
  .have cC:decide (((iw x).1:Int) < 1)=true:=cC;rw[cC];exact bg
  have cC:decide (((iw x).1:Int) < 1)=false:=cC;rw[cC];refine⟨fun cG=>?_,fun cG=>?_⟩
  .have cG:decide ((1073741824:Int) < ((iw x).1:Int))=true:=cG;rw[cG];exact bg
  have cG:decide ((1073741824:Int) < ((iw x).1:Int))=false:=cG;rw[cG];refine ar (AK aq) <| ar (Na m.n ah.ky ah.cI) ⟨fun hF=>?_,fun hF=>?_⟩
  .have hF:decide (dq m.n*16 < ((iw x).2.1:Int))=true:=hF;rw[hF];exact bg
  have hF:decide (dq m.n*16 < ((iw x).2.1:Int))=false:=hF;rw[hF];have b6:=alN ah G k
  have mK:(iw x).2.1<=(nu m k).length:=by
   have:=mu hF;omega
  refine ar (AK aq) <| ar (Hz m.n ah.ky ah.cI) ?_;have cx: -9223372036854775808<=k*dq m.n/\k*dq m.n<=9223372036854775807:=by rcases ab with rfl |rfl <;>omega
  have cA: -9223372036854775808<=2+k*dq m.n/\2+k*dq m.n<=9223372036854775807:=by rcases ab with rfl |rfl <;>omega
  have pP:m.kz (2+k*dq m.n) (dq m.n)=true:=by
   simp only[bY.kz,vj,ar5];rcases ab with rfl |rfl <;>omega
  refine⟨cx,cA,ar (AK aq) <| ar (Hz m.n ah.ky ah.cI) <| ar (VK aq ah (2+k*dq m.n) (dq m.n) a0 pP) ?_⟩;have dy:0<=((iw x).2.1:Int)/\((iw x).2.1:Int)<=((nu m k).length:Nat):=av3
  refine⟨dy,?_⟩;have c2:([List.drop 0 (List.take (((iw x).2.1:Nat):Int).toNat (nu m k))]:List ay4)=[(nu m k).take (iw x).2.1]:=rfl;refine ar (Fn.arg (MV [(nu m k).take (iw x).2.1] au7 (fun y aB=>by rw[aq2] at aB;rw[aB,ap8];omega)) ⟨c2,trivial⟩) ?_;have fS:([(nu m k).take (iw x).2.1]:List ay4).flatten=(nu m k).take (iw x).2.1:=by simp
  rw[fS];refine⟨fun tE=>?_,fun tE=>?_⟩
  .have tE:(!decide (jh ((nu m k).take (iw x).2.1)=((iw x).2.2:Int)))=true:=tE;have CG:decide (jh ((nu m k).take (iw x).2.1)=((iw x).2.2:Int))=false:=by simpa using tE
   rw[CG];exact bg
  .have tE:(!decide (jh ((nu m k).take (iw x).2.1)=((iw x).2.2:Int)))=false:=tE;have CG:decide (jh ((nu m k).take (iw x).2.1)=((iw x).2.2:Int))=true:=by simpa using tE
   rw[CG];refine⟨_,_,fun N=>ab6 eX rfl rfl rfl rfl rfl rfl dy.1 dy.2 N,rfl,?_⟩;exact bg
def gw (m:bY):Nat->Int×ay4×Int
 |0=>(-1,[],0)
 |j+1=>if(gw m j).2.2 < (mX m (j:Nat)).2 then((j:Nat),(mX m (j:Nat)).1,(mX m (j:Nat)).2) else gw m j
abbrev alP (m:bY) (s j:Nat):aY:=[(0,dn s),(5,ac (gw m j).1),(6,ac (gw m j).2.2),(7,bS .u8 (gw m j).2.1),(11,ac (j:Nat))]
theorem Nd {m:bY} (ah:e2 m) (G:2<=m.n) {s:Nat} {M:dN} (aq:hN M s=some m):Fn Tryz.prog 169 [dn s] [(1003,.aG (.bA (eQ M)))] [] (.cf [.one (.d (.int .i64 (gw m 2).1)),.one (.d (.ck .u8 (gw m 2).2.1)),.one (.d (.int .i64 (gw m 2).2.2))]) [(1003,.aG (.bA (eQ M)))]:=by
 refine aU [] Tryz.func169 ?_;refine dQ [] (X:=Nat) (alP m s) (fun _=>[(1003,.aG (.bA (eQ M)))]) (fun j=>j<=2) (fun j=>2 - j) 0 au6 ?_ ?_
 .exact ae.sub aA aA
 intro j Z;refine⟨fun h=>?_,fun h=>?_⟩
 .have h:(j:Int) < 2:=gd h;refine ar (alO ah G (j:Nat) au5 aq) ⟨fun c=>?_,fun c=>?_⟩
  .have c:(gw m j).2.2 < (mX m (j:Nat)).2:=gd c;have e:gw m (j+1)=(((j:Nat):Int),(mX m (j:Nat)).1,(mX m (j:Nat)).2):=if_pos c;refine⟨au5,j+1,au5,au5,ae.sub ⟨rfl,?_,?_,?_,rfl,trivial⟩ aA⟩
   .rw[e];rfl
   .rw[e];rfl
   .rw[e];rfl
  .have c: ¬(gw m j).2.2 < (mX m (j:Nat)).2:=mu c;have e:gw m (j+1)=gw m j:=if_neg c;refine⟨au5,j+1,au5,au5,ae.sub ⟨rfl,?_,?_,?_,rfl,trivial⟩ aA⟩
   .rw[e];rfl
   .rw[e];rfl
   .rw[e];rfl
 .have h: ¬(j:Int) < 2:=mu h;have fj:j=2:=av3
  subst fj;exact bg
end
section
abbrev i3:=Option (Int×ay4)
inductive yC (L:List (Nat×bf)) (bD:Nat):aa .fn->i3->Prop
 |f:yC L bD (qD bD) none
 |w {a b:Nat} {at_:Int} {x:ay4}:eg L a=some (hg (.int .i64 at_))->eg L b=some (hg (.ck .u8 x))->yC L bD (oo bD a b) (some (at_,x))
def pV (L:List (Nat×bf)) (bD:Nat):List (aa .fn)->List i3->Prop
 | [],[]=>True
 |f::l,t::m=>yC L bD f t/\pV L bD l m
 |_,_=>False
theorem VL {a:Nat} {o:bf}: ∀{L:List (Nat×bf)},eg L a=some o->a∈L.map (·.1)
 | [],h=>by cases h
 |(b,q)::L,h=>by
  unfold eg at h
  split at h
  .rename_i e;rw[aq4];exact ap3.2 (.inl e.symm)
  .rw[aq4];exact ap2 _ (VL h)
theorem DA {a b:Nat} {o q:bf} {L:List (Nat×bf)} (h:eg L a=some o) (hn:b∉L.map (·.1)):eg ((b,q)::L) a=some o:=by
 have a2: ¬b=a:=fun e=>hn (e▸VL h)
 unfold eg;rw[if_neg a2];exact h
theorem yC.qj {L:List (Nat×bf)} {bD b:Nat} {q:bf} (hn:b∉L.map (·.1)) {f:aa .fn} {t:i3} (h:yC L bD f t):yC ((b,q)::L) bD f t:=by
 cases h with
 |f=>exact .f
 |w E G=>exact .w (DA E hn) (DA G hn)
theorem pV.qj {L:List (Nat×bf)} {bD b:Nat} {q:bf} (hn:b∉L.map (·.1)): ∀{l:List (aa .fn)} {m:List i3},pV L bD l m->pV ((b,q)::L) bD l m
 | [],[],_=>trivial
 |f::l,t::m,h=>⟨h.1.qj hn,pV.qj hn h.2⟩
 | [],_::_,h=>h.elim
 |_::_,[],h=>h.elim
theorem pV.qP {L:List (Nat×bf)} {bD:Nat} {f:aa .fn} {t:i3} (G:yC L bD f t): ∀{l:List (aa .fn)} {m:List i3},pV L bD l m->pV L bD (l++[f]) (m++[t])
 | [],[],_=>⟨G,trivial⟩
 |f::l,t::m,h=>⟨h.1,pV.qP G h.2⟩
 | [],_::_,h=>h.elim
 |_::_,[],h=>h.elim
theorem pV.len {L:List (Nat×bf)} {bD:Nat}: ∀{l:List (aa .fn)} {m:List i3},pV L bD l m->l.length=m.length
 | [],[],_=>rfl
 |f::l,t::m,h=>by rw[as5,as5,pV.len h.2]
 | [],_::_,h=>h.elim
 |_::_,[],h=>h.elim
theorem yD (x:D):(hg x).oS:=fun I F w p h=>(h.1 _).2 rfl
structure qG (L:List (Nat×bf)) (bD s:Nat) (eL:List (aa .fn)) (gg:List i3):Prop where
 an: ∀p∈L,p.2.oS
 af:eg L bD=some (hg (.aL (some s)))
 aF:pV L bD eL gg
theorem qG.write {L:List (Nat×bf)} {bD s a b:Nat} {eL:List (aa .fn)} {gg:List i3} {at_:Int} {x:ay4} (h:qG L bD s eL gg) (hn:(((b,hg (.ck .u8 x))::(a,hg (.int .i64 at_))::L).map (·.1)).Nodup):
  qG ((b,hg (.ck .u8 x))::(a,hg (.int .i64 at_))::L) bD s (eL++[oo bD a b]) (gg++[some (at_,x)]):=by
 rw[aq4,aq7,aq4,aq7] at hn;obtain⟨cI,dF,ld⟩:=hn;rw[ap3,not_or] at cI
 have O:b∉((a,hg (.int .i64 at_))::L).map (·.1):=by
  rw[aq4,ap3,not_or];exact cI
 refine⟨fun p af=>?_,DA (DA h.af dF) O,pV.qP (.w (DA ?_ O) ?_) ((h.aF.qj dF).qj O)⟩
 .rcases ap3.1 af with rfl |af
  .exact yD _
  .rcases ap3.1 af with rfl |af
   .exact yD _
   .exact h.an p af
 .unfold eg;rw[if_pos rfl]
 .unfold eg;rw[if_pos rfl]
theorem qG.ol {L:List (Nat×bf)} {bD s:Nat} {eL:List (aa .fn)} {gg:List i3} (h:qG L bD s eL gg):qG L bD s (eL++[qD bD]) (gg++[none]):=⟨h.an,h.af,h.aF.qP .f⟩
abbrev tN (e:Int) (eL:List (aa .fn)) (L:List (Nat×bf)):aw:=[(1001,.cells [.d (.ck .fn eL),.d (.int .i64 e)]),(1005,.aG (.bA L))]
def rL (s:Nat) (gg:List i3) (e:Int):bf where
 R:=fun I F w p=> ∃(bD:Nat) (eL:List (aa .fn)) (L:List (Nat×bf)),qG L bD s eL gg/\iD 1001 (tN e eL L) I F w p
 cj:=fun I F w I' w' p ⟨bD,eL,L,ab,h⟩ V bh aR=>⟨bD,eL,L,ab,(bf.iX 1001 (tN e eL L)).cj I F w I' w' p h V bh aR⟩
def lo (b:ay4) (j:Nat):ay4:=laid (List.replicate 16 0) 0 16 (b.drop (16*j))
def kX (b:ay4) (k kA:Int):Nat->List i3
 |0=>[]
 |j+1=>kX b k kA j++[some (2+k*kA+(j:Nat),lo b j)]
theorem yE (b:ay4) (k kA:Int): ∀j,(kX b k kA j).length=j
 |0=>rfl
 |j+1=>by rw[kX,ap1,yE];rfl
def g' (b:ay4):Nat:=(b.length+15)/16
def pW (b:ay4) (n:Int):ay4:=rK (eF 4 [(n+1).toNat,b.length,(jh b).toNat])
def sQ (b:ay4) (k kA n:Int):List i3:=kX b k kA (g' b)++[none]++[some (k,pW b n)]++[none]
abbrev VM (b:ay4) (bD:Nat) (n k:Int) (j:Nat):aY:=[(1,bS .u8 b),(2,dn bD),(8,ac n),(9,ac k),(10,ap 10),(11,.c (.one (.cU 220 [.d (.aL (some bD))]))),(12,.c (.one (.cU 222 [.p 10 0,.d (.aL (some bD))]))),(13,ac (16*(j:Nat)))]
abbrev VN (M:dN) (d:Nat) (eL:List (aa .fn)) (L:List (Nat×bf)):aw:=[(10,.cells [.ptr 37 0]),(37,.cells [.own d,.d (.int .i64 0)]),(d,.row 113 .fn eL),(1005,.aG (.bA L)),(1003,.aG (.bA (eQ M)))]
theorem alQ {m:bY} (ah:e2 m) (G:2<=m.n) {s:Nat} {M:dN} (aq:hN M s=some m) (b:ay4) (O:(b.length:Int)<=dq m.n*16) (HB:(gw m 2).2.2 < 1073741824) (HC:0<=(gw m 2).2.2) (iT: -1<=(gw m 2).1/\(gw m 2).1<=1):
  Fn Tryz.prog 198 [dn s,bS .u8 b] [(1003,.aG (.bA (eQ M)))] [2001] (.cf [.one (.ptr 2001 0),dw 0]) [(1003,.aG (.bA (eQ M))),(2001,.aG (rL s (sQ b (((gw m 2).1+1) % 2) (dq m.n) (gw m 2).2.2) 0))]:=by
 obtain⟨a0,b4⟩:=Dz G ah.cI;have jY:=ah.cI;have hd:b.length<=1000000:=av3
 refine aU [8,18,20] Tryz.func198 ?_;refine⟨rfl,ar (Nd ah G aq) ?_⟩;generalize gw m 2=bc at HB HC iT⊢;obtain⟨wJ,apA,n⟩:=bc;simp only at HB HC iT⊢;refine ar (AK aq) <| ar (Na m.n ah.ky ah.cI) ⟨fun c=>?_,fun _=>?_⟩
 .have c:dq m.n*16 < (b.length:Int):=gd c;omega
 refine⟨fun c=>absurd (gd c) au5,fun _=>?_⟩;have cx: -9223372036854775808<=wJ+1/\wJ+1<=9223372036854775807:=av3
 have cA:0<=wJ+1/\(0:Int) < 2:=av3
 have dy: -9223372036854775808<=(wJ+1) % 2/\(wJ+1) % 2<=9223372036854775807:=av3
 refine⟨cx,cA,dy,?_⟩;have ab:(wJ+1) % 2=0\/(wJ+1) % 2=1:=av3
 generalize(wJ+1) % 2=k at ab⊢;refine⟨rfl,rfl,bt.le (ae.q' 1005 rfl) <| bt.le (ae.vO 37 0 3006 113 .fn rfl rfl rfl) <| bt.eY (de.box 2 2 1005 rfl rfl au6 rfl) fun bD=>bz [] (bp) ?_⟩;refine dQ [12,15] (X:=Nat×List (aa .fn)×List (Nat×bf)) (fun x=>VM b bD n k x.1) (fun x=>VN M 3006 x.2.1 x.2.2) (fun x=>x.1<=g' b/\qG x.2.2 bD s x.2.1 (kX b k (dq m.n) x.1)) (fun x=>g' b - x.1) (0,[],[(bD,hg (.aL (some s)))]) ⟨ap7 _,fun p af=>(by rw[aq2] at af;rw[af];exact yD _),by unfold eg;rw[if_pos rfl],trivial⟩ ?_ ?_
 .exact ae.sub aA aA
 rintro⟨j,eL,L⟩ ⟨Z,di⟩;have Z:j<=g' b:=Z;have di:qG L bD s eL (kX b k (dq m.n) j):=di;have b6:=di.aF.len;rw[yE] at b6;refine⟨fun H=>?_,fun H=>?_⟩
 .have H:(16*(j:Nat):Int) < (b.length:Nat):=gd H;have eI:j < g' b:=by unfold g';omega
  refine⟨⟨rfl,au6,au6⟩,rfl,?_⟩;have xC:0<=(16*(j:Nat):Int)/\(16*(j:Nat):Int)<=(b.length:Nat):=av3
  refine⟨xC,au6,bt.le (ae.dW 46 rfl) <| bt.iC eX au8 ⟨_,_,fun N=>B3 (q:=1005) rfl Tryz.underlying183 rfl rfl rfl di.af N,rfl,?_⟩⟩;refine lF ((AK aq).x) fun _=>?_
  refine lF ((Hz m.n ah.ky ah.cI).x) fun _=>?_
  have vY: -9223372036854775808<=k*dq m.n/\k*dq m.n<=9223372036854775807:=by rcases ab with rfl |rfl <;>omega
  have xD: -9223372036854775808<=2+k*dq m.n/\2+k*dq m.n<=9223372036854775807:=by rcases ab with rfl |rfl <;>omega
  have JR:0<=(16*(j:Nat):Int)/\(0:Int) < 16:=av3
  have alR: -9223372036854775808<=(16*(j:Nat):Int)/16/\(16*(j:Nat):Int)/16<=9223372036854775807:=av3
  have DB:(16*(j:Nat):Int)/16=(j:Nat):=av3
  have alS: -9223372036854775808<=2+k*dq m.n+(16*(j:Nat):Int)/16/\2+k*dq m.n+(16*(j:Nat):Int)/16<=9223372036854775807:=by rcases ab with rfl |rfl <;>omega
  refine⟨vY,xD,JR,alR,alS,lF (cu.aV [(1001,10),(1002,37),(1006,3006),(2006,4006)] (VB (2+k*dq m.n+(16*(j:Nat):Int)/16) _ bD 0 eL L au5)) fun g=>bt.eY (de.B0 1005 ?_ rfl) fun d0=>?_⟩
  .intro p af;rcases ap3.1 af with rfl |af
   .exact yD _
   .rcases ap3.1 af with rfl |af
    .exact yD _
    .exact di.an p af
  have Dw:laid (List.replicate (Int.toNat 16) 0) 0 (List.replicate (Int.toNat 16) (0:UInt8)).length (List.drop (16*(j:Nat):Int).toNat (List.take b.length b))=lo b j:=by
   unfold lo;rw[aq9,show(16*(j:Nat):Int).toNat=16*j by omega];rfl
  have alT:qG ((g.2,hg (.ck .u8 (lo b j)))::(g.1,hg (.int .i64 (2+k*dq m.n+(16*(j:Nat):Int)/16)))::L) bD s (eL++[oo bD g.1 g.2]) (kX b k (dq m.n) (j+1)):=by
   have bH:=di.write (a:=g.1) (b:=g.2) (at_:=2+k*dq m.n+(16*(j:Nat):Int)/16) (x:=lo b j) (by rw[<-Dw];exact d0.down);have alU:(some (2+k*dq m.n+(16*(j:Nat):Int)/16,lo b j):i3)=some (2+k*dq m.n+(j:Nat),lo b j):=by rw[DB]
   rw[alU] at bH;exact bH
  have alV: -9223372036854775808<=(16*(j:Nat):Int)+16/\(16*(j:Nat):Int)+16<=9223372036854775807:=av3
  refine bz [] (bp) ⟨alV,?_⟩;refine⟨(j+1,eL++[oo bD g.1 g.2],(g.2,hg (.ck .u8 (lo b j)))::(g.1,hg (.int .i64 (2+k*dq m.n+(16*(j:Nat):Int)/16)))::L),⟨eI,alT⟩,by show g' b - (j+1) < g' b - j;omega,ae.trans (ae.sub (K':=VM b bD n k (j+1)) (B':=VN M 4006 (eL++[oo bD g.1 g.2]) ((g.2,hg (.ck .u8 (lo b j)))::(g.1,hg (.int .i64 (2+k*dq m.n+(16*(j:Nat):Int)/16)))::L)) ⟨rfl,rfl,rfl,rfl,rfl,rfl,rfl,?_,trivial⟩ ⟨rfl,rfl,rfl,?_,rfl,trivial⟩) (ae.aV 4006 3006 rfl)⟩
  .show(16*(j:Nat):Int)+16=16*((j+1:Nat):Int);omega
  .rw[<-Dw];rfl
 .have H: ¬(16*(j:Nat):Int) < (b.length:Nat):=mu H;have eI:j=g' b:=by unfold g' at Z⊢;omega
  subst eI;have ax:=MU b;have lv:g' b<=100000:=by unfold g';omega
  have r1: -9223372036854775808<=n+1/\n+1<=9223372036854775807:=av3
  refine⟨r1,?_⟩;refine ar (MV [b] au7 (fun y aB=>by rw[aq2] at aB;rw[aB];omega)) ?_;have ai:([b]:List ay4).flatten=b:=by simp
  rw[ai]
  have ao:([n+1,((b.length:Nat):Int),jh b]:List Int)=sI [(n+1).toNat,b.length,(jh b).toNat]:=by
   show _=[(((n+1).toNat:Nat):Int),((b.length:Nat):Int),(((jh b).toNat:Nat):Int)];rw[show(((n+1).toNat:Nat):Int)=n+1 by omega,show(((jh b).toNat:Nat):Int)=jh b by omega]
  refine⟨_,_,_,_,Fn.arg (Fn.aV [(1002,5002)] (G9 4 [(n+1).toNat,b.length,(jh b).toNat] (by unfold W;omega) (fun x hx=>by
   simp only[ap3,List.not_mem_nil,or_false] at hx;rcases hx with rfl |rfl |rfl <;>omega) au7)) ⟨rfl,rfl,ao,trivial⟩,trivial,rfl,?_⟩
  have gQ:eL.length+1<=4294967296:=av3
  refine⟨gQ,rfl,rfl,bt.le (ae.dW 5002 rfl) <| bt.iC eX au8 ?_⟩;have alW:(eF 4 [(n+1).toNat,b.length,(jh b).toNat]).length<=1000000:=by rw[np];simp
  refine lF ((VC (eF 4 [(n+1).toNat,b.length,(jh b).toNat]) alW).x) fun _=>?_
  refine lF (cu.aV [(1001,10),(1002,37),(1006,83),(2006,4006)] (VB k (pW b n) bD 0 (eL++[qD bD]) L (by rw[ap1];simp;omega))) fun g=>?_
  have he:(eL++[qD bD]++[oo bD g.1 g.2]).length+1<=4294967296:=av9
  refine⟨he,rfl,rfl,bt.eY (de.B0 1005 ?_ rfl) fun d0=>?_⟩
  .intro p af;rcases ap3.1 af with rfl |af
   .exact yD _
   .rcases ap3.1 af with rfl |af
    .exact yD _
    .exact di.an p af
  have alX:=(di.ol.write (a:=g.1) (b:=g.2) (at_:=k) (x:=pW b n) d0.down).ol;exact bz [] (ae.dW 98 rfl) ⟨_,_,_,(ae.aV 37 2001 rfl).trans (ae.close 2001 [(2001,.cells [.d (.ck .fn (eL++[qD bD]++[oo bD g.1 g.2]++[qD bD])),.d (.int .i64 0)]),(1005,.aG (.bA ((g.2,hg (.ck .u8 (pW b n)))::(g.1,hg (.int .i64 k))::L)))] (o:=rL s (sQ b k (dq m.n) n) 0) aA rfl fun I F w p h=>⟨bD,_,_,alX,iD.aV [(2001,1001)] h⟩),rfl,aA,aA,rfl⟩
end
section
theorem VO {f:FuncId} {args:List aP} {s:Nat} {gg Nf:List i3} {e b5:Int} {aJ aO:aw} {res:aP} (H:jl Tryz.prog f=true)
  (h: ∀(bD:Nat) (eL:List (aa .fn)) (L:List (Nat×bf)),qG L bD s eL gg-> ∃(AL:List (aa .fn)),qG L bD s AL Nf/\Fn Tryz.prog f args (tN e eL L++aJ) [] res (tN b5 AL L++aO))
  (E: ∀(eL:List (aa .fn)) (L:List (Nat×bf)),nO 1001 [1005] args (tN e eL L) aJ [] []=true) (G: ∀(eL:List (aa .fn)) (L:List (Nat×bf)),nP 1001 [1005] res (tN b5 eL L) aO=true):
  Fn Tryz.prog f args ((1001,.aG (rL s gg e))::aJ) [] res ((1001,.aG (rL s Nf b5))::aO):=by
 refine Fn.Ff (Y:={y:Nat×List (aa .fn)×List (Nat×bf)//qG y.2.2 y.1 s y.2.1 gg}) (sg:=fun y=>bf.iX 1001 (tN e y.1.2.1 y.1.2.2)) H (fun I F w p ⟨bD,eL,L,ab,a1⟩=>⟨⟨(bD,eL,L),ab⟩,a1⟩) fun⟨⟨bD,eL,L⟩,ab⟩=>?_
 obtain⟨AL,A0,hf⟩:=h bD eL L ab;exact(cu.close (bo:=tN e eL L) (dv:=fun _:Unit=>tN b5 AL L) (aO:=fun _=>aO) (o:=bf.iX 1001 (tN e eL L)) (o':=fun _=>rL s Nf b5) [1005] hf.x (fun _ _ _ _ h=>h) (fun _ I F w p a1=>⟨bD,AL,L,A0,a1⟩) (E eL L) (fun _=>G AL L)).fn
theorem alY (s:Nat) (gg:List i3) (e:Int):Fn Tryz.prog 199 [ap 1001] [(1001,.aG (rL s gg e))] [] (ac (gg.length:Nat)) [(1001,.aG (rL s gg e))]:=by
 refine VO (aJ:=[]) (aO:=[]) au8 (fun bD eL L ab=>⟨eL,ab,?_⟩) (fun _ _=>rfl) fun _ _=>rfl
 refine aU [] Tryz.func199 ?_;exact eq bp rfl (congrArg (fun n:Nat=>(n:Int)) ab.aF.len)
def vi (m:bY):i3->bY×Int
 |none=>(m.ol,0)
 |some (a,x)=>m.write a x
theorem HD {α:Type} (f:α) (l:List α):List.drop 1 (List.take (f::l).length (f::l))=l:=by rw[aq9];rfl
theorem alZ {s:Nat} {st:i3} {rest:List i3} {M:dN} {m:bY} (aq:hN M s=some m) (ah:e2 m) (al:m.eU.length<=1073741824) (hx: ∀a x,st=some (a,x)->x.length<=1073741824) (V:(vi m st).2=0):
  Fn Tryz.prog 200 [ap 1001] [(1001,.aG (rL s (st::rest) 0)),(1003,.aG (.bA (eQ M)))] [] (.cf [.one (.d (.bool (decide ((rest.length:Int)=0)))),dw 0]) [(1001,.aG (rL s rest 0)),(1003,.aG (.bA (eQ (g9 M s (vi m st).1))))]:=by
 refine VO (aJ:=[(1003,.aG (.bA (eQ M)))]) (aO:=[(1003,.aG (.bA (eQ (g9 M s (vi m st).1))))]) au8 (fun bD eL L ab=>?_) (fun _ _=>rfl) fun _ _=>rfl
 match eL,ab with
 | [],ab=>exact ab.aF.elim
 |f::l,ab=>
  refine⟨l,⟨ab.an,ab.af,ab.aF.2⟩,?_⟩;have b6:=ab.aF.2.len;have ez:=ab.aF.1
  cases ez with
  |f=>
   refine aU [] Tryz.func200 ?_;refine⟨fun c=>?_,fun _=>?_⟩
   .have c:(((qD bD::l).length:Nat):Int)=0:=gd c;simp at c;omega
   refine⟨au6,qD bD,rfl,ar (alx ab.af aq) ?_⟩;have q:0<=(1:Int)/\(1:Int)<=(((qD bD::l).length:Nat):Int):=by rw[as5];omega
   refine⟨q,df <| e5 ⟨rfl,_,_,_,bp,rfl,⟨?_,rfl,trivial⟩,⟨?_,rfl,rfl,trivial⟩,rfl⟩⟩
   .show decide (((List.drop 1 (List.take (qD bD::l).length (qD bD::l))).length:Int)=0)=_;rw[HD,b6]
   .show some (bb.cells [.d (.ck .fn (List.drop 1 (List.take (qD bD::l).length (qD bD::l)))),.d (.int .i64 0)])=_;rw[HD]
  | @w a b at_ x aX bH=>
   have V:(m.write at_ x).2=0:=V;have hw:=aly ab.af aX bH aq ah (hx at_ x rfl) al;rw[V] at hw;refine aU [] Tryz.func200 ?_;refine⟨fun c=>?_,fun _=>?_⟩
   .have c:(((oo bD a b::l).length:Nat):Int)=0:=gd c;simp at c;omega
   refine⟨au6,oo bD a b,rfl,ar hw ?_⟩;have q:0<=(1:Int)/\(1:Int)<=(((oo bD a b::l).length:Nat):Int):=by rw[as5];omega
   refine⟨q,df <| e5 ⟨rfl,_,_,_,bp,rfl,⟨?_,rfl,trivial⟩,⟨?_,rfl,rfl,trivial⟩,rfl⟩⟩
   .show decide (((List.drop 1 (List.take (oo bD a b::l).length (oo bD a b::l))).length:Int)=0)=_;rw[HD,b6]
   .show some (bb.cells [.d (.ck .fn (List.drop 1 (List.take (oo bD a b::l).length (oo bD a b::l)))),.d (.int .i64 0)])=_;rw[HD]
end
section
def sR (n:Int):i3->Prop
 |none=>True
 |some (a,x)=>0<=a/\a < n/\x.length=16
theorem al0 {n:Int} {s:hM} (h:lR n s):(s.length:Int)<=max n 0:=by
 have:=Hy n.toNat (rI s) h.fN fun k ab=>by have:=h.rg k ab;omega
 rw[show(rI s).length=s.length from aq3 _] at this;omega
theorem VP {k:Int} {x:aa gU}: ∀{s:hM},(b0 s (k:aa ak)).isSome=true->(sL s k x).length=s.length
 | [],h=>by cases h
 |p::s,h=>by
  rw[AI]
  cases e:mW k p with
  |true=>rfl
  |false=>
   have G:(b0 s (k:aa ak)).isSome=true:=by
    have h:(match mW k p with |true=>some p.2 |false=>b0 s (k:aa ak)).isSome=true:=h;rw[e] at h;exact h
   simp only[as5];rw[VP G]
theorem VQ {k:Int} {x:aa gU}: ∀{s:hM},(b0 s (k:aa ak)).isSome=false->(sL s k x).length=s.length+1
 | [],_=>rfl
 |p::s,h=>by
  rw[AI];have h:(match mW k p with |true=>some p.2 |false=>b0 s (k:aa ak)).isSome=false:=h
  cases e:mW k p with
  |true=>rw[e] at h;cases h
  |false=>
   rw[e] at h;simp only[as5];rw[VQ h]
theorem VR {m:bY} (ah:e2 m) (aF:m.n<=m.U) {a:Int} {x:ay4} (h:sR m.n (some (a,x))):m.write a x=(m.Ht a x,0):=by
 obtain⟨E,G,aj⟩:=h;have ai:vd x=false:=by unfold vd;rw[aj];rfl
 have ao:m.kz a (x.length/16:Nat)=true:=by
  rw[aj];simp only[bY.kz,vj,ar5];omega
 have ab:(lR m.n (yv a x m.bF 1)):=M8 E ah.bF 1 au5 au5
 have b6:((yv a x m.bF 1).length:Nat)=m.bF.length+lQ m.bF a 1:=by
  show(sL m.bF (a+(0:Nat)) (sK x 0)).length=m.bF.length+(match(b0 m.bF (a+(0:Nat):Int)).isSome with |true=>0 |false=>0+1)
  cases e:(b0 m.bF (a+(0:Nat):Int)).isSome with
  |true=>exact VP e
  |false=>exact VQ e
 have bl:m.rJ a (x.length/16)=false:=by
  rw[aj];unfold bY.rJ;rw[Bool.and_eq_false_iff];left;refine ar8 fun bw=>?_
  have bH:=al0 ab;have:=ah.ky;have bw:m.U < ((m.bF.length+lQ m.bF a 1:Nat):Int):=bw;rw[<-b6] at bw;omega
 unfold bY.write;rw[ai];simp only;rw[ao];simp only;rw[bl]
def nv (m:bY) (l:List i3):bY:=l.foldl (fun m st=>(vi m st).1) m
theorem AM (m:bY) (l:List i3) (st:i3):nv m (l++[st])=(vi (nv m l) st).1:=by
 unfold nv;rw[at9];rfl
structure Ng (m gp:bY) (i:Nat):Prop where
 ok:e2 gp
 n:gp.n=m.n
 U:gp.U=m.U
 hm:gp.eU.length<=m.eU.length+i
theorem VS {m:bY} (ah:e2 m) (aF:m.n<=m.U) {st:i3} (h:sR m.n st):(vi m st).2=0/\Ng m (vi m st).1 1:=by
 match st,h with
 |none,_=>exact⟨rfl,ah.ol,rfl,rfl,ap7 _⟩
 |some (a,x),h=>
  have e:=VR ah aF h;have hw:=ah.write a x;show(m.write a x).2=0/\Ng m (m.write a x).1 1;rw[e] at hw⊢;refine⟨rfl,hw,rfl,rfl,?_⟩;show(wI a x m.eU (x.length/16)).length<=_;rw[M0,h.2.2];exact ap0 _
theorem DC {m:bY} (ah:e2 m) (aF:m.n<=m.U): ∀(i:Nat) (l:List i3),(∀st∈l,sR m.n st)->i<=l.length->Ng m (nv m (l.take i)) i
 |0,l,_,_=>⟨ah,rfl,rfl,ap0 _⟩
 |i+1,l,h,aH=>by
  have br:=DC ah aF i l h au5;rw[as1 aH,AM];have G:=(VS br.ok (by rw[br.n,br.U];exact aF) (st:=l[i]) (by rw[br.n];exact h _ (ar3 aH))).2;exact⟨G.ok,G.n.trans br.n,G.U.trans br.U,by have:=G.hm;have:=br.hm;omega⟩
theorem VT {a:Nat} {m1 m2:bY}: ∀L:dN,g9 (g9 L a m1) a m2=g9 L a m2
 | []=>rfl
 |p::L=>by
  show g9 (if p.1=a then(p.1,m1)::L else p::g9 L a m1) a m2=if p.1=a then(p.1,m2)::L else p::g9 L a m2
  by_cases e:p.1=a
  .rw[if_pos e,if_pos e];show(if p.1=a then(p.1,m2)::L else _)=_;rw[if_pos e]
  .rw[if_neg e,if_neg e];show(if p.1=a then _ else p::g9 (g9 L a m1) a m2)=_;rw[if_neg e,VT]
theorem VU {a:Nat} {m gp:bY}: ∀{L:dN},hN L a=some m->hN (g9 L a gp) a=some gp
 | [],h=>by cases h
 |p::L,h=>by
  rw[tM] at h;show hN (if p.1=a then(p.1,gp)::L else p::g9 L a gp) a=_
  by_cases e:p.1=a
  .rw[if_pos e,tM,if_pos e]
  .rw[if_neg e] at h⊢;rw[tM,if_neg e];exact VU h
theorem al1 (b:ay4) (j:Nat):(lo b j).length=16:=by
 unfold lo laid;simp only[ap1,ap8,at1,as4];omega
theorem Nh (b:ay4) (n:Int):(pW b n).length=16:=by
 unfold pW rK;rw[ap1,qx,np];rfl
theorem VV {b:ay4} {k kA:Int} {st:i3}: ∀{j:Nat},st∈kX b k kA j-> ∃i:Nat,i < j/\st=some (2+k*kA+(i:Nat),lo b i)
 |0,h=>by cases h
 |j+1,h=>by
  rw[kX,aq8,aq2] at h;rcases h with h |h
  .obtain⟨i,E,G⟩:=VV h;exact⟨i,au5,G⟩
  .exact⟨j,au5,h⟩
theorem VW {m:bY} (ah:e2 m) (G:2<=m.n) {b:ay4} (O:(b.length:Int)<=dq m.n*16) {k:Int} (ab:k=0\/k=1) (n:Int): ∀st∈sQ b k (dq m.n) n,sR m.n st:=by
 obtain⟨a0,b4⟩:=Dz G ah.cI;intro st ez;unfold sQ at ez;simp only[aq8,aq2] at ez;rcases ez with((h |h) |h) |h
 .obtain⟨i,E,rfl⟩:=VV h;have:(i:Int) < dq m.n:=by unfold g' at E;omega
  refine⟨?_,?_,al1 b i⟩
  .rcases ab with rfl |rfl <;>omega
  .rcases ab with rfl |rfl <;>omega
 .rw[h];trivial
 .rw[h];exact⟨au5,au5,Nh b n⟩
 .rw[h];trivial
theorem al2 (b:ay4) (k kA n:Int):(sQ b k kA n).length=g' b+3:=by
 unfold sQ;simp[yE]
abbrev al3 (N i:Nat):aY:=[(5,ap 3001),(6,ac 0),(17,ac (N:Nat)),(18,ac (i:Nat))]
abbrev al4 (s:Nat) (gg:List i3) (M:dN):aw:=[(3001,.aG (rL s gg 0)),(1003,.aG (.bA (eQ M)))]
theorem al5 {m:bY} (ah:e2 m) (aF:m.n<=m.U) {s:Nat} {M:dN} (aq:hN M s=some m) {gg:List i3} (ax: ∀st∈gg,sR m.n st) (al:m.eU.length+gg.length<=1000000) {i:Nat} (aH:i < gg.length):
  Fn Tryz.prog 200 [ap 1001] [(1001,.aG (rL s (gg.drop i) 0)),(1003,.aG (.bA (eQ (g9 M s (nv m (gg.take i))))))] [] (.cf [.one (.d (.bool (decide (((gg.drop (i+1)).length:Int)=0)))),dw 0])
   [(1001,.aG (rL s (gg.drop (i+1)) 0)),(1003,.aG (.bA (eQ (g9 M s (nv m (gg.take (i+1)))))))]:=by
 have E:=DC ah aF i gg ax au5;have ez:=ax _ (ar3 aH)
 have G:=alZ (s:=s) (st:=gg[i]) (rest:=gg.drop (i+1)) (M:=g9 M s (nv m (gg.take i))) (VU aq) E.ok (by have:=E.hm;omega) (fun a x e=>by
  rw[e] at ez;have:=ez.2.2;omega) (VS E.ok (by rw[E.n,E.U];exact aF) (by rw[E.n];exact ez)).1
 rw[VT,<-AM,<-as1 aH,<-List.drop_eq_getElem_cons aH] at G;exact G
theorem al6 {m:bY} (ah:e2 m) (G:2<=m.n) (aF:m.n<=m.U) (al:m.eU.length<=10000) {s:Nat} {M:dN} (aq:hN M s=some m) (b:ay4) (O:(b.length:Int)<=dq m.n*16) (HB:(gw m 2).2.2 < 1073741824) (HC:0<=(gw m 2).2.2) (iT: -1<=(gw m 2).1/\(gw m 2).1<=1):
  Fn Tryz.prog 172 [dn s,bS .u8 b] [(1003,.aG (.bA (eQ M)))] [] (ac 0) [(1003,.aG (.bA (eQ (g9 M s (nv m (sQ b (((gw m 2).1+1) % 2) (dq m.n) (gw m 2).2.2))))))]:=by
 have y9:=alQ ah G aq b O HB HC iT;have bu:=VW ah G O (k:=((gw m 2).1+1) % 2) au5 (gw m 2).2.2;have hp:=al2 b (((gw m 2).1+1) % 2) (dq m.n) (gw m 2).2.2;obtain⟨a0,b4⟩:=Dz G ah.cI;have jY:=ah.cI;have lv:g' b<=100000:=by unfold g';omega
 generalize sQ b (((gw m 2).1+1) % 2) (dq m.n) (gw m 2).2.2=gg at y9 bu hp⊢;refine aU [] Tryz.func172 ?_;refine ar (Fn.aV [(2001,3001)] y9) <| df <| ar (Fn.aV [(1001,3001)] (alY s gg 0)) <| dQ [] (X:=Nat) (fun i=>al3 gg.length i) (fun i=>al4 s (gg.drop i) (g9 M s (nv m (gg.take i)))) (fun i=>i<=gg.length) (fun i=>gg.length - i) 0 (ap7 _) ?_ ?_
 .refine ae.sub aA ⟨rfl,?_,trivial⟩;show _=some (bb.aG (.bA (eQ (g9 M s m))));rw[HA aq];rfl
 intro i aH;refine⟨fun h=>?_,fun h=>?_⟩
 .have h:decide ((i:Int) < (gg.length:Nat))=true:=h;have dX:i < gg.length:=av4
  exact ar (Fn.aV [(1001,3001)] (al5 ah aF aq bu au5 dX)) ⟨au5,i+1,au5,au5,ae.sub aA aA⟩
 .have h:decide ((i:Int) < (gg.length:Nat))=false:=h;have dX:i=gg.length:=ax5
  subst dX;rw[aq9];exact bg
end
section
def Ni (x:aa gU):ay4:=x
def wK:ay4:=List.replicate 16 0
theorem al7 (a:Int):iK [] a=wK:=rfl
theorem DD (p:aa ak×aa gU) (s:hM) (a:Int):iK (p::s) a=match mW a p with |true=>Ni p.2 |false=>iK s a:=by
 unfold iK Dx;show(match mW a p with |true=>some p.2 |false=>b0 s (a:aa ak)).getD (cL gU)=_
 cases mW a p <;>rfl
theorem VX (k:Int) (x:aa gU) (a:Int): ∀s:hM,iK (sL s k x) a=if k=a then Ni x else iK s a
 | []=>by
  rw[Hx,DD,al7]
  by_cases h:k=a
  .rw[if_pos h,show mW a (yx k x)=true from sM.2 h.symm];rfl
  .rw[if_neg h,show mW a (yx k x)=false from at4.2 fun e=>h (sM.1 e).symm]
 |p::s=>by
  rw[AI]
  cases e:mW k p with
  |true=>
   have e:=sM.1 e;simp only;rw[DD,DD]
   by_cases h:k=a
   .rw[if_pos h,show mW a (yx k x)=true from sM.2 h.symm];rfl
   .rw[if_neg h,show mW a (yx k x)=false from at4.2 fun ao=>h (sM.1 ao).symm,show mW a p=false from at4.2 fun ao=>h (e.trans (sM.1 ao).symm)]
  |false=>
   have e: ¬k=Dy p:=fun h=>by rw[sM.2 h] at e;cases e
   simp only;rw[DD,DD,VX k x a s]
   by_cases h:k=a
   .simp only[if_pos h,show mW a p=false from at4.2 fun ao=>e (h.trans (sM.1 ao))]
   .simp only[if_neg h]
theorem al8 (m:bY) {a:Int} {x:ay4} (hx:x.length=16) (i:Int):iK (m.Ht a x).bF i=if a=i then x else iK m.bF i:=by
 show iK (yv a x m.bF (x.length/16)) i=_;rw[hx];show iK (sL m.bF (a+(0:Nat)) (sK x 0)) i=_;rw[VX,show a+((0:Nat):Int)=a by omega]
 have e:Ni (sK x 0)=x:=by
  show Hr x 0=x;rw[alk];show(x.drop 0).take 16=x;rw[List.drop_zero,<-hx,aq9]
 rw[e]
theorem VY {m:bY} (ah:e2 m) (aF:m.n<=m.U) {a:Int} {x:ay4} (h:sR m.n (some (a,x))) (i:Int):iK (vi m (some (a,x))).1.bF i=if a=i then x else iK m.bF i:=by
 show iK (m.write a x).1.bF i=_;rw[VR ah aF h];exact al8 m h.2.2 i
theorem Nj {m:bY} (ah:e2 m) (aF:m.n<=m.U) {b:ay4} {k kA:Int} (i:Int): ∀j:Nat,(∀st∈kX b k kA j,sR m.n st)->
  iK (nv m (kX b k kA j)).bF i=if 2+k*kA<=i/\i < 2+k*kA+(j:Nat) then lo b (i - (2+k*kA)).toNat else iK m.bF i
 |0,_=>by
  show iK m.bF i=_;rw[if_neg au5]
 |j+1,h=>by
  have E: ∀st∈kX b k kA j,sR m.n st:=fun st ax=>h st (aq8.2 (.inl ax))
  have G:sR m.n (some (2+k*kA+(j:Nat),lo b j)):=h _ (aq8.2 (.inr (aq2.2 rfl)));have br:=Nj ah aF i j E;have ab:=DC ah aF j (kX b k kA j) E (by rw[yE];exact ap0 _);rw[List.take_of_length_le (by rw[yE];exact ap0 _)] at ab;rw[kX,AM,VY ab.ok (by rw[ab.n,ab.U];exact aF) (by rw[ab.n];exact G),br]
  by_cases e:2+k*kA+(j:Nat)=i
  .rw[if_pos e,if_pos au5]
   congr 1
   omega
  .rw[if_neg e]
   by_cases ao:2+k*kA<=i/\i < 2+k*kA+(j:Nat)
   .rw[if_pos ao,if_pos au5]
   .rw[if_neg ao,if_neg au5]
theorem al9 (b:ay4) (j:Nat):lo b j=(b.drop (16*j)).take 16++List.replicate (16 - ((b.drop (16*j)).take 16).length) 0:=by
 unfold lo laid;rw[List.take_zero,List.nil_append,List.drop_replicate,Nat.zero_add]
theorem VZ (b:ay4): ∀n:Nat,(List.range n).flatMap (fun i=>lo b i)=b.take (16*n)++List.replicate (16*n - b.length) 0
 |0=>by simp
 |n+1=>by
  rw[List.range_succ,List.flatMap_append,VZ b n];simp only[at7,List.flatMap_nil,as6];rw[al9]
  by_cases h:16*n<=b.length
  .rw[show 16*n - b.length=0 by omega,List.replicate_zero,as6,<-as8]
   have e:b.take (16*n)++(b.drop (16*n)).take 16=b.take (16*(n+1)):=by
    rw[show 16*(n+1)=16*n+16 by omega,List.take_add]
   rw[e]
   congr 2
   rw[ap8,at1];omega
  .rw[List.drop_eq_nil_of_le au5,List.take_nil,List.nil_append,List.length_nil,List.take_of_length_le au5,List.take_of_length_le au5,as8,List.replicate_append_replicate]
   congr 2
   omega
def kB (n U:Int):bY:=⟨n,U,[],[],[]⟩
def vk (n U:Int) (b:ay4):bY:=nv (kB n U) (sQ b 0 (dq n) 0)
structure yF (m:bY) (n U:Int) (b:ay4):Prop where
 ok:e2 m
 n:m.n=n
 U:m.U=U
 hm:m.eU=[]
 DE:m.lP=m.bF
 cD:iK m.bF 0=pW b 0
 kO:iK m.bF 1=wK
 al': ∀i:Nat,iK m.bF (2+(i:Nat))=if i < g' b then lo b i else wK
theorem ama {n U:Int} (hn:pf n=true) (G:2<=n) (aF:n<=U) {b:ay4} (O:(b.length:Int)<=dq n*16):yF (vk n U b) n U b:=by
 have ah:e2 (kB n U):=e2.new hn;have ax:=VW (m:=kB n U) ah G O (k:=0) (.inl rfl) 0;obtain⟨a0,b4⟩:=Dz G ah.cI;have eH:=DC ah aF _ _ ax (ap0 _);rw[aq9] at eH;have E: ∀st∈kX b 0 (dq n) (g' b),sR n st:=fun st h=>ax st (by unfold sQ;simp only[aq8];exact .inl (.inl (.inl h)))
 have hw:=DC ah aF (g' b) (kX b 0 (dq n) (g' b)) E (by rw[yE];exact ap0 _);rw[List.take_of_length_le (by rw[yE];exact ap0 _)] at hw;have nb:e2 (nv (kB n U) (kX b 0 (dq n) (g' b))).ol:=hw.ok.ol
 have e:vk n U b=(vi (nv (kB n U) (kX b 0 (dq n) (g' b))).ol (some (0,pW b 0))).1.ol:=by
  unfold vk sQ;rw[AM,AM,AM];rfl
 have DF: ∀i,iK (vk n U b).bF i=if 0=i then pW b 0 else iK (nv (kB n U) (kX b 0 (dq n) (g' b))).bF i:=fun i=>by
  rw[e]
  exact VY nb (by show(nv (kB n U) (kX b 0 (dq n) (g' b))).n<=(nv (kB n U) (kX b 0 (dq n) (g' b))).U;rw[hw.n,hw.U];exact aF) (by
   show sR (nv (kB n U) (kX b 0 (dq n) (g' b))).n _;rw[hw.n];exact⟨au6,by show(0:Int) < n;omega,Nh b 0⟩) i
 have aR: ∀i,iK (kB n U).bF i=wK:=fun i=>rfl
 refine⟨eH.ok,eH.n,eH.U,by rw[e];rfl,by rw[e];rfl,?_,?_,fun i=>?_⟩
 .rw[DF,if_pos rfl]
 .rw[DF,if_neg au6,Nj ah aF 1 _ E,if_neg au5,aR]
 .rw[DF,if_neg au5,Nj ah aF _ _ E,aR]
  by_cases aH:i < g' b
  .rw[if_pos au5,if_pos aH]
   congr 1
   omega
  .rw[if_neg au5,if_neg aH]
theorem yF.ln {m:bY} {n U:Int} {b:ay4} (h:yF m n U b) (d':List Int):m.ln d'=m:=by
 obtain⟨n',BA,DE,DG,hm⟩:=m;have E:hm=[]:=h.hm;have G:DE=DG:=h.DE;subst E G;rfl
theorem amb (b:ay4):ml (pW b 0)=(eF 4 [(0+1:Int).toNat,b.length,(jh b).toNat],true):=by
 have al:=Nh b 0
 have e:(pW b 0).take ((pW b 0).length - 4)=eF 4 [(0+1:Int).toNat,b.length,(jh b).toNat]:=by
  rw[al];unfold pW rK;rw[List.take_append_of_le_length (by rw[np];exact ap0 _),List.take_of_length_le (by rw[np];exact ap0 _)]
 unfold ml;rw[if_neg (by rw[al];omega),e];exact if_pos rfl
theorem amc:(ml wK).2=false:=by kernel_rfl
theorem V0 (s:hM) (a:Int):pg s a 1=iK s a:=by
 unfold pg;rw[show List.range 1=[0] from rfl,at7,List.flatMap_nil,as6];show iK s (a+((0:Nat):Int))=_;rw[show a+((0:Nat):Int)=a by omega]
theorem Nk {m:bY} {k:Int} (h:iK m.bF k=wK):mX m k=([],0):=by
 unfold mX
 have e:(ml (mm m k)).2=false:=by
  unfold mm;rw[V0,h];exact amc
 rw[e]
theorem amd {g l c:Nat} (E:g < 256 ^4) (G:l < 256 ^4) (aj:c < 256 ^4):iw (eF 4 [g,l,c])=(g,l,c):=by
 have e:eF 4 [g,l,c]=eb g 4++(eb l 4++(eb c 4++[])):=by unfold eF;simp
 unfold iw;rw[e,pb E,pb G,pb aj]
theorem ame {m:bY} {n U:Int} {b:ay4} (h:yF m n U b) (O:(b.length:Int)<=dq n*16):(nu m 0).take b.length=b:=by
 have H:g' b<=(dq n).toNat:=by unfold g';omega
 have e:nu m 0=(List.range (dq n).toNat).flatMap fun i=>if i < g' b then lo b i else wK:=by
  unfold nu pg;rw[h.n]
  congr 1
  funext i
  rw[show 2+0*dq n+(i:Int)=2+(i:Int) by omega];exact h.al' i
 rw[e,show(dq n).toNat=g' b+((dq n).toNat - g' b) by omega,List.range_add,List.flatMap_append]
 have ao:((List.range (g' b)).flatMap fun i=>if i < g' b then lo b i else wK)=(List.range (g' b)).flatMap fun i=>lo b i:=by
  rw[List.flatMap_def,List.flatMap_def]
  congr 1
  exact ar1 fun i aH=>if_pos (List.mem_range.1 aH)
 have nZ:b.length<=16*g' b:=by unfold g';omega
 rw[ao,VZ,List.take_of_length_le nZ,as8];exact List.take_left' rfl
theorem amf {m:bY} {n U:Int} {b:ay4} (h:yF m n U b) (O:(b.length:Int)<=dq n*16) (al:b.length<=1000000):mX m 0=(b,1):=by
 have ax:=MU b;have ai:mm m 0=pW b 0:=by unfold mm;rw[V0];exact h.cD
 unfold mX;rw[ai,amb];simp only;rw[amd au6 au5 au5];simp only;rw[ame h O,h.n,show(((jh b).toNat:Nat):Int)=jh b by omega];rw[ar8 (show¬(((0+1:Int).toNat:Nat):Int) < 1 by decide),ar8 (show¬(1073741824:Int) < (((0+1:Int).toNat:Nat):Int) by decide),ar8 (show¬dq n*16 < ((b.length:Nat):Int) by omega),aq1 (rfl:jh b=jh b)];rfl
theorem amg {m:bY} {n U:Int} {b:ay4} (h:yF m n U b) (O:(b.length:Int)<=dq n*16) (al:b.length<=1000000):gw m 2=(0,b,1):=by
 have av:mX m ((0:Nat):Int)=(b,1):=amf h O al;have E:mX m ((1:Nat):Int)=([],0):=Nk h.kO
 have ai:gw m 1=(0,b,1):=by
  unfold gw;rw[av];exact if_pos (show(0:Int) < 1 by decide)
 unfold gw;rw[ai,E];exact if_neg (show¬(1:Int) < 0 by decide)
theorem HE (n U:Int):gw (kB n U) 2=(-1,[],0):=by
 have av:mX (kB n U) ((0:Nat):Int)=([],0):=Nk rfl;have E:mX (kB n U) ((1:Nat):Int)=([],0):=Nk rfl
 have ai:gw (kB n U) 1=(-1,[],0):=by
  unfold gw;rw[av];exact if_neg (show¬(0:Int) < 0 by decide)
 unfold gw;rw[ai,E];exact if_neg (show¬(0:Int) < 0 by decide)
end
section
theorem V1 {L:List bL} {b:bL}:gz L b=0↔hj b=true/\L.find? (fun y=>decide (dH y=dH b))=none/\L.length < 64/\(dh b≠[]-> ∃x,L.find? (fun y=>decide (dH y=dh b))=some x/\cT x=cT b):=by
 constructor
 .intro h;obtain⟨b4,cg,a3,a4⟩:=Dh h;refine⟨b4,(G6 _ _).1 cg,a3,fun af=>?_⟩;have av:=a4 (by simpa using af);obtain⟨x,hx⟩:=Dm av;refine⟨x,hx,?_⟩
  by_cases O:cT x=cT b
  .exact O
  .exfalso;have dE:=hx;rw[<-ym] at dE;unfold o6 at dE;rw[if_pos av] at dE;unfold gz at h;rw[dE] at h
   split at h
   .cases h
   split at h
   .cases h
   rw[if_pos (by simp[af,O])] at h
   cases h
 .rintro⟨b4,cg,a3,a4⟩;have Ql:=(G6 _ _).2 cg;unfold gz;rw[if_neg (by rw[b4];simp;omega)]
  by_cases af:dh b=[]
  .rw[if_neg (by simp[af]),if_neg (by simp[af])]
  .obtain⟨x,hx,O⟩:=a4 af
   have av:0<=eu L (dh b):=by
    rcases Int.lt_or_le (eu L (dh b)) 0 with h |h
    .rw[(G6 _ _).1 h] at hx;cases hx
    .exact h
   have dE:=hx;rw[<-ym] at dE;unfold o6 at dE;rw[if_pos av] at dE;rw[if_neg av9,dE,if_neg (by simp[O])]
def qH (L:List bL):Prop:= ∀(k:Nat) (b:bL),L[k]? =some b->gz (L.take k) b=0
theorem qH.nil:qH []:=fun k b h=>by simp at h
theorem qH.add {L:List bL} (h:qH L) (b:bL):qH (gv L b):=by
 unfold gv
 split
 .rename_i aW;intro k c H;rcases Ug k c H with E |⟨rfl,rfl⟩
  .have ab:=(ap5.1 E).1;rw[List.take_append_of_le_length au5];exact h k c E
  .rw[List.take_left];exact aW
 .exact h
theorem amh {α:Type} (L:List α) {k j:Nat} (h:k<=j):(L.eraseIdx k).take j=(L.take (j+1)).eraseIdx k:=by
 refine List.ext_getElem? fun i=>?_
 rw[List.getElem?_take,List.getElem?_eraseIdx,List.getElem?_eraseIdx,List.getElem?_take,List.getElem?_take]
 by_cases G:i < k
 .have a:i < j:=av3
  have b:i < j+1:=av3
  simp[G,a,b]
 .by_cases E:i < j
  .simp[E,G]
  .simp[E,G]
theorem qH.drop {L:List bL} (h:qH L) (nm:ay4):qH (o7 L nm):=by
 unfold o7
 split
 .rename_i aW;obtain⟨E,G⟩:=Uv aW;obtain⟨x,hx⟩:=Dm E;have b1:=List.find?_some hx;simp only[ar5] at b1
  have GF:L[(eu L nm).toNat]? =some x:=by
   have cg:=ym L nm;unfold o6 at cg;rw[if_pos E,hx] at cg;exact cg
  generalize(eu L nm).toNat=q at*;have aT:=(ap5.1 GF).1;intro j b O;have ami:b∈L:=List.mem_of_mem_eraseIdx (List.mem_of_getElem? O);rw[List.getElem?_eraseIdx] at O
  split at O
  .rename_i amj
   have:(L.eraseIdx q).take j=L.take j:=by
    refine List.ext_getElem? fun i=>?_
    rw[List.getElem?_take,List.getElem?_take,List.getElem?_eraseIdx]
    by_cases aj:i < j
    .rw[if_pos aj,if_pos aj,if_pos au5]
    .rw[if_neg aj,if_neg aj]
   rw[this];exact h j b O
  .rename_i amj;rw[amh L au5];have aq:=V1.1 (h (j+1) b O);have Nl:(L.take (j+1))[q]? =some x:=by rw[List.getElem?_take,if_pos au5];exact GF
   generalize L.take (j+1)=M at*;obtain⟨b4,cg,a3,a4⟩:=aq;have amk:dh b≠nm:=Uu G ami;refine V1.2 ⟨b4,?_,Nat.lt_of_le_of_lt (List.length_eraseIdx_le _ _) a3,fun af=>?_⟩
   .rw[Mw _ M q x Nl (by
     have:=List.find?_eq_none.1 cg x (List.mem_of_getElem? Nl);simpa using this)]
    exact cg
   .rw[Mw _ M q x Nl (by rw[b1];simpa using fun e=>amk e.symm)];exact a4 af
 .exact h
def AN (p:j8):wE:=(gf p,mg p)
def tO (b:bL):mU:=(dH b,dh b,cT b,er b,(cy b).map AN)
theorem V2 (b:bL):i2 (tO b)=b:=by
 have h: ∀l:List j8,(l.map AN).map sG=l:=fun l=>by rw[as2];exact List.map_id l
 exact congrArg (fun l:List j8=>((dH b,dh b,cT b,er b,l):bL)) (h (cy b))
theorem Nm (L:List bL):(L.map tO).map i2=L:=by
 rw[as2,show(i2∘tO)=id from funext V2,List.map_id]
theorem aml {p:j8} (h:0<=gf p/\gf p<=65535/\(mg p).length<=128) (t:ay4):u' (kx p++t,0)=((t,0),AN p):=by
 have ai:fA 2 (kx p++t,0)=((gE (mg p) 2++t,0),(gf p).toNat):=by
  unfold kx;rw[as8];exact pb au5 _
 have ao:qy 2 (gE (mg p) 2++t,0)=((t,0),mg p):=Dr au5 t;unfold u';rw[ai];simp only;rw[ao];refine Prod.ext rfl (Prod.ext ?_ rfl);show(((gf p).toNat:Nat):Int)=gf p;omega
theorem V3 {bE:List j8} (h: ∀p,p∈bE->0<=gf p/\gf p<=65535/\(mg p).length<=128) (t:ay4): ∀k,k<=bE.length->g6 (bE.flatMap kx++t,0) k=(((bE.drop k).flatMap kx++t,0),(bE.take k).map AN)
 |0,_=>by simp[g6]
 |k+1,ab=>by
  have cm:k < bE.length:=av3
  have br:=V3 h t k au5;unfold g6;rw[br];simp only;rw[List.drop_eq_getElem_cons cm,at7,as8,aml (h _ (ar3 cm))];simp only;rw[<-u4 cm,as3];rfl
theorem amm {b:bL} (h:u9 b) (t:ay4):jS (j9 b++t,0)=((t,0),tO b):=by
 obtain⟨dz,e0,ij,iP,apB,amn⟩:=h
 have ai:E (j9 b++t,0)=((gE (dh b) 1++(eb (cT b).toNat 1++(eb (er b).toNat 2++(eb (cy b).length 2++((cy b).flatMap kx++t)))),0),dH b):=by
  unfold j9 E;simp only[as8];exact Dr au5 _
 have ao:G (j9 b++t,0)=((eb (cT b).toNat 1++(eb (er b).toNat 2++(eb (cy b).length 2++((cy b).flatMap kx++t))),0),dh b):=by
  unfold G;rw[ai];exact Dr au5 _
 have bl:aj (j9 b++t,0)=((eb (er b).toNat 2++(eb (cy b).length 2++((cy b).flatMap kx++t)),0),(cT b).toNat):=by
  unfold aj;rw[ao];exact pb au5 _
 have c2:aX (j9 b++t,0)=((eb (cy b).length 2++((cy b).flatMap kx++t),0),(er b).toNat):=by
  unfold aX;rw[bl];exact pb au5 _
 have fS:bH (j9 b++t,0)=(((cy b).flatMap kx++t,0),(cy b).length):=by
  unfold bH;rw[c2];exact pb au5 _
 have hQ:=V3 amn t (cy b).length (ap0 _);rw[List.drop_length,aq9] at hQ;unfold jS UQ;rw[fS];simp only;rw[hQ,ai,ao,bl,c2];refine Prod.ext rfl ?_;show(dH b,dh b,(((cT b).toNat:Nat):Int),(((er b).toNat:Nat):Int),(cy b).map AN)=(dH b,dh b,cT b,er b,(cy b).map AN);rw[show(((cT b).toNat:Nat):Int)=cT b by omega,show(((er b).toNat:Nat):Int)=er b by omega]
theorem V4 {L:List bL} (ek:qH L) (hw: ∀b,b∈L->u9 b): ∀k,k<=L.length->oi (L.flatMap j9,0) k=some ((L.take k).map tO,((L.drop k).flatMap j9,0))
 |0,_=>by simp[oi]
 |k+1,ab=>by
  have cm:k < L.length:=av3
  have br:=V4 ek hw k au5;rw[List.drop_eq_getElem_cons cm,at7] at br;have O:=amm (hw _ (ar3 cm)) ((L.drop (k+1)).flatMap j9)
  have:=UU br (by rw[O]) (by
   rw[O,Nm];show gz (L.take k) (i2 (tO L[k]))=0;rw[V2];exact ek k _ (oj cm))
  rw[O] at this;rw[this,<-u4 cm,as3];rfl
theorem V5 {L:List bL} (ek:qH L) (hw: ∀b,b∈L->u9 b) (al:L.length<=64):yq (jg L)=some (L.map tO):=by
 have ai:fA 1 (jg L,0)=((L.flatMap j9,0),L.length):=pb au5 _;have ao:=V4 ek hw L.length (ap0 _);rw[aq9,List.drop_length] at ao;unfold yq;rw[ai];simp only;rw[ao];simp[qz]
end
section
end
section
structure wL {aK:bx} (es:List (aa .str×aa aK)):Prop where
 fN:(vf es).Nodup
 ok: ∀s∈vf es,gr s=true
 sP:es.length<=16
theorem amo {s:ay4} (h:gr s=true):s.length<=15:=by
 simp[gr] at h;exact h.1.2
theorem wL.le {aK:bx} {es:List (aa .str×aa aK)} (h:wL es): ∀s∈vf es,s.length<=maxLen:=fun s ax=>by
 have:=amo (h.ok s ax);have:(15:Nat)<=maxLen:=by decide
 omega
abbrev V6:ay4:=[97]
abbrev amp:ay4:=[98]
abbrev MK (b:Nat):List (aa .str×aa .aL):=dr [] (V6:aa .str) (some b:Option Nat)
abbrev ea (b:Nat):List (aa .str×aa .aL):=dr (gH (MK b) (V6:aa .str)) (amp:aa .str) (some b:Option Nat)
end
section
abbrev e3:=List (aa .str×aa .aL)
def kC (es:e3) (k:ay4) (a:Option Nat):e3:=dr es (k:aa .str) (a:aa .aL)
def ji (es:e3) (k:ay4):e3:=gH es (k:aa .str)
def AO (k:ay4) (a:Option Nat):aa .str×aa .aL:=(k,a)
def tP (k:ay4) (p:aa .str×aa .aL):Bool:=fW .str (k:aa .str) p.1
theorem HF {k:ay4} {p:aa .str×aa .aL}:tP k p=true↔k=pi p:=alL _ _
theorem amq {k:ay4} {p:aa .str×aa .aL} (h:tP k p=false):k≠pi p:=fun e=>by rw[HF.2 e] at h;cases h
theorem DH (k:ay4) (a:Option Nat):kC [] k a=[AO k a]:=rfl
theorem DI (p:aa .str×aa .aL) (l:e3) (k:ay4) (a:Option Nat):kC (p::l) k a=match tP k p with |true=>AO k a::l |false=>p::kC l k a:=rfl
theorem V7 (p:aa .str×aa .aL) (l:e3) (k:ay4):ji (p::l) k=match tP k p with |true=>l |false=>p::ji l k:=rfl
theorem V8 (p:aa .str×aa .aL) (l:e3) (k:ay4):iv (p::l) k=match tP k p with |true=>qF p |false=>iv l k:=by
 unfold iv;show(match tP k p with |true=>some p.2 |false=>b0 l (k:aa .str)).getD (cL .aL)=_
 cases tP k p <;>rfl
theorem vl (p:aa .str×aa .aL) (l:e3):vf (p::l)=pi p::vf l:=rfl
theorem Nn {k j:ay4} {a:Option Nat}: ∀{l:e3},j∈vf (kC l k a)↔j=k\/j∈vf l
 | []=>by rw[DH,vl,ap3];rfl
 |p::l=>by
  rw[DI]
  cases e:tP k p with
  |true=>rw[vl,vl,<-HF.1 e,show pi (AO k a)=k from rfl];simp
  |false=>
   simp only;rw[vl,vl,ap3,ap3,Nn];constructor
   .rintro(h |h |h)
    .exact .inr (.inl h)
    .exact .inl h
    .exact .inr (.inr h)
   .rintro(h |h |h)
    .exact .inr (.inl h)
    .exact .inl h
    .exact .inr (.inr h)
theorem V9 {k:ay4} {a:Option Nat}: ∀{l:e3},(vf l).Nodup->(vf (kC l k a)).Nodup
 | [],_=>by rw[DH,vl];exact aq7.2 ⟨fun h=>av5,at0⟩
 |p::l,h=>by
  rw[vl,aq7] at h;rw[DI]
  cases e:tP k p with
  |true=>
   simp only;rw[vl,show pi (AO k a)=k from rfl,HF.1 e];exact aq7.2 h
  |false=>
   simp only;rw[vl];refine aq7.2 ⟨fun az=>?_,V9 h.2⟩;rcases Nn.1 az with bk |bk
   .exact amq e bk.symm
   .exact h.1 bk
theorem AP (k:ay4): ∀l:e3,(ji l k).Sublist l
 | []=>List.Sublist.refl _
 |p::l=>by
  rw[V7]
  split
  .exact List.sublist_cons_self _ _
  .exact(AP k l).cons_cons p
theorem V' {k:ay4} {a:Option Nat} {x:Option Nat}: ∀{l:e3},x∈(kC l k a).map qF->x=a\/x∈l.map qF
 | [],h=>by
  rw[DH,List.map_singleton,aq2] at h;exact .inl h
 |p::l,h=>by
  rw[DI] at h
  split at h
  .rcases ap3.1 h with h |h
   .exact .inl h
   .exact .inr (ap2 _ h)
  .rcases ap3.1 h with h |h
   .exact .inr (h▸aq0 ..)
   .rcases V' h with h |h
    .exact .inl h
    .exact .inr (ap2 _ h)
theorem No {k:ay4} {a:Option Nat}: ∀{l:e3},(l.map qF).Nodup->a∉l.map qF->((kC l k a).map qF).Nodup
 | [],_,_=>by rw[DH];simp
 |p::l,h,hn=>by
  rw[aq4,aq7] at h;rw[aq4,ap3,not_or] at hn;rw[DI]
  split
  .rw[aq4];exact aq7.2 ⟨hn.2,h.2⟩
  .rw[aq4];refine aq7.2 ⟨fun az=>?_,No h.2 hn.2⟩;rcases V' az with e |e
   .exact hn.1 e.symm
   .exact h.1 e
theorem Np {k:ay4} {a:Nat}: ∀{l:e3},iv l k=some a->AO k (some a)∈l
 | [],h=>by cases h
 |p::l,h=>by
  rw[V8] at h
  split at h
  .rename_i e;have e:=HF.1 e;refine ap3.2 (.inl ?_);show(k,(some a:Option Nat))=p;rw[<-h,e];rfl
  .exact ap2 _ (Np h)
theorem DJ {k:ay4} {a:Option Nat} {p:aa .str×aa .aL}: ∀{l:e3},p∈kC l k a->p=AO k a\/p∈l
 | [],h=>by rw[DH,aq2] at h;exact .inl h
 |q::l,h=>by
  rw[DI] at h
  split at h
  .rcases ap3.1 h with h |h
   .exact .inl h
   .exact .inr (ap2 _ h)
  .rcases ap3.1 h with h |h
   .exact .inr (h▸aq0 ..)
   .rcases DJ h with h |h
    .exact .inl h
    .exact .inr (ap2 _ h)
theorem Wa {k:ay4} {a:Nat}: ∀{l:e3},iv l k=some a->(l.map qF).Nodup->(some a:Option Nat)∉(ji l k).map qF/\(ji l k).length+1=l.length
 | [],h,_=>by cases h
 |p::l,h,hn=>by
  rw[aq4,aq7] at hn;rw[V8] at h;rw[V7]
  cases e:tP k p with
  |true=>
   rw[e] at h;have h:qF p=some a:=h;exact⟨h▸hn.1,rfl⟩
  |false=>
   rw[e] at h;obtain⟨E,G⟩:=Wa h hn.2;refine⟨?_,by simp only[as5];omega⟩;simp only;rw[aq4,ap3,not_or];exact⟨fun ao=>hn.1 (ao▸aq6 (f:=qF) (Np h)),E⟩
theorem wL.put {es:e3} (h:wL es) {k:ay4} {a:Option Nat} (ab:gr k=true) (al:(kC es k a).length<=16):wL (kC es k a):=
 ⟨V9 h.fN,fun s ax=>by
  rcases Nn.1 ax with rfl |ax
  .exact ab
  .exact h.ok s ax,al⟩
theorem wL.k7 {es:e3} (h:wL es) (k:ay4):wL (ji es k):=
 ⟨h.fN.sublist ((AP k es).map _),fun s ax=>h.ok s (((AP k es).map _).subset ax),as9 (AP k es).length_le h.sP⟩
theorem lU.k7 {es:e3} {L:dN} {W:Nat} (h:lU es L W) (k:ay4):lU (ji es k) L W:=
 ⟨fun p af=>h.ex p ((AP k es).subset af),h.fN.sublist ((AP k es).map _),h.yz,h.ok,h.sP⟩
theorem lU.add {es:e3} {L:dN} {W:Nat} (h:lU es L W) {k:ay4} {b:Nat} {m:bY} (O:b∉L.map (·.1)) (az:e2 m) (al:m.eU.length<=W):lU (kC es k (some b)) ((b,m)::L) W:=by
 refine⟨fun p af=>?_,No h.fN fun hx=>?_,aq7.2 ⟨O,h.yz⟩,fun p af=>?_,fun p af=>?_⟩
 .rcases DJ af with rfl |af
  .exact⟨b,rfl,aq0 ..⟩
  .obtain⟨a,E,G⟩:=h.ex p af;exact⟨a,E,ap2 _ G⟩
 .obtain⟨p,af,e⟩:=ar2.1 hx;obtain⟨a,E,G⟩:=h.ex p af;rw[e] at E;injection E with E
  exact O (E▸G)
 .rcases ap3.1 af with rfl |af
  .exact az
  .exact h.ok p af
 .rcases ap3.1 af with rfl |af
  .exact al
  .exact h.sP p af
theorem lU.aV {es:e3} {L:dN} {W:Nat} (h:lU es L W) {fr to:ay4} {a:Nat} (hf:iv es fr=some a):lU (kC (ji es fr) to (some a)) L W:=by
 refine⟨fun p af=>?_,No (h.k7 fr).fN (Wa hf h.fN).1,h.yz,h.ok,h.sP⟩;rcases DJ af with rfl |af
 .obtain⟨a',E,G⟩:=h.ex _ (Np hf);exact⟨a',E,G⟩
 .exact(h.k7 fr).ex p af
theorem Wb (f:Nat->bY->bY) (L:dN):(kW f L).map (·.1)=L.map (·.1):=by
 unfold kW;rw[as2];rfl
theorem Nq (a:Nat) (m:bY): ∀L:dN,(g9 L a m).map (·.1)=L.map (·.1)
 | []=>rfl
 |p::L=>by
  show(if p.1=a then(p.1,m)::L else p::g9 L a m).map (·.1)=_
  split
  .rfl
  .rw[aq4,Nq a m L];rfl
theorem Nr {a:Nat} {m:bY} {p:Nat×bY}: ∀{L:dN},p∈g9 L a m->p.2=m\/p∈L
 | [],h=>by cases h
 |q::L,h=>by
  have h:p∈(if q.1=a then(q.1,m)::L else q::g9 L a m):=h
  split at h
  .rcases ap3.1 h with h |h
   .exact .inl (by rw[h])
   .exact .inr (ap2 _ h)
  .rcases ap3.1 h with h |h
   .exact .inr (h▸aq0 ..)
   .rcases Nr h with h |h
    .exact .inl h
    .exact .inr (ap2 _ h)
theorem lU.set {es:e3} {L:dN} {W j2:Nat} (h:lU es L W) (a:Nat) {m:bY} (az:e2 m) (al:m.eU.length<=j2) (hw:W<=j2):lU es (g9 L a m) j2:=by
 refine⟨fun p af=>?_,h.fN,by rw[Nq];exact h.yz,fun p af=>?_,fun p af=>?_⟩
 .rw[Nq];exact h.ex p af
 .rcases Nr af with e |af
  .rw[e];exact az
  .exact h.ok p af
 .rcases Nr af with e |af
  .rw[e];exact al
  .exact as9 (h.sP p af) hw
theorem lU.map {es:e3} {L:dN} {W:Nat} (h:lU es L W) {f:Nat->bY->bY} (E: ∀a m,e2 m->e2 (f a m)) (G: ∀a m,m.eU.length<=W->(f a m).eU.length<=W):lU es (kW f L) W:=by
 refine⟨fun p af=>?_,h.fN,by rw[Wb];exact h.yz,fun p af=>?_,fun p af=>?_⟩
 .rw[Wb];exact h.ex p af
 .obtain⟨q,aT,rfl⟩:=ar2.1 af;exact E _ _ (h.ok q aT)
 .obtain⟨q,aT,rfl⟩:=ar2.1 af;exact G _ _ (h.sP q aT)
theorem lU.mono {es:e3} {L:dN} {W j2:Nat} (h:lU es L W) (hw:W<=j2):lU es L j2:=⟨h.ex,h.fN,h.yz,h.ok,fun p af=>as9 (h.sP p af) hw⟩
end
section
theorem Wc {m:bY} {I F:Nat->Prop} {w:World} {p:bn} (h:(g8 m).R I F w p):F p.bj:=by
 obtain⟨ρ,b8,E,G,aj,aX⟩:=h;obtain⟨bh,_⟩:=G 1001 _ rfl;exact(aX _).2 ⟨1001,_,rfl,(bh _).2 (by rw[E])⟩
theorem Wd {I:Nat->Prop} {w:World} {b:Nat}: ∀{L:dN} {F:Nat->Prop},fc I w (eQ L) F->b∈L.map (·.1)->F b
 | [],_,_,h=>by cases h
 |p::L,F,⟨ct,cJ,q,E,G,aj,aX,bH⟩,h=>by
  rcases ap3.1 h with h |h
  .exact(E b).2 (.inl (by rw[h];have:=Wc aX;rwa[aj] at this))
  .exact(E b).2 (.inr (Wd bH h))
theorem de.amr {ids:ay5} {K:aY} {B:aw} (q:Nat) {L:dN} {b:Nat} {m:bY} (aT:ag B q=some (.aG (.bA (eQ ((b,m)::L))))):de ids K B (X:=PLift (b∉L.map (·.1))) (fun _=>K) (fun _=>B):=by
 rintro N C a w ⟨hn,J,ρ,F,aq,au⟩;have bm:fc (bZ C B F w) w (eQ ((b,m)::L)) (F q):=aq.holds q _ aT;obtain⟨ct,cJ,p,E,G,aj,aX,bH⟩:=bm;refine⟨⟨fun O=>?_⟩,hn,J,ρ,F,aq,au⟩;have ai:=Wc aX;rw[aj] at ai;exact G _ ai (Wd bH O)
end
section
theorem ams {m:bY} (ah:e2 m) (G:2<=m.n) {s:Nat} {M:dN} (aq:hN M s=some m) {b:ay4} (Z:gw m 2=(0,b,1)):Fn Tryz.prog 122 [dn s] [(1003,.aG (.bA (eQ M)))] [] (.cf [.one (.d (.ck .u8 b)),.one (.d (.int .i64 1)),dw 0]) [(1003,.aG (.bA (eQ M)))]:=by
 have hn:=Nd ah G aq;rw[Z] at hn;refine aU [] Tryz.func122 ?_;exact ar hn ⟨fun h=>absurd h (show¬decide ((0:Int) < 0)=true by decide),fun _=>bg⟩
abbrev pX:ay4:=[108,105,115,116]
abbrev gx:ay4:=[108,105,115,116,46,110,101,119]
abbrev lp (c d:Nat) (L:List bL):aw:=[(c,.cells [.own d]),(d,.row 65 lN L)]
theorem amt (U:Int) (es:e3) {L:dN} {a:Nat} {m:bY} (ha:iv es pX=some a) (az:hN L a=some m) (ah:e2 m) (G:2<=m.n) {Q:List bL} (Z:gw m 2=(0,jg Q,1)) (al:(jg Q).length<=100000000) (ek:qH Q) (hw: ∀b,b∈Q->u9 b) (aT:Q.length<=64):
  Fn Tryz.prog 71 [ap 1001] (nt 1001 1002 1003 U es L) [2001,2002] (.cf [.one (.ptr 2001 0),dw 0]) (nt 1001 1002 1003 U es L++lp 2001 2002 ((Q.map tO).map i2)):=by
 have J:=UW (jg Q) al (some (Q.map tO)) (V5 ek hw aT);simp only at J;refine aU [] Tryz.func71 ?_;exact ar (MW U es pX a ha) <| df <| ar (ams ah G az Z) <| df <| ar (Fn.aV [(1001,2001),(1002,2002)] J) bg
end
section
theorem amu {m:bY} (ah:e2 m) (G:2<=m.n) {s:Nat} {M:dN} (aq:hN M s=some m) (b:ay4) (O:dq m.n*16 < (b.length:Int)):
  Fn Tryz.prog 198 [dn s,bS .u8 b] [(1003,.aG (.bA (eQ M)))] [] (.cf [mG,dw 1]) [(1003,.aG (.bA (eQ M)))]:=by
 refine aU [] Tryz.func198 ?_;exact⟨rfl,ar (Nd ah G aq) <| ar (AK aq) <| ar (Na m.n ah.ky ah.cI) ⟨fun _=>bg,fun c=>absurd O (mu c)⟩⟩
theorem amv {m:bY} (ah:e2 m) (G:2<=m.n) {s:Nat} {M:dN} (aq:hN M s=some m) (b:ay4) (O:dq m.n*16 < (b.length:Int)):
  Fn Tryz.prog 172 [dn s,bS .u8 b] [(1003,.aG (.bA (eQ M)))] [] (ac 1) [(1003,.aG (.bA (eQ M)))]:=by
 refine aU [] Tryz.func172 ?_;exact ar (amu ah G aq b O) <| e5 bg
theorem amw (U:Int) (es:e3) {L:dN} (ha:iv es pX=none):
  Fn Tryz.prog 71 [ap 1001] (nt 1001 1002 1003 U es L) [] (.cf [mG,dw 181]) (nt 1001 1002 1003 U es L):=by
 refine aU [] Tryz.func71 ?_;exact ar (Vn U es pX ha) <| e5 bg
def wM (n:Int) (Q:List bL):Int:=if((jg Q).length:Int)<=dq n*16 then 0 else 1
def vm (n:Int) (es:e3) (Q:List bL) (b:Nat):e3:=if((jg Q).length:Int)<=dq n*16 then kC (ji (kC (ji es gx) gx (some b)) gx) pX (some b) else kC (ji es gx) gx (some b)
def tQ (n U:Int) (Q:List bL) (b:Nat):bY:=if((jg Q).length:Int)<=dq n*16 then vk n U (jg Q) else kB n U
theorem amx (U n:Int) (HG:2<=n) (hn:pf n=true) (aF:n<=U) (es:e3) {M:dN} (E:iv (ji es gx) gx=none) (G:(ji es gx).length < 16) (aj: ∀b,iv (kC (ji es gx) gx (some b)) gx=some b) {Q:List bL} (aT:Q.length<=255) (hw: ∀b,b∈Q->u9 b):
  cu Tryz.prog 128 [ap 3001,ap 1001,ac n] (nt 1001 1002 1003 U es M++lp 3001 3002 Q) [] (X:={b:Nat//b∉M.map (·.1)}) (fun _=>ac (wM n Q))
   (fun g=>nt 1001 1002 1003 U (vm n es Q g.1) ((g.1,tQ n U Q g.1)::M)++lp 3001 3002 Q):=by
 have ui: ∀b,hN ((b,kB n U)::M) b=some (kB n U):=fun b=>by rw[tM,if_pos rfl]
 refine hG [2,3] Tryz.func128 ?_;refine ar (alt U es gx) <| bt.iC eX au8 ?_;refine⟨Nat,_,_,fun b=>_,fun b=>_,ald U (ji es gx) (eQ M) gx n au6 rfl (by rw[hn,aq1 (show 0<=U by omega)];rfl) E G,aA,rfl,fun _=>rfl,fun b=>bt.eY (de.amr 1003 (L:=M) (b:=b) (m:=kB n U) rfl) fun O=>bz [] (bp) <| df <| ar (Fn.aV [(1001,3001),(1002,3002)] (UI Q aT hw)) ?_⟩
 by_cases H:((jg Q).length:Int)<=dq n*16
 .have vE:=al6 (m:=kB n U) (e2.new (n:=n) (U:=U) hn) HG aF (ap7 _) (ui b) (jg Q) H (by rw[HE];decide) (by rw[HE];decide) (by rw[HE];decide);rw[HE] at vE;have gO:g9 ((b,kB n U)::M) b (vk n U (jg Q))=(b,vk n U (jg Q))::M:=if_pos rfl
  have vE:Fn Tryz.prog 172 [dn b,bS .u8 (jg Q)] [(1003,.aG (.bA (eQ ((b,kB n U)::M))))] [] (ac 0) [(1003,.aG (.bA (eQ ((b,vk n U (jg Q))::M))))]:=by
   rw[<-gO];exact vE
  refine ar vE <| df <| ar (alc U (kC (ji es gx) gx (some b)) gx pX b au6 rfl (aj b)) ?_;have ai:wM n Q=0:=if_pos H;have ao:vm n es Q b=_:=if_pos H;have bl:tQ n U Q b=_:=if_pos H;exact⟨⟨b,O.down⟩,_,_,_,bp,rfl,ai.symm,⟨rfl,congrArg (fun x=>some (bb.map .str .aL x)) ao.symm,congrArg (fun x=>some (bb.aG (.bA (eQ ((b,x)::M))))) bl.symm,rfl,rfl,trivial⟩,rfl⟩
 .have vE:=amv (m:=kB n U) (e2.new (n:=n) (U:=U) hn) HG (ui b) (jg Q) (by show dq n*16 < _;omega);refine ar vE <| e5 ?_;have ai:wM n Q=1:=if_neg H;have ao:vm n es Q b=_:=if_neg H;have bl:tQ n U Q b=_:=if_neg H;exact⟨⟨b,O.down⟩,_,_,_,bp,rfl,ai.symm,⟨rfl,congrArg (fun x=>some (bb.map .str .aL x)) ao.symm,congrArg (fun x=>some (bb.aG (.bA (eQ ((b,x)::M))))) bl.symm,rfl,rfl,trivial⟩,rfl⟩
end
section
def kY (u:bd->bd) (fB:ay5) (l:List bd):List bd:=l.map fun x=>if x.ad∈fB then u x else x
theorem amy (u:bd->bd) (l:List bd):kY u [] l=l:=by
 unfold kY;refine(ar1 fun x _=>?_).trans (List.map_id' l);rw[if_neg au7]
theorem We {u:bd->bd} {fB:ay5} {l:List bd} (h: ∀e,e∈l->e.ad∈fB):kY u fB l=l.map u:=by
 unfold kY;exact ar1 fun x hx=>if_pos (h x hx)
theorem amz {u:bd->bd} (a7: ∀e,(u e).ad=e.ad) {fB:ay5} {a:Nat} (ha:a∉fB) (l:List bd):mT (kY u fB l) a u=kY u (fB++[a]) l:=by
 unfold mT kY;rw[as2];refine ar1 fun x _=>?_
 show(if(if x.ad∈fB then u x else x).ad=a then u (if x.ad∈fB then u x else x) else(if x.ad∈fB then u x else x))=if x.ad∈fB++[a] then u x else x
 by_cases E:x.ad∈fB
 .have G: ¬(u x).ad=a:=by rw[a7];exact fun e=>ha (e▸E)
  rw[if_pos E,if_neg G,if_pos (List.mem_append_left _ E)]
 .rw[if_neg E]
  by_cases G:x.ad=a
  .rw[if_pos G,if_pos (by rw[G];simp)]
  .rw[if_neg G,if_neg (by simp[E,G])]
structure qI (u:bd->bd):Prop where
 nm: ∀e,(u e).nm=e.nm
 ad: ∀e,(u e).ad=e.ad
 dp: ∀e,(u e).dp=e.dp
 on: ∀e,(u e).on=e.on
 us: ∀e,(u e).us=e.us
 ok: ∀e,(0<=e.s/\e.s<=4096)/\(1<=e.g/\e.g<=64)/\eZ e.es->(0<=(u e).s/\(u e).s<=4096)/\(1<=(u e).g/\(u e).g<=64)/\eZ (u e).es
theorem qI.Ns {u:bd->bd} (a7:qI u) {l:List bd} (h:dS l) (fB:ay5):dS (kY u fB l):=by
 have key: ∀{lE:Type} (f:bd->lE),(∀e,f (u e)=f e)->(kY u fB l).map f=l.map f:=fun f hf=>by
  unfold kY;rw[as2];refine ar1 fun x _=>?_
  show f (if x.ad∈fB then u x else x)=f x
  split
  .exact hf x
  .rfl
 refine⟨by rw[key _ a7.nm];exact h.ik,by rw[key _ a7.ad];exact h.lh,by rw[key _ a7.dp];exact h.u1,fun e V=>?_,by unfold kY;rw[aq3];exact h.len⟩;obtain⟨x,hx,rfl⟩:=ar2.1 V;obtain⟨ci,cN,ec,eG⟩:=h.ok x hx
 by_cases H:x.ad∈fB
 .rw[if_pos H];obtain⟨kU,qw,wG⟩:=a7.ok x ⟨ci,cN,ec⟩;exact⟨kU,qw,wG,by rw[a7.nm];exact eG⟩
 .rw[if_neg H];exact⟨ci,cN,ec,eG⟩
theorem qI.uk {u:bd->bd} (a7:qI u) (fB:ay5) (l:List bd):dR (kY u fB l)=dR l:=by
 unfold dR kY;rw[as2];refine ar1 fun x _=>?_
 show jA (if x.ad∈fB then u x else x)=jA x
 split
 .unfold jA;rw[a7.nm,a7.ad]
 .rfl
theorem qI.D {u:bd->bd} (a7:qI u) (fB:ay5) (l:List bd):jQ (kY u fB l)=jQ l:=by
 unfold jQ kY;rw[as2];refine ar1 fun x _=>?_
 show wy (if x.ad∈fB then u x else x)=wy x
 split
 .unfold wy;rw[a7.nm,a7.ad,a7.dp,a7.on,a7.us]
 .rfl
theorem qI.M {u:bd->bd} (a7:qI u) {l:List bd} (h:dS l) {fB:ay5} {e:bd} (V:e∈l) (ha:e.ad∉fB):e4 (jB (kY u fB l)) e.dp (fg (u e).s (u e).g (u e).es)=jB (kY u (fB++[e.ad]) l):=by
 have az:e∈kY u fB l:=ar2.2 ⟨e,V,if_neg ha⟩;rw[<-amz a7.ad ha,<-TK (a7.Ns h fB) az (a7.dp e)]
theorem qI.get {u:bd->bd} (a7:qI u) {l:List bd} (h:dS l) {fB:ay5} {e:bd} (V:e∈l) (ha:e.ad∉fB):eg (jB (kY u fB l)) e.dp=some (fg e.s e.g e.es):=
 (a7.Ns h fB).M (ar2.2 ⟨e,V,if_neg ha⟩)
theorem qI.map {u:bd->bd} (a7:qI u) {l:List bd} (h:dS l):dS (l.map u):=by
 have:=a7.Ns h (l.map (·.ad));rw[We fun e V=>aq6 V] at this;exact this
abbrev qJ:=Nat×(aa .str×aa .aL)
def vn (p:qJ):Option Nat:=p.2.2
structure wN (l:List bd) (lx:List qJ) (bF fB:ay5):Prop where
 Nt: ∀p,p∈lx-> ∀a,vn p=some a->(p.1∈bF↔a∈fB)
theorem amA {l:List bd} {lx:List qJ} (ax:lx.map (·.2)=dR l) {p:qJ} (af:p∈lx): ∃e,e∈l/\p.2=jA e:=by
 have:p.2∈dR l:=by rw[<-ax];exact aq6 af
 obtain⟨e,V,ao⟩:=ar2.1 this;exact⟨e,V,ao.symm⟩
theorem amB {l:List bd} (h:dS l) {lx:List qJ} (ax:lx.map (·.2)=dR l):(lx.map vn).Nodup:=by
 have:lx.map vn=(l.map (·.ad)).map some:=by
  have e:lx.map vn=(lx.map (·.2)).map (fun q:aa .str×aa .aL=>(show Option Nat from q.2)):=by rw[as2];rfl
  rw[e,ax];unfold dR;rw[as2,as2];rfl
 rw[this];exact List.Pairwise.map _ (fun a b amC e=>amC (by injection e)) h.lh
theorem wN.nil (l:List bd) (lx:List qJ):wN l lx [] []:=⟨fun _ _ _ _=>by simp⟩
theorem wN.step {l:List bd} {lx:List qJ} {bF fB:ay5} (h:wN l lx bF fB) (O:(lx.map (·.1)).Nodup) (ha:(lx.map vn).Nodup) {p:qJ} (af:p∈lx) {a:Nat} (e:vn p=some a):wN l lx (bF++[p.1]) (fB++[a]):=by
 refine⟨fun q aT b dm=>?_⟩;have E:=h.Nt q aT b dm
 have G:q.1=p.1↔b=a:=⟨fun ai=>by
  have:=u2 O aT af ai;subst this;rw[e] at dm;injection dm with bl
  exact bl.symm,fun ai=>by
  have:=u2 ha aT af (dm.trans (by rw[ai,e]));rw[this]⟩
 simp only[aq8,aq2,E,G]
def yG (bF:ay5) (l:List qJ):List qJ:=l.filter fun p=> !bF.contains p.1
theorem amD {bF:ay5} {l:List qJ} {p:qJ} (af:p∈l) (hn:p.1∉bF):(yG (bF++[p.1]) l).length < (yG bF l).length:=by
 have e:yG (bF++[p.1]) l=(yG bF l).filter fun q=> !decide (q.1=p.1):=by
  unfold yG;rw[List.filter_filter];refine List.filter_congr fun q _=>?_
  by_cases e:q.1=p.1 <;>simp[e]
 rw[e];have az:p∈yG bF l:=at5.2 ⟨af,by simp[hn]⟩;exact List.length_filter_lt_length_iff_exists.2 ⟨p,az,au7⟩
abbrev amE (it:Nat) (u:bd->bd) (l:List bd) (b bV:Nat) (lx:List qJ) (bF fB:ay5):aw:=[(1001,.cells [.mp 1002]),(1002,.aG (.vZ b .str .aL lx bV)),(1003,.aG (.bA (jQ l))),(1004,.aG (.bA (jB (kY u fB l)))),(it,.aG (.v1 b bV bF bV))]
def kZ (fr bK:Int) (e:bd):bd:={e with es:=if e.on=true then nk e.s e.g e.es fr bK else e.es}
theorem Wf (fr bK:Int):qI (kZ fr bK):=by
 refine⟨fun _=>rfl,fun _=>rfl,fun _=>rfl,fun _=>rfl,fun _=>rfl,fun e h=>⟨h.1,h.2.1,?_⟩⟩;show eZ (if e.on=true then nk e.s e.g e.es fr bK else e.es)
 split
 .exact L6 h.2.2 fr bK
 .exact h.2.2
theorem Nu {l:List bd} (h:dS l) (fr bK:Int):Fn Tryz.prog 83 [ap 1001,ac fr,ac bK] (ej l) [] gJ (ej (l.map (kZ fr bK))):=by
 have a7:=Wf fr bK;obtain⟨oX,gb,gc⟩:=j5 Dd;obtain⟨Mb,wB,wC⟩:=j5 GM;refine aU [0] Tryz.func83 ?_;refine bt.eY (de.Qr 1002 rfl) fun x=>?_
 obtain⟨b,lx,bV,vh,Nc,bw⟩:=x;have O:(lx.map (·.1)).Nodup:=Nc.imp fun h=>by omega
 have ha:=amB h vh;refine bz [] (bp) ⟨_,_,fun N=>Qt (d:=12) rfl Tryz.underlying101 rfl rfl N,rfl,?_⟩;refine dQ [1] (X:=ay5×ay5) (fun _=>[(1,ac fr),(2,ac bK),(12,ap 12)]) (fun x=>amE 12 (kZ fr bK) l b bV lx x.1 x.2) (fun x=>wN l lx x.1 x.2) (fun x=>(yG x.1 lx).length) ([],[]) (wN.nil l lx) ?_ ?_
 .exact ae.sub aA ⟨rfl,rfl,rfl,(by show _=some (bb.aG (.bA (jB (kY (kZ fr bK) [] l))));rw[amy];rfl),rfl,trivial⟩
 rintro⟨bF,fB⟩ DK;have DK:wN l lx bF fB:=DK;refine bt.iC eX au8 ?_;refine⟨_,Qx (c:=1002) (r:=12) rfl rfl rfl rfl (fun p af=>bw _ (aq6 af)) (ap0 _),fun v e ay=>?_⟩;rcases ay with⟨p,af,iG,rfl,rfl⟩ |⟨eH,rfl,rfl⟩
 .obtain⟨e,V,AJ⟩:=amA vh af;have Nv:vn p=some e.ad:=by unfold vn;rw[AJ]
  have Hn:e.ad∉fB:=fun az=>iG ((DK.Nt p af e.ad Nv).2 az)
  have ez:=DK.step O ha af Nv;have ra:=amD af iG;have b9:=h.D V;have aq:=a7.get h V Hn;have iN:=a7.M h V Hn;obtain⟨ci,cN,ec,eG⟩:=h.ok e V;have gO:=GL (LK e.s e.g e.es fr bK ci cN) aq rfl rfl rfl rfl;have H:(if e.on=true then nk e.s e.g e.es fr bK else e.es)=(kZ fr bK e).es:=rfl;have hx:p.2.2=(some e.ad:Option Nat):=Nv;refine⟨_,_,fun N=>Qy (c:=1002) (r:=12) (p:=p) rfl rfl rfl rfl af N,rfl,?_⟩;refine⟨_,_,fun N=>iY (b:=e.ad) rfl ax1 N,rfl,?_⟩;refine⟨_,_,fun N=>ja rfl Tryz.underlying165 rfl rfl gb av7 rfl N,rfl,?_⟩;refine⟨_,_,fun N=>k9 (q:=1003) rfl Tryz.underlying4 rfl rfl rfl b9 rfl N,rfl,?_⟩;refine⟨fun vb=>?_,fun vb=>?_⟩
  .have vb:e.on=true:=vb;rw[if_pos vb] at H;rw[H] at gO;change Fn _ _ _ _ _ _ [(1004,.aG (.bA (e4 (jB (kY (kZ fr bK) fB l)) e.dp (fg (kZ fr bK e).s (kZ fr bK e).g (kZ fr bK e).es))))] at gO;rw[iN] at gO;refine⟨_,_,fun N=>iY (b:=e.ad) rfl ax1 N,rfl,?_⟩;refine⟨_,_,fun N=>ja rfl Tryz.underlying165 rfl rfl wB (by rw[wC];decide) rfl N,rfl,?_⟩;refine⟨_,_,fun N=>k9 (q:=1003) rfl Tryz.underlying66 rfl rfl rfl b9 rfl N,rfl,?_⟩;exact ar gO ⟨(bF++[p.1],fB++[e.ad]),ez,ra,ae.sub aA aA⟩
  .have vb:e.on=false:=vb;rw[if_neg (by rw[vb];decide)] at H;have ai:fg (kZ fr bK e).s (kZ fr bK e).g (kZ fr bK e).es=fg e.s e.g e.es:=by rw[<-H];rfl
   rw[ai,xG aq] at iN;exact⟨(bF++[p.1],fB++[e.ad]),ez,ra,ae.sub aA ⟨rfl,rfl,rfl,congrArg (fun aC=>some (bb.aG (.bA aC))) iN,rfl,trivial⟩⟩
 .have xT: ∀e,e∈l->e.ad∈fB:=fun e V=>by
   have:jA e∈lx.map (·.2):=by rw[vh];exact aq6 V
   obtain⟨p,af,ao⟩:=ar2.1 this;exact(DK.Nt p af e.ad (by unfold vn;rw[ao])).1 (eH p af)
  have m4:=We (u:=kZ fr bK) xT;have o1:lx.map (·.2)=dR (l.map (kZ fr bK)):=by rw[vh,<-m4,a7.uk]
  have sw:jQ l=jQ (l.map (kZ fr bK)):=by rw[<-m4,a7.D]
  exact⟨_,_,_,ae.Qs 1002 rfl,rfl,trivial,⟨rfl,congrArg (fun aC=>some (bb.map .str .aL aC)) o1,congrArg (fun aC=>some (bb.aG (.bA aC))) sw,congrArg (fun aC=>some (bb.aG (.bA (jB aC)))) m4,trivial⟩,rfl⟩
end
section
section
variable {ids:ay5} {K:aY} {B:aw}
theorem b'.set {ρ:Nat->bn} {I:Nat->Prop} {w:World} {s t:bC} (ez: ∀v,dU ρ I w s v->dU ρ I w t v): ∀{l:List bC} {aE:List Value} {j:Nat},l[j]? =some s->b' ρ I w l aE->b' ρ I w (l.set j t) aE
 | [],_,j,Z,_=>by cases j <;>cases Z
 |x::l,_,0,Z,⟨v,r,e,E,G⟩=>by
  injection Z with Z
  subst Z;exact⟨v,r,e,ez v E,G⟩
 |x::l,_,j+1,Z,⟨v,r,e,E,G⟩=>⟨v,r,e,E,b'.set ez (l:=l) (j:=j) Z G⟩
theorem ae.vo (c j:Nat) {l:List bC} (H:ag B c=some (.cells l)) (Z:l[j]? =some (.bJ (.pointer none))):ae ids K B K ((c,.cells (l.set j (.d (.aL none))))::B):=by
 rintro N C a w ⟨hn,J,ρ,F,aq,au⟩
 obtain⟨bN,aW⟩:=aq.hP (w':=w) (ch:=.cells (l.set j (.d (.aL none)))) H (cK.refl _ _) fun I ba=>by
  obtain⟨E,aE,T,G,aj⟩:=aq.holds c _ H;exact⟨E,aE,T,G,b'.set (s:=.bJ (.pointer none)) (t:=.d (.aL none)) (fun v h=>h) Z (b'.mono ba _ _ (fun _ _=>rfl) aj)⟩
 exact⟨hn,J,ρ,F,bN,au.mono aW fun _ _ _=>rfl⟩
theorem ae.DL (q:Nat) {p:Nat×bf} {L:List (Nat×bf)} (aT:ag B q=some (.aG (.bA (p::L)))):ae ids K B K ((q,.aG (.bA [p]))::B):=by
 rintro N C a w ⟨hn,J,ρ,F,aq,au⟩;obtain⟨ct,cJ,x,ci,cN,ec,eG,uA⟩:fc _ w (p::L) (F q):=aq.holds q _ aT;obtain⟨bN,aW⟩:=aq.Fo (w':=w) (ch:=.aG (.bA [p])) aT ct (fun b O=>(ci b).2 (.inl O)) (cK.refl _ _) fun I ba=>⟨ct,fun _=>False,x,fun b=>by simp,fun _ _ h=>h,ec,p.2.cj _ _ _ _ _ _ eG ba (fun _ _=>rfl) (ap0 _),fun _ h=>h⟩
 exact⟨hn,J,ρ,_,bN,au.mono aW fun _ _ _=>rfl⟩
theorem ae.Wg (q:Nat) {L:List (Nat×bf)} (aT:ag B q=some (.aG (.bA L))):ae ids K B K ((q,.aG (.bA []))::B):=by
 rintro N C a w ⟨hn,J,ρ,F,aq,au⟩;obtain⟨bN,aW⟩:=aq.Fo (w':=w) (ch:=.aG (.bA [])) aT (fun _=>False) (fun b O=>O.elim) (cK.refl _ _) fun I ba=>fun _ h=>h
 exact⟨hn,J,ρ,_,bN,au.mono aW fun _ _ _=>rfl⟩
def DM (_:bn):bf where
 R:=fun _ F _ _=> ∀x,¬F x
 cj:=fun _ _ _ _ _ _ h _ _ _=>h
theorem ae.qK (q d:Nat) {ch:bb} (aT:ag B q=some ch):ae ids K B K ((q,.cn d DM)::B):=by
 rintro N C a w ⟨hn,J,ρ,F,aq,au⟩;obtain⟨bN,aW⟩:=aq.Fo (w':=w) (ch:=.cn d DM) aT (fun _=>False) (fun b O=>O.elim) (cK.refl _ _) fun I ba=>fun _ h=>h
 exact⟨hn,J,ρ,_,bN,au.mono aW fun _ _ _=>rfl⟩
theorem ae.Wh (q d:Nat) (aT:gX ids K B q=true) (a2:d≠q):ae ids K B K ((q,.cn d DM)::B):=by
 rintro N C a w ⟨hn,J,ρ,F,aq,au⟩;have cz:=kM aT;obtain⟨bN,aW⟩:=aq.make (ch:=.cn d DM) (w':=w) aT (Below.refl _ _) (ρ q) (fun _=>False) (fun _ h=>h.elim) (fun I _ _=>fun _ h=>h);exact⟨hn,J,_,_,bN,au.mono aW fun s c H=>dd _ _ (fun e=>by subst e;rw[cz.1 s] at H;cases H)⟩
theorem ae.HH (q c d m b:Nat) (bo:aw) {cw:bb} (aT:ag B q=some cw) (uB:(cl bo).contains q=false) (da:kK B bo) (az:ag B m=some (.cn c (e6 b))):ae ids K B K ((q,.cn d (nT b c d bo))::pw (cl bo) B):=by
 rintro N C a w ⟨hn,J,ρ,F,aq,au⟩;have uB:=vW uB;have al: ∀{d ch},ag bo d=some ch->ag B d=some ch:=fun {d ch} h=>kl da h
 have vX: ∀{e ch},ag ((q,bb.cn d (nT b c d bo))::pw (cl bo) B) e=some ch->e=q\/e∈cl bo->e=q/\ch= .cn d (nT b c d bo):=fun {e ch} V az=>by
  rw[ca] at V
  split at V
  .rename_i ao;injection V with V;exact⟨ao.symm,V.symm⟩
  .rename_i ao;rcases az with az |az
   .exact absurd az.symm ao
   .rw[xB,if_pos az] at V;cases V
 obtain⟨bN,aW⟩:=aq.step (B':=(q,.cn d (nT b c d bo))::pw (cl bo) B) (ρ':=ρ) (F':=c5 F q (fun x=> ∃e ch,ag bo e=some ch/\F e x)) (w':=w) (fun e=>e=q\/e∈cl bo) (fun _=>False) (cK.refl _ _)
  (fun e ch V az=>by
   rw[ca,if_neg (fun h=>az (.inl h.symm)),xB,if_neg (fun h=>az (.inr h))] at V;exact V)
  (fun _ _=>rfl) (fun e az=>dd _ _ (fun h=>az (.inl h))) (fun _ _ h=>h) (fun _ h=>h.elim) (fun _ _ _ _ _ _ h=>h)
  (fun e ch V az aW=>by
   obtain⟨rfl,rfl⟩:=vX V az;rw[c6];exact⟨ρ,F,py (N:=N) (a:=a) aq av1,rfl,fun d ch h=>Holds.cj aW (fun _ _=>rfl) (ap0 _) ch (fun _ _=>rfl) (aq.holds d ch (al h)),fun d c1 ch ch' b h h' a2=>aq.e' d c1 ch ch' b (al h) (al h') a2,fun b=>Iff.rfl⟩)
  (fun e ch V az x hx=>by
   obtain⟨rfl,rfl⟩:=vX V az;rw[c6] at hx;obtain⟨c1,ch',E,G⟩:=hx;exact⟨(aq.own c1 ch' (al E) x G).1,.inl ⟨c1,ch',al E,.inr (gm.2 ⟨ch',E⟩),G⟩⟩)
  (fun e b5 ch ch' x V gP az gl a2=>absurd ((vX V az).1.trans (vX gP gl).1.symm) a2)
 exact⟨hn,J,ρ,_,bN,au.mono aW fun _ _ _=>rfl⟩
end
inductive kD where
 |no
 |c8 (top base:ay4) (l:ay5) (over:Bool)
 |pl (top base:ay4) (over:Bool)
 |pu (nm:ay4) (n rm:Int) (l:ay5) (g:List (Nat×ay4)) (over done:Bool)
abbrev sS (top base:ay4) (l:ay5) (over:Bool):aw:=[(2001,.cells (Ly top base over)),(2002,.map ak ak (fZ l))]
abbrev vp (top base:ay4) (over:Bool):aw:=[(2001,.cells (GB top base over))]
abbrev nw (z:Int) (nm:ay4) (n rm:Int) (l:ay5) (g:List (Nat×ay4)) (over done:Bool):aw:=[(2001,.cells (C6 nm z n rm over done)),(2002,.map ak ak (fZ l)),(2003,.map ak jx (j7 g))]
def Wi (z:Int) (b:Nat):kD->bn->bf
 | .no=>DM
 | .c8 top base l over=>nT b 2001 1001 (sS top base l over)
 | .pl top base over=>nT b 2001 1001 (vp top base over)
 | .pu nm n rm l g over done=>nT b 2001 1001 (nw z nm n rm l g over done)
abbrev HI (T b:Nat):Value:=.iface T (.pointer (some ⟨b,0,none⟩))
def qL (b:Nat):kD->Value
 | .no=>.nilIface
 | .c8 .. =>HI 61 b
 | .pl .. =>HI 121 b
 | .pu .. =>HI 62 b
def wO (b:Nat):kD->Option Nat
 | .c8 .. =>some b
 |_=>none
def wP (b:Nat):kD->Option Nat
 | .pu .. =>some b
 |_=>none
def DN:kD->Int
 | .no=>0
 | .c8 .. =>1
 | .pl .. =>2
 | .pu .. =>3
abbrev DO:=Int×Int×List (aa ak×aa ak)
structure Made where
 f0:bL
 eM:ay4
 ed:Option (Nat×DO)
def amF:Option (Nat×DO)->List (Nat×bf)
 |none=>[]
 |some p=>[(p.1,fg p.2.1 p.2.2.1 p.2.2.2)]
abbrev rM (l:List bd):bf:=.iX 1001 (ej l)
abbrev rN (Q:List bL):bf:=.iX 1001 (kw Q)
structure cc where
 z:Nat
 U:Nat
 L:List aN
 a8:ay4
 db:Nat
 ds:List bd
 es:e3
 M:dN
 lb:Nat
 Q:List bL
 b:Nat
 bR:kD
 bI:Made
abbrev HJ (z:Int) (a8:ay4) (db lb:Nat) (kd:Int) (fh:Value) (c8 pu:Option Nat) (m:Made):List bC:=[.d (.int .i64 z),.d (.str a8),.ptr 1001 0,.d (.aL (some db)),.ptr 1201 0,.d (.aL (some lb)),.d (.int .i64 kd),.bJ fh,.d (.aL c8),.d (.aL pu),
 .d (.str (dH m.f0)),.d (.str (dh m.f0)),.d (.int .i64 (cT m.f0)),.d (.int .i64 (er m.f0)),.d (.ck oc (cy m.f0)),.d (.str m.eM),.d (.aL (m.ed.map (·.1)))]
abbrev amG (w:cc):List bC:=HJ w.z w.a8 w.db w.lb (DN w.bR) (qL w.b w.bR) (wO w.b w.bR) (wP w.b w.bR) w.bI
abbrev Wj (w:cc):Nat×bb:=(1401,.cells (amG w))
abbrev Wk (w:cc):Nat×bb:=(1501,.cn 1001 (Wi w.z w.b w.bR))
abbrev Wl (w:cc):Nat×bb:=(1601,.aG (.bA (amF w.bI.ed)))
abbrev Nw (w:cc):Nat×bb:=(1101,.aG (.bA [(w.db,rM w.ds)]))
abbrev Wm (w:cc):Nat×bb:=(1301,.aG (.bA [(w.lb,rN w.Q)]))
def DP (z U:Int) (L:List aN):bf:=.iX 1001 (bP z U L)
def yH (es:e3) (M:dN):bf:=.iX 1201 (nt 1201 1202 1203 4096 es M)
abbrev oq (z U:Nat) (L:List aN):Nat×bb:=(1001,.aG (DP z U L))
abbrev pY (es:e3) (M:dN):Nat×bb:=(1201,.aG (yH es M))
abbrev cP (w:cc):aw:=[oq w.z w.U w.L,Nw w,pY w.es w.M,Wm w,Wj w,Wk w,Wl w]
section
variable {f:FuncId} {args:List aP} {z U:Nat} {L:List aN} {aJ:aw} {bc:ay5} {res:aP}
theorem cu.Wn {X:Type} {res:X->aP} {L':X->List aN} {aO:X->aw} (h:cu Tryz.prog f args (bP z U L++aJ) bc res (fun g=>bP z U (L' g)++aO g)) (E:nO 1001 [1002,1003,1004] args (bP z U L) aJ bc bc=true)
  (G: ∀g,nP 1001 (mF [1002,1003,1004] bc bc) (res g) (bP z U (L' g)) (aO g)=true):cu Tryz.prog f args (oq z U L::aJ) bc res (fun g=>oq z U (L' g)::aO g):=
 cu.close (o':=fun g=>DP z U (L' g)) [1002,1003,1004] h (fun _ _ _ _ h=>h) (fun _ _ _ _ _ h=>h) E G
theorem Fn.yI {L':List aN} {aO:aw} (h:Fn Tryz.prog f args (bP z U L++aJ) bc res (bP z U L'++aO)) (E:nO 1001 [1002,1003,1004] args (bP z U L) aJ bc bc=true)
  (G:nP 1001 (mF [1002,1003,1004] bc bc) res (bP z U L') aO=true):Fn Tryz.prog f args (oq z U L::aJ) bc res (oq z U L'::aO):=
 (cu.Wn (X:=Unit) (L':=fun _=>L') (aO:=fun _=>aO) (res:=fun _=>res) h.x E fun _=>G).fn
theorem Fn.ch {L':List aN} (h:Fn Tryz.prog f args (bP z U L) [] res (bP z U L')) (E:nO 1001 [1002,1003,1004] args (bP z U L) [] [] []=true:=by first |rfl |decide)
  (G:nP 1001 (mF [1002,1003,1004] [] []) res (bP z U L') []=true:=by first |rfl |decide):Fn Tryz.prog f args [oq z U L] [] res [oq z U L']:=
 Fn.yI (aJ:=[]) (aO:=[]) (by rw[as6,as6];exact h) E G
end
def bf.i4 {X:Type} (o:X->bf):bf where
 R:=fun I F w p=> ∃g,(o g).R I F w p
 cj:=fun I F w I' w' p ⟨g,h⟩ V bh aR=>⟨g,(o g).cj I F w I' w' p h V bh aR⟩
theorem cu.i4 {P:Program} {f:FuncId} {args:List aP} {aJ:aw} {bc:ay5} {res:aP} {X:Type} {q:Nat} {o:X->bf} {aO:aw} (h:cu P f args aJ bc (fun _=>res) (fun g=>(q,.aG (o g))::aO)):Fn P f args aJ bc res ((q,.aG (.i4 o))::aO):=by
 refine⟨h.1,fun ρ F I w bW b4 cg a3 a4 a5 gy=>(h.2 ρ F I w bW b4 cg a3 a4 a5 gy).mono ?_⟩;rintro e w' ⟨g,x,ρ',F',ai,ao,bl,I',c2,fS,hQ,o0,Nx,DB⟩
 have l5: ∀{c ch},ag ((q,bb.aG (.i4 o))::aO) c=some ch-> ∃ch',ag ((q,bb.aG (o g))::aO) c=some ch'/\((c=q/\ch= .aG (.i4 o)/\ch'= .aG (o g))\/ch=ch'):=fun {c ch} H=>by
  rw[ca] at H
  split at H
  .rename_i e;injection H with H
   exact⟨_,by rw[ca,if_pos e],.inl ⟨e.symm,H.symm,rfl⟩⟩
  .rename_i e;exact⟨ch,by rw[ca,if_neg e];exact H,.inr rfl⟩
 refine⟨x,ρ',F',ai,ao,bl,I',c2,fS,fun c ch H=>?_,fun c ch H=>?_,fun c bX ch ch' b H cF a2=>?_,DB⟩
 .obtain⟨ch',E,G⟩:=l5 H;have:=hQ c ch' E;rcases G with⟨rfl,rfl,rfl⟩ |rfl
  .exact⟨g,this⟩
  .exact this
 .obtain⟨ch',E,_⟩:=l5 H;exact o0 c ch' E
 .obtain⟨AQ,E,_⟩:=l5 H;obtain⟨DQ,G,_⟩:=l5 cF;exact Nx c bX AQ DQ b E G a2
theorem Fn.amH {P:Program} {f:FuncId} {args:List aP} {aJ:aw} {bc:ay5} {res:aP} {X:Type} {q:Nat} {o:X->bf} {aO:aw} (h:Fn P f args aJ bc res ((q,.aG (.i4 o))::aO)):cu P f args aJ bc (fun _=>res) (fun g=>(q,.aG (o g))::aO):=by
 refine⟨h.1,fun ρ F I w bW b4 cg a3 a4 a5 gy=>(h.2 ρ F I w bW b4 cg a3 a4 a5 gy).mono ?_⟩;rintro e w' ⟨x,ρ',F',ai,ao,bl,I',c2,fS,hQ,o0,Nx,DB⟩;have aT:ag ((q,bb.aG (.i4 o))::aO) q=some (.aG (.i4 o)):=aw1
 obtain⟨g,a1⟩:(bf.i4 o).R I' (F' q) w' (ρ' q):=hQ q _ aT
 have l5: ∀{c ch},ag ((q,bb.aG (o g))::aO) c=some ch->(c=q/\ch= .aG (o g))\/ag ((q,bb.aG (.i4 o))::aO) c=some ch:=fun {c ch} H=>by
  rw[ca] at H
  split at H
  .rename_i e;injection H with H;exact .inl ⟨e.symm,H.symm⟩
  .rename_i e;exact .inr (by rw[ca,if_neg e];exact H)
 have Ny: ∀{c ch},ag ((q,bb.aG (o g))::aO) c=some ch-> ∃ch',ag ((q,bb.aG (.i4 o))::aO) c=some ch':=fun {c ch} H=>by
  rcases l5 H with⟨rfl,_⟩ |h
  .exact⟨_,aT⟩
  .exact⟨_,h⟩
 refine⟨g,x,ρ',F',ai,ao,bl,I',c2,fS,fun c ch H=>?_,fun c ch H=>?_,fun c bX ch ch' b H cF a2=>?_,DB⟩
 .rcases l5 H with⟨rfl,rfl⟩ |h
  .exact a1
  .exact hQ c ch h
 .obtain⟨ch',h'⟩:=Ny H;exact o0 c ch' h'
 .obtain⟨AQ,E⟩:=Ny H;obtain⟨DQ,G⟩:=Ny cF;exact Nx c bX AQ DQ b E G a2
theorem ae.aG {ids:ay5} {K:aY} {B:aw} (q:Nat) {o o':bf} (aT:ag B q=some (.aG o)) (h: ∀I F w p,o.R I F w p->o'.R I F w p):ae ids K B K ((q,.aG o')::B):=by
 rintro N C a w ⟨hn,J,ρ,F,aq,au⟩;obtain⟨bN,aW⟩:=aq.hP (w':=w) (ch:=.aG o') aT (cK.refl _ _) fun I ba=>h _ _ _ _ (o.cj _ _ _ _ _ _ (aq.holds q _ aT) ba (fun _ _=>rfl) (ap0 _))
 exact⟨hn,J,ρ,F,bN,au.mono aW fun _ _ _=>rfl⟩
theorem de.i4 {ids:ay5} {K:aY} {B:aw} (q:Nat) {X:Type} {o:X->bf} (aT:ag B q=some (.aG (.i4 o))):de ids K B (X:=X) (fun _=>K) (fun g=>(q,.aG (o g))::B):=by
 rintro N C a w ⟨hn,J,ρ,F,aq,au⟩;obtain⟨g,a1⟩:(bf.i4 o).R (bZ C B F w) (F q) w (ρ q):=aq.holds q _ aT;obtain⟨bN,aW⟩:=aq.hP (w':=w) (ch:=.aG (o g)) aT (cK.refl _ _) fun I ba=>(o g).cj _ _ _ _ _ _ a1 ba (fun _ _=>rfl) (ap0 _)
 exact⟨g,hn,J,ρ,F,bN,au.mono aW fun _ _ _=>rfl⟩
end
end Go.Proofs.YthnboghbhgapcaaGreat
