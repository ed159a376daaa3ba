/-
A part of the proof of this claim: lemmas, with no condition beyond what each says.
-/
import Derived.Test.YtkfbeijmgggkmaaGreatZd18
set_option linter.unusedVariables false
set_option linter.unusedSimpArgs false
set_option maxRecDepth 10000
set_option maxHeartbeats 4000000
namespace Go.Proofs.YtkfbeijmgggkmaaGreat
open Go.RowKit Go.Proofs
section
def mv (b:aC3):aC3×Bool:=if b.length < 4 then([],false) else if r0 (b.take (b.length - 4))=b then(b.take (b.length - 4),true) else([],false)
theorem amJ (b:aC3) (O:b.length<=1000000):Fn Tryz.prog 236 [bQ .u8 b] [] [] (.ci [.one (.d (.co .u8 (mv b).1)),.one (.d (.bool (mv b).2))]) []:=by
 unfold mv;refine aU [] Tryz.func236 ?_;refine⟨fun c=>?_,fun c=>?_⟩
 .have c:(b.length:Int) < 4:=gd c;rw[if_pos (show b.length < 4 by omega)];exact bg
 have c: ¬(b.length:Int) < 4:=mu c;rw[if_neg (show¬b.length < 4 by omega)];have q: -9223372036854775808<=(b.length:Int) - 4/\(b.length:Int) - 4<=9223372036854775807:=az2
 have cF:0<=(b.length:Int) - 4/\(b.length:Int) - 4<=(b.length:Nat):=az2
 have e:((b.length:Int) - 4).toNat=b.length - 4:=az2
 have ak:(b.take (b.length - 4)).length<=1000000:=aA2
 have aw:(r0 (b.take (b.length - 4))).length<=4294967296:=by
  unfold r0;rw[aq1,qJ];omega
 have bm:List.drop 0 (List.take ((b.length:Int) - 4).toNat b)=b.take (b.length - 4):=by rw[e,List.drop_zero]
 refine⟨q,cF,av (Fn.arg (Wp (b.take (b.length - 4)) ak) ⟨bm,trivial⟩) <| av (V6 (r0 (b.take (b.length - 4))) b aw ay4) ⟨fun d=>?_,fun d=>?_⟩⟩
 .have d: ¬r0 (b.take (b.length - 4))=b:=by simpa using d
  rw[if_neg d];exact bg
 .have d:r0 (b.take (b.length - 4))=b:=by simpa using d
  rw[if_pos d];exact⟨q,cF,av (Fn.arg (LG (b.take (b.length - 4)) ay4) ⟨bm,trivial⟩) bg⟩
theorem Bc {m:cn} {L:ee} {b:Nat} (cL:hV L b=some m):Fn Tryz.prog 238 [dr b] [(1003,.aG (.bx (eZ L)))] [] (ab m.n) [(1003,.aG (.bx (eZ L)))]:=by
 have:=A8 (alO m) cL rfl rfl
 rwa[Ib cL] at this
theorem Ww {m:cn} {L:ee} {b:Nat} (cL:hV L b=some m) (h:hh m) (at_ aX:Int) (au:0<=aX) (aF:m.lh at_ aX=true):Fn Tryz.prog 235 [dr b,ab at_,ab aX] [(1003,.aG (.bx (eZ L)))] [] (.ci [.one (.d (.co .u8 (p2 m.bK at_ aX.toNat))),dz 0]) [(1003,.aG (.bx (eZ L)))]:=by
 have:=A8 (amj m at_ aX au aF h.lB h.cU h.bK.wf) cL rfl rfl
 rwa[Ib cL] at this
def mw (m:cn) (k:Int):aC3:=p2 m.bK k 1
def iG (x:aC3):Nat×Nat×Nat:=((fz 4 (x,0)).2,(fz 4 (fz 4 (x,0)).1).2,(fz 4 (fz 4 (fz 4 (x,0)).1).1).2)
def nG (m:cn) (k:Int):aC3:=p2 m.bK (2+k*dv m.n) (dv m.n).toNat
def m7 (m:cn) (k:Int):aC3×Int:=match(mv (mw m k)).2 with
 |false=>([],0)
 |true=>match decide (((iG (mv (mw m k)).1).1:Int) < 1)||decide ((1073741824:Int) < ((iG (mv (mw m k)).1).1:Int))||decide (dv m.n*16 < ((iG (mv (mw m k)).1).2.1:Int)) with
  |true=>([],0)
  |false=>match decide (jx ((nG m k).take (iG (mv (mw m k)).1).2.1)=((iG (mv (mw m k)).1).2.2:Int)) with
   |false=>([],0)
   |true=>((nG m k).take (iG (mv (mw m k)).1).2.1,((iG (mv (mw m k)).1).1:Int))
theorem D2 {n:Int} (G:2<=n) (E:n<=4096):0<=dv n/\2+dv n+dv n<=n:=by unfold dv;omega
theorem amK {m:cn} (ah:hh m) (G:2<=m.n) (k:Int):(nG m k).length=16*(dv m.n).toNat:=H3 ah.bK.wf _ _
theorem amL {m:cn} (ah:hh m) (G:2<=m.n) (k:Int) (aa:k=0\/k=1) {s:Nat} {M:ee} (aj:hV M s=some m):Fn Tryz.prog 215 [dr s,ab k] [(1003,.aG (.bx (eZ M)))] [] (.ci [.one (.d (.co .u8 (m7 m k).1)),.one (.d (.int .i64 (m7 m k).2))]) [(1003,.aG (.bx (eZ M)))]:=by
 have kn:=ah.cU;have d1:m.lh k 1=true:=by simp only[cn.lh,vj,as5];omega
 obtain⟨a0,bZ⟩:=D2 G kn;unfold m7;refine aU [] Tryz.func215 ?_;refine av (Ww aj ah k 1 ay5 d1) ?_
 have bf:(mw m k).length<=1000000:=by
  have:=H3 ah.bK.wf k 1;unfold mw;omega
 refine av (amJ (mw m k) bf) <| dt ?_
 cases wd:(mv (mw m k)).2 with
 |false=>
  exact fb bg
 |true=>
  refine dt ?_
  have hx:(mv (mw m k)).1.length<=4294967296:=by
   unfold mv
   split
   .simp
   .split
    .show((mw m k).take _).length<=_;rw[aq9];omega
    .simp
  generalize(mv (mw m k)).1=x at hx⊢;refine av (HO x hx) ?_;refine av (ph (x,0) 4 (by unfold W;omega)) ?_;refine av (ph (fz 4 (x,0)).1 4 (by unfold W;omega)) ?_;refine av (ph (fz 4 (fz 4 (x,0)).1).1 4 (by unfold W;omega)) ⟨fun cI=>?_,fun cI=>?_⟩
  .have cI:decide (((iG x).1:Int) < 1)=true:=cI;rw[cI];exact bg
  have cI:decide (((iG x).1:Int) < 1)=false:=cI;rw[cI];refine⟨fun cE=>?_,fun cE=>?_⟩
  .have cE:decide ((1073741824:Int) < ((iG x).1:Int))=true:=cE;rw[cE];exact bg
  have cE:decide ((1073741824:Int) < ((iG x).1:Int))=false:=cE;rw[cE];refine av (Bc aj) <| av (N4 m.n ah.lB ah.cU) ⟨fun hN=>?_,fun hN=>?_⟩
  .have hN:decide (dv m.n*16 < ((iG x).2.1:Int))=true:=hN;rw[hN];exact bg
  have hN:decide (dv m.n*16 < ((iG x).2.1:Int))=false:=hN;rw[hN];have bV:=amK ah G k
  have mT:(iG x).2.1<=(nG m k).length:=by
   have:=mu hN;omega
  refine av (Bc aj) <| av (H' m.n ah.lB ah.cU) ?_;have cA: -9223372036854775808<=k*dv m.n/\k*dv m.n<=9223372036854775807:=by rcases aa with rfl |rfl <;>omega
  have cF: -9223372036854775808<=2+k*dv m.n/\2+k*dv m.n<=9223372036854775807:=by rcases aa with rfl |rfl <;>omega
  have pU:m.lh (2+k*dv m.n) (dv m.n)=true:=by
   simp only[cn.lh,vj,as5];rcases aa with rfl |rfl <;>omega
  refine⟨cA,cF,av (Bc aj) <| av (H' m.n ah.lB ah.cU) <| av (Ww aj ah (2+k*dv m.n) (dv m.n) a0 pU) ?_⟩;have dF:0<=((iG x).2.1:Int)/\((iG x).2.1:Int)<=((nG m k).length:Nat):=az2
  refine⟨dF,?_⟩;have c0:([List.drop 0 (List.take (((iG x).2.1:Nat):Int).toNat (nG m k))]:List aC3)=[(nG m k).take (iG x).2.1]:=rfl;refine av (Fn.arg (NO [(nG m k).take (iG x).2.1] ay6 (fun y aD=>by rw[ar5] at aD;rw[aD,aq9];omega)) ⟨c0,trivial⟩) ?_;have fQ:([(nG m k).take (iG x).2.1]:List aC3).flatten=(nG m k).take (iG x).2.1:=by simp
  rw[fQ];refine⟨fun tS=>?_,fun tS=>?_⟩
  .have tS:(!decide (jx ((nG m k).take (iG x).2.1)=((iG x).2.2:Int)))=true:=tS;have C9:decide (jx ((nG m k).take (iG x).2.1)=((iG x).2.2:Int))=false:=by simpa using tS
   rw[C9];exact bg
  .have tS:(!decide (jx ((nG m k).take (iG x).2.1)=((iG x).2.2:Int)))=false:=tS;have C9:decide (jx ((nG m k).take (iG x).2.1)=((iG x).2.2:Int))=true:=by simpa using tS
   rw[C9];refine⟨_,_,fun N=>acT e3 rfl rfl rfl rfl rfl rfl dF.1 dF.2 N,rfl,?_⟩;exact bg
def gz (m:cn):Nat->Int×aC3×Int
 |0=>(-1,[],0)
 |j+1=>if(gz m j).2.2 < (m7 m (j:Nat)).2 then((j:Nat),(m7 m (j:Nat)).1,(m7 m (j:Nat)).2) else gz m j
abbrev amM (m:cn) (s j:Nat):aY:=[(0,dr s),(5,ab (gz m j).1),(6,ab (gz m j).2.2),(7,bQ .u8 (gz m j).2.1),(11,ab (j:Nat))]
theorem N7 {m:cn} (ah:hh m) (G:2<=m.n) {s:Nat} {M:ee} (aj:hV M s=some m):Fn Tryz.prog 181 [dr s] [(1003,.aG (.bx (eZ M)))] [] (.ci [.one (.d (.int .i64 (gz m 2).1)),.one (.d (.co .u8 (gz m 2).2.1)),.one (.d (.int .i64 (gz m 2).2.2))]) [(1003,.aG (.bx (eZ M)))]:=by
 refine aU [] Tryz.func181 ?_;refine d2 [] (X:=Nat) (amM m s) (fun _=>[(1003,.aG (.bx (eZ M)))]) (fun j=>j<=2) (fun j=>2 - j) 0 ay5 ?_ ?_
 .exact ac.sub aC aC
 intro j V;refine⟨fun h=>?_,fun h=>?_⟩
 .have h:(j:Int) < 2:=gd h;refine av (amL ah G (j:Nat) ay4 aj) ⟨fun c=>?_,fun c=>?_⟩
  .have c:(gz m j).2.2 < (m7 m (j:Nat)).2:=gd c;have e:gz m (j+1)=(((j:Nat):Int),(m7 m (j:Nat)).1,(m7 m (j:Nat)).2):=if_pos c;refine⟨ay4,j+1,ay4,ay4,ac.sub ⟨rfl,?_,?_,?_,rfl,trivial⟩ aC⟩
   .rw[e];rfl
   .rw[e];rfl
   .rw[e];rfl
  .have c: ¬(gz m j).2.2 < (m7 m (j:Nat)).2:=mu c;have e:gz m (j+1)=gz m j:=if_neg c;refine⟨ay4,j+1,ay4,ay4,ac.sub ⟨rfl,?_,?_,?_,rfl,trivial⟩ aC⟩
   .rw[e];rfl
   .rw[e];rfl
   .rw[e];rfl
 .have h: ¬(j:Int) < 2:=mu h;have ft:j=2:=az2
  subst ft;exact bg
end
section
abbrev je:=Option (Int×aC3)
inductive yW (L:List (Nat×bc)) (bC:Nat):Z .fn->je->Prop
 |f:yW L bC (qO bC) none
 |w {a b:Nat} {at_:Int} {x:aC3}:eu L a=some (ho (.int .i64 at_))->eu L b=some (ho (.co .u8 x))->yW L bC (oF bC a b) (some (at_,x))
def p4 (L:List (Nat×bc)) (bC:Nat):List (Z .fn)->List je->Prop
 | [],[]=>True
 |f::l,t::m=>yW L bC f t/\p4 L bC l m
 |_,_=>False
theorem Wx {a:Nat} {o:bc}: ∀{L:List (Nat×bc)},eu L a=some o->a∈L.map (·.1)
 | [],h=>by cases h
 |(b,q)::L,h=>by
  unfold eu at h
  split at h
  .rename_i e;rw[ar4];exact aq5.2 (.inl e.symm)
  .rw[ar4];exact aq2 _ (Wx h)
theorem D3 {a b:Nat} {o q:bc} {L:List (Nat×bc)} (h:eu L a=some o) (hn:b∉L.map (·.1)):eu ((b,q)::L) a=some o:=by
 have a7: ¬b=a:=fun e=>hn (e▸Wx h)
 unfold eu;rw[if_neg a7];exact h
theorem yW.qv {L:List (Nat×bc)} {bC b:Nat} {q:bc} (hn:b∉L.map (·.1)) {f:Z .fn} {t:je} (h:yW L bC f t):yW ((b,q)::L) bC f t:=by
 cases h with
 |f=>exact .f
 |w E G=>exact .w (D3 E hn) (D3 G hn)
theorem p4.qv {L:List (Nat×bc)} {bC b:Nat} {q:bc} (hn:b∉L.map (·.1)): ∀{l:List (Z .fn)} {m:List je},p4 L bC l m->p4 ((b,q)::L) bC l m
 | [],[],_=>trivial
 |f::l,t::m,h=>⟨h.1.qv hn,p4.qv hn h.2⟩
 | [],_::_,h=>h.elim
 |_::_,[],h=>h.elim
theorem p4.Bd {L:List (Nat×bc)} {bC:Nat} {f:Z .fn} {t:je} (G:yW L bC f t): ∀{l:List (Z .fn)} {m:List je},p4 L bC l m->p4 L bC (l++[f]) (m++[t])
 | [],[],_=>⟨G,trivial⟩
 |f::l,t::m,h=>⟨h.1,p4.Bd G h.2⟩
 | [],_::_,h=>h.elim
 |_::_,[],h=>h.elim
theorem p4.len {L:List (Nat×bc)} {bC:Nat}: ∀{l:List (Z .fn)} {m:List je},p4 L bC l m->l.length=m.length
 | [],[],_=>rfl
 |f::l,t::m,h=>by rw[at8,at8,p4.len h.2]
 | [],_::_,h=>h.elim
 |_::_,[],h=>h.elim
theorem yX (x:D):(ho x).o3:=fun I F w p h=>(h.1 _).2 rfl
structure qR (L:List (Nat×bc)) (bC s:Nat) (eV:List (Z .fn)) (gn:List je):Prop where
 an: ∀p∈L,p.2.o3
 ai:eu L bC=some (ho (.aM (some s)))
 ax:p4 L bC eV gn
theorem qR.write {L:List (Nat×bc)} {bC s a b:Nat} {eV:List (Z .fn)} {gn:List je} {at_:Int} {x:aC3} (h:qR L bC s eV gn) (hn:(((b,ho (.co .u8 x))::(a,ho (.int .i64 at_))::L).map (·.1)).Nodup):
  qR ((b,ho (.co .u8 x))::(a,ho (.int .i64 at_))::L) bC s (eV++[oF bC a b]) (gn++[some (at_,x)]):=by
 rw[ar4,as8,ar4,as8] at hn;obtain⟨cU,dU,ls⟩:=hn;rw[aq5,not_or] at cU
 have O:b∉((a,ho (.int .i64 at_))::L).map (·.1):=by
  rw[ar4,aq5,not_or];exact cU
 refine⟨fun p ai=>?_,D3 (D3 h.ai dU) O,p4.Bd (.w (D3 ?_ O) ?_) ((h.ax.qv dU).qv O)⟩
 .rcases aq5.1 ai with rfl |ai
  .exact yX _
  .rcases aq5.1 ai with rfl |ai
   .exact yX _
   .exact h.an p ai
 .unfold eu;rw[if_pos rfl]
 .unfold eu;rw[if_pos rfl]
theorem qR.p1 {L:List (Nat×bc)} {bC s:Nat} {eV:List (Z .fn)} {gn:List je} (h:qR L bC s eV gn):qR L bC s (eV++[qO bC]) (gn++[none]):=⟨h.an,h.ai,h.ax.Bd .f⟩
abbrev t7 (e:Int) (eV:List (Z .fn)) (L:List (Nat×bc)):az:=[(1001,.cells [.d (.co .fn eV),.d (.int .i64 e)]),(1005,.aG (.bx L))]
def r3 (s:Nat) (gn:List je) (e:Int):bc where
 bo:=fun I F w p=> ∃(bC:Nat) (eV:List (Z .fn)) (L:List (Nat×bc)),qR L bC s eV gn/\jn 1001 (t7 e eV L) I F w p
 cp:=fun I F w I' w' p ⟨bC,eV,L,aa,h⟩ U bh aN=>⟨bC,eV,L,aa,(bc.i9 1001 (t7 e eV L)).cp I F w I' w' p h U bh aN⟩
def lC (b:aC3) (j:Nat):aC3:=laid (List.replicate 16 0) 0 16 (b.drop (16*j))
def li (b:aC3) (k kV:Int):Nat->List je
 |0=>[]
 |j+1=>li b k kV j++[some (2+k*kV+(j:Nat),lC b j)]
theorem yY (b:aC3) (k kV:Int): ∀j,(li b k kV j).length=j
 |0=>rfl
 |j+1=>by rw[li,aq1,yY];rfl
def hi (b:aC3):Nat:=(b.length+15)/16
def p5 (b:aC3) (n:Int):aC3:=r0 (eL 4 [(n+1).toNat,b.length,(jx b).toNat])
def s3 (b:aC3) (k kV n:Int):List je:=li b k kV (hi b)++[none]++[some (k,p5 b n)]++[none]
abbrev Wy (b:aC3) (bC:Nat) (n k:Int) (j:Nat):aY:=[(1,bQ .u8 b),(2,dr bC),(8,ab n),(9,ab k),(10,aq 10),(11,.c (.one (.cY 242 [.d (.aM (some bC))]))),(12,.c (.one (.cY 244 [.p 10 0,.d (.aM (some bC))]))),(13,ab (16*(j:Nat)))]
abbrev Wz (M:ee) (d:Nat) (eV:List (Z .fn)) (L:List (Nat×bc)):az:=[(10,.cells [.ptr 37 0]),(37,.cells [.own d,.d (.int .i64 0)]),(d,.row 128 .fn eV),(1005,.aG (.bx L)),(1003,.aG (.bx (eZ M)))]
theorem amN {m:cn} (ah:hh m) (G:2<=m.n) {s:Nat} {M:ee} (aj:hV M s=some m) (b:aC3) (O:(b.length:Int)<=dv m.n*16) (Ic:(gz m 2).2.2 < 1073741824) (Id:0<=(gz m 2).2.2) (jN: -1<=(gz m 2).1/\(gz m 2).1<=1):
  Fn Tryz.prog 217 [dr s,bQ .u8 b] [(1003,.aG (.bx (eZ M)))] [2001] (.ci [.one (.ptr 2001 0),dz 0]) [(1003,.aG (.bx (eZ M))),(2001,.aG (r3 s (s3 b (((gz m 2).1+1) % 2) (dv m.n) (gz m 2).2.2) 0))]:=by
 obtain⟨a0,bZ⟩:=D2 G ah.cU;have kn:=ah.cU;have fR:b.length<=1000000:=az2
 refine aU [8,18,20] Tryz.func217 ?_;refine⟨rfl,av (N7 ah G aj) ?_⟩;generalize gz m 2=bb at Ic Id jN⊢;obtain⟨w5,aqP,n⟩:=bb;simp only at Ic Id jN⊢;refine av (Bc aj) <| av (N4 m.n ah.lB ah.cU) ⟨fun c=>?_,fun _=>?_⟩
 .have c:dv m.n*16 < (b.length:Int):=gd c;omega
 refine⟨fun c=>absurd (gd c) ay4,fun _=>?_⟩;have cA: -9223372036854775808<=w5+1/\w5+1<=9223372036854775807:=az2
 have cF:0<=w5+1/\(0:Int) < 2:=az2
 have dF: -9223372036854775808<=(w5+1) % 2/\(w5+1) % 2<=9223372036854775807:=az2
 refine⟨cA,cF,dF,?_⟩;have aa:(w5+1) % 2=0\/(w5+1) % 2=1:=az2
 generalize(w5+1) % 2=k at aa⊢;refine⟨rfl,rfl,bw.le (ac.ro 1005 rfl) <| bw.le (ac.wb 37 0 3006 128 .fn rfl rfl rfl) <| bw.e4 (di.box 2 2 1005 rfl rfl ay5 rfl) fun bC=>bu [] (br) ?_⟩;refine d2 [12,15] (X:=Nat×List (Z .fn)×List (Nat×bc)) (fun x=>Wy b bC n k x.1) (fun x=>Wz M 3006 x.2.1 x.2.2) (fun x=>x.1<=hi b/\qR x.2.2 bC s x.2.1 (li b k (dv m.n) x.1)) (fun x=>hi b - x.1) (0,[],[(bC,ho (.aM (some s)))]) ⟨aq8 _,fun p ai=>(by rw[ar5] at ai;rw[ai];exact yX _),by unfold eu;rw[if_pos rfl],trivial⟩ ?_ ?_
 .exact ac.sub aC aC
 rintro⟨j,eV,L⟩ ⟨V,cV⟩;have V:j<=hi b:=V;have cV:qR L bC s eV (li b k (dv m.n) j):=cV;have bV:=cV.ax.len;rw[yY] at bV;refine⟨fun J=>?_,fun J=>?_⟩
 .have J:(16*(j:Nat):Int) < (b.length:Nat):=gd J;have eO:j < hi b:=by unfold hi;omega
  refine⟨⟨rfl,ay5,ay5⟩,rfl,?_⟩;have xU:0<=(16*(j:Nat):Int)/\(16*(j:Nat):Int)<=(b.length:Nat):=az2
  refine⟨xU,ay5,bw.le (ac.d0 46 rfl) <| bw.iL e3 ay7 ⟨_,_,fun N=>CA (q:=1005) rfl Tryz.underlying198 rfl rfl rfl cV.ai N,rfl,?_⟩⟩;refine lP ((Bc aj).x) fun _=>?_
  refine lP ((H' m.n ah.lB ah.cU).x) fun _=>?_
  have wn: -9223372036854775808<=k*dv m.n/\k*dv m.n<=9223372036854775807:=by rcases aa with rfl |rfl <;>omega
  have xV: -9223372036854775808<=2+k*dv m.n/\2+k*dv m.n<=9223372036854775807:=by rcases aa with rfl |rfl <;>omega
  have Kp:0<=(16*(j:Nat):Int)/\(0:Int) < 16:=az2
  have amO: -9223372036854775808<=(16*(j:Nat):Int)/16/\(16*(j:Nat):Int)/16<=9223372036854775807:=az2
  have D4:(16*(j:Nat):Int)/16=(j:Nat):=az2
  have amP: -9223372036854775808<=2+k*dv m.n+(16*(j:Nat):Int)/16/\2+k*dv m.n+(16*(j:Nat):Int)/16<=9223372036854775807:=by rcases aa with rfl |rfl <;>omega
  refine⟨wn,xV,Kp,amO,amP,lP (cx.aV [(1001,10),(1002,37),(1006,3006),(2006,4006)] (Wo (2+k*dv m.n+(16*(j:Nat):Int)/16) _ bC 0 eV L ay4)) fun g=>bw.e4 (di.Cx 1005 ?_ rfl) fun dC=>?_⟩
  .intro p ai;rcases aq5.1 ai with rfl |ai
   .exact yX _
   .rcases aq5.1 ai with rfl |ai
    .exact yX _
    .exact cV.an p ai
  have j9:laid (List.replicate (Int.toNat 16) 0) 0 (List.replicate (Int.toNat 16) (0:UInt8)).length (List.drop (16*(j:Nat):Int).toNat (List.take b.length b))=lC b j:=by
   unfold lC;rw[ar9,show(16*(j:Nat):Int).toNat=16*j by omega];rfl
  have amQ:qR ((g.2,ho (.co .u8 (lC b j)))::(g.1,ho (.int .i64 (2+k*dv m.n+(16*(j:Nat):Int)/16)))::L) bC s (eV++[oF bC g.1 g.2]) (li b k (dv m.n) (j+1)):=by
   have bG:=cV.write (a:=g.1) (b:=g.2) (at_:=2+k*dv m.n+(16*(j:Nat):Int)/16) (x:=lC b j) (by rw[<-j9];exact dC.down);have amR:(some (2+k*dv m.n+(16*(j:Nat):Int)/16,lC b j):je)=some (2+k*dv m.n+(j:Nat),lC b j):=by rw[D4]
   rw[amR] at bG;exact bG
  have amS: -9223372036854775808<=(16*(j:Nat):Int)+16/\(16*(j:Nat):Int)+16<=9223372036854775807:=az2
  refine bu [] (br) ⟨amS,?_⟩;refine⟨(j+1,eV++[oF bC g.1 g.2],(g.2,ho (.co .u8 (lC b j)))::(g.1,ho (.int .i64 (2+k*dv m.n+(16*(j:Nat):Int)/16)))::L),⟨eO,amQ⟩,by show hi b - (j+1) < hi b - j;omega,ac.trans (ac.sub (K':=Wy b bC n k (j+1)) (B':=Wz M 4006 (eV++[oF bC g.1 g.2]) ((g.2,ho (.co .u8 (lC b j)))::(g.1,ho (.int .i64 (2+k*dv m.n+(16*(j:Nat):Int)/16)))::L)) ⟨rfl,rfl,rfl,rfl,rfl,rfl,rfl,?_,trivial⟩ ⟨rfl,rfl,rfl,?_,rfl,trivial⟩) (ac.aV 4006 3006 rfl)⟩
  .show(16*(j:Nat):Int)+16=16*((j+1:Nat):Int);omega
  .rw[<-j9];rfl
 .have J: ¬(16*(j:Nat):Int) < (b.length:Nat):=mu J;have eO:j=hi b:=by unfold hi at V⊢;omega
  subst eO;have aw:=NN b;have lH:hi b<=100000:=by unfold hi;omega
  have r1: -9223372036854775808<=n+1/\n+1<=9223372036854775807:=az2
  refine⟨r1,?_⟩;refine av (NO [b] ay6 (fun y aD=>by rw[ar5] at aD;rw[aD];omega)) ?_;have ae:([b]:List aC3).flatten=b:=by simp
  rw[ae]
  have ao:([n+1,((b.length:Nat):Int),jx b]:List Int)=sR [(n+1).toNat,b.length,(jx b).toNat]:=by
   show _=[(((n+1).toNat:Nat):Int),((b.length:Nat):Int),(((jx b).toNat:Nat):Int)];rw[show(((n+1).toNat:Nat):Int)=n+1 by omega,show(((jx b).toNat:Nat):Int)=jx b by omega]
  refine⟨_,_,_,_,Fn.arg (Fn.aV [(1002,5002)] (HN 4 [(n+1).toNat,b.length,(jx b).toNat] (by unfold W;omega) (fun x hx=>by
   simp only[aq5,List.not_mem_nil,or_false] at hx;rcases hx with rfl |rfl |rfl <;>omega) ay6)) ⟨rfl,rfl,ao,trivial⟩,trivial,rfl,?_⟩
  have gX:eV.length+1<=4294967296:=az2
  refine⟨gX,rfl,rfl,bw.le (ac.d0 5002 rfl) <| bw.iL e3 ay7 ?_⟩;have amT:(eL 4 [(n+1).toNat,b.length,(jx b).toNat]).length<=1000000:=by rw[nB];simp
  refine lP ((Wp (eL 4 [(n+1).toNat,b.length,(jx b).toNat]) amT).x) fun _=>?_
  refine lP (cx.aV [(1001,10),(1002,37),(1006,83),(2006,4006)] (Wo k (p5 b n) bC 0 (eV++[qO bC]) L (by rw[aq1];simp;omega))) fun g=>?_
  have hm:(eV++[qO bC]++[oF bC g.1 g.2]).length+1<=4294967296:=az8
  refine⟨hm,rfl,rfl,bw.e4 (di.Cx 1005 ?_ rfl) fun dC=>?_⟩
  .intro p ai;rcases aq5.1 ai with rfl |ai
   .exact yX _
   .rcases aq5.1 ai with rfl |ai
    .exact yX _
    .exact cV.an p ai
  have amU:=(cV.p1.write (a:=g.1) (b:=g.2) (at_:=k) (x:=p5 b n) dC.down).p1;exact bu [] (ac.d0 98 rfl) ⟨_,_,_,(ac.aV 37 2001 rfl).trans (ac.close 2001 [(2001,.cells [.d (.co .fn (eV++[qO bC]++[oF bC g.1 g.2]++[qO bC])),.d (.int .i64 0)]),(1005,.aG (.bx ((g.2,ho (.co .u8 (p5 b n)))::(g.1,ho (.int .i64 k))::L)))] (o:=r3 s (s3 b k (dv m.n) n) 0) aC rfl fun I F w p h=>⟨bC,_,_,amU,jn.aV [(2001,1001)] h⟩),rfl,aC,aC,rfl⟩
end
section
theorem WA {f:FuncId} {args:List aP} {s:Nat} {gn N8:List je} {e b7:Int} {aJ aO:az} {res:aP} (J:jA Tryz.prog f=true)
  (h: ∀(bC:Nat) (eV:List (Z .fn)) (L:List (Nat×bc)),qR L bC s eV gn-> ∃(Be:List (Z .fn)),qR L bC s Be N8/\Fn Tryz.prog f args (t7 e eV L++aJ) [] res (t7 b7 Be L++aO))
  (E: ∀(eV:List (Z .fn)) (L:List (Nat×bc)),nZ 1001 [1005] args (t7 e eV L) aJ [] []=true) (G: ∀(eV:List (Z .fn)) (L:List (Nat×bc)),n0 1001 [1005] res (t7 b7 eV L) aO=true):
  Fn Tryz.prog f args ((1001,.aG (r3 s gn e))::aJ) [] res ((1001,.aG (r3 s N8 b7))::aO):=by
 refine Fn.FP (Y:={y:Nat×List (Z .fn)×List (Nat×bc)//qR y.2.2 y.1 s y.2.1 gn}) (su:=fun y=>bc.i9 1001 (t7 e y.1.2.1 y.1.2.2)) J (fun I F w p ⟨bC,eV,L,aa,aZ⟩=>⟨⟨(bC,eV,L),aa⟩,aZ⟩) fun⟨⟨bC,eV,L⟩,aa⟩=>?_
 obtain⟨Be,amV,hf⟩:=h bC eV L aa;exact(cx.close (bp:=t7 e eV L) (dG:=fun _:Unit=>t7 b7 Be L) (aO:=fun _=>aO) (o:=bc.i9 1001 (t7 e eV L)) (o':=fun _=>r3 s N8 b7) [1005] hf.x (fun _ _ _ _ h=>h) (fun _ I F w p aZ=>⟨bC,Be,L,amV,aZ⟩) (E eV L) (fun _=>G Be L)).fn
theorem amW (s:Nat) (gn:List je) (e:Int):Fn Tryz.prog 218 [aq 1001] [(1001,.aG (r3 s gn e))] [] (ab (gn.length:Nat)) [(1001,.aG (r3 s gn e))]:=by
 refine WA (aJ:=[]) (aO:=[]) ay7 (fun bC eV L aa=>⟨eV,aa,?_⟩) (fun _ _=>rfl) fun _ _=>rfl
 refine aU [] Tryz.func218 ?_;exact eG br rfl (congrArg (fun n:Nat=>(n:Int)) aa.ax.len)
def vz (m:cn):je->cn×Int
 |none=>(m.p1,0)
 |some (a,x)=>m.write a x
theorem Ie {α:Type} (f:α) (l:List α):List.drop 1 (List.take (f::l).length (f::l))=l:=by rw[ar9];rfl
theorem amX {s:Nat} {st:je} {rest:List je} {M:ee} {m:cn} (aj:hV M s=some m) (ah:hh m) (ak:m.fl.length<=1073741824) (hx: ∀a x,st=some (a,x)->x.length<=1073741824) (U:(vz m st).2=0):
  Fn Tryz.prog 219 [aq 1001] [(1001,.aG (r3 s (st::rest) 0)),(1003,.aG (.bx (eZ M)))] [] (.ci [.one (.d (.bool (decide ((rest.length:Int)=0)))),dz 0]) [(1001,.aG (r3 s rest 0)),(1003,.aG (.bx (eZ (ip M s (vz m st).1))))]:=by
 refine WA (aJ:=[(1003,.aG (.bx (eZ M)))]) (aO:=[(1003,.aG (.bx (eZ (ip M s (vz m st).1))))]) ay7 (fun bC eV L aa=>?_) (fun _ _=>rfl) fun _ _=>rfl
 match eV,aa with
 | [],aa=>exact aa.ax.elim
 |f::l,aa=>
  refine⟨l,⟨aa.an,aa.ai,aa.ax.2⟩,?_⟩;have bV:=aa.ax.2.len;have en:=aa.ax.1
  cases en with
  |f=>
   refine aU [] Tryz.func219 ?_;refine⟨fun c=>?_,fun _=>?_⟩
   .have c:(((qO bC::l).length:Nat):Int)=0:=gd c;simp at c;omega
   refine⟨ay5,qO bC,rfl,av (amv aa.ai aj) ?_⟩;have q:0<=(1:Int)/\(1:Int)<=(((qO bC::l).length:Nat):Int):=by rw[at8];omega
   refine⟨q,dt <| fb ⟨rfl,_,_,_,br,rfl,⟨?_,rfl,trivial⟩,⟨?_,rfl,rfl,trivial⟩,rfl⟩⟩
   .show decide (((List.drop 1 (List.take (qO bC::l).length (qO bC::l))).length:Int)=0)=_;rw[Ie,bV]
   .show some (ba.cells [.d (.co .fn (List.drop 1 (List.take (qO bC::l).length (qO bC::l)))),.d (.int .i64 0)])=_;rw[Ie]
  | @w a b at_ x aW bG=>
   have U:(m.write at_ x).2=0:=U;have hw:=amw aa.ai aW bG aj ah (hx at_ x rfl) ak;rw[U] at hw;refine aU [] Tryz.func219 ?_;refine⟨fun c=>?_,fun _=>?_⟩
   .have c:(((oF bC a b::l).length:Nat):Int)=0:=gd c;simp at c;omega
   refine⟨ay5,oF bC a b,rfl,av hw ?_⟩;have q:0<=(1:Int)/\(1:Int)<=(((oF bC a b::l).length:Nat):Int):=by rw[at8];omega
   refine⟨q,dt <| fb ⟨rfl,_,_,_,br,rfl,⟨?_,rfl,trivial⟩,⟨?_,rfl,rfl,trivial⟩,rfl⟩⟩
   .show decide (((List.drop 1 (List.take (oF bC a b::l).length (oF bC a b::l))).length:Int)=0)=_;rw[Ie,bV]
   .show some (ba.cells [.d (.co .fn (List.drop 1 (List.take (oF bC a b::l).length (oF bC a b::l)))),.d (.int .i64 0)])=_;rw[Ie]
end
section
def s4 (n:Int):je->Prop
 |none=>True
 |some (a,x)=>0<=a/\a < n/\x.length=16
theorem amY {n:Int} {s:io} (h:pm n s):(s.length:Int)<=max n 0:=by
 have:=H9 n.toNat (rY s) h.hE fun k aa=>by have:=h.rg k aa;omega
 rw[show(rY s).length=s.length from ar1 _] at this;omega
theorem WB {k:Int} {x:Z g5}: ∀{s:io},(bY s (k:Z al)).isSome=true->(sX s k x).length=s.length
 | [],h=>by cases h
 |p::s,h=>by
  rw[A9]
  cases e:m6 k p with
  |true=>rfl
  |false=>
   have G:(bY s (k:Z al)).isSome=true:=by
    have h:(match m6 k p with |true=>some p.2 |false=>bY s (k:Z al)).isSome=true:=h;rw[e] at h;exact h
   simp only[at8];rw[WB G]
theorem WC {k:Int} {x:Z g5}: ∀{s:io},(bY s (k:Z al)).isSome=false->(sX s k x).length=s.length+1
 | [],_=>rfl
 |p::s,h=>by
  rw[A9];have h:(match m6 k p with |true=>some p.2 |false=>bY s (k:Z al)).isSome=false:=h
  cases e:m6 k p with
  |true=>rw[e] at h;cases h
  |false=>
   rw[e] at h;simp only[at8];rw[WC h]
theorem WD {m:cn} (ah:hh m) (ax:m.n<=m.R) {a:Int} {x:aC3} (h:s4 m.n (some (a,x))):m.write a x=(m.H6 a x,0):=by
 obtain⟨E,G,af⟩:=h;have ae:vv x=false:=by unfold vv;rw[af];rfl
 have ao:m.lh a (x.length/16:Nat)=true:=by
  rw[af];simp only[cn.lh,vj,as5];omega
 have aa:(pm m.n (yR a x m.bK 1)):=N1 E ah.bK 1 ay4 ay4
 have bV:((yR a x m.bK 1).length:Nat)=m.bK.length+lX m.bK a 1:=by
  show(sX m.bK (a+(0:Nat)) (sW x 0)).length=m.bK.length+(match(bY m.bK (a+(0:Nat):Int)).isSome with |true=>0 |false=>0+1)
  cases e:(bY m.bK (a+(0:Nat):Int)).isSome with
  |true=>exact WB e
  |false=>exact WC e
 have bm:m.rZ a (x.length/16)=false:=by
  rw[af];unfold cn.rZ;rw[Bool.and_eq_false_iff];left;refine at0 fun bt=>?_
  have bG:=amY aa;have:=ah.lB;have bt:m.R < ((m.bK.length+lX m.bK a 1:Nat):Int):=bt;rw[<-bV] at bt;omega
 unfold cn.write;rw[ae];simp only;rw[ao];simp only;rw[bm]
def nH (m:cn) (l:List je):cn:=l.foldl (fun m st=>(vz m st).1) m
theorem Bf (m:cn) (l:List je) (st:je):nH m (l++[st])=(vz (nH m l) st).1:=by
 unfold nH;rw[ax5];rfl
structure N9 (m gw:cn) (i:Nat):Prop where
 ok:hh gw
 n:gw.n=m.n
 R:gw.R=m.R
 ia:gw.fl.length<=m.fl.length+i
theorem WE {m:cn} (ah:hh m) (ax:m.n<=m.R) {st:je} (h:s4 m.n st):(vz m st).2=0/\N9 m (vz m st).1 1:=by
 match st,h with
 |none,_=>exact⟨rfl,ah.p1,rfl,rfl,aq8 _⟩
 |some (a,x),h=>
  have e:=WD ah ax h;have hw:=ah.write a x;show(m.write a x).2=0/\N9 m (m.write a x).1 1;rw[e] at hw⊢;refine⟨rfl,hw,rfl,rfl,?_⟩;show(w4 a x m.fl (x.length/16)).length<=_;rw[NT,h.2.2];exact aq0 _
theorem D5 {m:cn} (ah:hh m) (ax:m.n<=m.R): ∀(i:Nat) (l:List je),(∀st∈l,s4 m.n st)->i<=l.length->N9 m (nH m (l.take i)) i
 |0,l,_,_=>⟨ah,rfl,rfl,aq0 _⟩
 |i+1,l,h,aF=>by
  have bq:=D5 ah ax i l h ay4;rw[at5 aF,Bf];have G:=(WE bq.ok (by rw[bq.n,bq.R];exact ax) (st:=l[i]) (by rw[bq.n];exact h _ (as3 aF))).2;exact⟨G.ok,G.n.trans bq.n,G.R.trans bq.R,by have:=G.ia;have:=bq.ia;omega⟩
theorem WF {a:Nat} {m1 m2:cn}: ∀L:ee,ip (ip L a m1) a m2=ip L a m2
 | []=>rfl
 |p::L=>by
  show ip (if p.1=a then(p.1,m1)::L else p::ip L a m1) a m2=if p.1=a then(p.1,m2)::L else p::ip L a m2
  by_cases e:p.1=a
  .rw[if_pos e,if_pos e];show(if p.1=a then(p.1,m2)::L else _)=_;rw[if_pos e]
  .rw[if_neg e,if_neg e];show(if p.1=a then _ else p::ip (ip L a m1) a m2)=_;rw[if_neg e,WF]
theorem WG {a:Nat} {m gw:cn}: ∀{L:ee},hV L a=some m->hV (ip L a gw) a=some gw
 | [],h=>by cases h
 |p::L,h=>by
  rw[t6] at h;show hV (if p.1=a then(p.1,gw)::L else p::ip L a gw) a=_
  by_cases e:p.1=a
  .rw[if_pos e,t6,if_pos e]
  .rw[if_neg e] at h⊢;rw[t6,if_neg e];exact WG h
theorem amZ (b:aC3) (j:Nat):(lC b j).length=16:=by
 unfold lC laid;simp only[aq1,aq9,au9,ar7];omega
theorem N' (b:aC3) (n:Int):(p5 b n).length=16:=by
 unfold p5 r0;rw[aq1,qJ,nB];rfl
theorem WH {b:aC3} {k kV:Int} {st:je}: ∀{j:Nat},st∈li b k kV j-> ∃i:Nat,i < j/\st=some (2+k*kV+(i:Nat),lC b i)
 |0,h=>by cases h
 |j+1,h=>by
  rw[li,as1,ar5] at h;rcases h with h |h
  .obtain⟨i,E,G⟩:=WH h;exact⟨i,ay4,G⟩
  .exact⟨j,ay4,h⟩
theorem WI {m:cn} (ah:hh m) (G:2<=m.n) {b:aC3} (O:(b.length:Int)<=dv m.n*16) {k:Int} (aa:k=0\/k=1) (n:Int): ∀st∈s3 b k (dv m.n) n,s4 m.n st:=by
 obtain⟨a0,bZ⟩:=D2 G ah.cU;intro st en;unfold s3 at en;simp only[as1,ar5] at en;rcases en with((h |h) |h) |h
 .obtain⟨i,E,rfl⟩:=WH h;have:(i:Int) < dv m.n:=by unfold hi at E;omega
  refine⟨?_,?_,amZ b i⟩
  .rcases aa with rfl |rfl <;>omega
  .rcases aa with rfl |rfl <;>omega
 .rw[h];trivial
 .rw[h];exact⟨ay4,ay4,N' b n⟩
 .rw[h];trivial
theorem am0 (b:aC3) (k kV n:Int):(s3 b k kV n).length=hi b+3:=by
 unfold s3;simp[yY]
abbrev am1 (N i:Nat):aY:=[(5,aq 3001),(6,ab 0),(17,ab (N:Nat)),(18,ab (i:Nat))]
abbrev am2 (s:Nat) (gn:List je) (M:ee):az:=[(3001,.aG (r3 s gn 0)),(1003,.aG (.bx (eZ M)))]
theorem am3 {m:cn} (ah:hh m) (ax:m.n<=m.R) {s:Nat} {M:ee} (aj:hV M s=some m) {gn:List je} (aw: ∀st∈gn,s4 m.n st) (ak:m.fl.length+gn.length<=1000000) {i:Nat} (aF:i < gn.length):
  Fn Tryz.prog 219 [aq 1001] [(1001,.aG (r3 s (gn.drop i) 0)),(1003,.aG (.bx (eZ (ip M s (nH m (gn.take i))))))] [] (.ci [.one (.d (.bool (decide (((gn.drop (i+1)).length:Int)=0)))),dz 0])
   [(1001,.aG (r3 s (gn.drop (i+1)) 0)),(1003,.aG (.bx (eZ (ip M s (nH m (gn.take (i+1)))))))]:=by
 have E:=D5 ah ax i gn aw ay4;have en:=aw _ (as3 aF)
 have G:=amX (s:=s) (st:=gn[i]) (rest:=gn.drop (i+1)) (M:=ip M s (nH m (gn.take i))) (WG aj) E.ok (by have:=E.ia;omega) (fun a x e=>by
  rw[e] at en;have:=en.2.2;omega) (WE E.ok (by rw[E.n,E.R];exact ax) (by rw[E.n];exact en)).1
 rw[WF,<-Bf,<-at5 aF,<-av6 aF] at G;exact G
theorem am4 {m:cn} (ah:hh m) (G:2<=m.n) (ax:m.n<=m.R) (ak:m.fl.length<=10000) {s:Nat} {M:ee} (aj:hV M s=some m) (b:aC3) (O:(b.length:Int)<=dv m.n*16) (Ic:(gz m 2).2.2 < 1073741824) (Id:0<=(gz m 2).2.2) (jN: -1<=(gz m 2).1/\(gz m 2).1<=1):
  Fn Tryz.prog 184 [dr s,bQ .u8 b] [(1003,.aG (.bx (eZ M)))] [] (ab 0) [(1003,.aG (.bx (eZ (ip M s (nH m (s3 b (((gz m 2).1+1) % 2) (dv m.n) (gz m 2).2.2))))))]:=by
 have zv:=amN ah G aj b O Ic Id jN;have bv:=WI ah G O (k:=((gz m 2).1+1) % 2) ay4 (gz m 2).2.2;have hB:=am0 b (((gz m 2).1+1) % 2) (dv m.n) (gz m 2).2.2;obtain⟨a0,bZ⟩:=D2 G ah.cU;have kn:=ah.cU;have lH:hi b<=100000:=by unfold hi;omega
 generalize s3 b (((gz m 2).1+1) % 2) (dv m.n) (gz m 2).2.2=gn at zv bv hB⊢;refine aU [] Tryz.func184 ?_;refine av (Fn.aV [(2001,3001)] zv) <| dt <| av (Fn.aV [(1001,3001)] (amW s gn 0)) <| d2 [] (X:=Nat) (fun i=>am1 gn.length i) (fun i=>am2 s (gn.drop i) (ip M s (nH m (gn.take i)))) (fun i=>i<=gn.length) (fun i=>gn.length - i) 0 (aq8 _) ?_ ?_
 .refine ac.sub aC ⟨rfl,?_,trivial⟩;show _=some (ba.aG (.bx (eZ (ip M s m))));rw[Ib aj];rfl
 intro i aF;refine⟨fun h=>?_,fun h=>?_⟩
 .have h:decide ((i:Int) < (gn.length:Nat))=true:=h;have d1:i < gn.length:=az3
  exact av (Fn.aV [(1001,3001)] (am3 ah ax aj bv ay4 d1)) ⟨ay4,i+1,ay4,ay4,ac.sub aC aC⟩
 .have h:decide ((i:Int) < (gn.length:Nat))=false:=h;have d1:i=gn.length:=aB5
  subst d1;rw[ar9];exact bg
end
section
def Oa (x:Z g5):aC3:=x
def w6:aC3:=List.replicate 16 0
theorem am5 (a:Int):iT [] a=w6:=rfl
theorem D6 (p:Z al×Z g5) (s:io) (a:Int):iT (p::s) a=match m6 a p with |true=>Oa p.2 |false=>iT s a:=by
 unfold iT D0;show(match m6 a p with |true=>some p.2 |false=>bY s (a:Z al)).getD (cO g5)=_
 cases m6 a p <;>rfl
theorem WJ (k:Int) (x:Z g5) (a:Int): ∀s:io,iT (sX s k x) a=if k=a then Oa x else iT s a
 | []=>by
  rw[H8,D6,am5]
  by_cases h:k=a
  .rw[if_pos h,show m6 a (yS k x)=true from sY.2 h.symm];rfl
  .rw[if_neg h,show m6 a (yS k x)=false from aw7.2 fun e=>h (sY.1 e).symm]
 |p::s=>by
  rw[A9]
  cases e:m6 k p with
  |true=>
   have e:=sY.1 e;simp only;rw[D6,D6]
   by_cases h:k=a
   .rw[if_pos h,show m6 a (yS k x)=true from sY.2 h.symm];rfl
   .rw[if_neg h,show m6 a (yS k x)=false from aw7.2 fun ao=>h (sY.1 ao).symm,show m6 a p=false from aw7.2 fun ao=>h (e.trans (sY.1 ao).symm)]
  |false=>
   have e: ¬k=D1 p:=fun h=>by rw[sY.2 h] at e;cases e
   simp only;rw[D6,D6,WJ k x a s]
   by_cases h:k=a
   .simp only[if_pos h,show m6 a p=false from aw7.2 fun ao=>e (h.trans (sY.1 ao))]
   .simp only[if_neg h]
theorem am6 (m:cn) {a:Int} {x:aC3} (hx:x.length=16) (i:Int):iT (m.H6 a x).bK i=if a=i then x else iT m.bK i:=by
 show iT (yR a x m.bK (x.length/16)) i=_;rw[hx];show iT (sX m.bK (a+(0:Nat)) (sW x 0)) i=_;rw[WJ,show a+((0:Nat):Int)=a by omega]
 have e:Oa (sW x 0)=x:=by
  show H4 x 0=x;rw[amk];show(x.drop 0).take 16=x;rw[List.drop_zero,<-hx,ar9]
 rw[e]
theorem WK {m:cn} (ah:hh m) (ax:m.n<=m.R) {a:Int} {x:aC3} (h:s4 m.n (some (a,x))) (i:Int):iT (vz m (some (a,x))).1.bK i=if a=i then x else iT m.bK i:=by
 show iT (m.write a x).1.bK i=_;rw[WD ah ax h];exact am6 m h.2.2 i
theorem Ob {m:cn} (ah:hh m) (ax:m.n<=m.R) {b:aC3} {k kV:Int} (i:Int): ∀j:Nat,(∀st∈li b k kV j,s4 m.n st)->
  iT (nH m (li b k kV j)).bK i=if 2+k*kV<=i/\i < 2+k*kV+(j:Nat) then lC b (i - (2+k*kV)).toNat else iT m.bK i
 |0,_=>by
  show iT m.bK i=_;rw[if_neg ay4]
 |j+1,h=>by
  have E: ∀st∈li b k kV j,s4 m.n st:=fun st aw=>h st (as1.2 (.inl aw))
  have G:s4 m.n (some (2+k*kV+(j:Nat),lC b j)):=h _ (as1.2 (.inr (ar5.2 rfl)));have bq:=Ob ah ax i j E;have aa:=D5 ah ax j (li b k kV j) E (by rw[yY];exact aq0 _);rw[at2 (by rw[yY];exact aq0 _)] at aa;rw[li,Bf,WK aa.ok (by rw[aa.n,aa.R];exact ax) (by rw[aa.n];exact G),bq]
  by_cases e:2+k*kV+(j:Nat)=i
  .rw[if_pos e,if_pos ay4]
   congr 1
   omega
  .rw[if_neg e]
   by_cases ao:2+k*kV<=i/\i < 2+k*kV+(j:Nat)
   .rw[if_pos ao,if_pos ay4]
   .rw[if_neg ao,if_neg ay4]
theorem am7 (b:aC3) (j:Nat):lC b j=(b.drop (16*j)).take 16++List.replicate (16 - ((b.drop (16*j)).take 16).length) 0:=by
 unfold lC laid;rw[List.take_zero,ay0,List.drop_replicate,au1]
theorem WL (b:aC3): ∀n:Nat,(List.range n).flatMap (fun i=>lC b i)=b.take (16*n)++List.replicate (16*n - b.length) 0
 |0=>by simp
 |n+1=>by
  rw[List.range_succ,List.flatMap_append,WL b n];simp only[ax2,List.flatMap_nil,at6];rw[am7]
  by_cases h:16*n<=b.length
  .rw[show 16*n - b.length=0 by omega,List.replicate_zero,at6,<-au2]
   have e:b.take (16*n)++(b.drop (16*n)).take 16=b.take (16*(n+1)):=by
    rw[show 16*(n+1)=16*n+16 by omega,List.take_add]
   rw[e]
   congr 2
   rw[aq9,au9];omega
  .rw[List.drop_eq_nil_of_le ay4,List.take_nil,ay0,List.length_nil,at2 ay4,at2 ay4,au2,List.replicate_append_replicate]
   congr 2
   omega
def kW (n R:Int):cn:=⟨n,R,[],[],[]⟩
def vA (n R:Int) (b:aC3):cn:=nH (kW n R) (s3 b 0 (dv n) 0)
structure D7 (m:cn) (n R:Int) (b:aC3):Prop where
 ok:hh m
 n:m.n=n
 R:m.R=R
 ia:m.fl=[]
 WM:m.nE=m.bK
 ck:iT m.bK 0=p5 b 0
 k7:iT m.bK 1=w6
 am8: ∀i:Nat,iT m.bK (2+(i:Nat))=if i < hi b then lC b i else w6
theorem am9 {n R:Int} (hn:rX n=true) (G:2<=n) (ax:n<=R) {b:aC3} (O:(b.length:Int)<=dv n*16):D7 (vA n R b) n R b:=by
 have ah:hh (kW n R):=hh.new hn;have aw:=WI (m:=kW n R) ah G O (k:=0) (.inl rfl) 0;obtain⟨a0,bZ⟩:=D2 G ah.cU;have dB:=D5 ah ax _ _ aw (aq0 _);rw[ar9] at dB;have E: ∀st∈li b 0 (dv n) (hi b),s4 n st:=fun st h=>aw st (by unfold s3;simp only[as1];exact .inl (.inl (.inl h)))
 have hw:=D5 ah ax (hi b) (li b 0 (dv n) (hi b)) E (by rw[yY];exact aq0 _);rw[at2 (by rw[yY];exact aq0 _)] at hw;have nn:hh (nH (kW n R) (li b 0 (dv n) (hi b))).p1:=hw.ok.p1
 have e:vA n R b=(vz (nH (kW n R) (li b 0 (dv n) (hi b))).p1 (some (0,p5 b 0))).1.p1:=by
  unfold vA s3;rw[Bf,Bf,Bf];rfl
 have D8: ∀i,iT (vA n R b).bK i=if 0=i then p5 b 0 else iT (nH (kW n R) (li b 0 (dv n) (hi b))).bK i:=fun i=>by
  rw[e]
  exact WK nn (by show(nH (kW n R) (li b 0 (dv n) (hi b))).n<=(nH (kW n R) (li b 0 (dv n) (hi b))).R;rw[hw.n,hw.R];exact ax) (by
   show s4 (nH (kW n R) (li b 0 (dv n) (hi b))).n _;rw[hw.n];exact⟨ay5,by show(0:Int) < n;omega,N' b 0⟩) i
 have aN: ∀i,iT (kW n R).bK i=w6:=fun i=>rfl
 refine⟨dB.ok,dB.n,dB.R,by rw[e];rfl,by rw[e];rfl,?_,?_,fun i=>?_⟩
 .rw[D8,if_pos rfl]
 .rw[D8,if_neg ay5,Ob ah ax 1 _ E,if_neg ay4,aN]
 .rw[D8,if_neg ay4,Ob ah ax _ _ E,aN]
  by_cases aF:i < hi b
  .rw[if_pos ay4,if_pos aF]
   congr 1
   omega
  .rw[if_neg ay4,if_neg aF]
theorem am' (b:aC3):mv (p5 b 0)=(eL 4 [(0+1:Int).toNat,b.length,(jx b).toNat],true):=by
 have ak:=N' b 0
 have e:(p5 b 0).take ((p5 b 0).length - 4)=eL 4 [(0+1:Int).toNat,b.length,(jx b).toNat]:=by
  rw[ak];unfold p5 r0;rw[List.take_append_of_le_length (by rw[nB];exact aq0 _),at2 (by rw[nB];exact aq0 _)]
 unfold mv;rw[if_neg (by rw[ak];omega),e];exact if_pos rfl
theorem ana:(mv w6).2=false:=by kernel_rfl
theorem WN (s:io) (a:Int):p2 s a 1=iT s a:=by
 unfold p2;rw[show List.range 1=[0] from rfl,ax2,List.flatMap_nil,at6];show iT s (a+((0:Nat):Int))=_;rw[show a+((0:Nat):Int)=a by omega]
theorem Oc {m:cn} {k:Int} (h:iT m.bK k=w6):m7 m k=([],0):=by
 unfold m7
 have e:(mv (mw m k)).2=false:=by
  unfold mw;rw[WN,h];exact ana
 rw[e]
theorem anb {g l c:Nat} (E:g < 256 ^4) (G:l < 256 ^4) (af:c < 256 ^4):iG (eL 4 [g,l,c])=(g,l,c):=by
 have e:eL 4 [g,l,c]=ej g 4++(ej l 4++(ej c 4++[])):=by unfold eL;simp
 unfold iG;rw[e,pi E,pi G,pi af]
theorem anc {m:cn} {n R:Int} {b:aC3} (h:D7 m n R b) (O:(b.length:Int)<=dv n*16):(nG m 0).take b.length=b:=by
 have J:hi b<=(dv n).toNat:=by unfold hi;omega
 have e:nG m 0=(List.range (dv n).toNat).flatMap fun i=>if i < hi b then lC b i else w6:=by
  unfold nG p2;rw[h.n]
  congr 1
  funext i
  rw[show 2+0*dv n+(i:Int)=2+(i:Int) by omega];exact h.am8 i
 rw[e,show(dv n).toNat=hi b+((dv n).toNat - hi b) by omega,List.range_add,List.flatMap_append]
 have ao:((List.range (hi b)).flatMap fun i=>if i < hi b then lC b i else w6)=(List.range (hi b)).flatMap fun i=>lC b i:=by
  rw[List.flatMap_def,List.flatMap_def]
  congr 1
  exact as2 fun i aF=>if_pos (List.mem_range.1 aF)
 have oi:b.length<=16*hi b:=by unfold hi;omega
 rw[ao,WL,at2 oi,au2];exact List.take_left' rfl
theorem ane {m:cn} {n R:Int} {b:aC3} (h:D7 m n R b) (O:(b.length:Int)<=dv n*16) (ak:b.length<=1000000):m7 m 0=(b,1):=by
 have aw:=NN b;have ae:mw m 0=p5 b 0:=by unfold mw;rw[WN];exact h.ck
 unfold m7;rw[ae,am'];simp only;rw[anb ay5 ay4 ay4];simp only;rw[anc h O,h.n,show(((jx b).toNat:Nat):Int)=jx b by omega];rw[at0 (show¬(((0+1:Int).toNat:Nat):Int) < 1 by decide),at0 (show¬(1073741824:Int) < (((0+1:Int).toNat:Nat):Int) by decide),at0 (show¬dv n*16 < ((b.length:Nat):Int) by omega),ar0 (rfl:jx b=jx b)];rfl
theorem anf {m:cn} {n R:Int} {b:aC3} (h:D7 m n R b) (O:(b.length:Int)<=dv n*16) (ak:b.length<=1000000):gz m 2=(0,b,1):=by
 have au:m7 m ((0:Nat):Int)=(b,1):=ane h O ak;have E:m7 m ((1:Nat):Int)=([],0):=Oc h.k7
 have ae:gz m 1=(0,b,1):=by
  unfold gz;rw[au];exact if_pos (show(0:Int) < 1 by decide)
 unfold gz;rw[ae,E];exact if_neg (show¬(1:Int) < 0 by decide)
theorem If (n R:Int):gz (kW n R) 2=(-1,[],0):=by
 have au:m7 (kW n R) ((0:Nat):Int)=([],0):=Oc rfl;have E:m7 (kW n R) ((1:Nat):Int)=([],0):=Oc rfl
 have ae:gz (kW n R) 1=(-1,[],0):=by
  unfold gz;rw[au];exact if_neg (show¬(0:Int) < 0 by decide)
 unfold gz;rw[ae,E];exact if_neg (show¬(0:Int) < 0 by decide)
end
section
theorem WO {L:List bW} {b:bW}:gG L b=0↔hy b=true/\L.find? (fun y=>decide (ep y=ep b))=none/\L.length < 64/\(dA b≠[]-> ∃x,L.find? (fun y=>decide (ep y=dA b))=some x/\c2 x=c2 b):=by
 constructor
 .intro h;obtain⟨bZ,cg,a3,a4⟩:=Ng h;refine⟨bZ,(HJ _ _).1 cg,a3,fun ai=>?_⟩;have au:=a4 (by simpa using ai);obtain⟨x,hx⟩:=HK au;refine⟨x,hx,?_⟩
  by_cases O:c2 x=c2 b
  .exact O
  .exfalso;have dO:=hx;rw[<-A2] at dO;unfold pY at dO;rw[if_pos au] at dO;unfold gG at h;rw[dO] at h
   split at h
   .cases h
   split at h
   .cases h
   rw[if_pos (by simp[ai,O])] at h
   cases h
 .rintro⟨bZ,cg,a3,a4⟩;have Rb:=(HJ _ _).2 cg;unfold gG;rw[if_neg (by rw[bZ];simp;omega)]
  by_cases ai:dA b=[]
  .rw[if_neg (by simp[ai]),if_neg (by simp[ai])]
  .obtain⟨x,hx,O⟩:=a4 ai
   have au:0<=eY L (dA b):=by
    rcases Int.lt_or_le (eY L (dA b)) 0 with h |h
    .rw[(HJ _ _).1 h] at hx;cases hx
    .exact h
   have dO:=hx;rw[<-A2] at dO;unfold pY at dO;rw[if_pos au] at dO;rw[if_neg az8,dO,if_neg (by simp[O])]
def qS (L:List bW):Prop:= ∀(k:Nat) (b:bW),L[k]? =some b->gG (L.take k) b=0
theorem qS.nil:qS []:=fun k b h=>by simp at h
theorem qS.add {L:List bW} (h:qS L) (b:bW):qS (g4 L b):=by
 unfold g4
 split
 .rename_i a1;intro k c J;rcases U6 k c J with E |⟨rfl,rfl⟩
  .have aa:=(aq7.1 E).1;rw[List.take_append_of_le_length ay4];exact h k c E
  .rw[List.take_left];exact a1
 .exact h
theorem ang {α:Type} (L:List α) {k j:Nat} (h:k<=j):(L.eraseIdx k).take j=(L.take (j+1)).eraseIdx k:=by
 refine List.ext_getElem? fun i=>?_
 rw[au6,List.getElem?_eraseIdx,List.getElem?_eraseIdx,au6,au6]
 by_cases G:i < k
 .have a:i < j:=az2
  have b:i < j+1:=az2
  simp[G,a,b]
 .by_cases E:i < j
  .simp[E,G]
  .simp[E,G]
theorem qS.drop {L:List bW} (h:qS L) (nm:aC3):qS (qI L nm):=by
 unfold qI
 split
 .rename_i a1;obtain⟨E,G⟩:=Vi a1;obtain⟨x,hx⟩:=HK E;have b1:=List.find?_some hx;simp only[as5] at b1
  have Hj:L[(eY L nm).toNat]? =some x:=by
   have cg:=A2 L nm;unfold pY at cg;rw[if_pos E,hx] at cg;exact cg
  generalize(eY L nm).toNat=q at*;have aT:=(aq7.1 Hj).1;intro j b O;have anh:b∈L:=List.mem_of_mem_eraseIdx (au5 O);rw[List.getElem?_eraseIdx] at O
  split at O
  .rename_i ani
   have:(L.eraseIdx q).take j=L.take j:=by
    refine List.ext_getElem? fun i=>?_
    rw[au6,au6,List.getElem?_eraseIdx]
    by_cases af:i < j
    .rw[if_pos af,if_pos af,if_pos ay4]
    .rw[if_neg af,if_neg af]
   rw[this];exact h j b O
  .rename_i ani;rw[ang L ay4];have aj:=WO.1 (h (j+1) b O);have Od:(L.take (j+1))[q]? =some x:=by rw[au6,if_pos ay4];exact Hj
   generalize L.take (j+1)=M at*;obtain⟨bZ,cg,a3,a4⟩:=aj;have anj:dA b≠nm:=Vh G anh;refine WO.2 ⟨bZ,?_,Nat.lt_of_le_of_lt (List.length_eraseIdx_le _ _) a3,fun ai=>?_⟩
   .rw[Nq _ M q x Od (by
     have:=List.find?_eq_none.1 cg x (au5 Od);simpa using this)]
    exact cg
   .rw[Nq _ M q x Od (by rw[b1];simpa using fun e=>anj e.symm)];exact a4 ai
 .exact h
def Bg (p:ky):w0:=(gm p,mo p)
def t8 (b:bW):m4:=(ep b,dA b,c2 b,eH b,(cB b).map Bg)
theorem WP (b:bW):jv (t8 b)=b:=by
 have h: ∀l:List ky,(l.map Bg).map sP=l:=fun l=>by rw[at7];exact List.map_id l
 exact congrArg (fun l:List ky=>((ep b,dA b,c2 b,eH b,l):bW)) (h (cB b))
theorem Oe (L:List bW):(L.map t8).map jv=L:=by
 rw[at7,show(jv∘t8)=id from funext WP,List.map_id]
theorem ank {p:ky} (h:0<=gm p/\gm p<=65535/\(mo p).length<=128) (t:aC3):vr (kU p++t,0)=((t,0),Bg p):=by
 have ae:fz 2 (kU p++t,0)=((gH (mo p) 2++t,0),(gm p).toNat):=by
  unfold kU;rw[au2];exact pi ay4 _
 have ao:qK 2 (gH (mo p) 2++t,0)=((t,0),mo p):=DV ay4 t;unfold vr;rw[ae];simp only;rw[ao];refine Prod.ext rfl (Prod.ext ?_ rfl);show(((gm p).toNat:Nat):Int)=gm p;omega
theorem WQ {bD:List ky} (h: ∀p,p∈bD->0<=gm p/\gm p<=65535/\(mo p).length<=128) (t:aC3): ∀k,k<=bD.length->hd (bD.flatMap kU++t,0) k=(((bD.drop k).flatMap kU++t,0),(bD.take k).map Bg)
 |0,_=>by simp[hd]
 |k+1,aa=>by
  have ct:k < bD.length:=az2
  have bq:=WQ h t k ay4;unfold hd;rw[bq];simp only;rw[av6 ct,ax2,au2,ank (h _ (as3 ct))];simp only;rw[<-vm ct,au0];rfl
theorem anl {b:bW} (h:vq b) (t:aC3):kc (kA b++t,0)=((t,0),t8 b):=by
 obtain⟨dX,e6,iw,iY,aqQ,anm⟩:=h
 have ae:E (kA b++t,0)=((gH (dA b) 1++(ej (c2 b).toNat 1++(ej (eH b).toNat 2++(ej (cB b).length 2++((cB b).flatMap kU++t)))),0),ep b):=by
  unfold kA E;simp only[au2];exact DV ay4 _
 have ao:G (kA b++t,0)=((ej (c2 b).toNat 1++(ej (eH b).toNat 2++(ej (cB b).length 2++((cB b).flatMap kU++t))),0),dA b):=by
  unfold G;rw[ae];exact DV ay4 _
 have bm:af (kA b++t,0)=((ej (eH b).toNat 2++(ej (cB b).length 2++((cB b).flatMap kU++t)),0),(c2 b).toNat):=by
  unfold af;rw[ao];exact pi ay4 _
 have c0:aW (kA b++t,0)=((ej (cB b).length 2++((cB b).flatMap kU++t),0),(eH b).toNat):=by
  unfold aW;rw[bm];exact pi ay4 _
 have fQ:bG (kA b++t,0)=(((cB b).flatMap kU++t,0),(cB b).length):=by
  unfold bG;rw[c0];exact pi ay4 _
 have hY:=WQ anm t (cB b).length (aq0 _);rw[List.drop_length,ar9] at hY;unfold kc VE;rw[fQ];simp only;rw[hY,ae,ao,bm,c0];refine Prod.ext rfl ?_;show(ep b,dA b,(((c2 b).toNat:Nat):Int),(((eH b).toNat:Nat):Int),(cB b).map Bg)=(ep b,dA b,c2 b,eH b,(cB b).map Bg);rw[show(((c2 b).toNat:Nat):Int)=c2 b by omega,show(((eH b).toNat:Nat):Int)=eH b by omega]
theorem WR {L:List bW} (eQ:qS L) (hw: ∀b,b∈L->vq b): ∀k,k<=L.length->oC (L.flatMap kA,0) k=some ((L.take k).map t8,((L.drop k).flatMap kA,0))
 |0,_=>by simp[oC]
 |k+1,aa=>by
  have ct:k < L.length:=az2
  have bq:=WR eQ hw k ay4;rw[av6 ct,ax2] at bq;have O:=anl (hw _ (as3 ct)) ((L.drop (k+1)).flatMap kA)
  have:=VI bq (by rw[O]) (by
   rw[O,Oe];show gG (L.take k) (jv (t8 L[k]))=0;rw[WP];exact eQ k _ (oj ct))
  rw[O] at this;rw[this,<-vm ct,au0];rfl
theorem WS {L:List bW} (eQ:qS L) (hw: ∀b,b∈L->vq b) (ak:L.length<=64):yN (jw L)=some (L.map t8):=by
 have ae:fz 1 (jw L,0)=((L.flatMap kA,0),L.length):=pi ay4 _;have ao:=WR eQ hw L.length (aq0 _);rw[ar9,List.drop_length] at ao;unfold yN;rw[ae];simp only;rw[ao];simp[qL]
end
section
end
section
abbrev WT:aC3:=[97]
abbrev ann:aC3:=[98]
abbrev ND (b:Nat):List (Z .str×Z .aM):=dx [] (WT:Z .str) (some b:Option Nat)
abbrev ei (b:Nat):List (Z .str×Z .aM):=dx (gM (ND b) (WT:Z .str)) (ann:Z .str) (some b:Option Nat)
end
section
abbrev gb:=List (Z .str×Z .aM)
def mx (es:gb) (k:aC3) (a:Option Nat):gb:=dx es (k:Z .str) (a:Z .aM)
def jU (es:gb) (k:aC3):gb:=gM es (k:Z .str)
def Ig (k:aC3) (a:Option Nat):Z .str×Z .aM:=(k,a)
def yZ (k:aC3) (p:Z .str×Z .aM):Bool:=f0 .str (k:Z .str) p.1
theorem ano {k:aC3} {p:Z .str×Z .aM}:yZ k p=true↔k=s1 p:=amI _ _
theorem Of (k:aC3) (a:Option Nat):mx [] k a=[Ig k a]:=rfl
theorem Og (p:Z .str×Z .aM) (l:gb) (k:aC3) (a:Option Nat):mx (p::l) k a=match yZ k p with |true=>Ig k a::l |false=>p::mx l k a:=rfl
theorem WU (p:Z .str×Z .aM) (l:gb) (k:aC3):jU (p::l) k=match yZ k p with |true=>l |false=>p::jU l k:=rfl
theorem WV (p:Z .str×Z .aM) (l:gb) (k:aC3):iF (p::l) k=match yZ k p with |true=>qQ p |false=>iF l k:=by
 unfold iF;show(match yZ k p with |true=>some p.2 |false=>bY l (k:Z .str)).getD (cO .aM)=_
 cases yZ k p <;>rfl
theorem Oh (k:aC3): ∀l:gb,(jU l k).Sublist l
 | []=>List.Sublist.refl _
 |p::l=>by
  rw[WU]
  split
  .exact List.sublist_cons_self _ _
  .exact(Oh k l).cons_cons p
theorem WW {k:aC3} {a:Option Nat} {x:Option Nat}: ∀{l:gb},x∈(mx l k a).map qQ->x=a\/x∈l.map qQ
 | [],h=>by
  rw[Of,List.map_singleton,ar5] at h;exact .inl h
 |p::l,h=>by
  rw[Og] at h
  split at h
  .rcases aq5.1 h with h |h
   .exact .inl h
   .exact .inr (aq2 _ h)
  .rcases aq5.1 h with h |h
   .exact .inr (h▸ar2 ..)
   .rcases WW h with h |h
    .exact .inl h
    .exact .inr (aq2 _ h)
theorem Oi {k:aC3} {a:Option Nat}: ∀{l:gb},(l.map qQ).Nodup->a∉l.map qQ->((mx l k a).map qQ).Nodup
 | [],_,_=>by rw[Of];simp
 |p::l,h,hn=>by
  rw[ar4,as8] at h;rw[ar4,aq5,not_or] at hn;rw[Og]
  split
  .rw[ar4];exact as8.2 ⟨hn.2,h.2⟩
  .rw[ar4];refine as8.2 ⟨fun aA=>?_,Oi h.2 hn.2⟩;rcases WW aA with e |e
   .exact hn.1 e.symm
   .exact h.1 e
theorem Oj {k:aC3} {a:Nat}: ∀{l:gb},iF l k=some a->Ig k (some a)∈l
 | [],h=>by cases h
 |p::l,h=>by
  rw[WV] at h
  split at h
  .rename_i e;have e:=ano.1 e;refine aq5.2 (.inl ?_);show(k,(some a:Option Nat))=p;rw[<-h,e];rfl
  .exact aq2 _ (Oj h)
theorem D9 {k:aC3} {a:Option Nat} {p:Z .str×Z .aM}: ∀{l:gb},p∈mx l k a->p=Ig k a\/p∈l
 | [],h=>by rw[Of,ar5] at h;exact .inl h
 |q::l,h=>by
  rw[Og] at h
  split at h
  .rcases aq5.1 h with h |h
   .exact .inl h
   .exact .inr (aq2 _ h)
  .rcases aq5.1 h with h |h
   .exact .inr (h▸ar2 ..)
   .rcases D9 h with h |h
    .exact .inl h
    .exact .inr (aq2 _ h)
theorem WX {k:aC3} {a:Nat}: ∀{l:gb},iF l k=some a->(l.map qQ).Nodup->(some a:Option Nat)∉(jU l k).map qQ/\(jU l k).length+1=l.length
 | [],h,_=>by cases h
 |p::l,h,hn=>by
  rw[ar4,as8] at hn;rw[WV] at h;rw[WU]
  cases e:yZ k p with
  |true=>
   rw[e] at h;have h:qQ p=some a:=h;exact⟨h▸hn.1,rfl⟩
  |false=>
   rw[e] at h;obtain⟨E,G⟩:=WX h hn.2;refine⟨?_,by simp only[at8];omega⟩;simp only;rw[ar4,aq5,not_or];exact⟨fun ao=>hn.1 (ao▸ar8 (f:=qQ) (Oj h)),E⟩
theorem s2.ng {es:gb} {L:ee} {W:Nat} (h:s2 es L W) (k:aC3):s2 (jU es k) L W:=
 ⟨fun p ai=>h.ex p ((Oh k es).subset ai),h.hE.sublist ((Oh k es).map _),h.Ia,h.ok,h.Ba⟩
theorem s2.add {es:gb} {L:ee} {W:Nat} (h:s2 es L W) {k:aC3} {b:Nat} {m:cn} (O:b∉L.map (·.1)) (aA:hh m) (ak:m.fl.length<=W):s2 (mx es k (some b)) ((b,m)::L) W:=by
 refine⟨fun p ai=>?_,Oi h.hE fun hx=>?_,as8.2 ⟨O,h.Ia⟩,fun p ai=>?_,fun p ai=>?_⟩
 .rcases D9 ai with rfl |ai
  .exact⟨b,rfl,ar2 ..⟩
  .obtain⟨a,E,G⟩:=h.ex p ai;exact⟨a,E,aq2 _ G⟩
 .obtain⟨p,ai,e⟩:=as9.1 hx;obtain⟨a,E,G⟩:=h.ex p ai;rw[e] at E;injection E with E
  exact O (E▸G)
 .rcases aq5.1 ai with rfl |ai
  .exact aA
  .exact h.ok p ai
 .rcases aq5.1 ai with rfl |ai
  .exact ak
  .exact h.Ba p ai
theorem s2.aV {es:gb} {L:ee} {W:Nat} (h:s2 es L W) {fr to:aC3} {a:Nat} (hf:iF es fr=some a):s2 (mx (jU es fr) to (some a)) L W:=by
 refine⟨fun p ai=>?_,Oi (h.ng fr).hE (WX hf h.hE).1,h.Ia,h.ok,h.Ba⟩;rcases D9 ai with rfl |ai
 .obtain⟨a',E,G⟩:=h.ex _ (Oj hf);exact⟨a',E,G⟩
 .exact(h.ng fr).ex p ai
end
section
theorem WY {m:cn} {I F:Nat->Prop} {w:World} {p:bn} (h:(hg m).bo I F w p):F p.bk:=by
 obtain⟨ρ,ce,E,G,af,aW⟩:=h;obtain⟨bh,_⟩:=G 1001 _ rfl;exact(aW _).2 ⟨1001,_,rfl,(bh _).2 (by rw[E])⟩
theorem WZ {I:Nat->Prop} {w:World} {b:Nat}: ∀{L:ee} {F:Nat->Prop},fM I w (eZ L) F->b∈L.map (·.1)->F b
 | [],_,_,h=>by cases h
 |p::L,F,⟨cG,cN,q,E,G,af,aW,bG⟩,h=>by
  rcases aq5.1 h with h |h
  .exact(E b).2 (.inl (by rw[h];have:=WY aW;rwa[af] at this))
  .exact(E b).2 (.inr (WZ bG h))
theorem di.anp {ids:aC4} {K:aY} {B:az} (q:Nat) {L:ee} {b:Nat} {m:cn} (aT:ag B q=some (.aG (.bx (eZ ((b,m)::L))))):di ids K B (X:=PLift (b∉L.map (·.1))) (fun _=>K) (fun _=>B):=by
 rintro N C a w ⟨hn,H,ρ,F,aj,ar⟩;have bl:fM (bX C B F w) w (eZ ((b,m)::L)) (F q):=aj.holds q _ aT;obtain⟨cG,cN,p,E,G,af,aW,bG⟩:=bl;refine⟨⟨fun O=>?_⟩,hn,H,ρ,F,aj,ar⟩;have ae:=WY aW;rw[af] at ae;exact G _ ae (WZ bG O)
end
section
theorem anq {m:cn} (ah:hh m) (G:2<=m.n) {s:Nat} {M:ee} (aj:hV M s=some m) {b:aC3} (V:gz m 2=(0,b,1)):Fn Tryz.prog 137 [dr s] [(1003,.aG (.bx (eZ M)))] [] (.ci [.one (.d (.co .u8 b)),.one (.d (.int .i64 1)),dz 0]) [(1003,.aG (.bx (eZ M)))]:=by
 have hn:=N7 ah G aj;rw[V] at hn;refine aU [] Tryz.func137 ?_;exact av hn ⟨fun h=>absurd h (show¬decide ((0:Int) < 0)=true by decide),fun _=>bg⟩
abbrev p6:aC3:=[108,105,115,116]
abbrev gA:aC3:=[108,105,115,116,46,110,101,119]
abbrev lD (c d:Nat) (L:List bW):az:=[(c,.cells [.own d]),(d,.row 78 lV L)]
theorem anr (R:Int) (es:gb) {L:ee} {a:Nat} {m:cn} (ha:iF es p6=some a) (aA:hV L a=some m) (ah:hh m) (G:2<=m.n) {Q:List bW} (V:gz m 2=(0,jw Q,1)) (ak:(jw Q).length<=100000000) (eQ:qS Q) (hw: ∀b,b∈Q->vq b) (aT:Q.length<=64):
  Fn Tryz.prog 83 [aq 1001] (nF 1001 1002 1003 R es L) [2001,2002] (.ci [.one (.ptr 2001 0),dz 0]) (nF 1001 1002 1003 R es L++lD 2001 2002 ((Q.map t8).map jv)):=by
 have H:=VK (jw Q) ak (some (Q.map t8)) (WS eQ hw aT);simp only at H;refine aU [] Tryz.func83 ?_;exact av (NP R es p6 a ha) <| dt <| av (anq ah G aA V) <| dt <| av (Fn.aV [(1001,2001),(1002,2002)] H) bg
end
section
theorem ans {m:cn} (ah:hh m) (G:2<=m.n) {s:Nat} {M:ee} (aj:hV M s=some m) (b:aC3) (O:dv m.n*16 < (b.length:Int)):
  Fn Tryz.prog 217 [dr s,bQ .u8 b] [(1003,.aG (.bx (eZ M)))] [] (.ci [mP,dz 1]) [(1003,.aG (.bx (eZ M)))]:=by
 refine aU [] Tryz.func217 ?_;exact⟨rfl,av (N7 ah G aj) <| av (Bc aj) <| av (N4 m.n ah.lB ah.cU) ⟨fun _=>bg,fun c=>absurd O (mu c)⟩⟩
theorem ant {m:cn} (ah:hh m) (G:2<=m.n) {s:Nat} {M:ee} (aj:hV M s=some m) (b:aC3) (O:dv m.n*16 < (b.length:Int)):
  Fn Tryz.prog 184 [dr s,bQ .u8 b] [(1003,.aG (.bx (eZ M)))] [] (ab 1) [(1003,.aG (.bx (eZ M)))]:=by
 refine aU [] Tryz.func184 ?_;exact av (ans ah G aj b O) <| fb bg
theorem anu (R:Int) (es:gb) {L:ee} (ha:iF es p6=none):
  Fn Tryz.prog 83 [aq 1001] (nF 1001 1002 1003 R es L) [] (.ci [mP,dz 181]) (nF 1001 1002 1003 R es L):=by
 refine aU [] Tryz.func83 ?_;exact av (Wb R es p6 ha) <| fb bg
def w7 (n:Int) (Q:List bW):Int:=if((jw Q).length:Int)<=dv n*16 then 0 else 1
def vB (n:Int) (es:gb) (Q:List bW) (b:Nat):gb:=if((jw Q).length:Int)<=dv n*16 then mx (jU (mx (jU es gA) gA (some b)) gA) p6 (some b) else mx (jU es gA) gA (some b)
def t' (n R:Int) (Q:List bW) (b:Nat):cn:=if((jw Q).length:Int)<=dv n*16 then vA n R (jw Q) else kW n R
theorem anv (R n:Int) (Ih:2<=n) (hn:rX n=true) (ax:n<=R) (es:gb) {M:ee} (E:iF (jU es gA) gA=none) (G:(jU es gA).length < 16) (af: ∀b,iF (mx (jU es gA) gA (some b)) gA=some b) {Q:List bW} (aT:Q.length<=255) (hw: ∀b,b∈Q->vq b):
  cx Tryz.prog 143 [aq 3001,aq 1001,ab n] (nF 1001 1002 1003 R es M++lD 3001 3002 Q) [] (X:={b:Nat//b∉M.map (·.1)}) (fun _=>ab (w7 n Q))
   (fun g=>nF 1001 1002 1003 R (vB n es Q g.1) ((g.1,t' n R Q g.1)::M)++lD 3001 3002 Q):=by
 have uw: ∀b,hV ((b,kW n R)::M) b=some (kW n R):=fun b=>by rw[t6,if_pos rfl]
 refine hO [2,3] Tryz.func143 ?_;refine av (ams R es gA) <| bw.iL e3 ay7 ?_;refine⟨Nat,_,_,fun b=>_,fun b=>_,amd R (jU es gA) (eZ M) gA n ay5 rfl (by rw[hn,ar0 (show 0<=R by omega)];rfl) E G,aC,rfl,fun _=>rfl,fun b=>bw.e4 (di.anp 1003 (L:=M) (b:=b) (m:=kW n R) rfl) fun O=>bu [] (br) <| dt <| av (Fn.aV [(1001,3001),(1002,3002)] (Vw Q aT hw)) ?_⟩
 by_cases J:((jw Q).length:Int)<=dv n*16
 .have vV:=am4 (m:=kW n R) (hh.new (n:=n) (R:=R) hn) Ih ax (aq8 _) (uw b) (jw Q) J (by rw[If];decide) (by rw[If];decide) (by rw[If];decide);rw[If] at vV;have gV:ip ((b,kW n R)::M) b (vA n R (jw Q))=(b,vA n R (jw Q))::M:=if_pos rfl
  have vV:Fn Tryz.prog 184 [dr b,bQ .u8 (jw Q)] [(1003,.aG (.bx (eZ ((b,kW n R)::M))))] [] (ab 0) [(1003,.aG (.bx (eZ ((b,vA n R (jw Q))::M))))]:=by
   rw[<-gV];exact vV
  refine av vV <| dt <| av (amc R (mx (jU es gA) gA (some b)) gA p6 b ay5 rfl (af b)) ?_;have ae:w7 n Q=0:=if_pos J;have ao:vB n es Q b=_:=if_pos J;have bm:t' n R Q b=_:=if_pos J;exact⟨⟨b,O.down⟩,_,_,_,br,rfl,ae.symm,⟨rfl,congrArg (fun x=>some (ba.map .str .aM x)) ao.symm,congrArg (fun x=>some (ba.aG (.bx (eZ ((b,x)::M))))) bm.symm,rfl,rfl,trivial⟩,rfl⟩
 .have vV:=ant (m:=kW n R) (hh.new (n:=n) (R:=R) hn) Ih (uw b) (jw Q) (by show dv n*16 < _;omega);refine av vV <| fb ?_;have ae:w7 n Q=1:=if_neg J;have ao:vB n es Q b=_:=if_neg J;have bm:t' n R Q b=_:=if_neg J;exact⟨⟨b,O.down⟩,_,_,_,br,rfl,ae.symm,⟨rfl,congrArg (fun x=>some (ba.map .str .aM x)) ao.symm,congrArg (fun x=>some (ba.aG (.bx (eZ ((b,x)::M))))) bm.symm,rfl,rfl,trivial⟩,rfl⟩
end
section
def lj (u:bd->bd) (fA:aC4) (l:List bd):List bd:=l.map fun x=>if x.ad∈fA then u x else x
theorem anw (u:bd->bd) (l:List bd):lj u [] l=l:=by
 unfold lj;refine(as2 fun x _=>?_).trans (List.map_id' l);rw[if_neg ay6]
theorem W0 {u:bd->bd} {fA:aC4} {l:List bd} (h: ∀e,e∈l->e.ad∈fA):lj u fA l=l.map u:=by
 unfold lj;exact as2 fun x hx=>if_pos (h x hx)
theorem anx {u:bd->bd} (a6: ∀e,(u e).ad=e.ad) {fA:aC4} {a:Nat} (ha:a∉fA) (l:List bd):nz (lj u fA l) a u=lj u (fA++[a]) l:=by
 unfold nz lj;rw[at7];refine as2 fun x _=>?_
 show(if(if x.ad∈fA then u x else x).ad=a then u (if x.ad∈fA then u x else x) else(if x.ad∈fA then u x else x))=if x.ad∈fA++[a] then u x else x
 by_cases E:x.ad∈fA
 .have G: ¬(u x).ad=a:=by rw[a6];exact fun e=>ha (e▸E)
  rw[if_pos E,if_neg G,if_pos (List.mem_append_left _ E)]
 .rw[if_neg E]
  by_cases G:x.ad=a
  .rw[if_pos G,if_pos (by rw[G];simp)]
  .rw[if_neg G,if_neg (by simp[E,G])]
structure qT (u:bd->bd):Prop where
 nm: ∀e,(u e).nm=e.nm
 ad: ∀e,(u e).ad=e.ad
 du: ∀e,(u e).du=e.du
 on: ∀e,(u e).on=e.on
 us: ∀e,(u e).us=e.us
 ok: ∀e,(0<=e.s/\e.s<=4096)/\(1<=e.g/\e.g<=64)/\e5 e.es->(0<=(u e).s/\(u e).s<=4096)/\(1<=(u e).g/\(u e).g<=64)/\e5 (u e).es
theorem qT.Ok {u:bd->bd} (a6:qT u) {l:List bd} (h:d9 l) (fA:aC4):d9 (lj u fA l):=by
 have key: ∀{lN:Type} (f:bd->lN),(∀e,f (u e)=f e)->(lj u fA l).map f=l.map f:=fun f hf=>by
  unfold lj;rw[at7];refine as2 fun x _=>?_
  show f (if x.ad∈fA then u x else x)=f x
  split
  .exact hf x
  .rfl
 refine⟨by rw[key _ a6.nm];exact h.jd,by rw[key _ a6.ad];exact h.me,by rw[key _ a6.du];exact h.vl,fun e U=>?_,by unfold lj;rw[ar1];exact h.len⟩;obtain⟨x,hx,rfl⟩:=as9.1 U;obtain⟨cj,cT,eg,eR⟩:=h.ok x hx
 by_cases J:x.ad∈fA
 .rw[if_pos J];obtain⟨lf,qH,w2⟩:=a6.ok x ⟨cj,cT,eg⟩;exact⟨lf,qH,w2,by rw[a6.nm];exact eR⟩
 .rw[if_neg J];exact⟨cj,cT,eg,eR⟩
theorem qT.uy {u:bd->bd} (a6:qT u) (fA:aC4) (l:List bd):dW (lj u fA l)=dW l:=by
 unfold dW lj;rw[at7];refine as2 fun x _=>?_
 show jS (if x.ad∈fA then u x else x)=jS x
 split
 .unfold jS;rw[a6.nm,a6.ad]
 .rfl
theorem qT.D {u:bd->bd} (a6:qT u) (fA:aC4) (l:List bd):kb (lj u fA l)=kb l:=by
 unfold kb lj;rw[at7];refine as2 fun x _=>?_
 show wS (if x.ad∈fA then u x else x)=wS x
 split
 .unfold wS;rw[a6.nm,a6.ad,a6.du,a6.on,a6.us]
 .rfl
theorem qT.M {u:bd->bd} (a6:qT u) {l:List bd} (h:d9 l) {fA:aC4} {e:bd} (U:e∈l) (ha:e.ad∉fA):e' (jT (lj u fA l)) e.du (fo (u e).s (u e).g (u e).es)=jT (lj u (fA++[e.ad]) l):=by
 have aA:e∈lj u fA l:=as9.2 ⟨e,U,if_neg ha⟩;rw[<-anx a6.ad ha,<-UB (a6.Ok h fA) aA (a6.du e)]
theorem qT.get {u:bd->bd} (a6:qT u) {l:List bd} (h:d9 l) {fA:aC4} {e:bd} (U:e∈l) (ha:e.ad∉fA):eu (jT (lj u fA l)) e.du=some (fo e.s e.g e.es):=
 (a6.Ok h fA).M (as9.2 ⟨e,U,if_neg ha⟩)
theorem qT.map {u:bd->bd} (a6:qT u) {l:List bd} (h:d9 l):d9 (l.map u):=by
 have:=a6.Ok h (l.map (·.ad));rw[W0 fun e U=>ar8 U] at this;exact this
abbrev qU:=Nat×(Z .str×Z .aM)
def vC (p:qU):Option Nat:=p.2.2
structure w8 (l:List bd) (lx:List qU) (bK fA:aC4):Prop where
 Ol: ∀p,p∈lx-> ∀a,vC p=some a->(p.1∈bK↔a∈fA)
theorem anz {l:List bd} {lx:List qU} (aw:lx.map (·.2)=dW l) {p:qU} (ai:p∈lx): ∃e,e∈l/\p.2=jS e:=by
 have:p.2∈dW l:=by rw[<-aw];exact ar8 ai
 obtain⟨e,U,ao⟩:=as9.1 this;exact⟨e,U,ao.symm⟩
theorem anA {l:List bd} (h:d9 l) {lx:List qU} (aw:lx.map (·.2)=dW l):(lx.map vC).Nodup:=by
 have:lx.map vC=(l.map (·.ad)).map some:=by
  have e:lx.map vC=(lx.map (·.2)).map (fun q:Z .str×Z .aM=>(show Option Nat from q.2)):=by rw[at7];rfl
  rw[e,aw];unfold dW;rw[at7,at7];rfl
 rw[this];exact List.Pairwise.map _ (fun a b anB e=>anB (by injection e)) h.me
theorem w8.nil (l:List bd) (lx:List qU):w8 l lx [] []:=⟨fun _ _ _ _=>by simp⟩
theorem w8.step {l:List bd} {lx:List qU} {bK fA:aC4} (h:w8 l lx bK fA) (O:(lx.map (·.1)).Nodup) (ha:(lx.map vC).Nodup) {p:qU} (ai:p∈lx) {a:Nat} (e:vC p=some a):w8 l lx (bK++[p.1]) (fA++[a]):=by
 refine⟨fun q aT b dp=>?_⟩;have E:=h.Ol q aT b dp
 have G:q.1=p.1↔b=a:=⟨fun ae=>by
  have:=wV O aT ai ae;subst this;rw[e] at dp;injection dp with bm
  exact bm.symm,fun ae=>by
  have:=wV ha aT ai (dp.trans (by rw[ae,e]));rw[this]⟩
 simp only[as1,ar5,E,G]
def y0 (bK:aC4) (l:List qU):List qU:=l.filter fun p=> !bK.contains p.1
theorem anC {bK:aC4} {l:List qU} {p:qU} (ai:p∈l) (hn:p.1∉bK):(y0 (bK++[p.1]) l).length < (y0 bK l).length:=by
 have e:y0 (bK++[p.1]) l=(y0 bK l).filter fun q=> !decide (q.1=p.1):=by
  unfold y0;rw[List.filter_filter];refine List.filter_congr fun q _=>?_
  by_cases e:q.1=p.1 <;>simp[e]
 rw[e];have aA:p∈y0 bK l:=ax3.2 ⟨ai,by simp[hn]⟩;exact List.length_filter_lt_length_iff_exists.2 ⟨p,aA,ay6⟩
abbrev anD (it:Nat) (u:bd->bd) (l:List bd) (b bS:Nat) (lx:List qU) (bK fA:aC4):az:=[(1001,.cells [.mp 1002]),(1002,.aG (.wo b .str .aM lx bS)),(1003,.aG (.bx (kb l))),(1004,.aG (.bx (jT (lj u fA l)))),(it,.aG (.wq b bS bK bS))]
def lk (fr bL:Int) (e:bd):bd:={e with es:=if e.on=true then nw e.s e.g e.es fr bL else e.es}
theorem W1 (fr bL:Int):qT (lk fr bL):=by
 refine⟨fun _=>rfl,fun _=>rfl,fun _=>rfl,fun _=>rfl,fun _=>rfl,fun e h=>⟨h.1,h.2.1,?_⟩⟩;show e5 (if e.on=true then nw e.s e.g e.es fr bL else e.es)
 split
 .exact MZ h.2.2 fr bL
 .exact h.2.2
theorem Om {l:List bd} (h:d9 l) (fr bL:Int):Fn Tryz.prog 101 [aq 1001,ab fr,ab bL] (eA l) [] gO (eA (l.map (lk fr bL))):=by
 have a6:=W1 fr bL;obtain⟨o8,gj,gk⟩:=ku DK;obtain⟨M4,wW,wX⟩:=ku Hq;refine aU [0] Tryz.func101 ?_;refine bw.e4 (di.Rh 1002 rfl) fun x=>?_
 obtain⟨b,lx,bS,vy,N6,bt⟩:=x;have O:(lx.map (·.1)).Nodup:=N6.imp fun h=>by omega
 have ha:=anA h vy;refine bu [] (br) ⟨_,_,fun N=>Rj (d:=12) rfl Tryz.underlying104 rfl rfl N,rfl,?_⟩;refine d2 [1] (X:=aC4×aC4) (fun _=>[(1,ab fr),(2,ab bL),(12,aq 12)]) (fun x=>anD 12 (lk fr bL) l b bS lx x.1 x.2) (fun x=>w8 l lx x.1 x.2) (fun x=>(y0 x.1 lx).length) ([],[]) (w8.nil l lx) ?_ ?_
 .exact ac.sub aC ⟨rfl,rfl,rfl,(by show _=some (ba.aG (.bx (jT (lj (lk fr bL) [] l))));rw[anw];rfl),rfl,trivial⟩
 rintro⟨bK,fA⟩ D';have D':w8 l lx bK fA:=D';refine bw.iL e3 ay7 ?_;refine⟨_,Rn (c:=1002) (r:=12) rfl rfl rfl rfl (fun p ai=>bt _ (ar8 ai)) (aq0 _),fun v e ay=>?_⟩;rcases ay with⟨p,ai,h1,rfl,rfl⟩ |⟨dB,rfl,rfl⟩
 .obtain⟨e,U,Bb⟩:=anz vy ai;have On:vC p=some e.ad:=by unfold vC;rw[Bb]
  have H1:e.ad∉fA:=fun aA=>h1 ((D'.Ol p ai e.ad On).2 aA)
  have en:=D'.step O ha ai On;have rp:=anC ai h1;have cf:=h.D U;have aj:=a6.get h U H1;have iW:=a6.M h U H1;obtain⟨cj,cT,eg,eR⟩:=h.ok e U;have gV:=Hp (ME e.s e.g e.es fr bL cj cT) aj rfl rfl rfl rfl;have J:(if e.on=true then nw e.s e.g e.es fr bL else e.es)=(lk fr bL e).es:=rfl;have hx:p.2.2=(some e.ad:Option Nat):=On;refine⟨_,_,fun N=>Ro (c:=1002) (r:=12) (p:=p) rfl rfl rfl rfl ai N,rfl,?_⟩;refine⟨_,_,fun N=>i' (b:=e.ad) rfl aB1 N,rfl,?_⟩;refine⟨_,_,fun N=>jq rfl Tryz.underlying60 rfl rfl gj az6 rfl N,rfl,?_⟩;refine⟨_,_,fun N=>lq (q:=1003) rfl Tryz.underlying4 rfl rfl rfl cf rfl N,rfl,?_⟩;refine⟨fun vt=>?_,fun vt=>?_⟩
  .have vt:e.on=true:=vt;rw[if_pos vt] at J;rw[J] at gV;change Fn _ _ _ _ _ _ [(1004,.aG (.bx (e' (jT (lj (lk fr bL) fA l)) e.du (fo (lk fr bL e).s (lk fr bL e).g (lk fr bL e).es))))] at gV;rw[iW] at gV;refine⟨_,_,fun N=>i' (b:=e.ad) rfl aB1 N,rfl,?_⟩;refine⟨_,_,fun N=>jq rfl Tryz.underlying60 rfl rfl wW (by rw[wX];decide) rfl N,rfl,?_⟩;refine⟨_,_,fun N=>lq (q:=1003) rfl Tryz.underlying58 rfl rfl rfl cf rfl N,rfl,?_⟩;exact av gV ⟨(bK++[p.1],fA++[e.ad]),en,rp,ac.sub aC aC⟩
  .have vt:e.on=false:=vt;rw[if_neg (by rw[vt];decide)] at J;have ae:fo (lk fr bL e).s (lk fr bL e).g (lk fr bL e).es=fo e.s e.g e.es:=by rw[<-J];rfl
   rw[ae,xX aj] at iW;exact⟨(bK++[p.1],fA++[e.ad]),en,rp,ac.sub aC ⟨rfl,rfl,rfl,congrArg (fun aB=>some (ba.aG (.bx aB))) iW,rfl,trivial⟩⟩
 .have x9: ∀e,e∈l->e.ad∈fA:=fun e U=>by
   have:jS e∈lx.map (·.2):=by rw[vy];exact ar8 U
   obtain⟨p,ai,ao⟩:=as9.1 this;exact(D'.Ol p ai e.ad (by unfold vC;rw[ao])).1 (dB p ai)
  have na:=W0 (u:=lk fr bL) x9;have pc:lx.map (·.2)=dW (l.map (lk fr bL)):=by rw[vy,<-na,a6.uy]
  have sG:kb l=kb (l.map (lk fr bL)):=by rw[<-na,a6.D]
  exact⟨_,_,_,ac.Ri 1002 rfl,rfl,trivial,⟨rfl,congrArg (fun aB=>some (ba.map .str .aM aB)) pc,congrArg (fun aB=>some (ba.aG (.bx aB))) sG,congrArg (fun aB=>some (ba.aG (.bx (jT aB)))) na,trivial⟩,rfl⟩
end
section
section
variable {ids:aC4} {K:aY} {B:az}
theorem cc.set {ρ:Nat->bn} {I:Nat->Prop} {w:World} {s t:bB} (en: ∀v,dY ρ I w s v->dY ρ I w t v): ∀{l:List bB} {aE:List Value} {j:Nat},l[j]? =some s->cc ρ I w l aE->cc ρ I w (l.set j t) aE
 | [],_,j,V,_=>by cases j <;>cases V
 |x::l,_,0,V,⟨v,r,e,E,G⟩=>by
  injection V with V
  subst V;exact⟨v,r,e,en v E,G⟩
 |x::l,_,j+1,V,⟨v,r,e,E,G⟩=>⟨v,r,e,E,cc.set en (l:=l) (j:=j) V G⟩
theorem ac.vD (c j:Nat) {l:List bB} (J:ag B c=some (.cells l)) (V:l[j]? =some (.bJ (.pointer none))):ac ids K B K ((c,.cells (l.set j (.d (.aM none))))::B):=by
 rintro N C a w ⟨hn,H,ρ,F,aj,ar⟩
 obtain⟨bI,a1⟩:=aj.hI (w':=w) (ch:=.cells (l.set j (.d (.aM none)))) J (cS.refl _ _) fun I a8=>by
  obtain⟨E,aE,T,G,af⟩:=aj.holds c _ J;exact⟨E,aE,T,G,cc.set (s:=.bJ (.pointer none)) (t:=.d (.aM none)) (fun v h=>h) V (cc.mono a8 _ _ (fun _ _=>rfl) af)⟩
 exact⟨hn,H,ρ,F,bI,ar.mono a1 fun _ _ _=>rfl⟩
theorem ac.Ea (q:Nat) {p:Nat×bc} {L:List (Nat×bc)} (aT:ag B q=some (.aG (.bx (p::L)))):ac ids K B K ((q,.aG (.bx [p]))::B):=by
 rintro N C a w ⟨hn,H,ρ,F,aj,ar⟩;obtain⟨cG,cN,x,cj,cT,eg,eR,uM⟩:fM _ w (p::L) (F q):=aj.holds q _ aT;obtain⟨bI,a1⟩:=aj.FX (w':=w) (ch:=.aG (.bx [p])) aT cG (fun b O=>(cj b).2 (.inl O)) (cS.refl _ _) fun I a8=>⟨cG,fun _=>False,x,fun b=>by simp,fun _ _ h=>h,eg,p.2.cp _ _ _ _ _ _ eR a8 (fun _ _=>rfl) (aq0 _),fun _ h=>h⟩
 exact⟨hn,H,ρ,_,bI,ar.mono a1 fun _ _ _=>rfl⟩
theorem ac.W2 (q:Nat) {L:List (Nat×bc)} (aT:ag B q=some (.aG (.bx L))):ac ids K B K ((q,.aG (.bx []))::B):=by
 rintro N C a w ⟨hn,H,ρ,F,aj,ar⟩;obtain⟨bI,a1⟩:=aj.FX (w':=w) (ch:=.aG (.bx [])) aT (fun _=>False) (fun b O=>O.elim) (cS.refl _ _) fun I a8=>fun _ h=>h
 exact⟨hn,H,ρ,_,bI,ar.mono a1 fun _ _ _=>rfl⟩
def Eb (_:bn):bc where
 bo:=fun _ F _ _=> ∀x,¬F x
 cp:=fun _ _ _ _ _ _ h _ _ _=>h
theorem ac.qV (q d:Nat) {ch:ba} (aT:ag B q=some ch):ac ids K B K ((q,.b5 d Eb)::B):=by
 rintro N C a w ⟨hn,H,ρ,F,aj,ar⟩;obtain⟨bI,a1⟩:=aj.FX (w':=w) (ch:=.b5 d Eb) aT (fun _=>False) (fun b O=>O.elim) (cS.refl _ _) fun I a8=>fun _ h=>h
 exact⟨hn,H,ρ,_,bI,ar.mono a1 fun _ _ _=>rfl⟩
theorem ac.W3 (q d:Nat) (aT:g6 ids K B q=true) (a7:d≠q):ac ids K B K ((q,.b5 d Eb)::B):=by
 rintro N C a w ⟨hn,H,ρ,F,aj,ar⟩;have cy:=k4 aT;obtain⟨bI,a1⟩:=aj.make (ch:=.b5 d Eb) (w':=w) aT (Below.refl _ _) (ρ q) (fun _=>False) (fun _ h=>h.elim) (fun I _ _=>fun _ h=>h);exact⟨hn,H,_,_,bI,ar.mono a1 fun s c J=>dh _ _ (fun e=>by subst e;rw[cy.1 s] at J;cases J)⟩
theorem ac.Ii (q c d m b:Nat) (bp:az) {cz:ba} (aT:ag B q=some cz) (uN:(cr bp).contains q=false) (c5:k2 B bp) (aA:ag B m=some (.b5 c (fc b))):ac ids K B K ((q,.b5 d (n3 b c d bp))::pD (cr bp) B):=by
 rintro N C a w ⟨hn,H,ρ,F,aj,ar⟩;have uN:=wl uN;have ak: ∀{d ch},ag bp d=some ch->ag B d=some ch:=fun {d ch} h=>kI c5 h
 have wm: ∀{e ch},ag ((q,ba.b5 d (n3 b c d bp))::pD (cr bp) B) e=some ch->e=q\/e∈cr bp->e=q/\ch= .b5 d (n3 b c d bp):=fun {e ch} U aA=>by
  rw[cd] at U
  split at U
  .rename_i ao;injection U with U;exact⟨ao.symm,U.symm⟩
  .rename_i ao;rcases aA with aA |aA
   .exact absurd aA.symm ao
   .rw[xT,if_pos aA] at U;cases U
 obtain⟨bI,a1⟩:=aj.step (B':=(q,.b5 d (n3 b c d bp))::pD (cr bp) B) (ρ':=ρ) (F':=da F q (fun x=> ∃e ch,ag bp e=some ch/\F e x)) (w':=w) (fun e=>e=q\/e∈cr bp) (fun _=>False) (cS.refl _ _)
  (fun e ch U aA=>by
   rw[cd,if_neg (fun h=>aA (.inl h.symm)),xT,if_neg (fun h=>aA (.inr h))] at U;exact U)
  (fun _ _=>rfl) (fun e aA=>dh _ _ (fun h=>aA (.inl h))) (fun _ _ h=>h) (fun _ h=>h.elim) (fun _ _ _ _ _ _ h=>h)
  (fun e ch U aA a1=>by
   obtain⟨rfl,rfl⟩:=wm U aA;rw[c7];exact⟨ρ,F,pF (N:=N) (a:=a) aj az0,rfl,fun d ch h=>Holds.cp a1 (fun _ _=>rfl) (aq0 _) ch (fun _ _=>rfl) (aj.holds d ch (ak h)),fun d c3 ch ch' b h h' a7=>aj.fh d c3 ch ch' b (ak h) (ak h') a7,fun b=>Iff.rfl⟩)
  (fun e ch U aA x hx=>by
   obtain⟨rfl,rfl⟩:=wm U aA;rw[c7] at hx;obtain⟨c3,ch',E,G⟩:=hx;exact⟨(aj.own c3 ch' (ak E) x G).1,.inl ⟨c3,ch',ak E,.inr (gv.2 ⟨ch',E⟩),G⟩⟩)
  (fun e b7 ch ch' x U gW aA gu a7=>absurd ((wm U aA).1.trans (wm gW gu).1.symm) a7)
 exact⟨hn,H,ρ,_,bI,ar.mono a1 fun _ _ _=>rfl⟩
end
inductive kX where
 |no
 |de (top base:aC3) (l:aC4) (over:Bool)
 |pl (top base:aC3) (over:Bool)
 |pu (nm:aC3) (n rm:Int) (l:aC4) (g:List (Nat×aC3)) (over done:Bool)
abbrev s5 (top base:aC3) (l:aC4) (over:Bool):az:=[(2001,.cells (Mv top base over)),(2002,.map al al (f2 l))]
abbrev vE (top base:aC3) (over:Bool):az:=[(2001,.cells (Hf top base over))]
abbrev nI (z:Int) (nm:aC3) (n rm:Int) (l:aC4) (g:List (Nat×aC3)) (over done:Bool):az:=[(2001,.cells (DC nm z n rm over done)),(2002,.map al al (f2 l)),(2003,.map al jP (kw g))]
def W4 (z:Int) (b:Nat):kX->bn->bc
 | .no=>Eb
 | .de top base l over=>n3 b 2001 1001 (s5 top base l over)
 | .pl top base over=>n3 b 2001 1001 (vE top base over)
 | .pu nm n rm l g over done=>n3 b 2001 1001 (nI z nm n rm l g over done)
abbrev Ij (T b:Nat):Value:=.iface T (.pointer (some ⟨b,0,none⟩))
def qW (b:Nat):kX->Value
 | .no=>.nilIface
 | .de .. =>Ij 74 b
 | .pl .. =>Ij 136 b
 | .pu .. =>Ij 75 b
def w9 (b:Nat):kX->Option Nat
 | .de .. =>some b
 |_=>none
def xa (b:Nat):kX->Option Nat
 | .pu .. =>some b
 |_=>none
def Ec:kX->Int
 | .no=>0
 | .de .. =>1
 | .pl .. =>2
 | .pu .. =>3
abbrev Ed:=Int×Int×List (Z al×Z al)
structure Made where
 f4:bW
 eW:aC3
 eo:Option (Nat×Ed)
def anE:Option (Nat×Ed)->List (Nat×bc)
 |none=>[]
 |some p=>[(p.1,fo p.2.1 p.2.2.1 p.2.2.2)]
abbrev r4 (l:List bd):bc:=.i9 1001 (eA l)
abbrev r5 (Q:List bW):bc:=.i9 1001 (kT Q)
structure b0 where
 z:Nat
 R:Nat
 L:List aL
 aR:aC3
 db:Nat
 ds:List bd
 es:gb
 M:ee
 lb:Nat
 Q:List bW
 b:Nat
 bM:kX
 bH:Made
abbrev Ik (z:Int) (aR:aC3) (db lb:Nat) (kd:Int) (fB:Value) (de pu:Option Nat) (m:Made):List bB:=[.d (.int .i64 z),.d (.str aR),.ptr 1001 0,.d (.aM (some db)),.ptr 1201 0,.d (.aM (some lb)),.d (.int .i64 kd),.bJ fB,.d (.aM de),.d (.aM pu),
 .d (.str (ep m.f4)),.d (.str (dA m.f4)),.d (.int .i64 (c2 m.f4)),.d (.int .i64 (eH m.f4)),.d (.co oy (cB m.f4)),.d (.str m.eW),.d (.aM (m.eo.map (·.1)))]
abbrev anF (w:b0):List bB:=Ik w.z w.aR w.db w.lb (Ec w.bM) (qW w.b w.bM) (w9 w.b w.bM) (xa w.b w.bM) w.bH
abbrev W5 (w:b0):Nat×ba:=(1401,.cells (anF w))
abbrev W6 (w:b0):Nat×ba:=(1501,.b5 1001 (W4 w.z w.b w.bM))
abbrev W7 (w:b0):Nat×ba:=(1601,.aG (.bx (anE w.bH.eo)))
abbrev Oo (w:b0):Nat×ba:=(1101,.aG (.bx [(w.db,r4 w.ds)]))
abbrev W8 (w:b0):Nat×ba:=(1301,.aG (.bx [(w.lb,r5 w.Q)]))
def Ee (z R:Int) (L:List aL):bc:=.i9 1001 (bO z R L)
def y1 (es:gb) (M:ee):bc:=.i9 1201 (nF 1201 1202 1203 4096 es M)
abbrev oG (z R:Nat) (L:List aL):Nat×ba:=(1001,.aG (Ee z R L))
abbrev p7 (es:gb) (M:ee):Nat×ba:=(1201,.aG (y1 es M))
abbrev cQ (w:b0):az:=[oG w.z w.R w.L,Oo w,p7 w.es w.M,W8 w,W5 w,W6 w,W7 w]
section
variable {f:FuncId} {args:List aP} {z R:Nat} {L:List aL} {aJ:az} {bb:aC4} {res:aP}
theorem cx.W9 {X:Type} {res:X->aP} {L':X->List aL} {aO:X->az} (h:cx Tryz.prog f args (bO z R L++aJ) bb res (fun g=>bO z R (L' g)++aO g)) (E:nZ 1001 [1002,1003,1004] args (bO z R L) aJ bb bb=true)
  (G: ∀g,n0 1001 (mO [1002,1003,1004] bb bb) (res g) (bO z R (L' g)) (aO g)=true):cx Tryz.prog f args (oG z R L::aJ) bb res (fun g=>oG z R (L' g)::aO g):=
 cx.close (o':=fun g=>Ee z R (L' g)) [1002,1003,1004] h (fun _ _ _ _ h=>h) (fun _ _ _ _ _ h=>h) E G
theorem Fn.y2 {L':List aL} {aO:az} (h:Fn Tryz.prog f args (bO z R L++aJ) bb res (bO z R L'++aO)) (E:nZ 1001 [1002,1003,1004] args (bO z R L) aJ bb bb=true)
  (G:n0 1001 (mO [1002,1003,1004] bb bb) res (bO z R L') aO=true):Fn Tryz.prog f args (oG z R L::aJ) bb res (oG z R L'::aO):=
 (cx.W9 (X:=Unit) (L':=fun _=>L') (aO:=fun _=>aO) (res:=fun _=>res) h.x E fun _=>G).fn
theorem Fn.ch {L':List aL} (h:Fn Tryz.prog f args (bO z R L) [] res (bO z R L')) (E:nZ 1001 [1002,1003,1004] args (bO z R L) [] [] []=true:=by first |rfl |decide)
  (G:n0 1001 (mO [1002,1003,1004] [] []) res (bO z R L') []=true:=by first |rfl |decide):Fn Tryz.prog f args [oG z R L] [] res [oG z R L']:=
 Fn.y2 (aJ:=[]) (aO:=[]) (by rw[at6,at6];exact h) E G
end
def bc.jf {X:Type} (o:X->bc):bc where
 bo:=fun I F w p=> ∃g,(o g).bo I F w p
 cp:=fun I F w I' w' p ⟨g,h⟩ U bh aN=>⟨g,(o g).cp I F w I' w' p h U bh aN⟩
theorem cx.jf {P:Program} {f:FuncId} {args:List aP} {aJ:az} {bb:aC4} {res:aP} {X:Type} {q:Nat} {o:X->bc} {aO:az} (h:cx P f args aJ bb (fun _=>res) (fun g=>(q,.aG (o g))::aO)):Fn P f args aJ bb res ((q,.aG (.jf o))::aO):=by
 refine⟨h.1,fun ρ F I w bU bZ cg a3 a4 a5 gB=>(h.2 ρ F I w bU bZ cg a3 a4 a5 gB).mono ?_⟩;rintro e w' ⟨g,x,ρ',F',ae,ao,bm,I',c0,fQ,hY,pb,Oq,D4⟩
 have ma: ∀{c ch},ag ((q,ba.aG (.jf o))::aO) c=some ch-> ∃ch',ag ((q,ba.aG (o g))::aO) c=some ch'/\((c=q/\ch= .aG (.jf o)/\ch'= .aG (o g))\/ch=ch'):=fun {c ch} J=>by
  rw[cd] at J
  split at J
  .rename_i e;injection J with J
   exact⟨_,by rw[cd,if_pos e],.inl ⟨e.symm,J.symm,rfl⟩⟩
  .rename_i e;exact⟨ch,by rw[cd,if_neg e];exact J,.inr rfl⟩
 refine⟨x,ρ',F',ae,ao,bm,I',c0,fQ,fun c ch J=>?_,fun c ch J=>?_,fun c b9 ch ch' b J cK a7=>?_,D4⟩
 .obtain⟨ch',E,G⟩:=ma J;have:=hY c ch' E;rcases G with⟨rfl,rfl,rfl⟩ |rfl
  .exact⟨g,this⟩
  .exact this
 .obtain⟨ch',E,_⟩:=ma J;exact pb c ch' E
 .obtain⟨Bh,E,_⟩:=ma J;obtain⟨Ef,G,_⟩:=ma cK;exact Oq c b9 Bh Ef b E G a7
theorem Fn.anG {P:Program} {f:FuncId} {args:List aP} {aJ:az} {bb:aC4} {res:aP} {X:Type} {q:Nat} {o:X->bc} {aO:az} (h:Fn P f args aJ bb res ((q,.aG (.jf o))::aO)):cx P f args aJ bb (fun _=>res) (fun g=>(q,.aG (o g))::aO):=by
 refine⟨h.1,fun ρ F I w bU bZ cg a3 a4 a5 gB=>(h.2 ρ F I w bU bZ cg a3 a4 a5 gB).mono ?_⟩;rintro e w' ⟨x,ρ',F',ae,ao,bm,I',c0,fQ,hY,pb,Oq,D4⟩;have aT:ag ((q,ba.aG (.jf o))::aO) q=some (.aG (.jf o)):=aA1
 obtain⟨g,aZ⟩:(bc.jf o).bo I' (F' q) w' (ρ' q):=hY q _ aT
 have ma: ∀{c ch},ag ((q,ba.aG (o g))::aO) c=some ch->(c=q/\ch= .aG (o g))\/ag ((q,ba.aG (.jf o))::aO) c=some ch:=fun {c ch} J=>by
  rw[cd] at J
  split at J
  .rename_i e;injection J with J;exact .inl ⟨e.symm,J.symm⟩
  .rename_i e;exact .inr (by rw[cd,if_neg e];exact J)
 have Ot: ∀{c ch},ag ((q,ba.aG (o g))::aO) c=some ch-> ∃ch',ag ((q,ba.aG (.jf o))::aO) c=some ch':=fun {c ch} J=>by
  rcases ma J with⟨rfl,_⟩ |h
  .exact⟨_,aT⟩
  .exact⟨_,h⟩
 refine⟨g,x,ρ',F',ae,ao,bm,I',c0,fQ,fun c ch J=>?_,fun c ch J=>?_,fun c b9 ch ch' b J cK a7=>?_,D4⟩
 .rcases ma J with⟨rfl,rfl⟩ |h
  .exact aZ
  .exact hY c ch h
 .obtain⟨ch',h'⟩:=Ot J;exact pb c ch' h'
 .obtain⟨Bh,E⟩:=Ot J;obtain⟨Ef,G⟩:=Ot cK;exact Oq c b9 Bh Ef b E G a7
theorem ac.aG {ids:aC4} {K:aY} {B:az} (q:Nat) {o o':bc} (aT:ag B q=some (.aG o)) (h: ∀I F w p,o.bo I F w p->o'.bo I F w p):ac ids K B K ((q,.aG o')::B):=by
 rintro N C a w ⟨hn,H,ρ,F,aj,ar⟩;obtain⟨bI,a1⟩:=aj.hI (w':=w) (ch:=.aG o') aT (cS.refl _ _) fun I a8=>h _ _ _ _ (o.cp _ _ _ _ _ _ (aj.holds q _ aT) a8 (fun _ _=>rfl) (aq0 _))
 exact⟨hn,H,ρ,F,bI,ar.mono a1 fun _ _ _=>rfl⟩
theorem di.jf {ids:aC4} {K:aY} {B:az} (q:Nat) {X:Type} {o:X->bc} (aT:ag B q=some (.aG (.jf o))):di ids K B (X:=X) (fun _=>K) (fun g=>(q,.aG (o g))::B):=by
 rintro N C a w ⟨hn,H,ρ,F,aj,ar⟩;obtain⟨g,aZ⟩:(bc.jf o).bo (bX C B F w) (F q) w (ρ q):=aj.holds q _ aT;obtain⟨bI,a1⟩:=aj.hI (w':=w) (ch:=.aG (o g)) aT (cS.refl _ _) fun I a8=>(o g).cp _ _ _ _ _ _ aZ a8 (fun _ _=>rfl) (aq0 _)
 exact⟨g,hn,H,ρ,F,bI,ar.mono a1 fun _ _ _=>rfl⟩
end
section
theorem Fn.anH {P:Program} {f:FuncId} {args:List aP} {c b:Nat} {aJ:az} {bb:aC4} {res:aP} {aO:az} {o o':bc} (h:Fn P f args ((c,.aG o)::aJ) bb res ((c,.aG o')::aO)) (J:bb.contains c=false):Fn P f args ((c,.aG (o.at b))::aJ) bb res ((c,.aG (o'.at b))::aO):=by
 have lH:c∉bb:=wl J
 have key: ∀{X:az} {aB z':bc} {d:Nat} {ch:ba},ag ((c,ba.aG aB)::X) d=some ch->(d=c/\ch= .aG aB)\/(d≠c/\ag X d=some ch):=fun {X aB z' d ch} H=>by
  rw[cd] at H
  split at H
  .rename_i e;injection H with H;exact .inl ⟨e.symm,H.symm⟩
  .rename_i e;exact .inr ⟨fun ao=>e ao.symm,H⟩
 have to: ∀{X:az} {aB z':bc} {d:Nat} {ch:ba},ag ((c,ba.aG aB)::X) d=some ch-> ∃ch',ag ((c,ba.aG z')::X) d=some ch':=fun {X aB z' d ch} H=>by
  rcases key (z':=aB) H with⟨rfl,_⟩ |⟨e,H⟩
  .exact⟨_,by rw[cd,if_pos rfl]⟩
  .exact⟨ch,by rw[cd,if_neg (Ne.symm e)];exact H⟩
 refine⟨h.1,fun ρ F I w bU bZ cg a3 a4 a5 gB=>?_⟩;have ak:ag ((c,ba.aG (o.at b))::aJ) c=some (.aG (o.at b)):=aA1
 have ap:(ρ c).bk=b/\o.bo I (F c) w (ρ c):=cg c _ ak;refine(h.2 ρ F I w bU bZ (fun d ch H=>?_) (fun d ch H x hx=>?_) (fun d c3 ch ch' x E G=>?_) a5 gB).mono ?_
 .rcases key (z':=o) H with⟨rfl,rfl⟩ |⟨e,H⟩
  .exact ap.2
  .exact cg d ch (by rw[cd,if_neg (Ne.symm e)];exact H)
 .obtain⟨ch',h'⟩:=to (z':=o.at b) H;exact a3 d ch' h' x hx
 .obtain⟨cI,g1⟩:=to (z':=o.at b) E;obtain⟨cE,g2⟩:=to (z':=o.at b) G;exact a4 d c3 cI cE x g1 g2
 .rintro e w' ⟨x,ρ',F',r1,r2,gg,I',j2,lL,mb,lM,mQ,n1⟩
  have bh: ∀y,(∃d ch,ag ((c,ba.aG o)::aJ) d=some ch/\F d y)-> ∃d ch,ag ((c,ba.aG (o.at b))::aJ) d=some ch/\F d y:=fun y ⟨d,ch,g1,g2⟩=>by
   obtain⟨ch',cX⟩:=to (z':=o.at b) g1;exact⟨d,ch',cX,g2⟩
  refine⟨x,ρ',F',r1,r2.mono fun y _ aD=>bh y aD,gg,I',j2,fun y aD=>⟨(lL y aD).1,(lL y aD).2.imp id (Or.imp (bh y) id)⟩,fun d ch H=>?_,fun d ch H y aD=>?_,fun d c3 ch ch' y g1 g2 a7 aD=>?_,n1⟩
  .rcases key (z':=o') H with⟨rfl,rfl⟩ |⟨e,H⟩
   .have:=mb d _ aA1;exact⟨by rw[gg d lH];exact ap.1,this⟩
   .exact mb d ch (by rw[cd,if_neg (Ne.symm e)];exact H)
  .obtain⟨ch',cX⟩:=to (z':=o') H;obtain⟨cA,cF,dF⟩:=lM d ch' cX y aD;exact⟨cA,cF,dF.imp (bh y) id⟩
  .obtain⟨cI,cA⟩:=to (z':=o') g1;obtain⟨cE,cF⟩:=to (z':=o') g2;exact mQ d c3 cI cE y cA cF a7 aD
theorem Fn.Il {P:Program} {f:FuncId} {args:List aP} {aJ nc:az} {bb:aC4} {res:aP} {aO n2:az} (h:Fn P f args aJ bb res aO) (E: ∀c,ag nc c=ag aJ c) (G: ∀c,ag n2 c=ag aO c):Fn P f args nc bb res n2:=by
 unfold Fn at h⊢;simpa only[E,G] using h
end
end Go.Proofs.YtkfbeijmgggkmaaGreat
