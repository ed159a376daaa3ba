/-
A part of the proof of this claim: lemmas, with no condition beyond what each says.
-/
import Derived.Test.YtkfbeijmgggkmaaGreatZe5
set_option linter.all false
set_option maxRecDepth 100000
set_option maxHeartbeats 0
namespace Go.Proofs.YtkfbeijmgggkmaaGreat
open Go.RowKit Go.Proofs _root_.Go.Proofs.Tryz Tryz
section
abbrev jA:=Option (Int×aG9)
inductive zx (L:List (Nat×bg)) (bF:Nat):aa .fn->jA->Prop
 |f:zx L bF (ra bF) none
 |w {a b:Nat} {at_:Int} {x:aG9}:eH L a=some (hB (.int .i64 at_))->eH L b=some (hB (.bG .u8 x))->zx L bF (oY bF a b) (some (at_,x))
def qm (L:List (Nat×bg)) (bF:Nat):List (aa .fn)->List jA->Prop
 | [],[]=>True
 |f::l,t::m=>zx L bF f t/\qm L bF l m
 |_,_=>False
def Xe {a:Nat} {o:bg}: ∀{L:List (Nat×bg)},eH L a=some o->a∈L.map (·.1)
 | [],h=>by cases h
 |(b,q)::L,h=>by
  unfold eH at h
  split at h
  .rename_i e;rw[au1];exact as8.2 (.inl e.symm)
  .rw[au1];exact as6 _ (Xe h)
def EL {a b:Nat} {o q:bg} {L:List (Nat×bg)} (h:eH L a=some o) (hn:b∉L.map (·.1)):eH ((b,q)::L) a=some o:=by
 have a8: ¬b=a:=fun e=>hn (e▸Xe h)
 unfold eH;rw[mu a8];exact h
def zx.qO {L:List (Nat×bg)} {bF b:Nat} {q:bg} (hn:b∉L.map (·.1)) {f:aa .fn} {t:jA} (h:zx L bF f t):zx ((b,q)::L) bF f t:=by
 cases h with
 |f=>exact .f
 |w E G=>exact .w (EL E hn) (EL G hn)
def qm.qO {L:List (Nat×bg)} {bF b:Nat} {q:bg} (hn:b∉L.map (·.1)): ∀{l:List (aa .fn)} {m:List jA},qm L bF l m->qm ((b,q)::L) bF l m
 | [],[],_=>trivial
 |f::l,t::m,h=>⟨h.1.qO hn,qm.qO hn h.2⟩
 | [],_::_,h=>h.elim
 |_::_,[],h=>h.elim
def qm.BW {L:List (Nat×bg)} {bF:Nat} {f:aa .fn} {t:jA} (G:zx L bF f t): ∀{l:List (aa .fn)} {m:List jA},qm L bF l m->qm L bF (l++[f]) (m++[t])
 | [],[],_=>⟨G,trivial⟩
 |f::l,t::m,h=>⟨h.1,qm.BW G h.2⟩
 | [],_::_,h=>h.elim
 |_::_,[],h=>h.elim
def qm.len {L:List (Nat×bg)} {bF:Nat}: ∀{l:List (aa .fn)} {m:List jA},qm L bF l m->l.length=m.length
 | [],[],_=>rfl
 |f::l,t::m,h=>by rw[aw4,aw4,qm.len h.2]
 | [],_::_,h=>h.elim
 |_::_,[],h=>h.elim
def zy (x:D):(hB x).pn:=fun I F w p h=>(h.1 _).2 rfl
structure re (L:List (Nat×bg)) (bF s:Nat) (e4:List (aa .fn)) (gG:List jA):Prop where
 an: ∀p∈L,p.2.pn
 ae:eH L bF=some (hB (.aM (some s)))
 ax:qm L bF e4 gG
def re.write {L:List (Nat×bg)} {bF s a b:Nat} {e4:List (aa .fn)} {gG:List jA} {at_:Int} {x:aG9} (h:re L bF s e4 gG) (hn:(((b,hB (.bG .u8 x))::(a,hB (.int .i64 at_))::L).map (·.1)).Nodup):
  re ((b,hB (.bG .u8 x))::(a,hB (.int .i64 at_))::L) bF s (e4++[oY bF a b]) (gG++[some (at_,x)]):=by
 rw[au1,av5,au1,av5] at hn;obtain⟨c0,d5,lO⟩:=hn;rw[as8,not_or] at c0
 have O:b∉((a,hB (.int .i64 at_))::L).map (·.1):=by
  rw[au1,as8,not_or];exact c0
 refine⟨fun p ae=>?_,EL (EL h.ae d5) O,qm.BW (.w (EL ?_ O) ?_) ((h.ax.qO d5).qO O)⟩
 .rcases as8.1 ae with rfl |ae
  .exact zy _
  .rcases as8.1 ae with rfl |ae
   .exact zy _
   .exact h.an p ae
 .unfold eH;rw[vj rfl]
 .unfold eH;rw[vj rfl]
def re.qj {L:List (Nat×bg)} {bF s:Nat} {e4:List (aa .fn)} {gG:List jA} (h:re L bF s e4 gG):re L bF s (e4++[ra bF]) (gG++[none]):=⟨h.an,h.ae,h.ax.BW .f⟩
abbrev uE (e:Int) (e4:List (aa .fn)) (L:List (Nat×bg)):aA:=[(1001,.cells [.d (.bG .fn e4),.d (.int .i64 e)]),(1005,.aH (.bA L))]
def sn (s:Nat) (gG:List jA) (e:Int):bg where
 bp:=fun I F w p=> ∃(bF:Nat) (e4:List (aa .fn)) (L:List (Nat×bg)),re L bF s e4 gG/\jJ 1001 (uE e e4 L) I F w p
 cr:=fun I F w I' w' p ⟨bF,e4,L,Z,h⟩ U bj aN=>⟨bF,e4,L,Z,(bg.jq 1001 (uE e e4 L)).cr I F w I' w' p h U bj aN⟩
def lY (b:aG9) (j:Nat):aG9:=laid (List.replicate 16 0) 0 16 (b.drop (16*j))
def lG (b:aG9) (k ll:Int):Nat->List jA
 |0=>[]
 |j+1=>lG b k ll j++[some (2+k*ll+(j:Nat),lY b j)]
def zz (b:aG9) (k ll:Int): ∀j,(lG b k ll j).length=j
 |0=>rfl
 |j+1=>by rw[lG,as4,zz];rfl
def hv (b:aG9):Nat:=(b.length+15)/16
def qn (b:aG9) (n:Int):aG9:=sm (eV 4 [(n+1).toNat,b.length,(jR b).toNat])
def tB (b:aG9) (k ll n:Int):List jA:=lG b k ll (hv b)++[none]++[some (k,qn b n)]++[none]
abbrev Xf (b:aG9) (bF:Nat) (n k:Int) (j:Nat):aZ:=[(1,bP .u8 b),(2,dy bF),(8,ab n),(9,ab k),(10,ap 10),(11,.c (.one (.c3 242 [.d (.aM (some bF))]))),(12,.c (.one (.c3 244 [.p 10 0,.d (.aM (some bF))]))),(13,ab (16*(j:Nat)))]
abbrev Xg (M:ey) (d:Nat) (e4:List (aa .fn)) (L:List (Nat×bg)):aA:=[(10,.cells [.ptr 37 0]),(37,.cells [.own d,.d (.int .i64 0)]),(d,.row 128 .fn e4),(1005,.aH (.bA L)),(1003,.aH (.bA (e6 M)))]
def anY {m:cq} (ag:hu m) (G:2<=m.n) {s:Nat} {M:ey} (al:h6 M s=some m) (b:aG9) (O:(b.length:Int)<=dH m.n*16) (IG:(gP m 2).2.2 < 1073741824) (IH:0<=(gP m 2).2.2) (j8: -1<=(gP m 2).1/\(gP m 2).1<=1):
  Fn prog 217 [dy s,bP .u8 b] [(1003,.aH (.bA (e6 M)))] [2001] (.cn [.one (.ptr 2001 0),dJ 0]) [(1003,.aH (.bA (e6 M))),(2001,.aH (sn s (tB b (((gP m 2).1+1) % 2) (dH m.n) (gP m 2).2.2) 0))]:=by
 obtain⟨a0,b4⟩:=EK G ag.c0;have kI:=ag.c0;have gb:b.length<=1000000:=aD9
 refine aY [8,18,20] func217 ?_;refine⟨rfl,ar (OA ag G al) ?_⟩;generalize gP m 2=bb at IG IH j8⊢;obtain⟨xC,ar8,n⟩:=bb;simp only at IG IH j8⊢;refine ar (BV al) <| ar (Ox m.n ag.lX ag.c0) ⟨fun c=>?_,fun _=>?_⟩
 .have c:dH m.n*16 < (b.length:Int):=gd c;omega
 refine⟨fun c=>as3 (gd c) aD1,fun _=>?_⟩;have cB: -9223372036854775808<=xC+1/\xC+1<=9223372036854775807:=aD9
 have cH:0<=xC+1/\(0:Int) < 2:=aD9
 have dO: -9223372036854775808<=(xC+1) % 2/\(xC+1) % 2<=9223372036854775807:=aD9
 refine⟨cB,cH,dO,?_⟩;have Z:(xC+1) % 2=0\/(xC+1) % 2=1:=aD9
 generalize(xC+1) % 2=k at Z⊢;refine⟨rfl,rfl,bw.le (ac.rK 1005 rfl) <| bw.le (ac.wL 37 0 3006 128 .fn rfl rfl rfl) <| bw.ff (dv.box 2 2 1005 rfl rfl aD2 rfl) fun bF=>bz [] (bt) ?_⟩;refine d1 [12,15] (X:=Nat×List (aa .fn)×List (Nat×bg)) (fun x=>Xf b bF n k x.1) (fun x=>Xg M 3006 x.2.1 x.2.2) (fun x=>x.1<=hv b/\re x.2.2 bF s x.2.1 (lG b k (dH m.n) x.1)) (fun x=>hv b - x.1) (0,[],[(bF,hB (.aM (some s)))]) ⟨at2 _,fun p ae=>(by rw[at7] at ae;rw[ae];exact zy _),by unfold eH;rw[vj rfl],trivial⟩ ?_ ?_
 .exact ac.sub aD aD
 rintro⟨j,e4,L⟩ ⟨V,cE⟩;have V:j<=hv b:=V;have cE:re L bF s e4 (lG b k (dH m.n) j):=cE;have bX:=cE.ax.len;rw[zz] at bX;refine⟨fun J=>?_,fun J=>?_⟩
 .have J:(16*(j:Nat):Int) < (b.length:Nat):=gd J;have eR:j < hv b:=by unfold hv;omega
  refine⟨⟨rfl,aD2,aD2⟩,rfl,?_⟩;have yG:0<=(16*(j:Nat):Int)/\(16*(j:Nat):Int)<=(b.length:Nat):=aD9
  refine⟨yG,aD2,bw.le (ac.eb 46 rfl) <| bw.iJ fa aD4 <| bc (C7 (q:=1005) rfl underlying198 rfl rfl rfl cE.ae) ?_⟩;refine lM ((BV al).x) fun _=>lM ((ID m.n ag.lX ag.c0).x) fun _=>?_
  have xb: -9223372036854775808<=k*dH m.n/\k*dH m.n<=9223372036854775807:=by rcases Z with rfl |rfl <;>omega
  have yH: -9223372036854775808<=2+k*dH m.n/\2+k*dH m.n<=9223372036854775807:=by rcases Z with rfl |rfl <;>omega
  have LG:0<=(16*(j:Nat):Int)/\(0:Int) < 16:=aD9
  have anZ: -9223372036854775808<=(16*(j:Nat):Int)/16/\(16*(j:Nat):Int)/16<=9223372036854775807:=aD9
  have EM:(16*(j:Nat):Int)/16=(j:Nat):=aD9
  have an0: -9223372036854775808<=2+k*dH m.n+(16*(j:Nat):Int)/16/\2+k*dH m.n+(16*(j:Nat):Int)/16<=9223372036854775807:=by rcases Z with rfl |rfl <;>omega
  refine⟨xb,yH,LG,anZ,an0,lM (cC.aX [(1001,10),(1002,37),(1006,3006),(2006,4006)] (W6 (2+k*dH m.n+(16*(j:Nat):Int)/16) _ bF 0 e4 L aD1)) fun g=>bw.ff (dv.C8 1005 ?_ rfl) fun dD=>?_⟩
  .intro p ae;rcases as8.1 ae with rfl |ae
   .exact zy _
   .rcases as8.1 ae with rfl |ae
    .exact zy _
    .exact cE.an p ae
  have qY:laid (List.replicate (Int.toNat 16) 0) 0 (List.replicate (Int.toNat 16) (0:aJ8)).length (List.drop (16*(j:Nat):Int).toNat (List.take b.length b))=lY b j:=by
   unfold lY;rw[au3,show(16*(j:Nat):Int).toNat=16*j by omega];rfl
  have an1:re ((g.2,hB (.bG .u8 (lY b j)))::(g.1,hB (.int .i64 (2+k*dH m.n+(16*(j:Nat):Int)/16)))::L) bF s (e4++[oY bF g.1 g.2]) (lG b k (dH m.n) (j+1)):=by
   have bM:=cE.write (a:=g.1) (b:=g.2) (at_:=2+k*dH m.n+(16*(j:Nat):Int)/16) (x:=lY b j) (by rw[<-qY];exact dD.down);have an2:(some (2+k*dH m.n+(16*(j:Nat):Int)/16,lY b j):jA)=some (2+k*dH m.n+(j:Nat),lY b j):=by rw[EM]
   rw[an2] at bM;exact bM
  have an3: -9223372036854775808<=(16*(j:Nat):Int)+16/\(16*(j:Nat):Int)+16<=9223372036854775807:=aD9
  refine bz [] (bt) ⟨an3,?_⟩;refine⟨(j+1,e4++[oY bF g.1 g.2],(g.2,hB (.bG .u8 (lY b j)))::(g.1,hB (.int .i64 (2+k*dH m.n+(16*(j:Nat):Int)/16)))::L),⟨eR,an1⟩,by show hv b - (j+1) < hv b - j;omega,ac.trans (ac.sub (K':=Xf b bF n k (j+1)) (B':=Xg M 4006 (e4++[oY bF g.1 g.2]) ((g.2,hB (.bG .u8 (lY b j)))::(g.1,hB (.int .i64 (2+k*dH m.n+(16*(j:Nat):Int)/16)))::L)) ⟨rfl,rfl,rfl,rfl,rfl,rfl,rfl,?_,trivial⟩ ⟨rfl,rfl,rfl,?_,rfl,trivial⟩) (ac.aX 4006 3006 rfl)⟩
  .show(16*(j:Nat):Int)+16=16*((j+1:Nat):Int);omega
  .rw[<-qY];rfl
 .have J: ¬(16*(j:Nat):Int) < (b.length:Nat):=oj J;have eR:j=hv b:=by unfold hv at V⊢;omega
  subst eR;have au:=Oc b;have kq:hv b<=100000:=by unfold hv;omega
  have r1: -9223372036854775808<=n+1/\n+1<=9223372036854775807:=aD9
  refine⟨r1,?_⟩;refine ar (Od [b] aD3 (fun y aC=>by rw[at7] at aC;rw[aC];omega)) ?_;have af:([b]:aJ0).flatten=b:=by simp
  rw[af]
  have ao:([n+1,((b.length:Nat):Int),jR b]:List Int)=tn [(n+1).toNat,b.length,(jR b).toNat]:=by
   show _=[(((n+1).toNat:Nat):Int),((b.length:Nat):Int),(((jR b).toNat:Nat):Int)];rw[show(((n+1).toNat:Nat):Int)=n+1 by omega,show(((jR b).toNat:Nat):Int)=jR b by omega]
  refine⟨_,_,_,_,Fn.arg (Fn.aX [(1002,5002)] (Ih 4 [(n+1).toNat,b.length,(jR b).toNat] (by unfold W;omega) (fun x hx=>by
   simp only[as8,List.not_mem_nil,or_false] at hx;rcases hx with rfl |rfl |rfl <;>omega) aD3)) ⟨rfl,rfl,ao,trivial⟩,trivial,rfl,?_⟩
  have hd:e4.length+1<=4294967296:=aD9
  refine⟨hd,rfl,rfl,bw.le (ac.eb 5002 rfl) <| bw.iJ fa aD4 ?_⟩;have an4:(eV 4 [(n+1).toNat,b.length,(jR b).toNat]).length<=1000000:=by rw[nY];simp
  refine lM ((W7 (eV 4 [(n+1).toNat,b.length,(jR b).toNat]) an4).x) fun _=>?_
  refine lM (cC.aX [(1001,10),(1002,37),(1006,83),(2006,4006)] (W6 k (qn b n) bF 0 (e4++[ra bF]) L (by rw[as4];simp;omega))) fun g=>?_
  have fk:(e4++[ra bF]++[oY bF g.1 g.2]).length+1<=4294967296:=aE3
  refine⟨fk,rfl,rfl,bw.ff (dv.C8 1005 ?_ rfl) fun dD=>?_⟩
  .intro p ae;rcases as8.1 ae with rfl |ae
   .exact zy _
   .rcases as8.1 ae with rfl |ae
    .exact zy _
    .exact cE.an p ae
  have an5:=(cE.qj.write (a:=g.1) (b:=g.2) (at_:=k) (x:=qn b n) dD.down).qj;exact bz [] (ac.eb 98 rfl) ⟨_,_,_,(ac.aX 37 2001 rfl).trans (ac.close 2001 [(2001,.cells [.d (.bG .fn (e4++[ra bF]++[oY bF g.1 g.2]++[ra bF])),.d (.int .i64 0)]),(1005,.aH (.bA ((g.2,hB (.bG .u8 (qn b n)))::(g.1,hB (.int .i64 k))::L)))] (o:=sn s (tB b k (dH m.n) n) 0) aD rfl fun I F w p h=>⟨bF,_,_,an5,jJ.aX [(2001,1001)] h⟩),rfl,aD,aD,rfl⟩
end
section
def Xh {f:aI5} {args:List aS} {s:Nat} {gG OB:List jA} {e b9:Int} {aJ aT:aA} {res:aS} (J:jU prog f=true)
  (h: ∀(bF:Nat) (e4:List (aa .fn)) (L:List (Nat×bg)),re L bF s e4 gG-> ∃(BX:List (aa .fn)),re L bF s BX OB/\Fn prog f args (uE e e4 L++aJ) [] res (uE b9 BX L++aT))
  (E: ∀(e4:List (aa .fn)) (L:List (Nat×bg)),ox 1001 [1005] args (uE e e4 L) aJ [] []=true) (G: ∀(e4:List (aa .fn)) (L:List (Nat×bg)),oy 1001 [1005] res (uE b9 e4 L) aT=true):
  Fn prog f args ((1001,.aH (sn s gG e))::aJ) [] res ((1001,.aH (sn s OB b9))::aT):=by
 refine Fn.Gr (Y:={y:Nat×List (aa .fn)×List (Nat×bg)//re y.2.2 y.1 s y.2.1 gG}) (sZ:=fun y=>bg.jq 1001 (uE e y.1.2.1 y.1.2.2)) J (fun I F w p ⟨bF,e4,L,Z,aU⟩=>⟨⟨(bF,e4,L),Z⟩,aU⟩) fun⟨⟨bF,e4,L⟩,Z⟩=>?_
 obtain⟨BX,an6,hf⟩:=h bF e4 L Z;exact(cC.close (br:=uE e e4 L) (dP:=fun _:Unit=>uE b9 BX L) (aT:=fun _=>aT) (o:=bg.jq 1001 (uE e e4 L)) (o':=fun _=>sn s OB b9) [1005] hf.x (fun _ _ _ _ h=>h) (fun _ I F w p aU=>⟨bF,BX,L,an6,aU⟩) (E e4 L) (fun _=>G BX L)).fn
def an7 (s:Nat) (gG:List jA) (e:Int):Fn prog 218 [ap 1001] [(1001,.aH (sn s gG e))] [] (ab (gG.length:Nat)) [(1001,.aH (sn s gG e))]:=by
 refine Xh (aJ:=[]) (aT:=[]) aD4 (fun bF e4 L Z=>⟨e4,Z,?_⟩) (fun _ _=>rfl) fun _ _=>rfl
 refine aY [] func218 ?_;exact eN bt rfl (as5 (fun n:Nat=>(n:Int)) Z.ax.len)
def wd (m:cq):jA->cq×Int
 |none=>(m.qj,0)
 |some (a,x)=>m.write a x
def II {α:Type} (f:α) (l:List α):List.drop 1 (List.take (f::l).length (f::l))=l:=by rw[au3];rfl
def an8 {s:Nat} {st:jA} {rest:List jA} {M:ey} {m:cq} (al:h6 M s=some m) (ag:hu m) (ak:m.fA.length<=1073741824) (hx: ∀a x,st=some (a,x)->x.length<=1073741824) (U:(wd m st).2=0):
  Fn prog 219 [ap 1001] [(1001,.aH (sn s (st::rest) 0)),(1003,.aH (.bA (e6 M)))] [] (.cn [.one (.d (.bool (decide ((rest.length:Int)=0)))),dJ 0]) [(1001,.aH (sn s rest 0)),(1003,.aH (.bA (e6 (iE M s (wd m st).1))))]:=by
 refine Xh (aJ:=[(1003,.aH (.bA (e6 M)))]) (aT:=[(1003,.aH (.bA (e6 (iE M s (wd m st).1))))]) aD4 (fun bF e4 L Z=>?_) (fun _ _=>rfl) fun _ _=>rfl
 match e4,Z with
 | [],Z=>exact Z.ax.elim
 |f::l,Z=>
  refine⟨l,⟨Z.an,Z.ae,Z.ax.2⟩,?_⟩;have bX:=Z.ax.2.len;have eB:=Z.ax.1
  cases eB with
  |f=>
   refine aY [] func219 ?_;refine⟨fun c=>?_,fun _=>?_⟩
   .have c:(((ra bF::l).length:Nat):Int)=0:=gd c;simp at c;omega
   refine⟨aD2,ra bF,rfl,ar (anG Z.ae al) ?_⟩;have q:0<=(1:Int)/\(1:Int)<=(((ra bF::l).length:Nat):Int):=by rw[aw4];omega
   refine⟨q,dE <| fm ⟨rfl,_,_,_,bt,rfl,⟨?_,rfl,trivial⟩,⟨?_,rfl,rfl,trivial⟩,rfl⟩⟩
   .show decide (((List.drop 1 (List.take (ra bF::l).length (ra bF::l))).length:Int)=0)=_;rw[II,bX]
   .show some (ba.cells [.d (.bG .fn (List.drop 1 (List.take (ra bF::l).length (ra bF::l)))),.d (.int .i64 0)])=_;rw[II]
  | @w a b at_ x aW bM=>
   have U:(m.write at_ x).2=0:=U;have hw:=anH Z.ae aW bM al ag (hx at_ x rfl) ak;rw[U] at hw;refine aY [] func219 ?_;refine⟨fun c=>?_,fun _=>?_⟩
   .have c:(((oY bF a b::l).length:Nat):Int)=0:=gd c;simp at c;omega
   refine⟨aD2,oY bF a b,rfl,ar hw ?_⟩;have q:0<=(1:Int)/\(1:Int)<=(((oY bF a b::l).length:Nat):Int):=by rw[aw4];omega
   refine⟨q,dE <| fm ⟨rfl,_,_,_,bt,rfl,⟨?_,rfl,trivial⟩,⟨?_,rfl,rfl,trivial⟩,rfl⟩⟩
   .show decide (((List.drop 1 (List.take (oY bF a b::l).length (oY bF a b::l))).length:Int)=0)=_;rw[II,bX]
   .show some (ba.cells [.d (.bG .fn (List.drop 1 (List.take (oY bF a b::l).length (oY bF a b::l)))),.d (.int .i64 0)])=_;rw[II]
end
section
def tC (n:Int):jA->Prop
 |none=>True
 |some (a,x)=>0<=a/\a < n/\x.length=16
def an9 {n:Int} {s:iD} (h:pJ n s):(s.length:Int)<=max n 0:=by
 have:=IC n.toNat (sk s) h.ho fun k Z=>by have:=h.rg k Z;omega
 rw[show(sk s).length=s.length from at8 _] at this;omega
def Xi {k:Int} {x:aa hj}: ∀{s:iD},(b0 s (k:aa ai)).isSome=true->(tu s k x).length=s.length
 | [],h=>by cases h
 |p::s,h=>by
  rw[BS]
  cases e:nz k p with
  |true=>rfl
  |false=>
   have G:(b0 s (k:aa ai)).isSome=true:=by
    have h:(match nz k p with |true=>some p.2 |false=>b0 s (k:aa ai)).isSome=true:=h;rw[e] at h;exact h
   simp only[aw4];rw[Xi G]
def Xj {k:Int} {x:aa hj}: ∀{s:iD},(b0 s (k:aa ai)).isSome=false->(tu s k x).length=s.length+1
 | [],_=>rfl
 |p::s,h=>by
  rw[BS];have h:(match nz k p with |true=>some p.2 |false=>b0 s (k:aa ai)).isSome=false:=h
  cases e:nz k p with
  |true=>rw[e] at h;cases h
  |false=>
   rw[e] at h;simp only[aw4];rw[Xj h]
def Xk {m:cq} (ag:hu m) (ax:m.n<=m.R) {a:Int} {x:aG9} (h:tC m.n (some (a,x))):m.write a x=(m.IA a x,0):=by
 obtain⟨E,G,ah⟩:=h;have af:v' x=false:=by unfold v';rw[ah];rfl
 have ao:m.lF a (x.length/16:Nat)=true:=by
  rw[ah];simp only[cq.lF,as1,av6];omega
 have Z:(pJ m.n (zs a x m.bO 1)):=Ou E ag.bO 1 aD1 aD1
 have bX:((zs a x m.bO 1).length:Nat)=m.bO.length+mj m.bO a 1:=by
  show(tu m.bO (a+(0:Nat)) (tt x 0)).length=m.bO.length+(match(b0 m.bO (a+(0:Nat):Int)).isSome with |true=>0 |false=>0+1)
  cases e:(b0 m.bO (a+(0:Nat):Int)).isSome with
  |true=>exact Xi e
  |false=>exact Xj e
 have bo:m.sl a (x.length/16)=false:=by
  rw[ah];unfold cq.sl;rw[Bool.and_eq_false_iff];left;refine av7 fun bv=>?_
  have bM:=an9 Z;have:=ag.lX;have bv:m.R < ((m.bO.length+mj m.bO a 1:Nat):Int):=bv;rw[<-bX] at bv;omega
 unfold cq.write;rw[af];simp only;rw[ao];simp only;rw[bo]
def n9 (m:cq) (l:List jA):cq:=l.foldl (fun m st=>(wd m st).1) m
def BY (m:cq) (l:List jA) (st:jA):n9 m (l++[st])=(wd (n9 m l) st).1:=by unfold n9;rw[aC2];rfl
structure OC (m gN:cq) (i:Nat):Prop where
 ok:hu gN
 n:gN.n=m.n
 R:gN.R=m.R
 iv:gN.fA.length<=m.fA.length+i
def Xl {m:cq} (ag:hu m) (ax:m.n<=m.R) {st:jA} (h:tC m.n st):(wd m st).2=0/\OC m (wd m st).1 1:=by
 match st,h with
 |none,_=>exact⟨rfl,ag.qj,rfl,rfl,at2 _⟩
 |some (a,x),h=>
  have e:=Xk ag ax h;have hw:=ag.write a x;show(m.write a x).2=0/\OC m (m.write a x).1 1;rw[e] at hw⊢;refine⟨rfl,hw,rfl,rfl,?_⟩;show(xB a x m.fA (x.length/16)).length<=_;rw[Oi,h.2.2];exact as2 _
def EN {m:cq} (ag:hu m) (ax:m.n<=m.R): ∀(i:Nat) (l:List jA),(∀st∈l,tC m.n st)->i<=l.length->OC m (n9 m (l.take i)) i
 |0,l,_,_=>⟨ag,rfl,rfl,as2 _⟩
 |i+1,l,h,aE=>by
  have bn:=EN ag ax i l h aD1;rw[aw6 aE,BY];have G:=(Xl bn.ok (by rw[bn.n,bn.R];exact ax) (st:=l[i]) (by rw[bn.n];exact h _ (av2 aE))).2;exact⟨G.ok,G.n.trans bn.n,G.R.trans bn.R,by have:=G.iv;have:=bn.iv;omega⟩
def Xm {a:Nat} {m1 m2:cq}: ∀L:ey,iE (iE L a m1) a m2=iE L a m2
 | []=>rfl
 |p::L=>by
  show iE (if p.1=a then(p.1,m1)::L else p::iE L a m1) a m2=if p.1=a then(p.1,m2)::L else p::iE L a m2
  by_cases e:p.1=a
  .rw[vj e,vj e];show(if p.1=a then(p.1,m2)::L else _)=_;rw[vj e]
  .rw[mu e,mu e];show(if p.1=a then _ else p::iE (iE L a m1) a m2)=_;rw[mu e,Xm]
def Xn {a:Nat} {m gN:cq}: ∀{L:ey},h6 L a=some m->h6 (iE L a gN) a=some gN
 | [],h=>by cases h
 |p::L,h=>by
  rw[uD] at h;show h6 (if p.1=a then(p.1,gN)::L else p::iE L a gN) a=_
  by_cases e:p.1=a
  .rw[vj e,uD,vj e]
  .rw[mu e] at h⊢;rw[uD,mu e];exact Xn h
def an' (b:aG9) (j:Nat):(lY b j).length=16:=by unfold lY laid;simp only[as4,at3,ax4,at5];omega
def OD (b:aG9) (n:Int):(qn b n).length=16:=by unfold qn sm;rw[as4,q6,nY];rfl
def Xo {b:aG9} {k ll:Int} {st:jA}: ∀{j:Nat},st∈lG b k ll j-> ∃i:Nat,i < j/\st=some (2+k*ll+(i:Nat),lY b i)
 |0,h=>by cases h
 |j+1,h=>by
  rw[lG,au4,at7] at h;rcases h with h |h
  .obtain⟨i,E,G⟩:=Xo h;exact⟨i,aD1,G⟩
  .exact⟨j,aD1,h⟩
def Xp {m:cq} (ag:hu m) (G:2<=m.n) {b:aG9} (O:(b.length:Int)<=dH m.n*16) {k:Int} (Z:k=0\/k=1) (n:Int): ∀st∈tB b k (dH m.n) n,tC m.n st:=by
 obtain⟨a0,b4⟩:=EK G ag.c0;intro st eB;unfold tB at eB;simp only[au4,at7] at eB;rcases eB with((h |h) |h) |h
 .obtain⟨i,E,rfl⟩:=Xo h;have:(i:Int) < dH m.n:=by unfold hv at E;omega
  refine⟨?_,?_,an' b i⟩
  .rcases Z with rfl |rfl <;>omega
  .rcases Z with rfl |rfl <;>omega
 .rw[h];trivial
 .rw[h];exact⟨aD1,aD1,OD b n⟩
 .rw[h];trivial
def aoa (b:aG9) (k ll n:Int):(tB b k ll n).length=hv b+3:=by unfold tB;simp[zz]
abbrev aob (N i:Nat):aZ:=[(5,ap 3001),(6,ab 0),(17,ab (N:Nat)),(18,ab (i:Nat))]
abbrev aoc (s:Nat) (gG:List jA) (M:ey):aA:=[(3001,.aH (sn s gG 0)),(1003,.aH (.bA (e6 M)))]
def aod {m:cq} (ag:hu m) (ax:m.n<=m.R) {s:Nat} {M:ey} (al:h6 M s=some m) {gG:List jA} (au: ∀st∈gG,tC m.n st) (ak:m.fA.length+gG.length<=1000000) {i:Nat} (aE:i < gG.length):
  Fn prog 219 [ap 1001] [(1001,.aH (sn s (gG.drop i) 0)),(1003,.aH (.bA (e6 (iE M s (n9 m (gG.take i))))))] [] (.cn [.one (.d (.bool (decide (((gG.drop (i+1)).length:Int)=0)))),dJ 0])
   [(1001,.aH (sn s (gG.drop (i+1)) 0)),(1003,.aH (.bA (e6 (iE M s (n9 m (gG.take (i+1)))))))]:=by
 have E:=EN ag ax i gG au aD1;have eB:=au _ (av2 aE)
 have G:=an8 (s:=s) (st:=gG[i]) (rest:=gG.drop (i+1)) (M:=iE M s (n9 m (gG.take i))) (Xn al) E.ok (by have:=E.iv;omega) (fun a x e=>by
  rw[e] at eB;have:=eB.2.2;omega) (Xl E.ok (by rw[E.n,E.R];exact ax) (by rw[E.n];exact eB)).1
 rw[Xm,<-BY,<-aw6 aE,<-ay6 aE] at G;exact G
def aoe {m:cq} (ag:hu m) (G:2<=m.n) (ax:m.n<=m.R) (ak:m.fA.length<=10000) {s:Nat} {M:ey} (al:h6 M s=some m) (b:aG9) (O:(b.length:Int)<=dH m.n*16) (IG:(gP m 2).2.2 < 1073741824) (IH:0<=(gP m 2).2.2) (j8: -1<=(gP m 2).1/\(gP m 2).1<=1):
  Fn prog 184 [dy s,bP .u8 b] [(1003,.aH (.bA (e6 M)))] [] (ab 0) [(1003,.aH (.bA (e6 (iE M s (n9 m (tB b (((gP m 2).1+1) % 2) (dH m.n) (gP m 2).2.2))))))]:=by
 have Ai:=anY ag G al b O IG IH j8;have bx:=Xp ag G O (k:=((gP m 2).1+1) % 2) aD1 (gP m 2).2.2;have hN:=aoa b (((gP m 2).1+1) % 2) (dH m.n) (gP m 2).2.2;obtain⟨a0,b4⟩:=EK G ag.c0;have kI:=ag.c0;have kq:hv b<=100000:=by unfold hv;omega
 generalize tB b (((gP m 2).1+1) % 2) (dH m.n) (gP m 2).2.2=gG at Ai bx hN⊢;refine aY [] func184 ?_;refine ar (Fn.aX [(2001,3001)] Ai) <| dE <| ar (Fn.aX [(1001,3001)] (an7 s gG 0)) <| d1 [] (X:=Nat) (fun i=>aob gG.length i) (fun i=>aoc s (gG.drop i) (iE M s (n9 m (gG.take i)))) (fun i=>i<=gG.length) (fun i=>gG.length - i) 0 (at2 _) ?_ ?_
 .refine ac.sub aD ⟨rfl,?_,trivial⟩;show _=some (ba.aH (.bA (e6 (iE M s m))));rw[IF al];rfl
 intro i aE;refine⟨fun h=>?_,fun h=>?_⟩
 .have h:decide ((i:Int) < (gG.length:Nat))=true:=h;have ec:i < gG.length:=aE0
  exact ar (Fn.aX [(1001,3001)] (aod ag ax al bx aD1 ec)) ⟨aD1,i+1,aD1,aD1,ac.sub aD aD⟩
 .have h:decide ((i:Int) < (gG.length:Nat))=false:=h;have ec:i=gG.length:=aG1
  subst ec;rw[au3];exact bh
end
section
def OE (x:aa hj):aG9:=x
def xD:aG9:=List.replicate 16 0
def aof (a:Int):ja [] a=xD:=rfl
def EO (p:aa ai×aa hj) (s:iD) (a:Int):ja (p::s) a=match nz a p with |true=>OE p.2 |false=>ja s a:=by
 unfold ja EI;show(match nz a p with |true=>some p.2 |false=>b0 s (a:aa ai)).getD (cR hj)=_
 cases nz a p <;>rfl
def Xq (k:Int) (x:aa hj) (a:Int): ∀s:iD,ja (tu s k x) a=if k=a then OE x else ja s a
 | []=>by
  rw[IB,EO,aof]
  by_cases h:k=a
  .rw[vj h,show nz a (zt k x)=true from tv.2 h.symm];rfl
  .rw[mu h,show nz a (zt k x)=false from az6.2 fun e=>h (tv.1 e).symm]
 |p::s=>by
  rw[BS]
  cases e:nz k p with
  |true=>
   have e:=tv.1 e;simp only;rw[EO,EO]
   by_cases h:k=a
   .rw[vj h,show nz a (zt k x)=true from tv.2 h.symm];rfl
   .rw[mu h,show nz a (zt k x)=false from az6.2 fun ao=>h (tv.1 ao).symm,show nz a p=false from az6.2 fun ao=>h (e.trans (tv.1 ao).symm)]
  |false=>
   have e: ¬k=EJ p:=fun h=>by rw[tv.2 h] at e;cases e
   simp only;rw[EO,EO,Xq k x a s]
   by_cases h:k=a
   .simp only[vj h,show nz a p=false from az6.2 fun ao=>e (h.trans (tv.1 ao))]
   .simp only[mu h]
def aog (m:cq) {a:Int} {x:aG9} (hx:x.length=16) (i:Int):ja (m.IA a x).bO i=if a=i then x else ja m.bO i:=by
 show ja (zs a x m.bO (x.length/16)) i=_;rw[hx];show ja (tu m.bO (a+(0:Nat)) (tt x 0)) i=_;rw[Xq,show a+((0:Nat):Int)=a by omega]
 have e:OE (tt x 0)=x:=by
  show Iy x 0=x;rw[anv];show(x.drop 0).take 16=x;rw[List.drop_zero,<-hx,au3]
 rw[e]
def Xr {m:cq} (ag:hu m) (ax:m.n<=m.R) {a:Int} {x:aG9} (h:tC m.n (some (a,x))) (i:Int):ja (wd m (some (a,x))).1.bO i=if a=i then x else ja m.bO i:=by show ja (m.write a x).1.bO i=_;rw[Xk ag ax h];exact aog m h.2.2 i
def OF {m:cq} (ag:hu m) (ax:m.n<=m.R) {b:aG9} {k ll:Int} (i:Int): ∀j:Nat,(∀st∈lG b k ll j,tC m.n st)->
  ja (n9 m (lG b k ll j)).bO i=if 2+k*ll<=i/\i < 2+k*ll+(j:Nat) then lY b (i - (2+k*ll)).toNat else ja m.bO i
 |0,_=>by
  show ja m.bO i=_;rw[mu aD1]
 |j+1,h=>by
  have E: ∀st∈lG b k ll j,tC m.n st:=fun st au=>h st (au4.2 (.inl au))
  have G:tC m.n (some (2+k*ll+(j:Nat),lY b j)):=h _ (au4.2 (.inr (at7.2 rfl)));have bn:=OF ag ax i j E;have Z:=EN ag ax j (lG b k ll j) E (by rw[zz];exact as2 _);rw[aw0 (by rw[zz];exact as2 _)] at Z;rw[lG,BY,Xr Z.ok (by rw[Z.n,Z.R];exact ax) (by rw[Z.n];exact G),bn]
  by_cases e:2+k*ll+(j:Nat)=i
  .rw[vj e,vj aD1]
   congr 1
   omega
  .rw[mu e]
   by_cases ao:2+k*ll<=i/\i < 2+k*ll+(j:Nat)
   .rw[vj ao,vj aD1]
   .rw[mu ao,mu aD1]
def aoh (b:aG9) (j:Nat):lY b j=(b.drop (16*j)).take 16++List.replicate (16 - ((b.drop (16*j)).take 16).length) 0:=by unfold lY laid;rw[List.take_zero,aC6,List.drop_replicate,aw9]
def Xs (b:aG9): ∀n:Nat,(List.range n).flatMap (fun i=>lY b i)=b.take (16*n)++List.replicate (16*n - b.length) 0
 |0=>by simp
 |n+1=>by
  rw[List.range_succ,List.flatMap_append,Xs b n];simp only[aB5,List.flatMap_nil,av8];rw[aoh]
  by_cases h:16*n<=b.length
  .rw[show 16*n - b.length=0 by omega,List.replicate_zero,av8,<-aw1]
   have e:b.take (16*n)++(b.drop (16*n)).take 16=b.take (16*(n+1)):=by
    rw[show 16*(n+1)=16*n+16 by omega,List.take_add]
   rw[e]
   congr 2
   rw[at3,ax4];omega
  .rw[List.drop_eq_nil_of_le aD1,List.take_nil,aC6,List.length_nil,aw0 aD1,aw0 aD1,aw1,List.replicate_append_replicate]
   congr 2
   omega
def lm (n R:Int):cq:=⟨n,R,[],[],[]⟩
def we (n R:Int) (b:aG9):cq:=n9 (lm n R) (tB b 0 (dH n) 0)
structure EP (m:cq) (n R:Int) (b:aG9):Prop where
 ok:hu m
 n:m.n=n
 R:m.R=R
 iv:m.fA=[]
 Xt:m.n1=m.bO
 ck:ja m.bO 0=qn b 0
 jc:ja m.bO 1=xD
 aoi: ∀i:Nat,ja m.bO (2+(i:Nat))=if i < hv b then lY b i else xD
def aoj {n R:Int} (hn:sj n=true) (G:2<=n) (ax:n<=R) {b:aG9} (O:(b.length:Int)<=dH n*16):EP (we n R b) n R b:=by
 have ag:hu (lm n R):=hu.new hn;have au:=Xp (m:=lm n R) ag G O (k:=0) (.inl rfl) 0;obtain⟨a0,b4⟩:=EK G ag.c0;have dK:=EN ag ax _ _ au (as2 _);rw[au3] at dK;have E: ∀st∈lG b 0 (dH n) (hv b),tC n st:=fun st h=>au st (by unfold tB;simp only[au4];exact .inl (.inl (.inl h)))
 have hw:=EN ag ax (hv b) (lG b 0 (dH n) (hv b)) E (by rw[zz];exact as2 _);rw[aw0 (by rw[zz];exact as2 _)] at hw;have nP:hu (n9 (lm n R) (lG b 0 (dH n) (hv b))).qj:=hw.ok.qj
 have e:we n R b=(wd (n9 (lm n R) (lG b 0 (dH n) (hv b))).qj (some (0,qn b 0))).1.qj:=by
  unfold we tB;rw[BY,BY,BY];rfl
 have EQ: ∀i,ja (we n R b).bO i=if 0=i then qn b 0 else ja (n9 (lm n R) (lG b 0 (dH n) (hv b))).bO i:=fun i=>by
  rw[e]
  exact Xr nP (by show(n9 (lm n R) (lG b 0 (dH n) (hv b))).n<=(n9 (lm n R) (lG b 0 (dH n) (hv b))).R;rw[hw.n,hw.R];exact ax) (by
   show tC (n9 (lm n R) (lG b 0 (dH n) (hv b))).n _;rw[hw.n];exact⟨aD2,by show(0:Int) < n;omega,OD b 0⟩) i
 have aN: ∀i,ja (lm n R).bO i=xD:=fun i=>rfl
 refine⟨dK.ok,dK.n,dK.R,by rw[e];rfl,by rw[e];rfl,?_,?_,fun i=>?_⟩
 .rw[EQ,vj rfl]
 .rw[EQ,mu aD2,OF ag ax 1 _ E,mu aD1,aN]
 .rw[EQ,mu aD1,OF ag ax _ _ E,aN]
  by_cases aE:i < hv b
  .rw[vj aD1,vj aE]
   congr 1
   omega
  .rw[mu aD1,mu aE]
def aok (b:aG9):mQ (qn b 0)=(eV 4 [(0+1:Int).toNat,b.length,(jR b).toNat],true):=by
 have ak:=OD b 0
 have e:(qn b 0).take ((qn b 0).length - 4)=eV 4 [(0+1:Int).toNat,b.length,(jR b).toNat]:=by
  rw[ak];unfold qn sm;rw[List.take_append_of_le_length (by rw[nY];exact as2 _),aw0 (by rw[nY];exact as2 _)]
 unfold mQ;rw[mu (by rw[ak];omega),e];exact vj rfl
def aol:(mQ xD).2=false:=by kernel_rfl
def Xu (s:iD) (a:Int):qk s a 1=ja s a:=by unfold qk;rw[show List.range 1=[0] from rfl,aB5,List.flatMap_nil,av8];show ja s (a+((0:Nat):Int))=_;rw[show a+((0:Nat):Int)=a by omega]
def OG {m:cq} {k:Int} (h:ja m.bO k=xD):nA m k=([],0):=by
 unfold nA
 have e:(mQ (mR m k)).2=false:=by
  unfold mR;rw[Xu,h];exact aol
 rw[e]
def aom {g l c:Nat} (E:g < 256 ^4) (G:l < 256 ^4) (ah:c < 256 ^4):iU (eV 4 [g,l,c])=(g,l,c):=by
 have e:eV 4 [g,l,c]=ez g 4++(ez l 4++(ez c 4++[])):=by unfold eV;simp
 unfold iU;rw[e,pG E,pG G,pG ah]
def aon {m:cq} {n R:Int} {b:aG9} (h:EP m n R b) (O:(b.length:Int)<=dH n*16):(n4 m 0).take b.length=b:=by
 have J:hv b<=(dH n).toNat:=by unfold hv;omega
 have e:n4 m 0=(List.range (dH n).toNat).flatMap fun i=>if i < hv b then lY b i else xD:=by
  unfold n4 qk;rw[h.n]
  congr 1
  funext i
  rw[show 2+0*dH n+(i:Int)=2+(i:Int) by omega];exact h.aoi i
 rw[e,show(dH n).toNat=hv b+((dH n).toNat - hv b) by omega,List.range_add,List.flatMap_append]
 have ao:((List.range (hv b)).flatMap fun i=>if i < hv b then lY b i else xD)=(List.range (hv b)).flatMap fun i=>lY b i:=by
  rw[List.flatMap_def,List.flatMap_def]
  congr 1
  exact av1 fun i aE=>vj (List.mem_range.1 aE)
 have oJ:b.length<=16*hv b:=by unfold hv;omega
 rw[ao,Xs,aw0 oJ,aw1];exact List.take_left' rfl
def aoo {m:cq} {n R:Int} {b:aG9} (h:EP m n R b) (O:(b.length:Int)<=dH n*16) (ak:b.length<=1000000):nA m 0=(b,1):=by
 have au:=Oc b;have af:mR m 0=qn b 0:=by unfold mR;rw[Xu];exact h.ck
 unfold nA;rw[af,aok];simp only;rw[aom aD2 aD1 aD1];simp only;rw[aon h O,h.n,show(((jR b).toNat:Nat):Int)=jR b by omega];rw[av7 (show¬(((0+1:Int).toNat:Nat):Int) < 1 by decide),av7 (show¬(1073741824:Int) < (((0+1:Int).toNat:Nat):Int) by decide),av7 (show¬dH n*16 < ((b.length:Nat):Int) by omega),at4 (rfl:jR b=jR b)];rfl
def aop {m:cq} {n R:Int} {b:aG9} (h:EP m n R b) (O:(b.length:Int)<=dH n*16) (ak:b.length<=1000000):gP m 2=(0,b,1):=by
 have aw:nA m ((0:Nat):Int)=(b,1):=aoo h O ak;have E:nA m ((1:Nat):Int)=([],0):=OG h.jc
 have af:gP m 1=(0,b,1):=by
  unfold gP;rw[aw];exact vj (show(0:Int) < 1 by decide)
 unfold gP;rw[af,E];exact mu (show¬(1:Int) < 0 by decide)
def IJ (n R:Int):gP (lm n R) 2=(-1,[],0):=by
 have aw:nA (lm n R) ((0:Nat):Int)=([],0):=OG rfl;have E:nA (lm n R) ((1:Nat):Int)=([],0):=OG rfl
 have af:gP (lm n R) 1=(-1,[],0):=by
  unfold gP;rw[aw];exact mu (show¬(0:Int) < 0 by decide)
 unfold gP;rw[af,E];exact mu (show¬(0:Int) < 0 by decide)
end
section
def Xv {L:aH9} {b:bQ}:gF L b=0↔hJ b=true/\L.find? (fun y=>decide (cT y=cT b))=none/\L.length < 64/\(c2 b≠[]-> ∃x,L.find? (fun y=>decide (cT y=c2 b))=some x/\c6 x=c6 b):=by
 constructor
 .intro h;obtain⟨b4,cf,a3,a4⟩:=H8 h;refine⟨b4,(Id _ _).1 cf,a3,fun ae=>?_⟩;have aw:=a4 (by simpa using ae);obtain⟨x,hx⟩:=Ie aw;refine⟨x,hx,?_⟩
  by_cases O:c6 x=c6 b
  .exact O
  .exfalso;have dY:=hx;rw[<-BK] at dY;unfold lj at dY;rw[vj aw] at dY;unfold gF at h;rw[dY] at h
   split at h
   .cases h
   split at h
   .cases h
   rw[vj (by simp[ae,O])] at h
   cases h
 .rintro⟨b4,cf,a3,a4⟩;have RD:=(Id _ _).2 cf;unfold gF;rw[mu (by rw[b4];simp;omega)]
  by_cases ae:c2 b=[]
  .rw[mu (by simp[ae]),mu (by simp[ae])]
  .obtain⟨x,hx,O⟩:=a4 ae
   have aw:0<=dU L (c2 b):=by
    rcases Int.lt_or_le (dU L (c2 b)) 0 with h |h
    .rw[(Id _ _).1 h] at hx;cases hx
    .exact h
   have dY:=hx;rw[<-BK] at dY;unfold lj at dY;rw[vj aw] at dY;rw[mu aE3,dY,mu (by simp[O])]
def rf (L:aH9):Prop:= ∀(k:Nat) (b:bQ),L[k]? =some b->gF (L.take k) b=0
def rf.nil:rf []:=fun k b h=>by simp at h
def rf.add {L:aH9} (h:rf L) (b:bQ):rf (e3 L b):=by
 unfold e3
 split
 .rename_i a2;intro k c J;rcases VM k c J with E |⟨rfl,rfl⟩
  .have Z:=(at0.1 E).1;rw[List.take_append_of_le_length aD1];exact h k c E
  .rw[List.take_left];exact a2
 .exact h
def aoq {α:Type} (L:List α) {k j:Nat} (h:k<=j):(L.eraseIdx k).take j=(L.take (j+1)).eraseIdx k:=by
 refine aA3 fun i=>?_
 rw[ax3,aC0,aC0,ax3,ax3]
 by_cases G:i < k
 .have a:i < j:=aD9
  have b:i < j+1:=aD9
  simp[G,a,b]
 .by_cases E:i < j
  .simp[E,G]
  .simp[E,G]
def rf.drop {L:aH9} (h:rf L) (nm:aG9):rf (q5 L nm):=by
 unfold q5
 split
 .rename_i a2;obtain⟨E,G⟩:=V1 a2;obtain⟨x,hx⟩:=Ie E;have b1:=List.find?_some hx;simp only[av6] at b1
  have Hu:L[(dU L nm).toNat]? =some x:=by
   have cf:=BK L nm;unfold lj at cf;rw[vj E,hx] at cf;exact cf
  generalize(dU L nm).toNat=q at*;have aQ:=(at0.1 Hu).1;intro j b O;have aor:b∈L:=List.mem_of_mem_eraseIdx (ax6 O);rw[aC0] at O
  split at O
  .rename_i aos
   have:(L.eraseIdx q).take j=L.take j:=by
    refine aA3 fun i=>?_
    rw[ax3,ax3,aC0]
    by_cases ah:i < j
    .rw[vj ah,vj ah,vj aD1]
    .rw[mu ah,mu ah]
   rw[this];exact h j b O
  .rename_i aos;rw[aoq L aD1];have al:=Xv.1 (h (j+1) b O);have OH:(L.take (j+1))[q]? =some x:=by rw[ax3,vj aD1];exact Hu
   generalize L.take (j+1)=M at*;obtain⟨b4,cf,a3,a4⟩:=al;have aot:c2 b≠nm:=V0 G aor;refine Xv.2 ⟨b4,?_,Nat.lt_of_le_of_lt (List.length_eraseIdx_le _ _) a3,fun ae=>?_⟩
   .rw[NR _ M q x OH (by
     have:=List.find?_eq_none.1 cf x (ax6 OH);simpa using this)]
    exact cf
   .rw[NR _ M q x OH (by rw[b1];simpa using fun e=>aot e.symm)];exact a4 ae
 .exact h
def BZ (p:jz):xy:=(fK p,kf p)
def uF (b:bQ):nx:=(cT b,c2 b,c6 b,eK b,(cI b).map BZ)
def Xw (b:bQ):jP (uF b)=b:=by
 have h: ∀l:List jz,(l.map BZ).map tl=l:=fun l=>by rw[aw7];exact List.map_id l
 exact as5 (fun l:List jz=>((cT b,c2 b,c6 b,eK b,l):bQ)) (h (cI b))
def OI (L:aH9):(L.map uF).map jP=L:=by rw[aw7,show(jP∘uF)=id from funext Xw,List.map_id]
def aou {p:jz} (h:0<=fK p/\fK p<=65535/\(kf p).length<=128) (t:aG9):v1 (lk p++t,0)=((t,0),BZ p):=by
 have af:fP 2 (lk p++t,0)=((gW (kf p) 2++t,0),(fK p).toNat):=by
  unfold lk;rw[aw1];exact pG aD1 _
 have ao:q7 2 (gW (kf p) 2++t,0)=((t,0),kf p):=EB aD1 t;unfold v1;rw[af];simp only;rw[ao];refine Prod.ext rfl (Prod.ext ?_ rfl);show(((fK p).toNat:Nat):Int)=fK p;omega
def Xx {bI:List jz} (h: ∀p,p∈bI->0<=fK p/\fK p<=65535/\(kf p).length<=128) (t:aG9): ∀k,k<=bI.length->hr (bI.flatMap lk++t,0) k=(((bI.drop k).flatMap lk++t,0),(bI.take k).map BZ)
 |0,_=>by simp[hr]
 |k+1,Z=>by
  have cu:k < bI.length:=aD9
  have bn:=Xx h t k aD1;unfold hr;rw[bn];simp only;rw[ay6 cu,aB5,aw1,aou (h _ (av2 cu))];simp only;rw[<-vW cu,aw2];rfl
def aov {b:bQ} (h:vZ b) (t:aG9):kC (kS b++t,0)=((t,0),uF b):=by
 obtain⟨d9,fb,iK,ih,ar9,aow⟩:=h
 have af:E (kS b++t,0)=((gW (c2 b) 1++(ez (c6 b).toNat 1++(ez (eK b).toNat 2++(ez (cI b).length 2++((cI b).flatMap lk++t)))),0),cT b):=by
  unfold kS E;simp only[aw1];exact EB aD1 _
 have ao:G (kS b++t,0)=((ez (c6 b).toNat 1++(ez (eK b).toNat 2++(ez (cI b).length 2++((cI b).flatMap lk++t))),0),c2 b):=by
  unfold G;rw[af];exact EB aD1 _
 have bo:ah (kS b++t,0)=((ez (eK b).toNat 2++(ez (cI b).length 2++((cI b).flatMap lk++t)),0),(c6 b).toNat):=by
  unfold ah;rw[ao];exact pG aD1 _
 have c7:aW (kS b++t,0)=((ez (cI b).length 2++((cI b).flatMap lk++t),0),(eK b).toNat):=by
  unfold aW;rw[bo];exact pG aD1 _
 have fY:bM (kS b++t,0)=(((cI b).flatMap lk++t,0),(cI b).length):=by
  unfold bM;rw[c7];exact pG aD1 _
 have ia:=Xx aow t (cI b).length (as2 _);rw[List.drop_length,au3] at ia;unfold kC Wm;rw[fY];simp only;rw[ia,af,ao,bo,c7];refine Prod.ext rfl ?_;show(cT b,c2 b,(((c6 b).toNat:Nat):Int),(((eK b).toNat:Nat):Int),(cI b).map BZ)=(cT b,c2 b,c6 b,eK b,(cI b).map BZ);rw[show(((c6 b).toNat:Nat):Int)=c6 b by omega,show(((eK b).toNat:Nat):Int)=eK b by omega]
def Xy {L:aH9} (dX:rf L) (hw: ∀b,b∈L->vZ b): ∀k,k<=L.length->oW (L.flatMap kS,0) k=some ((L.take k).map uF,((L.drop k).flatMap kS,0))
 |0,_=>by simp[oW]
 |k+1,Z=>by
  have cu:k < L.length:=aD9
  have bn:=Xy dX hw k aD1;rw[ay6 cu,aB5] at bn;have O:=aov (hw _ (av2 cu)) ((L.drop (k+1)).flatMap kS)
  have:=Wq bn (by rw[O]) (by
   rw[O,OI];show gF (L.take k) (jP (uF L[k]))=0;rw[Xw];exact dX k _ (as0 cu))
  rw[O] at this;rw[this,<-vW cu,aw2];rfl
def Xz {L:aH9} (dX:rf L) (hw: ∀b,b∈L->vZ b) (ak:L.length<=64):zo (jQ L)=some (L.map uF):=by have af:fP 1 (jQ L,0)=((L.flatMap kS,0),L.length):=pG aD1 _;have ao:=Xy dX hw L.length (as2 _);rw[au3,List.drop_length] at ao;unfold zo;rw[af];simp only;rw[ao];simp[q8]
end
section
end
section
abbrev XA:aG9:=[97]
abbrev aox:aG9:=[98]
abbrev N4 (b:Nat):List (aa .str×aa .aM):=dx [] (XA:aa .str) (some b:aI1)
abbrev de (b:Nat):List (aa .str×aa .aM):=dx (g0 (N4 b) (XA:aa .str)) (aox:aa .str) (some b:aI1)
end
section
abbrev gx:=List (aa .str×aa .aM)
def mS (es:gx) (k:aG9) (a:aI1):gx:=dx es (k:aa .str) (a:aa .aM)
def kg (es:gx) (k:aG9):gx:=g0 es (k:aa .str)
def IK (k:aG9) (a:aI1):aa .str×aa .aM:=(k,a)
def zA (k:aG9) (p:aa .str×aa .aM):Bool:=fT .str (k:aa .str) p.1
def aoy {k:aG9} {p:aa .str×aa .aM}:zA k p=true↔k=tz p:=anT _ _
def OJ (k:aG9) (a:aI1):mS [] k a=[IK k a]:=rfl
def OK (p:aa .str×aa .aM) (l:gx) (k:aG9) (a:aI1):mS (p::l) k a=match zA k p with |true=>IK k a::l |false=>p::mS l k a:=rfl
def XB (p:aa .str×aa .aM) (l:gx) (k:aG9):kg (p::l) k=match zA k p with |true=>l |false=>p::kg l k:=rfl
def XC (p:aa .str×aa .aM) (l:gx) (k:aG9):iT (p::l) k=match zA k p with |true=>rc p |false=>iT l k:=by
 unfold iT;show(match zA k p with |true=>some p.2 |false=>b0 l (k:aa .str)).getD (cR .aM)=_
 cases zA k p <;>rfl
def OL (k:aG9): ∀l:gx,(kg l k).Sublist l
 | []=>List.Sublist.refl _
 |p::l=>by
  rw[XB]
  split
  .exact List.sublist_cons_self _ _
  .exact(OL k l).cons_cons p
def XD {k:aG9} {a:aI1} {x:aI1}: ∀{l:gx},x∈(mS l k a).map rc->x=a\/x∈l.map rc
 | [],h=>by
  rw[OJ,List.map_singleton,at7] at h;exact .inl h
 |p::l,h=>by
  rw[OK] at h
  split at h
  .rcases as8.1 h with h |h
   .exact .inl h
   .exact .inr (as6 _ h)
  .rcases as8.1 h with h |h
   .exact .inr (h▸at6 ..)
   .rcases XD h with h |h
    .exact .inl h
    .exact .inr (as6 _ h)
def OM {k:aG9} {a:aI1}: ∀{l:gx},(l.map rc).Nodup->a∉l.map rc->((mS l k a).map rc).Nodup
 | [],_,_=>by rw[OJ];simp
 |p::l,h,hn=>by
  rw[au1,av5] at h;rw[au1,as8,not_or] at hn;rw[OK]
  split
  .rw[au1];exact av5.2 ⟨hn.2,h.2⟩
  .rw[au1];refine av5.2 ⟨fun ay=>?_,OM h.2 hn.2⟩;rcases XD ay with e |e
   .exact hn.1 e.symm
   .exact h.1 e
def ON {k:aG9} {a:Nat}: ∀{l:gx},iT l k=some a->IK k (some a)∈l
 | [],h=>by cases h
 |p::l,h=>by
  rw[XC] at h
  split at h
  .rename_i e;have e:=aoy.1 e;refine as8.2 (.inl ?_);show(k,(some a:aI1))=p;rw[<-h,e];rfl
  .exact as6 _ (ON h)
def ER {k:aG9} {a:aI1} {p:aa .str×aa .aM}: ∀{l:gx},p∈mS l k a->p=IK k a\/p∈l
 | [],h=>by rw[OJ,at7] at h;exact .inl h
 |q::l,h=>by
  rw[OK] at h
  split at h
  .rcases as8.1 h with h |h
   .exact .inl h
   .exact .inr (as6 _ h)
  .rcases as8.1 h with h |h
   .exact .inr (h▸at6 ..)
   .rcases ER h with h |h
    .exact .inl h
    .exact .inr (as6 _ h)
def XE {k:aG9} {a:Nat}: ∀{l:gx},iT l k=some a->(l.map rc).Nodup->(some a:aI1)∉(kg l k).map rc/\(kg l k).length+1=l.length
 | [],h,_=>by cases h
 |p::l,h,hn=>by
  rw[au1,av5] at hn;rw[XC] at h;rw[XB]
  cases e:zA k p with
  |true=>
   rw[e] at h;have h:rc p=some a:=h;exact⟨h▸hn.1,rfl⟩
  |false=>
   rw[e] at h;obtain⟨E,G⟩:=XE h hn.2;refine⟨?_,by simp only[aw4];omega⟩;simp only;rw[au1,as8,not_or];exact⟨fun ao=>hn.1 (ao▸au0 (f:=rc) (ON h)),E⟩
def tA.nQ {es:gx} {L:ey} {W:Nat} (h:tA es L W) (k:aG9):tA (kg es k) L W:=
 ⟨fun p ae=>h.ex p ((OL k es).subset ae),h.ho.sublist ((OL k es).map _),h.IE,h.ok,h.BT⟩
def tA.add {es:gx} {L:ey} {W:Nat} (h:tA es L W) {k:aG9} {b:Nat} {m:cq} (O:b∉L.map (·.1)) (ay:hu m) (ak:m.fA.length<=W):tA (mS es k (some b)) ((b,m)::L) W:=by
 refine⟨fun p ae=>?_,OM h.ho fun hx=>?_,av5.2 ⟨O,h.IE⟩,fun p ae=>?_,fun p ae=>?_⟩
 .rcases ER ae with rfl |ae
  .exact⟨b,rfl,at6 ..⟩
  .obtain⟨a,E,G⟩:=h.ex p ae;exact⟨a,E,as6 _ G⟩
 .obtain⟨p,ae,e⟩:=av0.1 hx;obtain⟨a,E,G⟩:=h.ex p ae;rw[e] at E;injection E with E
  exact O (E▸G)
 .rcases as8.1 ae with rfl |ae
  .exact ay
  .exact h.ok p ae
 .rcases as8.1 ae with rfl |ae
  .exact ak
  .exact h.BT p ae
def tA.aX {es:gx} {L:ey} {W:Nat} (h:tA es L W) {fr to:aG9} {a:Nat} (hf:iT es fr=some a):tA (mS (kg es fr) to (some a)) L W:=by
 refine⟨fun p ae=>?_,OM (h.nQ fr).ho (XE hf h.ho).1,h.IE,h.ok,h.BT⟩;rcases ER ae with rfl |ae
 .obtain⟨a',E,G⟩:=h.ex _ (ON hf);exact⟨a',E,G⟩
 .exact(h.nQ fr).ex p ae
end
section
def XF {m:cq} {I F:Nat->Prop} {w:aH5} {p:bq} (h:(ht m).bp I F w p):F p.bm:=by obtain⟨ρ,cj,E,G,ah,aW⟩:=h;obtain⟨bj,_⟩:=G 1001 _ rfl;exact(aW _).2 ⟨1001,_,rfl,(bj _).2 (by rw[E])⟩
def XG {I:Nat->Prop} {w:aH5} {b:Nat}: ∀{L:ey} {F:Nat->Prop},f1 I w (e6 L) F->b∈L.map (·.1)->F b
 | [],_,_,h=>by cases h
 |p::L,F,⟨cL,cU,q,E,G,ah,aW,bM⟩,h=>by
  rcases as8.1 h with h |h
  .exact(E b).2 (.inl (by rw[h];have:=XF aW;rwa[ah] at this))
  .exact(E b).2 (.inr (XG bM h))
def dv.aoz {ids:aH0} {K:aZ} {B:aA} (q:Nat) {L:ey} {b:Nat} {m:cq} (aQ:aj B q=some (.aH (.bA (e6 ((b,m)::L))))):dv ids K B (X:=PLift (b∉L.map (·.1))) (fun _=>K) (fun _=>B):=by rintro N C a w ⟨hn,H,ρ,F,al,av⟩;have bl:f1 (b5 C B F w) w (e6 ((b,m)::L)) (F q):=al.holds q _ aQ;obtain⟨cL,cU,p,E,G,ah,aW,bM⟩:=bl;refine⟨⟨fun O=>?_⟩,hn,H,ρ,F,al,av⟩;have af:=XF aW;rw[ah] at af;exact G _ af (XG bM O)
end
section
def aoA {m:cq} (ag:hu m) (G:2<=m.n) {s:Nat} {M:ey} (al:h6 M s=some m) {b:aG9} (V:gP m 2=(0,b,1)):Fn prog 137 [dy s] [(1003,.aH (.bA (e6 M)))] [] (.cn [.one (.d (.bG .u8 b)),.one (.d (.int .i64 1)),dJ 0]) [(1003,.aH (.bA (e6 M)))]:=by have hn:=OA ag G al;rw[V] at hn;refine aY [] func137 ?_;exact ar hn ⟨fun h=>as3 h (show¬decide ((0:Int) < 0)=true by decide),fun _=>bh⟩
abbrev qo:aG9:=[108,105,115,116]
abbrev gQ:aG9:=[108,105,115,116,46,110,101,119]
abbrev lZ (c d:Nat) (L:aH9):aA:=[(c,.cells [.own d]),(d,.row 78 mg L)]
def aoB (R:Int) (es:gx) {L:ey} {a:Nat} {m:cq} (ha:iT es qo=some a) (ay:h6 L a=some m) (ag:hu m) (G:2<=m.n) {Q:aH9} (V:gP m 2=(0,jQ Q,1)) (ak:(jQ Q).length<=100000000) (dX:rf Q) (hw: ∀b,b∈Q->vZ b) (aQ:Q.length<=64):
  Fn prog 83 [ap 1001] (n3 1001 1002 1003 R es L) [2001,2002] (.cn [.one (.ptr 2001 0),dJ 0]) (n3 1001 1002 1003 R es L++lZ 2001 2002 ((Q.map uF).map jP)):=by
 have H:=Ws (jQ Q) ak (some (Q.map uF)) (Xz dX hw aQ);simp only at H;refine aY [] func83 ?_;exact ar (Oe R es qo a ha) <| dE <| ar (aoA ag G ay V) <| dE <| ar (Fn.aX [(1001,2001),(1002,2002)] H) bh
end
section
def aoC {m:cq} (ag:hu m) (G:2<=m.n) {s:Nat} {M:ey} (al:h6 M s=some m) (b:aG9) (O:dH m.n*16 < (b.length:Int)):
  Fn prog 217 [dy s,bP .u8 b] [(1003,.aH (.bA (e6 M)))] [] (.cn [nf,dJ 1]) [(1003,.aH (.bA (e6 M)))]:=by
 refine aY [] func217 ?_;exact⟨rfl,ar (OA ag G al) <| ar (BV al) <| ar (Ox m.n ag.lX ag.c0) ⟨fun _=>bh,fun c=>as3 O (oj c)⟩⟩
def aoD {m:cq} (ag:hu m) (G:2<=m.n) {s:Nat} {M:ey} (al:h6 M s=some m) (b:aG9) (O:dH m.n*16 < (b.length:Int)):
  Fn prog 184 [dy s,bP .u8 b] [(1003,.aH (.bA (e6 M)))] [] (ab 1) [(1003,.aH (.bA (e6 M)))]:=by
 refine aY [] func184 ?_;exact ar (aoC ag G al b O) <| fm bh
def aoE (R:Int) (es:gx) {L:ey} (ha:iT es qo=none):
  Fn prog 83 [ap 1001] (n3 1001 1002 1003 R es L) [] (.cn [nf,dJ 181]) (n3 1001 1002 1003 R es L):=by
 refine aY [] func83 ?_;exact ar (WT R es qo ha) <| fm bh
def xE (n:Int) (Q:aH9):Int:=if((jQ Q).length:Int)<=dH n*16 then 0 else 1
def wg (n:Int) (es:gx) (Q:aH9) (b:Nat):gx:=if((jQ Q).length:Int)<=dH n*16 then mS (kg (mS (kg es gQ) gQ (some b)) gQ) qo (some b) else mS (kg es gQ) gQ (some b)
def uG (n R:Int) (Q:aH9) (b:Nat):cq:=if((jQ Q).length:Int)<=dH n*16 then we n R (jQ Q) else lm n R
def aoF (R n:Int) (IL:2<=n) (hn:sj n=true) (ax:n<=R) (es:gx) {M:ey} (E:iT (kg es gQ) gQ=none) (G:(kg es gQ).length < 16) (ah: ∀b,iT (mS (kg es gQ) gQ (some b)) gQ=some b) {Q:aH9} (aQ:Q.length<=255) (hw: ∀b,b∈Q->vZ b):
  cC prog 143 [ap 3001,ap 1001,ab n] (n3 1001 1002 1003 R es M++lZ 3001 3002 Q) [] (X:={b:Nat//b∉M.map (·.1)}) (fun _=>ab (xE n Q))
   (fun g=>n3 1001 1002 1003 R (wg n es Q g.1) ((g.1,uG n R Q g.1)::M)++lZ 3001 3002 Q):=by
 have u2: ∀b,h6 ((b,lm n R)::M) b=some (lm n R):=fun b=>by rw[uD,vj rfl]
 refine hZ [2,3] func143 ?_;refine ar (anD R es gQ) <| bw.iJ fa aD4 ?_;refine⟨Nat,_,_,fun b=>_,fun b=>_,ano R (kg es gQ) (e6 M) gQ n aD2 rfl (by rw[hn,at4 (show 0<=R by omega)];rfl) E G,aD,rfl,fun _=>rfl,fun b=>bw.ff (dv.aoz 1003 (L:=M) (b:=b) (m:=lm n R) rfl) fun O=>bz [] (bt) <| dE <| ar (Fn.aX [(1001,3001),(1002,3002)] (We Q aQ hw)) ?_⟩
 by_cases J:((jQ Q).length:Int)<=dH n*16
 .have wC:=aoe (m:=lm n R) (hu.new (n:=n) (R:=R) hn) IL ax (at2 _) (u2 b) (jQ Q) J (by rw[IJ];decide) (by rw[IJ];decide) (by rw[IJ];decide);rw[IJ] at wC;have hb:iE ((b,lm n R)::M) b (we n R (jQ Q))=(b,we n R (jQ Q))::M:=vj rfl
  have wC:Fn prog 184 [dy b,bP .u8 (jQ Q)] [(1003,.aH (.bA (e6 ((b,lm n R)::M))))] [] (ab 0) [(1003,.aH (.bA (e6 ((b,we n R (jQ Q))::M))))]:=by
   rw[<-hb];exact wC
  refine ar wC <| dE <| ar (ann R (mS (kg es gQ) gQ (some b)) gQ qo b aD2 rfl (ah b)) ?_;have af:xE n Q=0:=vj J;have ao:wg n es Q b=_:=vj J;have bo:uG n R Q b=_:=vj J;exact⟨⟨b,O.down⟩,_,_,_,bt,rfl,af.symm,⟨rfl,as5 (fun x=>some (ba.map .str .aM x)) ao.symm,as5 (fun x=>some (ba.aH (.bA (e6 ((b,x)::M))))) bo.symm,rfl,rfl,trivial⟩,rfl⟩
 .have wC:=aoD (m:=lm n R) (hu.new (n:=n) (R:=R) hn) IL (u2 b) (jQ Q) (by show dH n*16 < _;omega);refine ar wC <| fm ?_;have af:xE n Q=1:=mu J;have ao:wg n es Q b=_:=mu J;have bo:uG n R Q b=_:=mu J;exact⟨⟨b,O.down⟩,_,_,_,bt,rfl,af.symm,⟨rfl,as5 (fun x=>some (ba.map .str .aM x)) ao.symm,as5 (fun x=>some (ba.aH (.bA (e6 ((b,x)::M))))) bo.symm,rfl,rfl,trivial⟩,rfl⟩
end
section
def lH (u:bf->bf) (fQ:aH0) (l:aH7):List bf:=l.map fun x=>if x.ad∈fQ then u x else x
def aoG (u:bf->bf) (l:aH7):lH u [] l=l:=by unfold lH;refine(av1 fun x _=>?_).trans (List.map_id' l);rw[mu aD3]
def XH {u:bf->bf} {fQ:aH0} {l:aH7} (h: ∀e,e∈l->e.ad∈fQ):lH u fQ l=l.map u:=by unfold lH;exact av1 fun x hx=>vj (h x hx)
def aoH {u:bf->bf} (a6: ∀e,(u e).ad=e.ad) {fQ:aH0} {a:Nat} (ha:a∉fQ) (l:aH7):nX (lH u fQ l) a u=lH u (fQ++[a]) l:=by
 unfold nX lH;rw[aw7];refine av1 fun x _=>?_
 show(if(if x.ad∈fQ then u x else x).ad=a then u (if x.ad∈fQ then u x else x) else(if x.ad∈fQ then u x else x))=if x.ad∈fQ++[a] then u x else x
 by_cases E:x.ad∈fQ
 .have G: ¬(u x).ad=a:=by rw[a6];exact fun e=>ha (e▸E)
  rw[vj E,mu G,vj (List.mem_append_left _ E)]
 .rw[mu E]
  by_cases G:x.ad=a
  .rw[vj G,vj (by rw[G];simp)]
  .rw[mu G,mu (by simp[E,G])]
structure rh (u:bf->bf):Prop where
 nm: ∀e,(u e).nm=e.nm
 ad: ∀e,(u e).ad=e.ad
 dG: ∀e,(u e).dG=e.dG
 on: ∀e,(u e).on=e.on
 us: ∀e,(u e).us=e.us
 ok: ∀e,(0<=e.s/\e.s<=4096)/\(1<=e.g/\e.g<=64)/\fg e.es->(0<=(u e).s/\(u e).s<=4096)/\(1<=(u e).g/\(u e).g<=64)/\fg (u e).es
def rh.OO {u:bf->bf} (a6:rh u) {l:aH7} (h:eh l) (fQ:aH0):eh (lH u fQ l):=by
 have key: ∀{l7:Type} (f:bf->l7),(∀e,f (u e)=f e)->(lH u fQ l).map f=l.map f:=fun f hf=>by
  unfold lH;rw[aw7];refine av1 fun x _=>?_
  show f (if x.ad∈fQ then u x else x)=f x
  split
  .exact hf x
  .rfl
 refine⟨by rw[key _ a6.nm];exact h.ji,by rw[key _ a6.ad];exact h.mE,by rw[key _ a6.dG];exact h.vU,fun e U=>?_,by unfold lH;rw[at8];exact h.len⟩;obtain⟨x,hx,rfl⟩:=av0.1 U;obtain⟨b',cS,en,e0⟩:=h.ok x hx
 by_cases J:x.ad∈fQ
 .rw[vj J];obtain⟨kB,pD,uB⟩:=a6.ok x ⟨b',cS,en⟩;exact⟨kB,pD,uB,by rw[a6.nm];exact e0⟩
 .rw[mu J];exact⟨b',cS,en,e0⟩
def rh.u4 {u:bf->bf} (a6:rh u) (fQ:aH0) (l:aH7):d7 (lH u fQ l)=d7 l:=by
 unfold d7 lH;rw[aw7];refine av1 fun x _=>?_
 show kb (if x.ad∈fQ then u x else x)=kb x
 split
 .unfold kb;rw[a6.nm,a6.ad]
 .rfl
def rh.D {u:bf->bf} (a6:rh u) (fQ:aH0) (l:aH7):kA (lH u fQ l)=kA l:=by
 unfold kA lH;rw[aw7];refine av1 fun x _=>?_
 show xr (if x.ad∈fQ then u x else x)=xr x
 split
 .unfold xr;rw[a6.nm,a6.ad,a6.dG,a6.on,a6.us]
 .rfl
def rh.M {u:bf->bf} (a6:rh u) {l:aH7} (h:eh l) {fQ:aH0} {e:bf} (U:e∈l) (ha:e.ad∉fQ):fl (kc (lH u fQ l)) e.dG (fC (u e).s (u e).g (u e).es)=kc (lH u (fQ++[e.ad]) l):=by have ay:e∈lH u fQ l:=av0.2 ⟨e,U,mu ha⟩;rw[<-aoH a6.ad ha,<-Vi (a6.OO h fQ) ay (a6.dG e)]
def rh.get {u:bf->bf} (a6:rh u) {l:aH7} (h:eh l) {fQ:aH0} {e:bf} (U:e∈l) (ha:e.ad∉fQ):eH (kc (lH u fQ l)) e.dG=some (fC e.s e.g e.es):=
 (a6.OO h fQ).M (av0.2 ⟨e,U,mu ha⟩)
def rh.map {u:bf->bf} (a6:rh u) {l:aH7} (h:eh l):eh (l.map u):=by have:=a6.OO h (l.map (·.ad));rw[XH fun e U=>au0 U] at this;exact this
abbrev ri:=Nat×(aa .str×aa .aM)
def wh (p:ri):Option Nat:=p.2.2
structure xF (l:aH7) (lx:List ri) (bO fQ:aH0):Prop where
 OP: ∀p,p∈lx-> ∀a,wh p=some a->(p.1∈bO↔a∈fQ)
def aoI {l:aH7} {lx:List ri} (au:lx.map (·.2)=d7 l) {p:ri} (ae:p∈lx): ∃e,e∈l/\p.2=kb e:=by
 have:p.2∈d7 l:=by rw[<-au];exact au0 ae
 obtain⟨e,U,ao⟩:=av0.1 this;exact⟨e,U,ao.symm⟩
def aoJ {l:aH7} (h:eh l) {lx:List ri} (au:lx.map (·.2)=d7 l):(lx.map wh).Nodup:=by
 have:lx.map wh=(l.map (·.ad)).map some:=by
  have e:lx.map wh=(lx.map (·.2)).map (fun q:aa .str×aa .aM=>(show Option Nat from q.2)):=by rw[aw7];rfl
  rw[e,au];unfold d7;rw[aw7,aw7];rfl
 rw[this];exact List.Pairwise.map _ (fun a b aoK e=>aoK (by injection e)) h.mE
def xF.nil (l:aH7) (lx:List ri):xF l lx [] []:=⟨fun _ _ _ _=>by simp⟩
def xF.step {l:aH7} {lx:List ri} {bO fQ:aH0} (h:xF l lx bO fQ) (O:(lx.map (·.1)).Nodup) (ha:(lx.map wh).Nodup) {p:ri} (ae:p∈lx) {a:Nat} (e:wh p=some a):xF l lx (bO++[p.1]) (fQ++[a]):=by
 refine⟨fun q aQ b dB=>?_⟩;have E:=h.OP q aQ b dB
 have G:q.1=p.1↔b=a:=⟨fun af=>by
  have:=xv O aQ ae af;subst this;rw[e] at dB;injection dB with bo
  exact bo.symm,fun af=>by
  have:=xv ha aQ ae (dB.trans (by rw[af,e]));rw[this]⟩
 simp only[au4,at7,E,G]
def zB (bO:aH0) (l:List ri):List ri:=l.filter fun p=> !bO.contains p.1
def aoL {bO:aH0} {l:List ri} {p:ri} (ae:p∈l) (hn:p.1∉bO):(zB (bO++[p.1]) l).length < (zB bO l).length:=by
 have e:zB (bO++[p.1]) l=(zB bO l).filter fun q=> !decide (q.1=p.1):=by
  unfold zB;rw[List.filter_filter];refine List.filter_congr fun q _=>?_
  by_cases e:q.1=p.1 <;>simp[e]
 rw[e];have ay:p∈zB bO l:=aB9.2 ⟨ae,by simp[hn]⟩;exact List.length_filter_lt_length_iff_exists.2 ⟨p,ay,aD3⟩
abbrev aoM (it:Nat) (u:bf->bf) (l:aH7) (b bY:Nat) (lx:List ri) (bO fQ:aH0):aA:=[(1001,.cells [.mp 1002]),(1002,.aH (.wX b .str .aM lx bY)),(1003,.aH (.bA (kA l))),(1004,.aH (.bA (kc (lH u fQ l)))),(it,.aH (.wY b bY bO bY))]
def kh (fr bJ:Int) (e:bf):bf:={e with es:=if e.on=true then la e.s e.g e.es fr bJ else e.es}
def XI (fr bJ:Int):rh (kh fr bJ):=by
 refine⟨fun _=>rfl,fun _=>rfl,fun _=>rfl,fun _=>rfl,fun _=>rfl,fun e h=>⟨h.1,h.2.1,?_⟩⟩;show fg (if e.on=true then la e.s e.g e.es fr bJ else e.es)
 split
 .exact Nq h.2.2 fr bJ
 .exact h.2.2
def OQ {l:aH7} (h:eh l) (fr bJ:Int):Fn prog 101 [ap 1001,ab fr,ab bJ] (eJ l) [] g4 (eJ (l.map (kh fr bJ))):=by
 have a6:=XI fr bJ;obtain⟨pt,gD,gE⟩:=kL Eo;obtain⟨Nv,xw,xx⟩:=kL HV;refine aY [0] func101 ?_;refine bw.ff (dv.RG 1002 rfl) fun x=>?_
 obtain⟨b,lx,bY,wc,Oz,bv⟩:=x;have O:(lx.map (·.1)).Nodup:=Oz.imp fun h=>by omega
 have ha:=aoJ h wc;refine bz [] (bt) <| bc (RI (d:=12) rfl underlying104 rfl rfl) ?_;refine d1 [1] (X:=aH0×aH0) (fun _=>[(1,ab fr),(2,ab bJ),(12,ap 12)]) (fun x=>aoM 12 (kh fr bJ) l b bY lx x.1 x.2) (fun x=>xF l lx x.1 x.2) (fun x=>(zB x.1 lx).length) ([],[]) (xF.nil l lx) ?_ ?_
 .exact ac.sub aD ⟨rfl,rfl,rfl,(by show _=some (ba.aH (.bA (kc (lH (kh fr bJ) [] l))));rw[aoG];rfl),rfl,trivial⟩
 rintro⟨bO,fQ⟩ ES;have ES:xF l lx bO fQ:=ES;refine bw.iJ fa aD4 ⟨_,RM (c:=1002) (r:=12) rfl rfl rfl rfl (fun p ae=>bv _ (au0 ae)) (as2 _),fun v e az=>?_⟩;rcases az with⟨p,ae,ig,rfl,rfl⟩ |⟨dK,rfl,rfl⟩
 .obtain⟨e,U,BU⟩:=aoI wc ae;have OR:wh p=some e.ad:=by unfold wh;rw[BU]
  have Iv:e.ad∉fQ:=fun ay=>ig ((ES.OP p ae e.ad OR).2 ay)
  have eB:=ES.step O ha ae OR;have rL:=aoL ae ig;have ce:=h.D U;have al:=a6.get h U Iv;have je:=a6.M h U Iv;obtain⟨b',cS,en,e0⟩:=h.ok e U;have hb:=HU (L4 e.s e.g e.es fr bJ b' cS) al rfl rfl rfl rfl;have J:(if e.on=true then la e.s e.g e.es fr bJ else e.es)=(kh fr bJ e).es:=rfl;have hx:p.2.2=(some e.ad:aI1):=OR;refine bc (RN (c:=1002) (r:=12) (p:=p) rfl rfl rfl rfl ae) ?_;refine bc (fun N=>ju (b:=e.ad) rfl aF8 N) ?_;refine bc (fun N=>jN rfl underlying60 rfl rfl gD aE4 rfl N) ?_;refine bc (lR (q:=1003) rfl underlying4 rfl rfl rfl ce rfl) ?_;refine⟨fun tq=>?_,fun tq=>?_⟩
  .have tq:e.on=true:=tq;rw[vj tq] at J;rw[J] at hb;change Fn _ _ _ _ _ _ [(1004,.aH (.bA (fl (kc (lH (kh fr bJ) fQ l)) e.dG (fC (kh fr bJ e).s (kh fr bJ e).g (kh fr bJ e).es))))] at hb;rw[je] at hb;refine bc (fun N=>ju (b:=e.ad) rfl aF8 N) ?_;refine bc (fun N=>jN rfl underlying60 rfl rfl xw (by rw[xx];decide) rfl N) ?_;refine bc (lR (q:=1003) rfl underlying58 rfl rfl rfl ce rfl) ?_;exact ar hb ⟨(bO++[p.1],fQ++[e.ad]),eB,rL,ac.sub aD aD⟩
  .have tq:e.on=false:=tq;rw[mu (by rw[tq];decide)] at J;have af:fC (kh fr bJ e).s (kh fr bJ e).g (kh fr bJ e).es=fC e.s e.g e.es:=by rw[<-J];rfl
   rw[af,yI al] at je;exact⟨(bO++[p.1],fQ++[e.ad]),eB,rL,ac.sub aD ⟨rfl,rfl,rfl,as5 (fun aB=>some (ba.aH (.bA aB))) je,rfl,trivial⟩⟩
 .have yB: ∀e,e∈l->e.ad∈fQ:=fun e U=>by
   have:kb e∈lx.map (·.2):=by rw[wc];exact au0 U
   obtain⟨p,ae,ao⟩:=av0.1 this;exact(ES.OP p ae e.ad (by unfold wh;rw[ao])).1 (dK p ae)
  have nF:=XH (u:=kh fr bJ) yB;have py:lx.map (·.2)=d7 (l.map (kh fr bJ)):=by rw[wc,<-nF,a6.u4]
  have s8:kA l=kA (l.map (kh fr bJ)):=by rw[<-nF,a6.D]
  exact⟨_,_,_,ac.RH 1002 rfl,rfl,trivial,⟨rfl,as5 (fun aB=>some (ba.map .str .aM aB)) py,as5 (fun aB=>some (ba.aH (.bA aB))) s8,as5 (fun aB=>some (ba.aH (.bA (kc aB)))) nF,trivial⟩,rfl⟩
end
section
section
variable {ids:aH0} {K:aZ} {B:aA}
def cg.set {ρ:Nat->bq} {I:Nat->Prop} {w:aH5} {s t:bE} (eB: ∀v,d' ρ I w s v->d' ρ I w t v): ∀{l:List bE} {aF:aH4} {j:Nat},l[j]? =some s->cg ρ I w l aF->cg ρ I w (l.set j t) aF
 | [],_,j,V,_=>by cases j <;>cases V
 |x::l,_,0,V,⟨v,r,e,E,G⟩=>by
  injection V with V
  subst V;exact⟨v,r,e,eB v E,G⟩
 |x::l,_,j+1,V,⟨v,r,e,E,G⟩=>⟨v,r,e,E,cg.set eB (l:=l) (j:=j) V G⟩
def ac.wi (c j:Nat) {l:List bE} (J:aj B c=some (.cells l)) (V:l[j]? =some (.bN (.pointer none))):ac ids K B K ((c,.cells (l.set j (.d (.aM none))))::B):=by
 rintro N C a w ⟨hn,H,ρ,F,al,av⟩
 obtain⟨bC,a2⟩:=al.h8 (w':=w) (ch:=.cells (l.set j (.d (.aM none)))) J (cZ.refl _ _) fun I a1=>by
  obtain⟨E,aF,T,G,ah⟩:=al.holds c _ J;exact⟨E,aF,T,G,cg.set (s:=.bN (.pointer none)) (t:=.d (.aM none)) (fun v h=>h) V (cg.mono a1 _ _ (fun _ _=>rfl) ah)⟩
 exact⟨hn,H,ρ,F,bC,av.mono a2 fun _ _ _=>rfl⟩
def ac.ET (q:Nat) {p:Nat×bg} {L:List (Nat×bg)} (aQ:aj B q=some (.aH (.bA (p::L)))):ac ids K B K ((q,.aH (.bA [p]))::B):=by
 rintro N C a w ⟨hn,H,ρ,F,al,av⟩;obtain⟨cL,cU,x,b',cS,en,e0,vm⟩:f1 _ w (p::L) (F q):=al.holds q _ aQ;obtain⟨bC,a2⟩:=al.GB (w':=w) (ch:=.aH (.bA [p])) aQ cL (fun b O=>(b' b).2 (.inl O)) (cZ.refl _ _) fun I a1=>⟨cL,fun _=>False,x,fun b=>by simp,fun _ _ h=>h,en,p.2.cr _ _ _ _ _ _ e0 a1 (fun _ _=>rfl) (as2 _),fun _ h=>h⟩
 exact⟨hn,H,ρ,_,bC,av.mono a2 fun _ _ _=>rfl⟩
def ac.XJ (q:Nat) {L:List (Nat×bg)} (aQ:aj B q=some (.aH (.bA L))):ac ids K B K ((q,.aH (.bA []))::B):=by
 rintro N C a w ⟨hn,H,ρ,F,al,av⟩;obtain⟨bC,a2⟩:=al.GB (w':=w) (ch:=.aH (.bA [])) aQ (fun _=>False) (fun b O=>O.elim) (cZ.refl _ _) fun I a1=>fun _ h=>h
 exact⟨hn,H,ρ,_,bC,av.mono a2 fun _ _ _=>rfl⟩
def EU (_:bq):bg where
 bp:=fun _ F _ _=> ∀x,¬F x
 cr:=fun _ _ _ _ _ _ h _ _ _=>h
def ac.rj (q d:Nat) {ch:ba} (aQ:aj B q=some ch):ac ids K B K ((q,.b7 d EU)::B):=by
 rintro N C a w ⟨hn,H,ρ,F,al,av⟩;obtain⟨bC,a2⟩:=al.GB (w':=w) (ch:=.b7 d EU) aQ (fun _=>False) (fun b O=>O.elim) (cZ.refl _ _) fun I a1=>fun _ h=>h
 exact⟨hn,H,ρ,_,bC,av.mono a2 fun _ _ _=>rfl⟩
def ac.XK (q d:Nat) (aQ:hk ids K B q=true) (a8:d≠q):ac ids K B K ((q,.b7 d EU)::B):=by rintro N C a w ⟨hn,H,ρ,F,al,av⟩;have cJ:=ls aQ;obtain⟨bC,a2⟩:=al.make (ch:=.b7 d EU) (w':=w) aQ (Below.refl _ _) (ρ q) (fun _=>False) (fun _ h=>h.elim) (fun I _ _=>fun _ h=>h);exact⟨hn,H,_,_,bC,av.mono a2 fun s c J=>du _ _ (fun e=>by subst e;rw[cJ.1 s] at J;cases J)⟩
def ac.IM (q c d m b:Nat) (br:aA) {cG:ba} (aQ:aj B q=some cG) (vn:(ct br).contains q=false) (cQ:lq B br) (ay:aj B m=some (.b7 c (fp b))):ac ids K B K ((q,.b7 d (oL b c d br))::pX (ct br) B):=by
 rintro N C a w ⟨hn,H,ρ,F,al,av⟩;have vn:=wV vn;have ak: ∀{d ch},aj br d=some ch->aj B d=some ch:=fun {d ch} h=>k3 cQ h
 have wW: ∀{e ch},aj ((q,ba.b7 d (oL b c d br))::pX (ct br) B) e=some ch->e=q\/e∈ct br->e=q/\ch= .b7 d (oL b c d br):=fun {e ch} U ay=>by
  rw[ci] at U
  split at U
  .rename_i ao;injection U with U;exact⟨ao.symm,U.symm⟩
  .rename_i ao;rcases ay with ay |ay
   .exact as3 ay.symm ao
   .rw[yn,vj ay] at U;cases U
 obtain⟨bC,a2⟩:=al.step (B':=(q,.b7 d (oL b c d br))::pX (ct br) B) (ρ':=ρ) (F':=dp F q (fun x=> ∃e ch,aj br e=some ch/\F e x)) (w':=w) (fun e=>e=q\/e∈ct br) (fun _=>False) (cZ.refl _ _)
  (fun e ch U ay=>by
   rw[ci,mu (fun h=>ay (.inl h.symm)),yn,mu (fun h=>ay (.inr h))] at U;exact U)
  (fun _ _=>rfl) (fun e ay=>du _ _ (fun h=>ay (.inl h))) (fun _ _ h=>h) (fun _ h=>h.elim) (fun _ _ _ _ _ _ h=>h)
  (fun e ch U ay a2=>by
   obtain⟨rfl,rfl⟩:=wW U ay;rw[dh];exact⟨ρ,F,p5 (N:=N) (a:=a) al aD7,rfl,fun d ch h=>Holds.cr a2 (fun _ _=>rfl) (as2 _) ch (fun _ _=>rfl) (al.holds d ch (ak h)),fun d da ch ch' b h h' a8=>al.fw d da ch ch' b (ak h) (ak h') a8,fun b=>Iff.rfl⟩)
  (fun e ch U ay x hx=>by
   obtain⟨rfl,rfl⟩:=wW U ay;rw[dh] at hx;obtain⟨da,ch',E,G⟩:=hx;exact⟨(al.own da ch' (ak E) x G).1,.inl ⟨da,ch',ak E,.inr (gL.2 ⟨ch',E⟩),G⟩⟩)
  (fun e b9 ch ch' x U hc ay gK a8=>as3 ((wW U ay).1.trans (wW hc gK).1.symm) a8)
 exact⟨hn,H,ρ,_,bC,av.mono a2 fun _ _ _=>rfl⟩
end
inductive ln where
 |no
 |dq (top base:aG9) (l:aH0) (over:Bool)
 |pl (top base:aG9) (over:Bool)
 |pu (nm:aG9) (n rm:Int) (l:aH0) (g:aH3) (over done:Bool)
abbrev tD (top base:aG9) (l:aH0) (over:Bool):aA:=[(2001,.cells (M9 top base over)),(2002,.map ai ai (gv l))]
abbrev wj (top base:aG9) (over:Bool):aA:=[(2001,.cells (HQ top base over))]
abbrev oa (z:Int) (nm:aG9) (n rm:Int) (l:aH0) (g:aH3) (over done:Bool):aA:=[(2001,.cells (Eh nm z n rm over done)),(2002,.map ai ai (gv l)),(2003,.map ai i6 (ka g))]
def XL (z:Int) (b:Nat):ln->bq->bg
 | .no=>EU
 | .dq top base l over=>oL b 2001 1001 (tD top base l over)
 | .pl top base over=>oL b 2001 1001 (wj top base over)
 | .pu nm n rm l g over done=>oL b 2001 1001 (oa z nm n rm l g over done)
abbrev IN (T b:Nat):Value:=.iface T (.pointer (some ⟨b,0,none⟩))
def rk (b:Nat):ln->Value
 | .no=>.nilIface
 | .dq .. =>IN 74 b
 | .pl .. =>IN 136 b
 | .pu .. =>IN 75 b
def xG (b:Nat):ln->Option Nat
 | .dq .. =>some b
 |_=>none
def xH (b:Nat):ln->Option Nat
 | .pu .. =>some b
 |_=>none
def EV:ln->Int
 | .no=>0
 | .dq .. =>1
 | .pl .. =>2
 | .pu .. =>3
abbrev EW:=Int×Int×List (aa ai×aa ai)
structure Made where
 eE:bQ
 dQ:aG9
 dZ:Option (Nat×EW)
def aoN:Option (Nat×EW)->List (Nat×bg)
 |none=>[]
 |some p=>[(p.1,fC p.2.1 p.2.2.1 p.2.2.2)]
abbrev so (l:aH7):bg:=.jq 1001 (eJ l)
abbrev sq (Q:aH9):bg:=.jq 1001 (li Q)
structure bR where
 z:Nat
 R:Nat
 L:List aL
 aP:aG9
 db:Nat
 ds:List bf
 es:gx
 M:ey
 lb:Nat
 Q:List bQ
 b:Nat
 bH:ln
 bu:Made
abbrev iOz (z:Int) (aP:aG9) (db lb:Nat) (kd:Int) (fR:aI3) (dq pu:aI1) (m:Made):List bE:=[.d (.int .i64 z),.d (.str aP),.ptr 1001 0,.d (.aM (some db)),.ptr 1201 0,.d (.aM (some lb)),.d (.int .i64 kd),.bN fR,.d (.aM dq),.d (.aM pu),
 .d (.str (cT m.eE)),.d (.str (c2 m.eE)),.d (.int .i64 (c6 m.eE)),.d (.int .i64 (eK m.eE)),.d (.bG oQ (cI m.eE)),.d (.str m.dQ),.d (.aM (m.dZ.map (·.1)))]
abbrev aoO (w:bR):List bE:=iOz w.z w.aP w.db w.lb (EV w.bH) (rk w.b w.bH) (xG w.b w.bH) (xH w.b w.bH) w.bu
abbrev XM (w:bR):Nat×ba:=(1401,.cells (aoO w))
abbrev XN (w:bR):Nat×ba:=(1501,.b7 1001 (XL w.z w.b w.bH))
abbrev XO (w:bR):Nat×ba:=(1601,.aH (.bA (aoN w.bu.dZ)))
abbrev OS (w:bR):Nat×ba:=(1101,.aH (.bA [(w.db,so w.ds)]))
abbrev XP (w:bR):Nat×ba:=(1301,.aH (.bA [(w.lb,sq w.Q)]))
def EX (z R:Int) (L:aH2):bg:=.jq 1001 (bT z R L)
def zC (es:gx) (M:ey):bg:=.jq 1201 (n3 1201 1202 1203 4096 es M)
abbrev oZ (z R:Nat) (L:aH2):Nat×ba:=(1001,.aH (EX z R L))
abbrev qp (es:gx) (M:ey):Nat×ba:=(1201,.aH (zC es M))
abbrev cV (w:bR):aA:=[oZ w.z w.R w.L,OS w,qp w.es w.M,XP w,XM w,XN w,XO w]
section
variable {f:aI5} {args:List aS} {z R:Nat} {L:aH2} {aJ:aA} {bb:aH0} {res:aS}
def cC.XQ {X:Type} {res:X->aS} {L':X->List aL} {aT:X->aA} (h:cC prog f args (bT z R L++aJ) bb res (fun g=>bT z R (L' g)++aT g)) (E:ox 1001 [1002,1003,1004] args (bT z R L) aJ bb bb=true)
  (G: ∀g,oy 1001 (nd [1002,1003,1004] bb bb) (res g) (bT z R (L' g)) (aT g)=true):cC prog f args (oZ z R L::aJ) bb res (fun g=>oZ z R (L' g)::aT g):=
 cC.close (o':=fun g=>EX z R (L' g)) [1002,1003,1004] h (fun _ _ _ _ h=>h) (fun _ _ _ _ _ h=>h) E G
def Fn.zD {L':aH2} {aT:aA} (h:Fn prog f args (bT z R L++aJ) bb res (bT z R L'++aT)) (E:ox 1001 [1002,1003,1004] args (bT z R L) aJ bb bb=true)
  (G:oy 1001 (nd [1002,1003,1004] bb bb) res (bT z R L') aT=true):Fn prog f args (oZ z R L::aJ) bb res (oZ z R L'::aT):=
 (cC.XQ (X:=Unit) (L':=fun _=>L') (aT:=fun _=>aT) (res:=fun _=>res) h.x E fun _=>G).fn
def Fn.ch {L':aH2} (h:Fn prog f args (bT z R L) [] res (bT z R L')) (E:ox 1001 [1002,1003,1004] args (bT z R L) [] [] []=true:=by first |rfl |decide)
  (G:oy 1001 (nd [1002,1003,1004] [] []) res (bT z R L') []=true:=by first |rfl |decide):Fn prog f args [oZ z R L] [] res [oZ z R L']:=
 Fn.zD (aJ:=[]) (aT:=[]) (by rw[av8,av8];exact h) E G
end
def bg.jB {X:Type} (o:X->bg):bg where
 bp:=fun I F w p=> ∃g,(o g).bp I F w p
 cr:=fun I F w I' w' p ⟨g,h⟩ U bj aN=>⟨g,(o g).cr I F w I' w' p h U bj aN⟩
def cC.jB {P:aH6} {f:aI5} {args:List aS} {aJ:aA} {bb:aH0} {res:aS} {X:Type} {q:Nat} {o:X->bg} {aT:aA} (h:cC P f args aJ bb (fun _=>res) (fun g=>(q,.aH (o g))::aT)):Fn P f args aJ bb res ((q,.aH (.jB o))::aT):=by
 refine⟨h.1,fun ρ F I w bZ b4 cf a3 a4 a5 gR=>(h.2 ρ F I w bZ b4 cf a3 a4 a5 gR).mono ?_⟩;rintro e w' ⟨g,x,ρ',F',af,ao,bo,I',c7,fY,ia,px,OT,EM⟩
 have mz: ∀{c ch},aj ((q,ba.aH (.jB o))::aT) c=some ch-> ∃ch',aj ((q,ba.aH (o g))::aT) c=some ch'/\((c=q/\ch= .aH (.jB o)/\ch'= .aH (o g))\/ch=ch'):=fun {c ch} J=>by
  rw[ci] at J
  split at J
  .rename_i e;injection J with J
   exact⟨_,by rw[ci,vj e],.inl ⟨e.symm,J.symm,rfl⟩⟩
  .rename_i e;exact⟨ch,by rw[ci,mu e];exact J,.inr rfl⟩
 refine⟨x,ρ',F',af,ao,bo,I',c7,fY,fun c ch J=>?_,fun c ch J=>?_,fun c ca ch ch' b J cW a8=>?_,EM⟩
 .obtain⟨ch',E,G⟩:=mz J;have:=ia c ch' E;rcases G with⟨rfl,rfl,rfl⟩ |rfl
  .exact⟨g,this⟩
  .exact this
 .obtain⟨ch',E,_⟩:=mz J;exact px c ch' E
 .obtain⟨B0,E,_⟩:=mz J;obtain⟨EY,G,_⟩:=mz cW;exact OT c ca B0 EY b E G a8
def Fn.aoP {P:aH6} {f:aI5} {args:List aS} {aJ:aA} {bb:aH0} {res:aS} {X:Type} {q:Nat} {o:X->bg} {aT:aA} (h:Fn P f args aJ bb res ((q,.aH (.jB o))::aT)):cC P f args aJ bb (fun _=>res) (fun g=>(q,.aH (o g))::aT):=by
 refine⟨h.1,fun ρ F I w bZ b4 cf a3 a4 a5 gR=>(h.2 ρ F I w bZ b4 cf a3 a4 a5 gR).mono ?_⟩;rintro e w' ⟨x,ρ',F',af,ao,bo,I',c7,fY,ia,px,OT,EM⟩;have aQ:aj ((q,ba.aH (.jB o))::aT) q=some (.aH (.jB o)):=aF2
 obtain⟨g,aU⟩:(bg.jB o).bp I' (F' q) w' (ρ' q):=ia q _ aQ
 have mz: ∀{c ch},aj ((q,ba.aH (o g))::aT) c=some ch->(c=q/\ch= .aH (o g))\/aj ((q,ba.aH (.jB o))::aT) c=some ch:=fun {c ch} J=>by
  rw[ci] at J
  split at J
  .rename_i e;injection J with J;exact .inl ⟨e.symm,J.symm⟩
  .rename_i e;exact .inr (by rw[ci,mu e];exact J)
 have OU: ∀{c ch},aj ((q,ba.aH (o g))::aT) c=some ch-> ∃ch',aj ((q,ba.aH (.jB o))::aT) c=some ch':=fun {c ch} J=>by
  rcases mz J with⟨rfl,_⟩ |h
  .exact⟨_,aQ⟩
  .exact⟨_,h⟩
 refine⟨g,x,ρ',F',af,ao,bo,I',c7,fY,fun c ch J=>?_,fun c ch J=>?_,fun c ca ch ch' b J cW a8=>?_,EM⟩
 .rcases mz J with⟨rfl,rfl⟩ |h
  .exact aU
  .exact ia c ch h
 .obtain⟨ch',h'⟩:=OU J;exact px c ch' h'
 .obtain⟨B0,E⟩:=OU J;obtain⟨EY,G⟩:=OU cW;exact OT c ca B0 EY b E G a8
def ac.aH {ids:aH0} {K:aZ} {B:aA} (q:Nat) {o o':bg} (aQ:aj B q=some (.aH o)) (h: ∀I F w p,o.bp I F w p->o'.bp I F w p):ac ids K B K ((q,.aH o')::B):=by
 rintro N C a w ⟨hn,H,ρ,F,al,av⟩;obtain⟨bC,a2⟩:=al.h8 (w':=w) (ch:=.aH o') aQ (cZ.refl _ _) fun I a1=>h _ _ _ _ (o.cr _ _ _ _ _ _ (al.holds q _ aQ) a1 (fun _ _=>rfl) (as2 _))
 exact⟨hn,H,ρ,F,bC,av.mono a2 fun _ _ _=>rfl⟩
def dv.jB {ids:aH0} {K:aZ} {B:aA} (q:Nat) {X:Type} {o:X->bg} (aQ:aj B q=some (.aH (.jB o))):dv ids K B (X:=X) (fun _=>K) (fun g=>(q,.aH (o g))::B):=by
 rintro N C a w ⟨hn,H,ρ,F,al,av⟩;obtain⟨g,aU⟩:(bg.jB o).bp (b5 C B F w) (F q) w (ρ q):=al.holds q _ aQ;obtain⟨bC,a2⟩:=al.h8 (w':=w) (ch:=.aH (o g)) aQ (cZ.refl _ _) fun I a1=>(o g).cr _ _ _ _ _ _ aU a1 (fun _ _=>rfl) (as2 _)
 exact⟨g,hn,H,ρ,F,bC,av.mono a2 fun _ _ _=>rfl⟩
end
section
def Fn.aoQ {P:aH6} {f:aI5} {args:List aS} {c b:Nat} {aJ:aA} {bb:aH0} {res:aS} {aT:aA} {o o':bg} (h:Fn P f args ((c,.aH o)::aJ) bb res ((c,.aH o')::aT)) (J:bb.contains c=false):Fn P f args ((c,.aH (o.at b))::aJ) bb res ((c,.aH (o'.at b))::aT):=by
 have kq:c∉bb:=wV J
 have key: ∀{X:aA} {aB z':bg} {d:Nat} {ch:ba},aj ((c,ba.aH aB)::X) d=some ch->(d=c/\ch= .aH aB)\/(d≠c/\aj X d=some ch):=fun {X aB z' d ch} H=>by
  rw[ci] at H
  split at H
  .rename_i e;injection H with H;exact .inl ⟨e.symm,H.symm⟩
  .rename_i e;exact .inr ⟨fun ao=>e ao.symm,H⟩
 have to: ∀{X:aA} {aB z':bg} {d:Nat} {ch:ba},aj ((c,ba.aH aB)::X) d=some ch-> ∃ch',aj ((c,ba.aH z')::X) d=some ch':=fun {X aB z' d ch} H=>by
  rcases key (z':=aB) H with⟨rfl,_⟩ |⟨e,H⟩
  .exact⟨_,by rw[ci,vj rfl]⟩
  .exact⟨ch,by rw[ci,mu (ay4 e)];exact H⟩
 refine⟨h.1,fun ρ F I w bZ b4 cf a3 a4 a5 gR=>?_⟩;have ak:aj ((c,ba.aH (o.at b))::aJ) c=some (.aH (o.at b)):=aF2
 have aq:(ρ c).bm=b/\o.bp I (F c) w (ρ c):=cf c _ ak;refine(h.2 ρ F I w bZ b4 (fun d ch H=>?_) (fun d ch H x hx=>?_) (fun d da ch ch' x E G=>?_) a5 gR).mono ?_
 .rcases key (z':=o) H with⟨rfl,rfl⟩ |⟨e,H⟩
  .exact aq.2
  .exact cf d ch (by rw[ci,mu (ay4 e)];exact H)
 .obtain⟨ch',h'⟩:=to (z':=o.at b) H;exact a3 d ch' h' x hx
 .obtain⟨cD,g1⟩:=to (z':=o.at b) E;obtain⟨cv,g2⟩:=to (z':=o.at b) G;exact a4 d da cD cv x g1 g2
 .rintro e w' ⟨x,ρ',F',r1,r2,gh,I',kr,l9,mB,ma,ng,oz⟩
  have bj: ∀y,(∃d ch,aj ((c,ba.aH o)::aJ) d=some ch/\F d y)-> ∃d ch,aj ((c,ba.aH (o.at b))::aJ) d=some ch/\F d y:=fun y ⟨d,ch,g1,g2⟩=>by
   obtain⟨ch',cK⟩:=to (z':=o.at b) g1;exact⟨d,ch',cK,g2⟩
  refine⟨x,ρ',F',r1,r2.mono fun y _ aC=>bj y aC,gh,I',kr,fun y aC=>⟨(l9 y aC).1,(l9 y aC).2.imp id (Or.imp (bj y) id)⟩,fun d ch H=>?_,fun d ch H y aC=>?_,fun d da ch ch' y g1 g2 a8 aC=>?_,oz⟩
  .rcases key (z':=o') H with⟨rfl,rfl⟩ |⟨e,H⟩
   .have:=mB d _ aF2;exact⟨by rw[gh d kq];exact aq.1,this⟩
   .exact mB d ch (by rw[ci,mu (ay4 e)];exact H)
  .obtain⟨ch',cK⟩:=to (z':=o') H;obtain⟨cB,cH,dO⟩:=ma d ch' cK y aC;exact⟨cB,cH,dO.imp (bj y) id⟩
  .obtain⟨cD,cB⟩:=to (z':=o') g1;obtain⟨cv,cH⟩:=to (z':=o') g2;exact ng d da cD cv y cB cH a8 aC
def Fn.IP {P:aH6} {f:aI5} {args:List aS} {aJ nH:aA} {bb:aH0} {res:aS} {aT oF:aA} (h:Fn P f args aJ bb res aT) (E: ∀c,aj nH c=aj aJ c) (G: ∀c,aj oF c=aj aT c):Fn P f args nH bb res oF:=by unfold Fn at h⊢;simpa only[E,G] using h
end
section
section
variable {z R:Nat} {L:aH2} {aP:aG9} {db lb:Nat} {kd:Int} {fR:aI3} {dq pu:aI1} {m:Made} {es:gx} {M:ey}
abbrev mn (z R:Nat) (L:aH2) (es:gx) (M:ey) (aP:aG9) (db lb:Nat) (kd:Int) (fR:aI3) (dq pu:aI1) (m:Made):aA:=[oZ z R L,qp es M,(1401,.cells (iOz z aP db lb kd fR dq pu m))]
def uH:Fn prog 80 [ap 1401] (mn z R L es M aP db lb kd fR dq pu m) [] g4 (mn z R L es M aP db lb 0 .nilIface none none m):=by refine aY [] func80 ?_;exact⟨_,_,_,ac.trans (ac.wi 1401 8 rfl rfl) (ac.wi 1401 9 rfl rfl),rfl,trivial,aD,rfl⟩
def IQ (k:Int) (T:Nat) (p:aI3):Fn prog 72 [ap 1401,ab k,.c (.one (.bN (.iface T p)))] (mn z R L es M aP db lb kd fR dq pu m) [] (ab 0) (mn z R L es M aP db lb k (.iface T p) dq pu m):=by refine aY [] func72 ?_;exact bh
def aoR:Fn prog 32 [ap 1401] (mn z R L es M aP db lb kd fR dq pu m) [] (bW aP) (mn z R L es M aP db lb kd fR dq pu m):=by refine aY [] func32 ?_;exact bh
def XR:Fn prog 19 [ap 1401] (mn z R L es M aP db lb kd fR dq pu m) [] (ab kd) (mn z R L es M aP db lb kd fR dq pu m):=by refine aY [] func19 ?_;exact bh
def XS:Fn prog 15 [ap 1401] (mn z R L es M aP db lb kd fR dq pu m) [] (dy lb) (mn z R L es M aP db lb kd fR dq pu m):=by refine aY [] func15 ?_;exact bh
def XT (h:cb z R L) (a l:Int):Fn prog 14 [ap 1401,ab a,ab l] (mn z R L es M aP db lb kd fR dq pu m) [] (.cn [.one (.d (.bG .u8 (r9 z L aP a l).1)),dJ (r9 z L aP a l).2]) (mn z R L es M aP db lb kd fR dq pu m):=by refine aY [] func14 ?_;exact ar ((ahK h aP a l).ch) ⟨eU aD4,bh⟩
def XU (q:Nat) (ch:ba) (B:aA) (h:aj B q=none) (c:Nat):aj (B++[(q,ch)]) c=aj ((q,ch)::B) c:=by
 simp only[i1,ci]
 by_cases e:q=c
 .subst e;simp[h]
 .simp only[mu e]
  cases aj B c <;>rfl
def aoS {f:aI5} {args:List aS} {res:aS} (h:Fn prog f args [(1004,.aH (.bA (iz L)))] [] res [(1004,.aH (.bA (iz L)))]) (E:ox 1001 [1002,1003,1004] args (bT z R L) [] [] []=true:=by first |rfl |decide)
  (G:oy 1001 (nd [1002,1003,1004] [] []) res (bT z R L) []=true:=by first |rfl |decide):Fn prog f args [oZ z R L] [] res [oZ z R L]:=
 Fn.ch (Fn.IP (Fn.qO [(1001,.cells (LQ z R)),(1002,.map .str .aM (df L)),(1003,.aH (.bA (mD L)))] h rfl rfl) (fun c=>XU 1004 _ [_,_,_] rfl c) (fun c=>XU 1004 _ [_,_,_] rfl c)) E G
def OV (h:cb z R L) {d:aL} (H:dk L aP=some d):Fn prog 68 [ap 1401] (mn z R L es M aP db lb kd fR dq pu m) [] (ab (d.im.t.length:Nat)) (mn z R L es M aP db lb kd fR dq pu m):=by have al:=h.toi3.M (cY H).1;refine aY [] func68 ?_;exact ar ((j7 _ _ L h.toi3 aP d H).ch) <| ar (aoS (il (nR d.im) al rfl rfl rfl rfl)) ⟨eU aD4,bh⟩
structure dL where
 kd:Int
 a:Int
 l:Int
 b:aG9
 nm:aG9
 eA:aG9
 ks:List mm
abbrev IR (s:dL):List bE:=[.d (.int .i64 s.kd),.d (.int .i64 s.a),.d (.int .i64 s.l),.d (.bG .u8 s.b),.d (.str s.nm),.d (.str s.eA),.d (.bG ml s.ks)]
abbrev iF (s:dL):aS:=.c (.agg (IR s))
abbrev sr (s:dL):aA:=[(2,.cells [.ptr 1401 0]),(3,.cells (IR s))]
abbrev xI (z R:Nat) (L:aH2) (es:gx) (M:ey) (aP:aG9) (db lb:Nat) (kd:Int) (fR:aI3) (dq pu:aI1) (m:Made) (s:dL):aA:=mn z R L es M aP db lb kd fR dq pu m++sr s
def aoT (h:cb z R L) (s:dL) (O:s.b.length<=1000000000):Fn prog 62 [ap 2,ap 3] (xI z R L es M aP db lb kd fR dq pu m s) [] (ab (fq z L aP s.a s.b).e) (xI z R (fq z L aP s.a s.b).L es M aP db lb kd fR dq pu m s):=by refine aY [] func62 ?_;exact ar ((Mt h aP s.a s.b O).ch) ⟨eU aD4,bh⟩
def aoU (h:cb z R L) (s:dL):Fn prog 64 [ap 2,ap 3] (xI z R L es M aP db lb kd fR dq pu m s) [] (ab (i4 z L aP s.a s.l).e) (xI z R (i4 z L aP s.a s.l).L es M aP db lb kd fR dq pu m s):=by refine aY [] func64 ?_;exact ar ((TP h aP s.a s.l).ch) ⟨eU aD4,bh⟩
def aoV (h:cb z R L) (s:dL):Fn prog 66 [ap 2,ap 3] (xI z R L es M aP db lb kd fR dq pu m s) [] (ab (h1 L aP s.a s.l).e) (xI z R (h1 L aP s.a s.l).L es M aP db lb kd fR dq pu m s):=by refine aY [] func66 ?_;exact ar ((TQ h aP s.a s.l).ch) ⟨eU aD4,bh⟩
end
end
section
abbrev ki (z R:Nat) (L:aH2) (b:Nat) (j:ln):aA:=[oZ z R L,(1501,.b7 1001 (XL z b j))]
def Fn.rl {f:aI5} {args:List aS} {z R:Nat} {L L':aH2} {res:aS} {b:Nat} {br dP:aA} (h:Fn prog f (.c (.one (.ptr 2001 0))::args) (bT z R L++br) [] res (bT z R L'++dP)) (Z:MY 2001 1001 1501 args (bT z R L) br res (bT z R L') dP=true)
  (E:ox 1001 [1002,1003,1004] (.c (.one (.d (.aM (some b))))::args) (bT z R L) [(1501,.b7 1001 (oL b 2001 1001 br))] [] []=true) (G:oy 1001 (nd [1002,1003,1004] [] []) res (bT z R L') [(1501,.b7 1001 (oL b 2001 1001 dP))]=true):
  Fn prog f (.c (.one (.d (.aM (some b))))::args) [oZ z R L,(1501,.b7 1001 (oL b 2001 1001 br))] [] res [oZ z R L',(1501,.b7 1001 (oL b 2001 1001 dP))]:=
 Fn.zD (h.ai3 Z) E G
section
variable {z R:Nat} {L:aH2} {top base nm:aG9} {l:aH0} {over done:Bool} {b:Nat} {n rm:Int} {g:aH3}
def aoW (h:lU z R L top l):Fn prog 290 [dy b] (ki z R L b (.dq top base l over)) [] (.cn [.one (.d (.bool (ft z L top base l over).done)),dJ (ft z L top base l over).e]) (ki z R (ft z L top base l over).L b (.dq top base (ft z L top base l over).l (ft z L top base l over).over)):=
 Fn.rl (br:=tD ..) (dP:=tD ..) (h.Nc base over) rfl rfl rfl
def IS:Fn prog 289 [dy b] (ki z R L b (.dq top base l over)) [] (fX over) (ki z R L b (.dq top base l over)):=
 Fn.rl (br:=tD ..) (dP:=tD ..) (ajm z R L top base l over) rfl rfl rfl
def aoX:Fn prog 288 [dy b] (ki z R L b (.dq top base l over)) [] g4 (ki z R L b (.dq top base [] true)):=
 Fn.rl (br:=tD ..) (dP:=tD ..) (ajn z R L top base l over) rfl rfl rfl
def aoY (h:cb z R L) (a aO:Int) (vQ:aO<=9223372036854775807) {d:aL} (H:dk L top=some d):Fn prog 102 [dy b,ab a,ab aO] (ki z R L b (.dq top base l over)) [] g4 (ki z R L b (.dq top base (q2 z L top l over a aO) over)):=
 Fn.rl (br:=tD ..) (dP:=tD ..) (ajw h base l over a aO vQ H) rfl rfl rfl
def aoZ (h:cb z R L) {d:aL} (H:dk L top=some d):Fn prog 301 [dy b] (ki z R L b (.pl top base over)) [] (.cn [.one (.d (.bool (h4 z L top base over).done)),dJ (h4 z L top base over).e]) (ki z R (h4 z L top base over).L b (.pl top base (h4 z L top base over).over)):=
 Fn.rl (br:=wj ..) (dP:=wj ..) (akD h base over H) rfl rfl rfl
def IT:Fn prog 300 [dy b] (ki z R L b (.pl top base over)) [] (fX over) (ki z R L b (.pl top base over)):=
 Fn.rl (br:=wj ..) (dP:=wj ..) (akr z R L top base over) rfl rfl rfl
def ao0:Fn prog 299 [dy b] (ki z R L b (.pl top base over)) [] g4 (ki z R L b (.pl top base true)):=
 Fn.rl (br:=wj ..) (dP:=wj ..) (aks z R L top base over) rfl rfl rfl
def ao1 (h:gk z R L nm l g):Fn prog 297 [dy b] (ki z R L b (.pu nm n rm l g over done)) [] (.cn [.one (.d (.bool (kz z L nm rm l g over done).up)),dJ (kz z L nm rm l g over done).e])
  (ki z R L b (.pu nm n rm (kz z L nm rm l g over done).l (kz z L nm rm l g over done).g (kz z L nm rm l g over done).over (kz z L nm rm l g over done).done)):=
 Fn.rl (br:=oa ..) (dP:=oa ..) (h.Nc n rm over done) rfl rfl rfl
def OW:Fn prog 296 [dy b] (ki z R L b (.pu nm n rm l g over done)) [] (fX over) (ki z R L b (.pu nm n rm l g over done)):=
 Fn.rl (br:=oa ..) (dP:=oa ..) (ajW z R L nm n rm l g over done) rfl rfl rfl
def XV:Fn prog 78 [dy b] (ki z R L b (.pu nm n rm l g over done)) [] (fX done) (ki z R L b (.pu nm n rm l g over done)):=
 Fn.rl (br:=oa ..) (dP:=oa ..) (ajX z R L nm n rm l g over done) rfl rfl rfl
def ao2:Fn prog 198 [dy b] (ki z R L b (.pu nm n rm l g over done)) [] g4 (ki z R L b (.pu nm n rm [] g true done)):=
 Fn.rl (br:=oa ..) (dP:=oa ..) (U1 z R L nm n rm l g over done) rfl rfl rfl
def ao3 (h:gk z R L nm l g) (a aO:Int) (G:aO<=9223372036854775807):Fn prog 100 [dy b,ab a,ab aO] (ki z R L b (.pu nm n rm l g over done)) [] (ab (f' z L nm rm a aO l g over).e)
  (ki z R L b (.pu nm n rm (f' z L nm rm a aO l g over).l (f' z L nm rm a aO l g over).g (f' z L nm rm a aO l g over).over done)):=
 Fn.rl (br:=oa ..) (dP:=oa ..) (h.akf n rm over done a aO G) rfl rfl rfl
def XW (h:gk z R L nm l g):Fn prog 121 [dy b] (ki z R L b (.pu nm n rm l g over true)) [] (.cn [.one (.d (.bG uy (lg g))),.one (.d (.int .i64 n)),.one (.d (.bool true))]) (ki z R L b (.pu nm n rm l g over true)):=
 Fn.rl (br:=oa ..) (dP:=oa ..) (h.akg n rm over) rfl rfl rfl
end
end
section
def nB (z:Nat) (L:aH2) (a aO:Int):ln->ln
 | .pu nm n rm l g over done=>if(f' z L nm rm a aO l g over).e=0 then .pu nm n rm (f' z L nm rm a aO l g over).l (f' z L nm rm a aO l g over).g (f' z L nm rm a aO l g over).over done else .no
 |j=>j
def B1 (z:Nat) (L:aH2) (a aO:Int):ln->ln
 | .dq top base l over=>.dq top base (q2 z L top l over a aO) over
 |j=>j
def EZ (a aO:Int) (j:ln) (dZ:Option (Nat×EW)):Option (Nat×EW):=match xH 0 j with
 |none=>dZ
 |some _=>dZ.map fun p=>(p.1,p.2.1,p.2.2.1,la p.2.1 p.2.2.1 p.2.2.2 a aO)
def ed (w:bR) (a aO:Int) (r:mK):bR:=if r.e=0 then {w with L:=r.L,ds:=w.ds.map (kh a aO),bH:=B1 w.z r.L a aO (nB w.z w.L a aO w.bH),bu:={w.bu with dZ:=EZ a aO (nB w.z w.L a aO w.bH) w.bu.dZ}} else {w with L:=r.L,bH:=nB w.z w.L a aO w.bH}
def xJ (z R:Nat) (L:aH2) (aP:aG9):ln->Prop
 | .no=>True
 | .dq top base l over=>top=aP/\over=false/\lU z R L top l
 | .pl top base over=>top=aP/\over=false
 | .pu nm n rm l g over done=>nm=aP/\over=false/\done=false/\n=((b6 L aP:Nat):Int)/\gk z R L nm l g
def ao4 (q b:Nat) (s g:Int) (es:aH1) (a aO:Int) (au:0<=s/\s<=4096) (aU:1<=g/\g<=64):Fn prog 103 [dy b,ab a,ab aO] [(1601,.aH (.bA [(b,fC s g es)]))] [] (ab (if qT s a aO then 0 else 1)) [(1601,.aH (.bA [(b,fC s g (la s g es a aO))]))]:=
 Fn.nt [1002] 1601 (L4 s g es a aO au aU)
abbrev IU (w:bR) (s:dL) (f:Nat) (r:mK):Prop:= ∀(kd:Int) (fR:aI3) (dq pu:aI1),Fn prog f [ap 2,ap 3] (xI w.z w.R w.L w.es w.M w.aP w.db w.lb kd fR dq pu w.bu s) [] (ab r.e) (xI w.z w.R r.L w.es w.M w.aP w.db w.lb kd fR dq pu w.bu s)
def XX (w:bR) (s:dL) (f:Nat) (a aO:Int) (r:mK) (V:w.bH= .no\/ ∃top base over,w.bH= .pl top base over) (jg:eh w.ds) (hf:IU w s f r):
  Fn prog 61 [ap 1401,ab a,ab aO,.c (.one (.c3 f [.p 2 0,.p 3 0]))] (cV w++sr s) [] (ab r.e) (cV (ed w a aO r)++sr s):=by
 obtain⟨z,R,L,aP,db,ds,es,M,lb,Q,b,bH,bu⟩:=w;simp only at V jg;have hw:=Fn.nt (b:=db) [1002,1003,1004] 1101 (OQ jg a aO);have af:xG b bH=none:=by rcases V with rfl |⟨_,_,_,rfl⟩ <;>rfl
 have ao:xH b bH=none:=by rcases V with rfl |⟨_,_,_,rfl⟩ <;>rfl
 have bo:nB z L a aO bH=bH:=by rcases V with rfl |⟨_,_,_,rfl⟩ <;>rfl
 have c7:B1 z r.L a aO bH=bH:=by rcases V with rfl |⟨_,_,_,rfl⟩ <;>rfl
 have fY:EZ a aO bH bu.dZ=bu.dZ:=by rcases V with rfl |⟨_,_,_,rfl⟩ <;>rfl
 have hf:=hf (EV bH) (rk b bH) (xG b bH) (xH b bH)
 by_cases U:r.e=0
 .have qD:ed ⟨z,R,L,aP,db,ds,es,M,lb,Q,b,bH,bu⟩ a aO r=⟨z,R,r.L,aP,db,ds.map (kh a aO),es,M,lb,Q,b,bH,bu⟩:=by
   unfold ed;simp only[bo,c7,fY,vj U]
  rw[qD];refine aY [] func61 ?_;refine⟨fun _ h=>(by rw[ao] at h;cases h),fun _=>ar hf ⟨fun h=>as3 h aG6,fun h=>ar hw ?_⟩⟩;refine⟨fun _ h=>(by rw[af] at h;cases h),fun _=>?_⟩;exact⟨fun _ h=>(by rw[ao] at h;cases h),fun _=>eN bt rfl U.symm⟩
 .have qD:ed ⟨z,R,L,aP,db,ds,es,M,lb,Q,b,bH,bu⟩ a aO r=⟨z,R,r.L,aP,db,ds,es,M,lb,Q,b,bH,bu⟩:=by
   unfold ed;simp only[bo,mu U]
  rw[qD];refine aY [] func61 ?_;exact⟨fun _ h=>(by rw[ao] at h;cases h),fun _=>ar hf ⟨fun h=>bh,fun h=>as3 h aG6⟩⟩
def ao5 (w:bR) (s:dL) (f:Nat) (a aO:Int) (r:mK) {top base:aG9} {l:aH0} {over:Bool} (V:w.bH= .dq top base l over) (jg:eh w.ds) (fG:cb w.z w.R r.L) {d:aL} (H:dk r.L top=some d) (vQ:aO<=9223372036854775807) (hf:IU w s f r):
  Fn prog 61 [ap 1401,ab a,ab aO,.c (.one (.c3 f [.p 2 0,.p 3 0]))] (cV w++sr s) [] (ab r.e) (cV (ed w a aO r)++sr s):=by
 obtain⟨z,R,L,aP,db,ds,es,M,lb,Q,b,bH,bu⟩:=w;simp only at V jg fG;subst V;have hw:=Fn.nt (b:=db) [1002,1003,1004] 1101 (OQ jg a aO);have ay:=aoY (b:=b) (base:=base) (l:=l) (over:=over) fG a aO vQ H;have hf:=hf 1 (rk b (.dq top base l over)) (some b) none
 by_cases U:r.e=0
 .have qD:ed ⟨z,R,L,aP,db,ds,es,M,lb,Q,b,.dq top base l over,bu⟩ a aO r=⟨z,R,r.L,aP,db,ds.map (kh a aO),es,M,lb,Q,b,.dq top base (q2 z r.L top l over a aO) over,bu⟩:=by
   unfold ed;simp only[vj U,nB,B1,EZ,xH]
  rw[qD];refine aY [] func61 ?_;exact⟨fun _ h=>aE1,fun _=>ar hf ⟨fun h=>as3 h aG6,fun h=>ar hw ⟨fun _ _=>ar ay ⟨fun _ h=>aE1,fun _=>eN bt rfl U.symm⟩,fun h=>aE1⟩⟩⟩
 .have qD:ed ⟨z,R,L,aP,db,ds,es,M,lb,Q,b,.dq top base l over,bu⟩ a aO r=⟨z,R,r.L,aP,db,ds,es,M,lb,Q,b,.dq top base l over,bu⟩:=by
   unfold ed;simp only[mu U,nB]
  rw[qD];refine aY [] func61 ?_;exact⟨fun _ h=>aE1,fun _=>ar hf ⟨fun h=>bh,fun h=>as3 h aG6⟩⟩
def ao6 (w:bR) (s:dL) (f:Nat) (a aO:Int) (r:mK) {nm:aG9} {n rm:Int} {l:aH0} {g:aH3} {over done:Bool} (V:w.bH= .pu nm n rm l g over done) (jg:eh w.ds) (ae:gk w.z w.R w.L nm l g) (vQ:aO<=9223372036854775807)
  (sg: ∀p,w.bu.dZ=some p->(0<=p.2.1/\p.2.1<=4096)/\1<=p.2.2.1/\p.2.2.1<=64) (hf:IU w s f r):
  Fn prog 61 [ap 1401,ab a,ab aO,.c (.one (.c3 f [.p 2 0,.p 3 0]))] (cV w++sr s) [] (ab r.e) (cV (ed w a aO r)++sr s):=by
 obtain⟨z,R,L,aP,db,ds,es,M,lb,Q,b,bH,bu⟩:=w;simp only at V jg ae sg;subst V;have hw:=Fn.nt (b:=db) [1002,1003,1004] 1101 (OQ jg a aO);have O:=ao3 (b:=b) (n:=n) (rm:=rm) (over:=over) (done:=done) ae a aO vQ;have AE:nB z L a aO (.pu nm n rm l g over done)=if(f' z L nm rm a aO l g over).e=0 then .pu nm n rm (f' z L nm rm a aO l g over).l (f' z L nm rm a aO l g over).g (f' z L nm rm a aO l g over).over done else .no:=rfl
 unfold ed;simp only[AE];generalize f' z L nm rm a aO l g over=y at*
 by_cases aC:y.e=0
 .have hf:=hf 3 (rk b (.pu nm n rm l g over done)) none (some b);simp only[vj aC]
  by_cases U:r.e=0
  .simp only[vj U];obtain⟨eE,dQ,dZ⟩:=bu
   cases dZ with
   |none=>
    show Fn _ _ _ _ _ _ (cV ⟨z,R,r.L,aP,db,ds.map (kh a aO),es,M,lb,Q,b,.pu nm n rm y.l y.g y.over done,⟨eE,dQ,none⟩⟩++sr s);refine aY [] func61 ?_;exact⟨fun _ _=>ar O ⟨fun h=>as3 h (by simp[aC]),fun _=>ar hf ⟨fun h=>as3 h aG6,fun h=>ar hw ⟨fun _ h=>aE1,fun _=>⟨fun _ _=>⟨fun _ h=>aE1,fun _=>eN bt rfl U.symm⟩,fun h=>aE1⟩⟩⟩⟩,fun h=>aE1⟩
   |some p=>
    obtain⟨jC,aR,OX,OY⟩:=p;obtain⟨b',cS⟩:=sg _ rfl;have au:=ao4 1601 jC aR OX OY a aO b' cS;show Fn _ _ _ _ _ _ (cV ⟨z,R,r.L,aP,db,ds.map (kh a aO),es,M,lb,Q,b,.pu nm n rm y.l y.g y.over done,⟨eE,dQ,some (jC,aR,OX,la aR OX OY a aO)⟩⟩++sr s);refine aY [] func61 ?_;exact⟨fun _ _=>ar O ⟨fun h=>as3 h (by simp[aC]),fun _=>ar hf ⟨fun h=>as3 h aG6,fun h=>ar hw ⟨fun _ h=>aE1,fun _=>⟨fun _ _=>⟨fun _ _=>ar au <| eN bt rfl U.symm,fun h=>aE1⟩,fun h=>aE1⟩⟩⟩⟩,fun h=>aE1⟩
  .simp only[mu U];refine aY [] func61 ?_;exact⟨fun _ _=>ar O ⟨fun h=>as3 h (by simp[aC]),fun _=>ar hf ⟨fun h=>bh,fun h=>as3 h aG6⟩⟩,fun h=>aE1⟩
 .have hf:=hf 0 .nilIface none none;have aU:=uH (z:=z) (R:=R) (L:=L) (aP:=aP) (db:=db) (lb:=lb) (kd:=3) (fR:=rk b (.pu nm n rm l g over done)) (dq:=none) (pu:=some b) (m:=bu) (es:=es) (M:=M);simp only[mu aC]
  by_cases U:r.e=0
  .simp only[vj U];show Fn _ _ _ _ _ _ (cV ⟨z,R,r.L,aP,db,ds.map (kh a aO),es,M,lb,Q,b,.no,bu⟩++sr s);refine aY [3] func61 ?_;exact⟨fun _ _=>ar O ⟨fun _=>ar aU <| bz [] (ac.rj 1501 1001 rfl) <| ar hf ⟨fun h=>as3 h aG6,fun h=>ar hw ⟨fun _ h=>aE1,fun _=>⟨fun _ h=>aE1,fun _=>eN bt rfl U.symm⟩⟩⟩,fun h=>as3 h (by simp[aC])⟩,fun h=>aE1⟩
  .simp only[mu U];refine aY [3] func61 ?_;exact⟨fun _ _=>ar O ⟨fun _=>ar aU <| bz [] (ac.rj 1501 1001 rfl) <| ar hf ⟨fun h=>bh,fun h=>as3 h aG6⟩,fun h=>as3 h (by simp[aC])⟩,fun h=>aE1⟩
end
section
structure rn (L:aH9):Prop extends lV L where
 IV:rf L
end
section
def IW (es:gx) (k:aG9) (a:aI1):iT (mS es k a) k=a/\ ∀j,j≠k->iT (mS es k a) j=iT es j:=by
 obtain⟨E,G⟩:=yv (aI:=.str) (aK:=.aM) qL (k:aa .str) (a:aa .aM) es;refine⟨?_,fun j V=>?_⟩
 .show((b0 (aI:=.str) (aK:=.aM) (dx (aI:=.str) (aK:=.aM) es k a) k).getD (cR .aM))=a;rw[E];rfl
 .show((b0 (aI:=.str) (aK:=.aM) (dx (aI:=.str) (aK:=.aM) es k a) j).getD (cR .aM))=_;rw[G j V];rfl
def XY {es:gx} (h:fg es) (k:aG9):iT (kg es k) k=none/\ ∀j,j≠k->iT (kg es k) j=iT es j:=by
 obtain⟨E,G⟩:=Dj (aI:=.str) (aK:=.aM) qL (k:aa .str) es h;refine⟨?_,fun j V=>?_⟩
 .show((b0 (aI:=.str) (aK:=.aM) (g0 (aI:=.str) (aK:=.aM) es k) k).getD (cR .aM))=none;rw[E];rfl
 .show((b0 (aI:=.str) (aK:=.aM) (g0 (aI:=.str) (aK:=.aM) es k) j).getD (cR .aM))=_;rw[G j V];rfl
def ao7 {es:gx} (h:fg es) (G: ∀p,p∈es->tz p=qo\/tz p=gQ):es.length<=2:=by
 match es,h,G with
 | [],_,_=>exact at2 _
 | [_],_,_=>exact Nat.le_succ 1
 | [_,_],_,_=>exact as2 _
 |x::y::aB::l,h,G=>
  exfalso
  have ne: ∀{p q:aa .str×aa .aM},fT .str p.1 q.1=false->tz p≠tz q:=fun {p q} e bd=>by
   have:fT .str p.1 q.1=true:=(qL p.1 q.1).2 bd;rw[e] at this
   cases this
  obtain⟨b4,cf⟩:=List.pairwise_cons.1 h;obtain⟨b1,b2⟩:=List.pairwise_cons.1 cf;have c0:=ne (b4 y aD3);have d5:=ne (b4 aB aD3);have lO:=ne (b1 aB aD3);rcases G x aD3 with af |af <;>rcases G y aD3 with ao |ao <;>rcases G aB aD3 with bo |bo <;>simp_all
structure mT (es:gx) (M:ey) (Q:aH9):Prop where
 iM:fg es
 two: ∀p,p∈es->tz p=qo\/tz p=gQ
 bA:tA es M 0
 XZ: ∀p,p∈M->p.2.fA=[]/\p.2.n1=p.2.bO
 bG:(iT es qo=none/\Q=[])\/ ∃a m,iT es qo=some a/\h6 M a=some m/\EP m 512 4096 (jQ Q)/\((jQ Q).length:Int)<=dH 512*16
def X0:(qo:aG9)≠gQ:=by decide
def ao8 {M:ey} {a:Nat} {m:cq} (h:h6 M a=some m):a∈M.map (·.1):=au0 (f:=fun p:Nat×cq=>p.1) (Oy h)
def mT.ao9 {es:gx} {M:ey} {Q:aH9} (h:mT es M Q):iT (kg es gQ) gQ=none/\(kg es gQ).length < 16/\ ∀b,iT (mS (kg es gQ) gQ (some b)) gQ=some b:=by
 have G:(kg es gQ).length<=2:=ao7 (fg.nQ h.iM) fun p ae=>h.two p (AM ae)
 exact⟨(XY h.iM gQ).1,aD1,fun b=>(IW _ _ _).1⟩
def mT.ao' {es:gx} {M:ey} {Q Q':aH9} (h:mT es M Q) {b:Nat} (O:b∉M.map (·.1)):mT (wg 512 es Q' b) ((b,uG 512 4096 Q' b)::M) (if xE 512 Q'=0 then Q' else Q):=by
 have b':fg (kg es gQ):=fg.nQ h.iM;have cS:fg (mS (kg es gQ) gQ (some b)):=fg.put qL b'
 have uC: ∀p,p∈mS (kg es gQ) gQ (some b)->tz p=qo\/tz p=gQ:=fun p ae=>by
  rcases ER ae with rfl |ae
  .exact .inr rfl
  .exact h.two p (AM ae)
 have hf: ∀m,(m=uG 512 4096 Q' b)-> ∀p,p∈((b,m)::M:ey)->m.fA=[]/\m.n1=m.bO->p.2.fA=[]/\p.2.n1=p.2.bO:=fun m _ p ae ay=>by
  rcases as8.1 ae with rfl |ae
  .exact ay
  .exact h.XZ p ae
 by_cases J:((jQ Q').length:Int)<=dH 512*16
 .have pR:=aoj (n:=512) (R:=4096) rfl aD2 aD2 J;have af:xE 512 Q'=0:=vj J;have ao:wg 512 es Q' b=_:=vj J;have bo:uG 512 4096 Q' b=_:=vj J;have ae:=(h.bA.nQ gQ).add (k:=gQ) (m:=we 512 4096 (jQ Q')) O pR.ok (by rw[pR.iv];exact as2 _);have g1:=(IW (kg es gQ) gQ (some b)).1;rw[af,vj rfl,ao,bo];refine⟨fg.put qL (fg.nQ cS),fun p ae=>?_,ae.aX g1,fun p ae=>hf _ bo.symm p ae ⟨pR.iv,pR.Xt⟩,.inr ⟨b,_,(IW _ _ _).1,vj rfl,pR,J⟩⟩;rcases ER ae with rfl |ae
  .exact .inl rfl
  .exact uC p (AM ae)
 .have af:xE 512 Q'=1:=mu J;have ao:wg 512 es Q' b=_:=mu J;have bo:uG 512 4096 Q' b=_:=mu J;have ae:=(h.bA.nQ gQ).add (k:=gQ) (m:=lm 512 4096) O (hu.new rfl) (as2 _);rw[af,mu aD2,ao,bo];refine⟨cS,uC,ae,fun p ae=>hf _ bo.symm p ae ⟨rfl,rfl⟩,?_⟩;have g1:iT (mS (kg es gQ) gQ (some b)) qo=iT es qo:=((IW _ _ _).2 _ X0).trans ((XY h.iM _).2 _ X0);rw[g1];rcases h.bG with E |⟨a,m,E,G,ah⟩
  .exact .inl E
  .refine .inr ⟨a,m,E,?_,ah⟩;rw[uD,mu (fun e=>O (by have e:b=a:=e;rw[e];exact ao8 G))];exact G
def mT.n2 {es:gx} {M:ey} {Q:aH9} (h:mT es M Q) (ks:List mm):mP (zu ks es) M=M:=by
 unfold mP;refine(av1 fun p ae=>?_).trans (List.map_id M);obtain⟨E,G⟩:=h.XZ p ae
 have ah:zu ks es p.1 p.2=p.2:=by
  unfold zu
  split
  .obtain⟨a,n',FY,Xt,OY,iv⟩:=p;simp only at E G;subst E G;rfl
  .rfl
 rw[ah];rfl
def ss:ln->Bool
 | .pu .. =>true
 |_=>false
structure l0 (w:bR):Prop where
 cs:cb w.z w.R w.L
 kd:(dk w.L w.aP).isSome=true
 ds:eh w.ds
 ef: ∀e,e∈w.ds->v7 e/\e.s=((b6 w.L w.aP*2 ^w.z:Nat):Int)
 q:rn w.Q
 ob:mT w.es w.M w.Q
 dZ: ∀p,w.bu.dZ=some p->p.2.1=((b6 w.L w.aP*2 ^w.z:Nat):Int)/\p.2.2.1=1/\fg p.2.2.2
structure eO (w:bR):Prop extends l0 w where
 bH:xJ w.z w.R w.L w.aP w.bH
 sc:ss w.bH=true->hg (cT w.bu.eE)=true
end
section
def OZ (w:bR) (aq:eO w) (s:dL) (f:Nat) (a aO:Int) (r:mK) (ak:i5 w.L w.aP r.L) (vQ:aO<=9223372036854775807) (hf:IU w s f r):
  Fn prog 61 [ap 1401,ab a,ab aO,.c (.one (.c3 f [.p 2 0,.p 3 0]))] (cV w++sr s) [] (ab r.e) (cV (ed w a aO r)++sr s):=by
 have V:=aq.bH
 cases h:w.bH with
 |no=>exact XX w s f a aO r (.inl h) aq.ds hf
 |pl t b o=>exact XX w s f a aO r (.inr ⟨t,b,o,h⟩) aq.ds hf
 |dq t b l o=>
  rw[h] at V;obtain⟨E,G,ah⟩:=V;obtain⟨d,H⟩:=av9.1 (show(dk r.L t).isSome=true by rw[(ak.aR t).2];exact ah.iM);exact ao5 w s f a aO r h aq.ds (ak.cs aq.cs) H vQ hf
 |pu nm n rm l g o up=>
  rw[h] at V;obtain⟨E,G,ah,aW,bM⟩:=V
  exact ao6 w s f a aO r h aq.ds bM vQ (fun p ae=>by
   obtain⟨b',cS,_⟩:=aq.dZ p ae;have O:=aq.cs.b3;obtain⟨d,H⟩:=av9.1 aq.kd;have apa:=(aq.cs.gp d (cY H).1).1.eY;have au:b6 w.L w.aP=d.im.t.length:=aE5
   have iH:2 ^w.z<=2 ^3:=aB1 aD2 O;have ay:b6 w.L w.aP*2 ^w.z<=256*8:=ax9 aD1 iH;rw[b',cS];omega) hf
def apb (w:bR) (aq:eO w) (s:dL) (O:s.b.length<=1000000):Fn prog 33 [ap 1401,iF s] (cV w) [] (ab (fq w.z w.L w.aP s.a s.b).e) (cV (ed w s.a ((s.b.length:Int)/16) (fq w.z w.L w.aP s.a s.b))):=by
 have J:=OZ w aq s 62 s.a ((s.b.length:Int)/16) (fq w.z w.L w.aP s.a s.b) (vK aq.cs _ _ _) aD1 (fun _ _ _ _=>aoT aq.cs s aD1);generalize fq w.z w.L w.aP s.a s.b=r at J⊢;generalize ed w s.a ((s.b.length:Int)/16) r=w' at J⊢;generalize r.e=e at J⊢;refine aY [] func33 ?_;refine⟨rfl,rfl,?_⟩;have cB:0<=((s.b.length:Nat):Int)/\(0:Int) < 16:=aD9
 have cH: -9223372036854775808<=((s.b.length:Nat):Int)/16/\((s.b.length:Nat):Int)/16<=9223372036854775807:=aD9
 exact⟨cB,cH,ar J bh⟩
def apc (w:bR) (aq:eO w) (s:dL) (ak:s.l<=9223372036854775807):Fn prog 34 [ap 1401,iF s] (cV w) [] (ab (i4 w.z w.L w.aP s.a s.l).e) (cV (ed w s.a s.l (i4 w.z w.L w.aP s.a s.l))):=by have J:=OZ w aq s 64 s.a s.l (i4 w.z w.L w.aP s.a s.l) (Br aq.cs _ _ _) ak (fun _ _ _ _=>aoU aq.cs s);generalize i4 w.z w.L w.aP s.a s.l=r at J⊢;generalize ed w s.a s.l r=w' at J⊢;generalize r.e=e at J⊢;refine aY [] func34 ?_;exact⟨rfl,rfl,ar J bh⟩
def wk:ln->Bool
 | .dq .. =>true
 |_=>false
def apd (b:Nat) (j:ln):(wk j=true->xG b j=some b)/\(wk j=false->xG b j=none):=by cases j <;>exact⟨fun h=>(by first |rfl |cases h),fun h=>(by first |rfl |cases h)⟩
def X1 (w:bR) (aq:eO w) (s:dL) (ak:s.l<=9223372036854775807) (r:mK) (ax:r=if wk w.bH=true then⟨143,w.L⟩ else h1 w.L w.aP s.a s.l) (w':bR) (hw:w'=if wk w.bH=true then w else ed w s.a s.l r):Fn prog 35 [ap 1401,iF s] (cV w) [] (ab r.e) (cV w'):=by
 obtain⟨kB,pD⟩:=apd w.b w.bH
 cases ay:wk w.bH with
 |true=>
  rw[ay] at ax hw;have kB:=kB ay;rw[vj rfl] at ax hw;subst ax hw;refine aY [] func35 ?_;refine⟨rfl,rfl,?_⟩;exact⟨fun _ _=>bh,fun h=>(by rw[kB] at h;cases h)⟩
 |false=>
  rw[ay] at ax hw;have pD:=pD ay;rw[mu aD2] at ax hw;subst ax;subst hw;have J:=OZ w aq s 66 s.a s.l (h1 w.L w.aP s.a s.l) (tg aq.cs _ _ _) ak (fun _ _ _ _=>aoV aq.cs s);generalize h1 w.L w.aP s.a s.l=r at J⊢;generalize ed w s.a s.l r=w' at J⊢;generalize r.e=e at J⊢;refine aY [] func35 ?_;refine⟨rfl,rfl,?_⟩;exact⟨fun _ h=>(by rw[pD] at h;cases h),fun _=>ar J bh⟩
end
section
def pL:ln->Bool
 | .no=>true
 |_=>false
def IX {j:ln} (h:pL j=false) (b:Nat): ∃T,rk b j=IN T b:=by cases j <;>first |(cases h;done) |exact⟨_,rfl⟩
def ei (w:bR):Nat:=b6 w.L w.aP
def l0.dk {w:bR} (h:l0 w): ∃d,Go.Proofs.YtkfbeijmgggkmaaGreat.dk w.L w.aP=some d/\d.im.t.length=ei w:=by obtain⟨d,H⟩:=av9.1 h.kd;exact⟨d,H,by unfold ei b6;rw[H]⟩
def eO.dk {w:bR} (h:eO w): ∃d,Go.Proofs.YtkfbeijmgggkmaaGreat.dk w.L w.aP=some d/\d.im.t.length=ei w:=h.tol0.dk
def ape (w:bR) (s:dL) (V:pL w.bH=false):Fn prog 36 [ap 1401,iF s] (cV w) [] (ab 143) (cV w):=by obtain⟨T,b8⟩:=IX V w.b;refine aY [] func36 ?_;refine⟨rfl,bc (fun N=>HG rfl underlying73 (by exact as5 (fun v=>aS.c (.one (.bN v))) b8) N) ?_⟩;exact bh
def X2 (z R:Nat) (L:aH2) (nm:aG9) (size:Int) (back:aG9) (p:aJ5):(h2 z R L nm size back p).e=(h2 z R L nm size back (0,0)).e:=by
 unfold h2
 repeat' split
 all_goals rfl
def O0 {z R:Nat} {L:aH2} (h:cb z R L) (nm:aG9) (size:Int) (back:aG9) (ak:nm.length<=4294967296):
  Fn prog 27 [ap 1001,bW nm,ab size,bW back] [oZ z R L] [] (ab (h2 z R L nm size back (0,0)).e) [(1001,.aH (.jB fun p:{p:Nat×Nat//cb z R (h2 z R L nm size back p).L}=>EX z R (h2 z R L nm size back p.1).L))]:=by
 have E:=ahO h nm size back ak;simp only[X2] at E;exact cC.jB (aT:=[]) (cC.XQ (aJ:=[]) (aT:=fun _=>[]) (by simp only[av8];exact E) rfl fun _=>rfl)
abbrev nC (bp:Int->bR->Prop):Type:={p:Int×bR//bp p.1 p.2}
def X3 (w:bR) (s:dL) (e:Int) (w':bR):Prop:= ∃p:Nat×Nat,cb w.z w.R (h2 w.z w.R w.L s.nm ((ei w:Nat):Int) w.aP p).L/\e=(h2 w.z w.R w.L s.nm ((ei w:Nat):Int) w.aP p).e/\
 ((e=0/\w'={w with L:=(h2 w.z w.R w.L s.nm ((ei w:Nat):Int) w.aP p).L,aP:=s.nm})\/(e≠0/\w'={w with L:=(h2 w.z w.R w.L s.nm ((ei w:Nat):Int) w.aP p).L}))
def apf (w:bR) (aq:eO w) (s:dL) (V:w.bH= .no) (ak:s.nm.length<=1000000):cC prog 36 [ap 1401,iF s] (cV w) [] (X:=nC (X3 w s)) (fun p=>ab p.1.1) (fun p=>cV p.1.2):=by
 obtain⟨d,H,aN⟩:=aq.dk;have cz:=OV (db:=w.db) (lb:=w.lb) (kd:=EV w.bH) (fR:=rk w.b w.bH) (dq:=xG w.b w.bH) (pu:=xH w.b w.bH) (m:=w.bu) (es:=w.es) (M:=w.M) aq.cs H;rw[aN] at cz;have zE:=O0 aq.cs s.nm ((ei w:Nat):Int) w.aP aD1;have b8:rk w.b w.bH= .nilIface:=by rw[V];rfl
 refine hZ [3,4] func36 ?_;refine⟨rfl,bc (fun N=>qZ rfl underlying73 (by exact as5 (fun v=>aS.c (.one (.bN v))) b8) N) ?_⟩;refine bw.mA 68 aD2 <| bz [4] (bt) <| wZ rfl rfl rfl cz <| ar zE ⟨eU aD4,bw.ff (dv.jB 1001 rfl) fun g=>?_⟩;obtain⟨p,ae⟩:=g;have BU:=X2 w.z w.R w.L s.nm ((ei w:Nat):Int) w.aP p;refine bz [] (bt) ⟨fun h=>?_,fun h=>?_⟩
 .have h:=gd h;exact⟨⟨(_,{w with L:=(h2 w.z w.R w.L s.nm ((ei w:Nat):Int) w.aP p).L,aP:=s.nm}),p,ae,BU.symm,.inl ⟨h,rfl⟩⟩,_,_,_,bt,rfl,rfl,aD,rfl⟩
 .have h:=oj h;exact⟨⟨(_,{w with L:=(h2 w.z w.R w.L s.nm ((ei w:Nat):Int) w.aP p).L}),p,ae,BU.symm,.inr ⟨h,rfl⟩⟩,_,_,_,bt,rfl,rfl,aD,rfl⟩
def apg (w:bR) (s:dL) (V:pL w.bH=false):Fn prog 38 [ap 1401,iF s] (cV w) [] (ab 143) (cV w):=by obtain⟨T,b8⟩:=IX V w.b;refine aY [] func38 ?_;refine⟨rfl,bc (fun N=>HG rfl underlying73 (by exact as5 (fun v=>aS.c (.one (.bN v))) b8) N) ?_⟩;exact bh
def aph (w:bR) (s:dL) (V:pL w.bH=false):Fn prog 39 [ap 1401,iF s] (cV w) [] (ab 143) (cV w):=by obtain⟨T,b8⟩:=IX V w.b;refine aY [] func39 ?_;refine⟨rfl,bc (fun N=>HG rfl underlying73 (by exact as5 (fun v=>aS.c (.one (.bN v))) b8) N) ?_⟩;exact bh
def api (w:bR) (s:dL) (V:pL w.bH=false):Fn prog 40 [ap 1401,iF s] (cV w) [] (ab 143) (cV w):=by obtain⟨T,b8⟩:=IX V w.b;refine aY [] func40 ?_;refine⟨rfl,bc (fun N=>HG rfl underlying73 (by exact as5 (fun v=>aS.c (.one (.bN v))) b8) N) ?_⟩;exact bh
def X4 (w:bR) (e:Int) (w':bR):Prop:=e=oM w.L w.aP/\((e=0/\ ∃b,w'={w with b:=b,bH:=.dq w.aP (fB w.L w.aP).1 (uw w.L w.aP) false})\/(e≠0/\w'=w))
def apj (w:bR) (aq:eO w) (s:dL) (V:w.bH= .no):cC prog 38 [ap 1401,iF s] (cV w) [] (X:=nC (X4 w)) (fun p=>ab p.1.1) (fun p=>cV p.1.2):=by
 have fG:=aq.cs;obtain⟨z,R,L,aP,db,ds,es,M,lb,Q,eT,bH,bu⟩:=w;simp only at V fG;subst V
 by_cases U:oM L aP=0
 .have O:=Fn.zD (aJ:=[]) (aT:=tD aP (fB L aP).1 (uw L aP) false) (ajr fG aP U) rfl rfl;refine hZ [6] func38 ?_;refine⟨rfl,bc (qZ rfl underlying73 rfl) ?_⟩;refine ar O ⟨eU aD4,dE <| bw.ff (dv.mark 2001 2009 rfl aD2) fun b=>bw.le (ac.G5 5 2001 2009 b rfl rfl) <| bz [] (ac.IM 1501 2001 1001 2009 b (tD aP (fB L aP).1 (uw L aP) false) rfl rfl aD rfl) <| bc (HF rfl underlying74 rfl) ?_⟩;exact ar (IQ (z:=z) (R:=R) (L:=L) (aP:=aP) (db:=db) (lb:=lb) (kd:=0) (fR:=.nilIface) (dq:=some b) (pu:=none) (m:=bu) (es:=es) (M:=M) 1 74 (.pointer (some ⟨b,0,none⟩))) ⟨⟨(0,⟨z,R,L,aP,db,ds,es,M,lb,Q,b,.dq aP (fB L aP).1 (uw L aP) false,bu⟩),U.symm,.inl ⟨rfl,b,rfl⟩⟩,_,_,_,bt,rfl,rfl,aD,rfl⟩
 .have O:=Fn.ch (ajo fG aP U);refine hZ [] func38 ?_;refine⟨rfl,bc (qZ rfl underlying73 rfl) ?_⟩;exact ar O ⟨eU aD4,fun h=>⟨⟨(oM L aP,⟨z,R,L,aP,db,ds,es,M,lb,Q,eT,.no,bu⟩),rfl,.inr ⟨U,rfl⟩⟩,_,_,_,bt,rfl,rfl,aD,rfl⟩,fun h=>as3 h aG6⟩
def X5 (w:bR) (s:dL) (e:Int) (w':bR):Prop:=e=uA w.L w.aP s.eA/\((e=0/\ ∃b,w'={w with b:=b,bH:=.pl w.aP s.eA false})\/(e≠0/\w'=w))
def apk (w:bR) (aq:eO w) (s:dL) (V:w.bH= .no):cC prog 39 [ap 1401,iF s] (cV w) [] (X:=nC (X5 w s)) (fun p=>ab p.1.1) (fun p=>cV p.1.2):=by
 have fG:=aq.cs;obtain⟨z,R,L,aP,db,ds,es,M,lb,Q,eT,bH,bu⟩:=w;simp only at V fG;subst V
 by_cases U:uA L aP s.eA=0
 .have O:=Fn.zD (aJ:=[]) (aT:=wj aP s.eA false) (akq fG aP s.eA U) rfl rfl;refine hZ [6] func39 ?_;refine⟨rfl,bc (qZ rfl underlying73 rfl) ?_⟩;refine ar O ⟨eU aD4,dE <| bw.ff (dv.mark 2001 2009 rfl aD2) fun b=>bw.le (ac.G5 5 2001 2009 b rfl rfl) <| bz [] (ac.IM 1501 2001 1001 2009 b (wj aP s.eA false) rfl rfl aD rfl) <| bc (HF rfl underlying136 rfl) ?_⟩;exact ar (IQ (z:=z) (R:=R) (L:=L) (aP:=aP) (db:=db) (lb:=lb) (kd:=0) (fR:=.nilIface) (dq:=none) (pu:=none) (m:=bu) (es:=es) (M:=M) 2 136 (.pointer (some ⟨b,0,none⟩))) ⟨⟨(0,⟨z,R,L,aP,db,ds,es,M,lb,Q,b,.pl aP s.eA false,bu⟩),U.symm,.inl ⟨rfl,b,rfl⟩⟩,_,_,_,bt,rfl,rfl,aD,rfl⟩
 .have O:=Fn.ch (ako fG aP s.eA U);refine hZ [] func39 ?_;refine⟨rfl,bc (qZ rfl underlying73 rfl) ?_⟩;exact ar O ⟨eU aD4,fun h=>⟨⟨(uA L aP s.eA,⟨z,R,L,aP,db,ds,es,M,lb,Q,eT,.no,bu⟩),rfl,.inr ⟨U,rfl⟩⟩,_,_,_,bt,rfl,rfl,aD,rfl⟩,fun h=>as3 h aG6⟩
end
section
def tE (l:aH7) (nm:aG9):Int:=if hg nm=false then 1 else if(c9 l nm).isSome=true\/8<=l.length then 111 else 0
def E0 (l:aH7) (nm:aG9) (on us:Bool) (s g:Int) (es:aH1) (l':aH7):Prop:=eh l'/\((tE l nm=0/\hg nm=true/\c9 l nm=none/\l.length < 8/\ ∃a b,l'=l++[⟨nm,a,b,on,us,s,g,es⟩])\/(tE l nm≠0/\l'=l))
def X6 {l:aH7} (h:eh l) (db:Nat) (nm:aG9) (hn:nm.length<=4294967296) (s g:Int) (es:aH1) (bx:(0<=s/\s<=4096)/\(1<=g/\g<=64)/\fg es):
  Fn prog 70 [dy db,bW nm,ap 2001] ((1101,.aH (.bA [(db,so l)]))::iQ 2001 2002 s g es) [] (ab (tE l nm)) ((1101,.aH (.jB fun p:{l':List bf//E0 l nm true true s g es l'}=>.bA [(db,so p.1)]))::iQ 2001 2002 s g es):=by
 refine cC.jB (cC.nt [1002,1003,1004] 1101 (?_:cC prog 70 [ap 1001,bW nm,ap 2001] (eJ l++iQ 2001 2002 s g es) [] (fun _=>ab (tE l nm)) (fun p:{l':List bf//E0 l nm true true s g es l'}=>eJ p.1++iQ 2001 2002 s g es)) rfl (fun _=>rfl) rfl ⟨rfl,rfl⟩ rfl (fun _=>rfl))
 cases ax:hg nm with
 |false=>
  have e:tE l nm=1:=vj ax;exact(ak4 nm hn ax s g es).x.to (fun _=>⟨l,h,.inr ⟨by rw[e];decide,rfl⟩⟩) (fun _=>by rw[e]) fun _=>rfl
 |true=>
  by_cases aw:(c9 l nm).isSome=true\/8<=l.length
  .have e:tE l nm=111:=(mu (by rw[ax];decide)).trans (vj aw);exact(ak5 nm hn ax aw s g es).x.to (fun _=>⟨l,h,.inr ⟨by rw[e];decide,rfl⟩⟩) (fun _=>by rw[e]) fun _=>rfl
  .have e:tE l nm=0:=(mu (by rw[ax];decide)).trans (mu aw)
   have E:c9 l nm=none:=by
    cases Z:c9 l nm with
    |none=>rfl
    |some x=>exact as3 (.inl (by rw[Z];rfl)) aw
   have G:l.length < 8:=by
    have: ¬8<=l.length:=fun bd=>aw (.inr bd)
    omega
   exact(Vq h nm hn ax E G s g es bx).to (fun p=>⟨_,p.2,.inl ⟨e,ax,E,G,_,_,rfl⟩⟩) (fun _=>by rw[e]) fun _=>rfl
def O1 {z R:Nat} {L:aH2} (h:cb z R L) {aP:aG9} {d:aL} (H:dk L aP=some d):b6 L aP*2 ^z<=2048:=by
 have apa:=(h.gp d (cY H).1).1.eY;have au:b6 L aP=d.im.t.length:=aE5
 have iH:2 ^z<=2 ^3:=aB1 aD2 h.b3;have ay:b6 L aP*2 ^z<=256*8:=ax9 aD1 iH;omega
def IY (w:bR) (s:dL):Int:=if oH ((ei w*2 ^w.z:Nat):Int) s.a=true then tE w.ds s.nm else 1
abbrev O2 (w:bR) (s:dL):bg:=.jB fun p:{l':List bf//(oH ((ei w*2 ^w.z:Nat):Int) s.a=true/\E0 w.ds s.nm true true ((ei w*2 ^w.z:Nat):Int) s.a [] l')\/(oH ((ei w*2 ^w.z:Nat):Int) s.a=false/\l'=w.ds)}=>.bA [(w.db,so p.1)]
abbrev apl (w:bR):aA:=[oZ w.z w.R w.L,qp w.es w.M,XP w,XM w,XN w,XO w]
def apm (w:bR) (aq:eO w) (s:dL) (hn:s.nm.length<=1000000):Fn prog 37 [ap 1401,iF s] (cV w) [] (ab (IY w s)) ((1101,.aH (O2 w s))::apl w):=by
 obtain⟨d,H,aN⟩:=aq.dk;have ay:ei w*2 ^w.z<=2048:=O1 aq.cs H;have cz:=OV (db:=w.db) (lb:=w.lb) (kd:=EV w.bH) (fR:=rk w.b w.bH) (dq:=xG w.b w.bH) (pu:=xH w.b w.bH) (m:=w.bu) (es:=w.es) (M:=w.M) aq.cs H;rw[aN] at cz;have y7:=aq.cs.b3;have su:((ei w:Nat):Int)*((2 ^((w.z:Nat):Int).toNat:Nat):Int)=((ei w*2 ^w.z:Nat):Int):=by rw[az0,az8]
 cases Z:oH ((ei w*2 ^w.z:Nat):Int) s.a with
 |false=>
  have U:IY w s=1:=mu (by rw[Z];decide);have mv:=agw (((ei w:Nat):Int)*((2 ^((w.z:Nat):Int).toNat:Nat):Int)) s.a (by rw[su];exact Z);refine aY [1] func37 ?_;refine⟨rfl,bw.mA 68 aD2 <| bz [] (bt) <| wZ rfl rfl rfl cz ?_⟩;exact⟨⟨aD1,aD1,aD1⟩,⟨by rw[su];omega,by rw[su];omega⟩,ar mv ⟨eU aD4,fm ⟨_,_,_,ac.aH 1101 (o':=O2 w s) rfl fun I F x p h=>⟨⟨w.ds,.inr ⟨Z,rfl⟩⟩,h⟩,rfl,U.symm,aD,rfl⟩⟩⟩
 |true=>
  have U:IY w s=tE w.ds s.nm:=vj Z;have mv:=L2 (((ei w:Nat):Int)*((2 ^((w.z:Nat):Int).toNat:Nat):Int)) s.a (by rw[su];exact Z);obtain⟨b',cS⟩:=Hd Z;have zE:=X6 aq.ds w.db s.nm aD1 ((ei w*2 ^w.z:Nat):Int) s.a [] ⟨b',cS,List.Pairwise.nil⟩;rw[<-U,<-su] at zE;refine aY [1] func37 ?_;refine⟨rfl,bw.mA 68 aD2 <| bz [] (bt) <| wZ rfl rfl rfl cz ?_⟩;refine⟨⟨aD1,aD1,aD1⟩,⟨by rw[su];omega,by rw[su];omega⟩,ar mv ⟨eU aD4,dE <| ar zE ⟨eU aD4,?_⟩⟩⟩
  exact⟨_,_,_,ac.aH 1101 (o':=O2 w s) rfl fun I F x p h=>(by
   obtain⟨g,h⟩:=h;exact⟨⟨g.1,.inl ⟨Z,by rw[<-su];exact g.2⟩⟩,h⟩),rfl,rfl,aD,rfl⟩
end
section
def O3 {Q:aH9} (h:lV Q):(jQ Q).length<=100000000:=by
 have E:=zn kS 35000 Q fun b O=>Wc (EC h O)
 have G:=h.len;unfold jQ;rw[as4,q6];omega
def O4 {Q:aH9} (h:lV Q) (lb:Nat):Fn prog 21 [dy lb] [(1301,.aH (.bA [(lb,sq Q)]))] [] (bP .u8 (jQ Q)) [(1301,.aH (.bA [(lb,sq Q)]))]:=
 Fn.nt [1002] 1301 (We Q (by have:=h.len;omega) fun b O=>EC h O)
def O5 {Q:aH9} (h:rn Q):Fn prog 84 [bP .u8 (jQ Q)] [] [3001,3002] (.cn [.one (.ptr 3001 0),dJ 0]) (lZ 3001 3002 Q):=by have H:=Ws (jQ Q) (O3 h.tolV) (some (Q.map uF)) (Xz h.IV (fun b O=>EC h.tolV O) h.len);simp only[OI] at H;exact Fn.aX [(1001,3001),(1002,3002)] H
def apn (n:Int) (IL:2<=n) (hn:sj n=true) (ax:n<=4096) {Q:aH9} (h:lV Q) {es:gx} {M:ey} {E1:aH9} (hf:mT es M E1):
  Fn prog 143 [ap 3001,ap 1201,ab n] (qp es M::lZ 3001 3002 Q) [] (ab (xE n Q)) ((1201,.aH (.jB fun b:{b:Nat//b∉M.map (·.1)}=>zC (wg n es Q b.1) ((b.1,uG n 4096 Q b.1)::M)))::lZ 3001 3002 Q):=by
 obtain⟨E,G,ah⟩:=hf.ao9;have J:=cC.aX [(1001,1201),(1002,1202),(1003,1203)] (aoF 4096 n IL hn ax es (M:=M) E G ah (Q:=Q) (by have:=h.len;omega) fun b O=>EC h O);exact cC.jB (cC.close (c:=1201) (br:=n3 1201 1202 1203 4096 es M) (o':=fun b:{b:Nat//b∉M.map (·.1)}=>zC (wg n es Q b.1) ((b.1,uG n 4096 Q b.1)::M)) [1202,1203] J (fun _ _ _ _ h=>h) (fun _ _ _ _ _ h=>h) rfl fun _=>rfl)
def pM (Q:aH9):Int:=xE 512 Q
def o0 (es:gx) (Q:aH9) (b:Nat):gx:=wg 512 es Q b
def o1 (Q:aH9) (b:Nat):cq:=uG 512 4096 Q b
def O6 {Q:aH9} (h:lV Q) {es:gx} {M:ey} {E1:aH9} (hf:mT es M E1):Fn prog 143 [ap 3001,ap 1201,ab 512] (qp es M::lZ 3001 3002 Q) [] (ab (pM Q)) ((1201,.aH (.jB fun b:{b:Nat//b∉M.map (·.1)}=>zC (o0 es Q b.1) ((b.1,o1 Q b.1)::M)))::lZ 3001 3002 Q):=apn 512 aD2 rfl aD2 h hf
def wl (w:bR) (Q:aH9) (e:Int) (w':bR):Prop:=e=pM Q/\ ∃b,b∉w.M.map (·.1)/\((pM Q=0/\ ∃lb,w'={w with es:=o0 w.es Q b,M:=(b,o1 Q b)::w.M,lb:=lb,Q:=Q})\/(pM Q≠0/\w'={w with es:=o0 w.es Q b,M:=(b,o1 Q b)::w.M}))
def X7 (w:bR) {Q:aH9} {F:Nat->gx} {S:Nat->cq}
  (J:Fn prog 143 [ap 3001,ap 1201,ab 512] (qp w.es w.M::lZ 3001 3002 Q) [] (ab 0) ((1201,.aH (.jB fun b:{b:Nat//b∉w.M.map (·.1)}=>zC (F b.1) ((b.1,S b.1)::w.M)))::lZ 3001 3002 Q)):
  cC prog 86 [ap 1401,ap 3001] (cV w++lZ 3001 3002 Q) [] (X:={b:Nat//b∉w.M.map (·.1)}×Nat) (fun _=>ab 0) (fun p=>cV {w with es:=F p.1.1,M:=(p.1.1,S p.1.1)::w.M,lb:=p.2,Q:=Q}):=by
 refine hZ [2,3] func86 ?_;exact ar J <| bw.ff (dv.jB 1201 rfl) fun b=>bz [3] (bt) <| fm <| bw.le (ac.close 3001 (lZ 3001 3002 Q) (o:=sq Q) aD rfl fun I F x p h=>jJ.aX [(3001,1001),(3002,1002)] h) <| bw.ff (dv.name 1 3001 rfl rfl) fun lb=>bz [] (ac.trans (ac.put 1301 3001 aD2 rfl rfl) (ac.ET 1301 rfl)) ⟨(b,lb),_,_,_,bt,rfl,rfl,aD,rfl⟩
def X8 (w:bR) {Q:aH9} {e:Int} (U:e≠0) {F:Nat->gx} {S:Nat->cq}
  (J:Fn prog 143 [ap 3001,ap 1201,ab 512] (qp w.es w.M::lZ 3001 3002 Q) [] (ab e) ((1201,.aH (.jB fun b:{b:Nat//b∉w.M.map (·.1)}=>zC (F b.1) ((b.1,S b.1)::w.M)))::lZ 3001 3002 Q)):
  cC prog 86 [ap 1401,ap 3001] (cV w++lZ 3001 3002 Q) [] (X:={b:Nat//b∉w.M.map (·.1)}) (fun _=>ab e) (fun p=>cV {w with es:=F p.1,M:=(p.1,S p.1)::w.M}):=by
 refine hZ [2] func86 ?_;exact ar J <| bw.ff (dv.jB 1201 rfl) fun b=>bz [] (bt) ⟨fun h=>as3 (gd h) U,fun _=>⟨b,_,_,_,bt,rfl,rfl,aD,rfl⟩⟩
def apo (w:bR) {Q E1:aH9} (h:lV Q) (hf:mT w.es w.M E1):cC prog 86 [ap 1401,ap 3001] (cV w++lZ 3001 3002 Q) [] (X:=nC (wl w Q)) (fun p=>ab p.1.1) (fun p=>cV p.1.2):=by
 by_cases U:pM Q=0
 .have J:=O6 h hf;rw[U] at J;exact(X7 w (F:=o0 w.es Q) (S:=o1 Q) J).to (fun p=>⟨(0,{w with es:=o0 w.es Q p.1.1,M:=(p.1.1,o1 Q p.1.1)::w.M,lb:=p.2,Q:=Q}),U.symm,p.1.1,p.1.2,.inl ⟨U,p.2,rfl⟩⟩) (fun _=>rfl) fun _=>rfl
 .have gA: ∀p:{b:Nat//b∉w.M.map (·.1)},wl w Q (pM Q) {w with es:=o0 w.es Q p.1,M:=(p.1,o1 Q p.1)::w.M}:=fun p=>⟨Eq.refl _,p.1,p.2,.inr ⟨U,Eq.refl _⟩⟩
  have E:=X8 w U (F:=o0 w.es Q) (S:=o1 Q) (O6 h hf);generalize pM Q=e at gA E;exact E.to (fun p=>⟨(e,{w with es:=o0 w.es Q p.1,M:=(p.1,o1 Q p.1)::w.M}),gA p⟩) (fun _=>rfl) fun _=>rfl
def X9 (w:bR) (s:dL) (e:Int) (w':bR):Prop:=(si w.Q s.nm≠0/\e=si w.Q s.nm/\w'=w)\/(si w.Q s.nm=0/\wl w (q5 w.Q s.nm) e w')
def app (w:bR) (aq:eO w) (s:dL):cC prog 44 [ap 1401,iF s] (cV w) [] (X:=nC (X9 w s)) (fun p=>ab p.1.1) (fun p=>cV p.1.2):=by
 have U:=O4 aq.q.tolV w.lb;have H:=O5 aq.q;have ax:=amb w.Q s.nm (by have:=aq.q.len;omega);have J:=apo w (V2 aq.q.tolV s.nm) aq.ob;refine hZ [5] func44 ?_;refine⟨rfl,ar U <| ar H <| ar (Fn.aX [(1001,3001),(1002,3002),(1003,3003)] ax) ?_⟩
 by_cases aw:si w.Q s.nm=0
 .exact⟨fun h=>as3 h (by simp[aw]),fun _=>bw.iJ fa aD4 <| lM (cC.aX [(3002,3003)] J) fun g=>⟨⟨g.1,.inr ⟨aw,g.2⟩⟩,_,_,_,bt,rfl,rfl,aD,rfl⟩⟩
 .exact⟨fun h=>⟨⟨(_,w),.inl ⟨aw,rfl,rfl⟩⟩,_,_,_,bt,rfl,rfl,aD,rfl⟩,fun h=>as3 h (by simp[aw])⟩
end
section
def O7 {l:aH7} (h:eh l) (db:Nat) {nm:aG9} {e:bf} (U:c9 l nm=some e):Fn prog 24 [dy db,bW nm] [(1101,.aH (.bA [(db,so l)]))] [5001,5002] (.cn [.agg (jW e.nm e.on e.us),dJ 0]) ((1101,.aH (.bA [(db,so l)]))::iQ 5001 5002 e.s e.g e.es):=
 (cC.nt (X:=Unit) (br:=eJ l) (aJ:=[]) (dP:=fun _=>eJ l) (aT:=fun _=>iQ 5001 5002 e.s e.g e.es) (res:=fun _=>.cn [.agg (jW e.nm e.on e.us),dJ 0]) [1002,1003,1004] 1101 (by rw[av8];exact(alm h U).x) rfl (fun _=>rfl) rfl ⟨rfl,rfl⟩ rfl fun _=>rfl).fn
def X' {l:aH7} (db:Nat) {nm:aG9} (U:c9 l nm=none):Fn prog 24 [dy db,bW nm] [(1101,.aH (.bA [(db,so l)]))] [] (.cn [.agg [.d (.str []),.d (.lit false),.d (.lit false),.bN (.pointer none)],dJ 112]) [(1101,.aH (.bA [(db,so l)]))]:=
 Fn.nt [1002,1003,1004] 1101 (aln U)
def O8 {Q:aH9} (h:lV Q) (lb:Nat):Fn prog 20 [dy lb] [(1301,.aH (.bA [(lb,sq Q)]))] [] (bW (mh Q)) [(1301,.aH (.bA [(lb,sq Q)]))]:=
 Fn.nt [1002] 1301 (alt Q (by have:=h.len;omega))
def Ya {Q:aH9} (h:lV Q) (lb:Nat):Fn prog 16 [dy lb] [(1301,.aH (.bA [(lb,sq Q)]))] [] (bP .str (Q.map cT)) [(1301,.aH (.bA [(lb,sq Q)]))]:=
 Fn.nt [1002] 1301 (alS Q (by have:=h.len;omega))
def eO.apq {w:bR} (h:eO w):c9 w.ds []=none:=by
 cases Z:c9 w.ds [] with
 |none=>rfl
 |some e=>
  obtain⟨E,G⟩:=ke Z;have ah:=(h.ef e E).1.nm;rw[G] at ah
  cases ah
def apr (w:bR) (aq:eO w) (s:dL) (aw:s.eA=[]):Fn prog 75 [ap 1401,iF s] (cV w) [] (.cn [nf,dJ 0]) (cV w):=by have aU:=X' w.db aq.apq;rw[<-aw] at aU;refine aY [] func75 ?_;exact⟨rfl,ar aU ⟨rfl,eU aD4,fun _=>bh,fun h=>as3 h (by simp[aw])⟩⟩
def aps (w:bR) (aq:eO w) (s:dL) (aw:s.eA≠[]) (Z:c9 w.ds s.eA=none):Fn prog 75 [ap 1401,iF s] (cV w) [] (.cn [nf,dJ 112]) (cV w):=by have aU:=X' w.db Z;refine aY [] func75 ?_;exact⟨rfl,ar aU ⟨rfl,eU aD4,fun h=>as3 h (by simp[aw]),fun _=>fm bh⟩⟩
def qq (w:bR) (e:bf):Int:=if e.us=false then 110 else if mh w.Q=[] then 181 else 0
def apt (w:bR) (aq:eO w) (s:dL) (aw:s.eA≠[]) {e:bf} (Z:c9 w.ds s.eA=some e) (a2:qq w e≠0):Fn prog 75 [ap 1401,iF s] (cV w) [] (.cn [nf,dJ (qq w e)]) (cV w):=by
 have aU:=O7 aq.ds w.db Z;have ak:=O8 aq.q.tolV w.lb
 cases a6:e.us with
 |false=>
  have U:qq w e=110:=vj a6;rw[U];refine aY [] func75 ?_;exact⟨rfl,ar aU ⟨rfl,eU aD4,fun h=>as3 h (by simp[aw]),fun _=>dE ⟨fun _=>bh,fun h=>as3 h (by simp[a6])⟩⟩⟩
 |true=>
  have U:qq w e=181:=by
   unfold qq at a2⊢;rw[mu (by rw[a6];decide)] at a2⊢
   split
   .rfl
   .rename_i h;rw[mu h] at a2;exact as3 rfl a2
  have aQ:mh w.Q=[]:=by
   unfold qq at U;rw[mu (by rw[a6];decide)] at U
   split at U
   .assumption
   .cases U
  rw[U];refine aY [] func75 ?_;exact⟨rfl,ar aU ⟨rfl,eU aD4,fun h=>as3 h (by simp[aw]),fun _=>dE ⟨fun h=>as3 h (by simp[a6]),fun _=>ar ak ⟨fun _=>bh,fun h=>as3 h (by simp[aQ])⟩⟩⟩⟩
def apu (w:bR) (aq:eO w) (s:dL) (aw:s.eA≠[]) {e:bf} (Z:c9 w.ds s.eA=some e) (a2:qq w e=0):Fn prog 75 [ap 1401,iF s] (cV w) [5001,5002] (.cn [.one (.ptr 5001 0),dJ 0]) (cV w++iQ 5001 5002 e.s e.g e.es):=by
 have aU:=O7 aq.ds w.db Z;have ak:=O8 aq.q.tolV w.lb
 have a6:e.us=true:=by
  unfold qq at a2
  cases a6:e.us with
  |true=>rfl
  |false=>rw[vj a6] at a2;cases a2
 have aQ:mh w.Q≠[]:=fun aQ=>by
  unfold qq at a2;rw[mu (by rw[a6];decide),vj aQ] at a2
  cases a2
 refine aY [] func75 ?_;exact⟨rfl,ar aU ⟨rfl,eU aD4,fun h=>as3 h (by simp[aw]),fun _=>dE ⟨fun h=>as3 h (by simp[a6]),fun _=>ar ak ⟨fun h=>as3 h (by simp[aQ]),fun _=>bh⟩⟩⟩⟩
def ac.wm {ids:aH0} {K:aZ} {B:aA} (c j d m b:Nat) {l:List bE} (J:aj B c=some (.cells l)) (V:l[j]? =some (.ptr d 0)) (ay:aj B m=some (.b7 d (fp b))):ac ids K B K ((c,.cells (l.set j (.d (.aM (some b)))))::B):=by
 rintro N C a w ⟨hn,H,ρ,F,al,av⟩;have O:=p5 (N:=N) (a:=a) al ay
 obtain⟨bC,a2⟩:=al.h8 (w':=w) (ch:=.cells (l.set j (.d (.aM (some b))))) J (cZ.refl _ _) fun I a1=>by
  obtain⟨E,aF,T,G,ah⟩:=al.holds c _ J;refine⟨E,aF,T,G,cg.set (s:=.ptr d 0) (t:=.d (.aM (some b))) (fun v h=>?_) V (cg.mono a1 _ _ (fun _ _=>rfl) ah)⟩;have h:v= .pointer (some ⟨(ρ d).bm,0,none⟩):=h;rw[O] at h;exact h
 exact⟨hn,H,ρ,F,bC,av.mono a2 fun _ _ _=>rfl⟩
def ac.wn {ids:aH0} {K:aZ} {B:aA} (c m b:Nat) {o:bg} (J:aj B c=some (.aH o)) (ay:aj B m=some (.b7 c (fp b))):ac ids K B K ((c,.aH (o.at b))::B):=by
 rintro N C a w ⟨hn,H,ρ,F,al,av⟩;have O:=p5 (N:=N) (a:=a) al ay;obtain⟨bC,a2⟩:=al.h8 (w':=w) (ch:=.aH (o.at b)) J (cZ.refl _ _) fun I a1=>⟨O,o.cr _ _ _ _ _ _ (al.holds c _ J) a1 (fun _ _=>rfl) (as2 _)⟩
 exact⟨hn,H,ρ,F,bC,av.mono a2 fun _ _ _=>rfl⟩
abbrev wo (nm pa:aG9) (bi aR:Int) (eA:aG9) (dZ:Option (Nat×EW)):Made:=⟨(nm,pa,bi,aR,([]:List jz)),eA,dZ⟩
def pN (w:bR) (s:dL):Bool:= !hg s.nm||(w.Q.map cT).contains s.nm
def IZ (w:bR) (s:dL) (e:Int) (w':bR):Prop:=
 (pN w s=true/\e=1/\w'=w)\/(pN w s=false/\
  (
   (s.eA=[]/\((s.l < 0/\e=1/\w'=w)\/(0<=s.l/\e=0/\ ∃b,w'={w with b:=b,bH:=.pu w.aP ((ei w:Nat):Int) s.l (hI (fun _=>true) w.z (ei w*2 ^w.z)) [] false false,bu:=wo s.nm [] w.z ((ei w:Nat):Int) s.eA none})))\/
   (s.eA≠[]/\c9 w.ds s.eA=none/\e=112/\w'=w)\/
   (s.eA≠[]/\ ∃x,c9 w.ds s.eA=some x/\((qq w x≠0/\e=qq w x/\w'=w)\/(qq w x=0/\((s.l < 0/\e=1/\w'=w)\/(0<=s.l/\e=0/\ ∃b jC,w'={w with b:=b,bH:=.pu w.aP ((ei w:Nat):Int) s.l (hI (g6 x.g x.es) w.z (ei w*2 ^w.z)) [] false false,bu:=wo s.nm (mh w.Q) w.z ((ei w:Nat):Int) s.eA (some (jC,((ei w*2 ^w.z:Nat):Int),1,[]))})))))))
def apv {s:Int} (aw:0<=s) (E:s<=4096):oH s 1=true:=by unfold oH;simp[aw,E]
def apw (w:bR) (aq:eO w) (s:dL) (V:w.bH= .no) (hn:s.nm.length<=1000000):cC prog 40 [ap 1401,iF s] (cV w) [] (X:=nC (IZ w s)) (fun p=>ab p.1.1) (fun p=>cV p.1.2):=by
 obtain⟨d,H,aN⟩:=aq.dk;have fG:=aq.cs;have ak:=Ya aq.q.tolV w.lb;have DU:=O8 aq.q.tolV w.lb;have ax:=qV s.nm aD1;have zF:=Mf (w.Q.map cT) s.nm (by rw[at8];have:=aq.q.len;omega);have apx:=fun aw=>apr w aq s aw
 have K5:=fun aw Z=>aps w aq s aw Z
 have BO:=fun aw e (Z:c9 w.ds s.eA=some e) a2=>apt w aq s aw Z a2
 have apy:=fun aw e (Z:c9 w.ds s.eA=some e) a2=>apu w aq s aw Z a2
 have cz:=fun(fR:aI3) (dq pu:aI1)=>OV (db:=w.db) (lb:=w.lb) (kd:=0) (fR:=fR) (dq:=dq) (pu:=pu) (m:=w.bu) (es:=w.es) (M:=w.M) aq.cs H
 have pE:=fun e (Z:c9 w.ds s.eA=some e)=>aq.ef e (ke Z).1
 have ay:ei w*2 ^w.z<=2048:=O1 aq.cs H;have apz:b6 w.L w.aP=ei w:=rfl;rw[aN] at cz;rw[apz] at pE
 cases kI:hg s.nm with
 |false=>
  have zp:pN w s=true:=by unfold pN;rw[kI];rfl
  obtain⟨z,R,L,aP,db,ds,es,M,lb,Q,eT,bH,bu⟩:=w;simp only at V;subst V;refine hZ [] func40 ?_;refine⟨rfl,bc (qZ rfl underlying73 rfl) ?_⟩;exact ar ax ⟨fun _=>⟨eU aD4,⟨(1,_),.inl ⟨zp,rfl,rfl⟩⟩,_,_,_,bt,rfl,rfl,aD,rfl⟩,fun h=>as3 h (by simp[kI])⟩
 |true=>
 cases hO:(w.Q.map cT).contains s.nm with
 |true=>
  have zp:pN w s=true:=by unfold pN;rw[kI,hO];rfl
  obtain⟨z,R,L,aP,db,ds,es,M,lb,Q,eT,bH,bu⟩:=w;simp only at V;subst V;refine hZ [] func40 ?_;refine⟨rfl,bc (qZ rfl underlying73 rfl) ?_⟩;exact ar ax ⟨fun h=>as3 h (by simp[kI]),fun _=>ar ak <| ar zF ⟨eU aD4,fun _=>⟨⟨(1,_),.inl ⟨zp,rfl,rfl⟩⟩,_,_,_,bt,rfl,rfl,aD,rfl⟩,fun h=>as3 (hO.symm.trans h) aD2⟩⟩
 |false=>
 have B2:pN w s=false:=by unfold pN;rw[kI,hO];rfl
 by_cases aw:s.eA=[]
 .have ce:=apx aw
  by_cases tF:s.l < 0
  .have O:=Fn.ch (aj3 fG H s.l tF);obtain⟨z,R,L,aP,db,ds,es,M,lb,Q,eT,bH,bu⟩:=w;simp only at V;subst V;refine hZ [] func40 ?_;refine⟨rfl,bc (qZ rfl underlying73 rfl) ?_⟩;exact ar ax ⟨fun h=>as3 h (by simp[kI]),fun _=>ar ak <| ar zF ⟨eU aD4,fun h=>as3 (hO.symm.trans h) aD2,fun _=>ar ce <| dE <| ar O ⟨eU aD4,fm ⟨⟨(1,_),.inr ⟨B2,.inl ⟨aw,.inl ⟨tF,rfl,rfl⟩⟩⟩⟩,_,_,_,bt,rfl,rfl,aD,rfl⟩⟩⟩⟩
  .have tF:0<=s.l:=aD9
   have O:=Fn.zD (aJ:=[]) (aT:=oa w.z w.aP (d.im.t.length:Nat) s.l (hI (fun _=>true) w.z (d.im.t.length*2 ^w.z)) [] false false) (aj5 fG H s.l tF) rfl rfl;rw[aN] at O;obtain⟨z,R,L,aP,db,ds,es,M,lb,Q,eT,bH,bu⟩:=w;simp only at V;subst V;refine hZ [11,12,15] func40 ?_;refine⟨rfl,bc (qZ rfl underlying73 rfl) ?_⟩;refine ar ax ⟨fun h=>as3 h (by simp[kI]),fun _=>ar ak <| ar zF ⟨eU aD4,fun h=>as3 (hO.symm.trans h) aD2,fun _=>ar ce <| dE <| ar O ⟨eU aD4,dE <| bw.mA 68 aD2 <| bz [12,15] (bt) <| wZ rfl rfl rfl (cz .nilIface none none) ⟨eU aD4,bz [15] (ac.trans (ac.wi 1401 16 rfl rfl) (ac.trans (ac.th 1401 (l':=iOz z aP db lb 0 .nilIface none none (wo s.nm [] z ((ei ⟨z,R,L,aP,db,ds,es,M,lb,Q,eT,.no,bu⟩:Nat):Int) s.eA none)) rfl aD) (ac.XJ 1601 rfl))) <| bw.ff (dv.mark 2001 2009 rfl aD2) fun b=>bw.le (ac.G5 7 2001 2009 b rfl rfl) <| bz [] (ac.IM 1501 2001 1001 2009 b (oa z aP ((ei ⟨z,R,L,aP,db,ds,es,M,lb,Q,eT,.no,bu⟩:Nat):Int) s.l (hI (fun _=>true) z (ei ⟨z,R,L,aP,db,ds,es,M,lb,Q,eT,.no,bu⟩*2 ^z)) [] false false) rfl rfl aD rfl) <| bc (HF rfl underlying75 rfl) ?_⟩⟩⟩⟩;exact ar (IQ (z:=z) (R:=R) (L:=L) (aP:=aP) (db:=db) (lb:=lb) (kd:=0) (fR:=.nilIface) (dq:=none) (pu:=some b) (m:=(wo s.nm [] z ((ei ⟨z,R,L,aP,db,ds,es,M,lb,Q,eT,.no,bu⟩:Nat):Int) s.eA none)) (es:=es) (M:=M) 3 75 (.pointer (some ⟨b,0,none⟩))) ⟨⟨(0,⟨z,R,L,aP,db,ds,es,M,lb,Q,b,.pu aP ((ei ⟨z,R,L,aP,db,ds,es,M,lb,Q,eT,.no,bu⟩:Nat):Int) s.l (hI (fun _=>true) z (ei ⟨z,R,L,aP,db,ds,es,M,lb,Q,eT,.no,bu⟩*2 ^z)) [] false false,(wo s.nm [] z ((ei ⟨z,R,L,aP,db,ds,es,M,lb,Q,eT,.no,bu⟩:Nat):Int) s.eA none)⟩),.inr ⟨B2,.inl ⟨aw,.inr ⟨tF,rfl,b,rfl⟩⟩⟩⟩,_,_,_,bt,rfl,rfl,aD,rfl⟩
 .cases Z:c9 w.ds s.eA with
  |none=>
   have ce:=K5 aw Z;obtain⟨z,R,L,aP,db,ds,es,M,lb,Q,eT,bH,bu⟩:=w;simp only at V;subst V;refine hZ [] func40 ?_;refine⟨rfl,bc (qZ rfl underlying73 rfl) ?_⟩;exact ar ax ⟨fun h=>as3 h (by simp[kI]),fun _=>ar ak <| ar zF ⟨eU aD4,fun h=>as3 (hO.symm.trans h) aD2,fun _=>ar ce <| fm ⟨⟨(112,_),.inr ⟨B2,.inr (.inl ⟨aw,Z,rfl,rfl⟩)⟩⟩,_,_,_,bt,rfl,rfl,aD,rfl⟩⟩⟩
  |some x=>
   by_cases a2:qq w x=0
   .have ce:=apy aw x Z a2;obtain⟨hx,pT⟩:=pE x Z;obtain⟨g1,g2⟩:=Hd hx.ok
    by_cases tF:s.l < 0
    .have O:=Fn.zD (aJ:=zb x.s x.g x.es) (aT:=zb x.s x.g x.es) (aj7 fG H s.l tF x.s x.g x.es) rfl rfl;obtain⟨z,R,L,aP,db,ds,es,M,lb,Q,eT,bH,bu⟩:=w;simp only at V;subst V;refine hZ [] func40 ?_;refine⟨rfl,bc (qZ rfl underlying73 rfl) ?_⟩;exact ar ax ⟨fun h=>as3 h (by simp[kI]),fun _=>ar ak <| ar zF ⟨eU aD4,fun h=>as3 (hO.symm.trans h) aD2,fun _=>ar ce <| dE <| ar O ⟨eU aD4,fm ⟨⟨(1,_),.inr ⟨B2,.inr (.inr ⟨aw,x,Z,.inr ⟨a2,.inl ⟨tF,rfl,rfl⟩⟩⟩)⟩⟩,_,_,_,bt,rfl,rfl,aD,rfl⟩⟩⟩⟩
    .have tF:0<=s.l:=aD9
     have O:=Fn.zD (aJ:=zb ((d.im.t.length*2 ^w.z:Nat):Int) x.g x.es) (aT:=oa w.z w.aP (d.im.t.length:Nat) s.l (hI (g6 x.g x.es) w.z (d.im.t.length*2 ^w.z)) [] false false++zb ((d.im.t.length*2 ^w.z:Nat):Int) x.g x.es) (aj9 fG H s.l tF x.g x.es g2.1) rfl rfl;rw[aN] at O;rw[pT] at ce;have EQ:=L3 ((ei w*2 ^w.z:Nat):Int) x.g x.es;have D1:=L2 ((ei w*2 ^w.z:Nat):Int) 1 (apv aD1 aD1);obtain⟨z,R,L,aP,db,ds,es,M,lb,Q,eT,bH,bu⟩:=w;simp only at V;subst V;refine hZ [11,12,15] func40 ?_;refine⟨rfl,bc (qZ rfl underlying73 rfl) ?_⟩;refine ar ax ⟨fun h=>as3 h (by simp[kI]),fun _=>ar ak <| ar zF ⟨eU aD4,fun h=>as3 (hO.symm.trans h) aD2,fun _=>ar ce <| dE <| ar O ⟨eU aD4,dE <| bw.mA 68 aD2 <| bz [12,15] (bt) <| wZ rfl rfl rfl (cz .nilIface none none) ⟨eU aD4,bz [15] (ac.trans (ac.th 1401 (l':=(iOz z aP db lb 0 .nilIface none none (wo s.nm [] z ((ei ⟨z,R,L,aP,db,ds,es,M,lb,Q,eT,.no,bu⟩:Nat):Int) s.eA none)).set 16 (.bN (.pointer none))) rfl aD) (ac.XJ 1601 rfl)) <| ar DU <| ar (Fn.aX [(1001,5001),(1002,5002)] EQ) <| ar (Fn.aX [(2001,6001),(2002,6002)] D1) <| bw.ff (dv.mark 6001 6009 rfl aD2) fun jC=>bw.ff (dv.mark 2001 2009 rfl aD2) fun b=>bw.le (ac.wm 1401 16 6001 6009 jC rfl rfl rfl) <| bw.le (ac.close 6001 (iQ 6001 6002 ((ei ⟨z,R,L,aP,db,ds,es,M,lb,Q,eT,.no,bu⟩*2 ^z:Nat):Int) 1 []) (o:=fC ((ei ⟨z,R,L,aP,db,ds,es,M,lb,Q,eT,.no,bu⟩*2 ^z:Nat):Int) 1 []) aD rfl fun I F x p h=>jJ.aX [(6001,1001),(6002,1002)] h) <| bw.le (ac.trans (ac.wn 6001 6009 jC rfl rfl) (ac.put 1601 6001 aD2 rfl rfl)) <| bw.le (ac.G5 7 2001 2009 b rfl rfl) <| bz [] (ac.IM 1501 2001 1001 2009 b (oa z aP ((ei ⟨z,R,L,aP,db,ds,es,M,lb,Q,eT,.no,bu⟩:Nat):Int) s.l (hI (g6 x.g x.es) z (ei ⟨z,R,L,aP,db,ds,es,M,lb,Q,eT,.no,bu⟩*2 ^z)) [] false false) rfl rfl aD rfl) <| bc (HF rfl underlying75 rfl) ?_⟩⟩⟩⟩;exact ar (IQ (z:=z) (R:=R) (L:=L) (aP:=aP) (db:=db) (lb:=lb) (kd:=0) (fR:=.nilIface) (dq:=none) (pu:=some b) (m:=(wo s.nm (mh Q) z ((ei ⟨z,R,L,aP,db,ds,es,M,lb,Q,eT,.no,bu⟩:Nat):Int) s.eA (some (jC,((ei ⟨z,R,L,aP,db,ds,es,M,lb,Q,eT,.no,bu⟩*2 ^z:Nat):Int),1,[])))) (es:=es) (M:=M) 3 75 (.pointer (some ⟨b,0,none⟩))) ⟨⟨(0,⟨z,R,L,aP,db,ds,es,M,lb,Q,b,.pu aP ((ei ⟨z,R,L,aP,db,ds,es,M,lb,Q,eT,.no,bu⟩:Nat):Int) s.l (hI (g6 x.g x.es) z (ei ⟨z,R,L,aP,db,ds,es,M,lb,Q,eT,.no,bu⟩*2 ^z)) [] false false,(wo s.nm (mh Q) z ((ei ⟨z,R,L,aP,db,ds,es,M,lb,Q,eT,.no,bu⟩:Nat):Int) s.eA (some (jC,((ei ⟨z,R,L,aP,db,ds,es,M,lb,Q,eT,.no,bu⟩*2 ^z:Nat):Int),1,[])))⟩),.inr ⟨B2,.inr (.inr ⟨aw,x,Z,.inr ⟨a2,.inr ⟨tF,rfl,b,jC,rfl⟩⟩⟩)⟩⟩,_,_,_,bt,rfl,rfl,aD,rfl⟩
   .have ce:=BO aw x Z a2;obtain⟨z,R,L,aP,db,ds,es,M,lb,Q,eT,bH,bu⟩:=w;simp only at V;subst V;refine hZ [] func40 ?_;refine⟨rfl,bc (qZ rfl underlying73 rfl) ?_⟩;exact ar ax ⟨fun h=>as3 h (by simp[kI]),fun _=>ar ak <| ar zF ⟨eU aD4,fun h=>as3 (hO.symm.trans h) aD2,fun _=>ar ce ⟨fun _=>⟨⟨(_,_),.inr ⟨B2,.inr (.inr ⟨aw,x,Z,.inl ⟨a2,rfl,rfl⟩⟩)⟩⟩,_,_,_,bt,rfl,rfl,aD,rfl⟩,fun h=>as3 h (by simp[a2])⟩⟩⟩
end
section
def Yb (A B:aA) (h:((ct A).all fun d=>(aj B d).isNone)=true) (c:Nat):aj (B++A) c=aj (A++B) c:=by
 rw[i1,i1]
 cases ha:aj A c with
 |none=>cases aj B c <;>rfl
 |some x=>
  have:=av3.1 h c (gL.2 ⟨x,ha⟩);rw[aC4.1 this]
def Fn.swap {P:aH6} {f:aI5} {args:List aS} {A B A' B':aA} {bb:aH0} {res:aS} (h:Fn P f args (A++B) bb res (A'++B')) (E:((ct A).all fun d=>(aj B d).isNone)=true) (G:((ct A').all fun d=>(aj B' d).isNone)=true):Fn P f args (B++A) bb res (B'++A'):=
 Fn.IP h (Yb A B E) (Yb A' B' G)
def apA {s g bF g2:Int} {es eL de:aH1} {b:Nat} {r:Int} (h:Fn prog 124 [ap 1001,ap 3001] (Hw s g es bF g2 de) [] (ab r) (Hw s g eL bF g2 de)):
  Fn prog 124 [ap 1001,dy b] (iQ 1001 1002 s g es++[(1601,.aH (.bA [(b,fC bF g2 de)]))]) [] (ab r) (iQ 1001 1002 s g eL++[(1601,.aH (.bA [(b,fC bF g2 de)]))]):=by
 have cD:Fn prog 124 [ap 1001,ap 3001] ((3001,.aH (fC bF g2 de))::iQ 1001 1002 s g es) [] (ab r) ((3001,.aH (fC bF g2 de))::iQ 1001 1002 s g eL):=
  Fn.close (br:=iQ 3001 3002 bF g2 de) (dP:=iQ 3001 3002 bF g2 de) [3002] (Fn.swap (A:=iQ 1001 1002 s g es) (A':=iQ 1001 1002 s g eL) h rfl rfl) (fun _ _ _ _ h=>jJ.aX [(1001,3001),(1002,3002)] h) (fun _ _ _ _ h=>jJ.aX [(3001,1001),(3002,1002)] h) rfl rfl
 have cv:Fn prog 124 [ap 1001,ap 3001] ((3001,.aH ((fC bF g2 de).at b))::iQ 1001 1002 s g es) [] (ab r) ((3001,.aH ((fC bF g2 de).at b))::iQ 1001 1002 s g eL):=Fn.aoQ (b:=b) cD rfl
 refine Fn.via (X:=Unit) (args':=fun _=>[ap 1001,ap 3001]) (vA:=fun _=>(3001,.aH ((fC bF g2 de).at b))::(1601,.aH (.bA (kO [(b,fC bF g2 de)] b)))::iQ 1001 1002 s g es) (nH:=fun _=>(3001,.aH ((fC bF g2 de).at b))::iQ 1001 1002 s g es) (jK:=fun _=>[]) (res':=fun _=>ab r) (oF:=fun _=>(3001,.aH ((fC bF g2 de).at b))::iQ 1001 1002 s g eL) cv.1 2 rfl ?_ (fun _=>cv) (fun _=>aD) (fun _=>rfl) (fun _=>rfl)
  (fun _=>⟨ab r,iQ 1001 1002 s g eL++[(1601,.aH (.bA (fl [(b,fC bF g2 de)] b (fC bF g2 de))))],?_,rfl,⟨rfl,rfl,?_,trivial⟩,rfl⟩)
 .rintro N C a w au
  have gy:ac (ct (iQ 1001 1002 s g es++[(1601,.aH (.bA [(b,fC bF g2 de)]))])) (ph 0 [ap 1001,dy b]) (iQ 1001 1002 s g es++[(1601,.aH (.bA [(b,fC bF g2 de)]))]) (ph 0 [ap 1001,ap 3001]) ((3001,.aH ((fC bF g2 de).at b))::(1601,.aH (.bA (kO [(b,fC bF g2 de)] b)))::iQ 1001 1002 s g es):=
   ac.trans (ac.Dz 1601 3001 b rfl (vj rfl) rfl) (ac.trans (ac.SQ 1 3001 b rfl rfl) (ac.sub aD aD))
  exact⟨(),gy N C a w au⟩
 .exact ac.trans (ac.SR (o:=fC bF g2 de) (L:=[(b,fC bF g2 de)]) 1601 3001 b rfl rfl (vj rfl) aD2) (ac.sub aD aD)
 .show some (ba.aH (.bA (fl [(b,fC bF g2 de)] b (fC bF g2 de))))=_;rw[show fl [(b,fC bF g2 de)] b (fC bF g2 de)=[(b,fC bF g2 de)] from vj rfl]
def O9 {nm:aG9} {u:bf->bf} (a6: ∀x,(u x).nm=x.nm): ∀{l:aH7} {e:bf},c9 l nm=some e->c9 (kP l nm u) nm=some (u e)
 | [],_,h=>by cases h
 |d::l,e,h=>by
  rw[xu] at h;show c9 ((if d.nm=nm then u d else d)::kP l nm u) nm=_;rw[xu]
  by_cases c:d.nm=nm
  .rw[vj c] at h;injection h with h
   subst h;rw[vj c,vj ((a6 d).trans c)]
  .rw[mu c] at h;rw[mu c,mu c];exact O9 a6 h
def O' {nm:aG9}: ∀{l:aH7} {e:bf},(l.map (·.nm)).Nodup->c9 l nm=some e->c9 (lh l nm) nm=none/\(lh l nm).length < l.length
 | [],_,_,h=>by cases h
 |d::l,e,hn,h=>by
  rw[au1,av5] at hn;rw[xu] at h;unfold lh
  by_cases c:d.nm=nm
  .rw[vj c];refine⟨?_,Nat.lt_succ_self _⟩
   cases Z:c9 l nm with
   |none=>rfl
   |some x=>
    obtain⟨b',cS⟩:=ke Z;exact as3 (by rw[c,<-cS];exact au0 b') hn.1
  .rw[mu c] at h⊢;obtain⟨b',cS⟩:=O' hn.2 h;exact⟨by rw[xu,mu c];exact b',by simp only[aw4];omega⟩
abbrev fD (m:Made) (g:aH3):bQ:=(cT m.eE,c2 m.eE,c6 m.eE,eK m.eE,lg g)
abbrev qr (m:Made) (g:aH3):Made:=⟨fD m g,m.dQ,m.dZ⟩
def zG (ds:aH7) (dQ:aG9) (x:bf) (bF g2:Int) (de:aH1) (a b:Nat):List bf:=kP (lh (kP ds dQ kR) dQ++[⟨dQ,a,b,true,true,x.s,x.g,td x.s x.g (kR x).es (pz bF g2 de)⟩]) dQ fun e=>{e with on:=x.on}
def wq (w:bR) (g:aH3) (e:Int) (w':bR):Prop:=(gF w.Q (fD w.bu g)≠0/\e=gF w.Q (fD w.bu g)/\w'={w with bu:=qr w.bu g})\/
 (gF w.Q (fD w.bu g)=0/\ ∃fb,wl {w with bu:=qr w.bu g} (e3 w.Q (fD w.bu g)) e fb/\
  (((e≠0\/w.bu.dZ=none\/c9 w.ds w.bu.dQ=none)/\w'=fb)\/(e=0/\ ∃jC bF g2 de x a b,w.bu.dZ=some (jC,bF,g2,de)/\c9 w.ds w.bu.dQ=some x/\eh (zG w.ds w.bu.dQ x bF g2 de a b)/\w'={fb with ds:=zG w.ds w.bu.dQ x bF g2 de a b})))
def Yc {z R:Nat} {L:aH2} {nm:aG9} {l:aH0} {g:aH3} (ae:gk z R L nm l g) (m:Made) (p:jz) (h:p∈cI (fD m g)):(kf p).length<=4294967296:=by
 obtain⟨k,_,rfl⟩:=av0.1 (show p∈lg g from h)
 exact Nj k g fun q aQ=>by
  have E:=(ae.gt q aQ).2;have G:2 ^z<=2 ^3:=aB1 aD2 ae.cs.b3;omega
def apB (w:bR) (aq:l0 w) {nm:aG9} {n rm:Int} {l:aH0} {g:aH3} {over:Bool} (V:w.bH= .pu nm n rm l g over true) (ae:gk w.z w.R w.L nm l g) (qI:hg (cT w.bu.eE)=true) (dX:gF w.Q (fD w.bu g)≠0):
  cC prog 79 [ap 1401] (cV w) [] (X:=nC (wq w g)) (fun p=>ab p.1.1) (fun p=>cV p.1.2):=by
 have jI:=XW (b:=w.b) (n:=n) (rm:=rm) (over:=over) ae;have U:=O4 aq.q.tolV w.lb;have H:=O5 aq.q;have U4:=ae.Nm;have q4:=ND w.Q (fD w.bu g) (by have:=aq.q.len;omega) (by have:=DR qI;show(cT w.bu.eE).length<=_;omega) (by show(lg g).length<=_;rw[Ni];omega) (Yc ae w.bu);obtain⟨z,R,L,aP,db,ds,es,M,lb,Q,eT,bH,bu⟩:=w;simp only at V;subst V;refine hZ [] func79 ?_;refine ar jI <| ar U <| ar H <| ar (Fn.aX [(1001,3001),(1002,3002),(1003,3003)] q4) ⟨fun h=>as3 (gd h) dX,fun _=>?_⟩;exact⟨fun _=>⟨eU aD4,⟨(_,⟨z,R,L,aP,db,ds,es,M,lb,Q,eT,.pu nm n rm l g over true,qr bu g⟩),.inl ⟨dX,rfl,rfl⟩⟩,_,_,_,bt,rfl,rfl,aD,rfl⟩,fun h=>as3 h (by simp only at dX;simp[dX])⟩
def apC {w:bR} {g:aH3} (dX:gF w.Q (fD w.bu g)=0) (a2:pM (e3 w.Q (fD w.bu g))=0) {b lb:Nat} (O:b∉w.M.map (·.1)) {jC:Nat} {bF g2:Int} {de:aH1} {x:bf} (au:w.bu.dZ=some (jC,bF,g2,de)) (Z:c9 w.ds w.bu.dQ=some x) {l':aH7}
  (ut:tE (lh (kP w.ds w.bu.dQ kR) w.bu.dQ) w.bu.dQ=0) (ak:E0 (lh (kP w.ds w.bu.dQ kR) w.bu.dQ) w.bu.dQ true true x.s x.g (td x.s x.g (kR x).es (pz bF g2 de)) l'):
  wq w g 0 {w with bu:=qr w.bu g,es:=o0 w.es (e3 w.Q (fD w.bu g)) b,M:=(b,o1 (e3 w.Q (fD w.bu g)) b)::w.M,lb:=lb,Q:=e3 w.Q (fD w.bu g),ds:=kP l' w.bu.dQ fun e=>{e with on:=x.on}}:=by
 rcases ak.2 with⟨_,_,_,_,a,ej,rfl⟩ |⟨h,_⟩
 .refine .inr ⟨dX,{w with bu:=qr w.bu g,es:=o0 w.es (e3 w.Q (fD w.bu g)) b,M:=(b,o1 (e3 w.Q (fD w.bu g)) b)::w.M,lb:=lb,Q:=e3 w.Q (fD w.bu g)},⟨a2.symm,b,O,.inl ⟨a2,lb,?_⟩⟩,.inr ⟨rfl,jC,bF,g2,de,x,a,ej,au,Z,ak.1.Vr (fun e=>{e with on:=x.on}) w.bu.dQ (fun _=>⟨rfl,rfl,rfl⟩) fun _ h=>h,?_⟩⟩
  .with_reducible rfl
  .unfold zG
   with_reducible rfl
 .exact as3 ut h
def apD (w:bR) (aq:l0 w) {nm:aG9} {n rm:Int} {l:aH0} {g:aH3} {over:Bool} (V:w.bH= .pu nm n rm l g over true) (ae:gk w.z w.R w.L nm l g) (qI:hg (cT w.bu.eE)=true) (dX:gF w.Q (fD w.bu g)=0):
  cC prog 79 [ap 1401] (cV w) [] (X:=nC (wq w g)) (fun p=>ab p.1.1) (fun p=>cV p.1.2):=by
 have jI:=XW (b:=w.b) (n:=n) (rm:=rm) (over:=over) ae;have U:=O4 aq.q.tolV w.lb;have H:=O5 aq.q;have U4:=ae.Nm;have q4:=ND w.Q (fD w.bu g) (by have:=aq.q.len;omega) (by have:=DR qI;show(cT w.bu.eE).length<=_;omega) (by show(lg g).length<=_;rw[Ni];omega) (Yc ae w.bu);rw[dX] at q4;have J:=O6 (aq.q.tolV.add (fD w.bu g)) aq.ob;have dW:=Fn.nt (b:=w.db) [1002,1003,1004] 1101 (ale aq.ds w.bu.dQ);have B3:eh (kP w.ds w.bu.dQ kR):=aq.ds.Vr kR w.bu.dQ (fun _=>⟨rfl,rfl,rfl⟩) fun e k=>⟨k.1,k.2.1,HS k.2.2 _ _⟩
 have pE:=aq.ef;have sg:=aq.dZ;have h9:=aq.ds;obtain⟨ar',apE,_⟩:=aq.dk;have ay:=O1 aq.cs apE;obtain⟨z,R,L,aP,db,ds,es,M,lb,Q,eT,bH,bu⟩:=w;obtain⟨eE,dQ,dZ⟩:=bu;simp only at V dX pE sg B3 h9 ay;subst V
 by_cases a2:pM (e3 Q (fD ⟨eE,dQ,dZ⟩ g))=0
 .simp only[a2] at J;have J:=X7 ⟨z,R,L,aP,db,ds,es,M,lb,Q,eT,.pu nm n rm l g over true,qr ⟨eE,dQ,dZ⟩ g⟩ (F:=o0 es (e3 Q (fD ⟨eE,dQ,dZ⟩ g))) (S:=o1 (e3 Q (fD ⟨eE,dQ,dZ⟩ g))) J
  cases dZ with
  |none=>
   refine hZ [5,6] func79 ?_;refine ar jI <| ar U <| ar H <| ar (Fn.aX [(1001,3001),(1002,3002),(1003,3003)] q4) <| fm <| bw.iJ fa aD4 ⟨_,_,_,fun g=>_,fun g=>_,cC.aX [(3002,3003)] J,aD,rfl,fun _=>rfl,fun x=>?_⟩;obtain⟨⟨b,O⟩,E2⟩:=x;exact bz [] (bt) <| dE ⟨fun _ h=>aE1,fun _=>⟨eU aD4,⟨(0,_),.inr ⟨dX,_,⟨a2.symm,b,O,.inl ⟨a2,E2,rfl⟩⟩,.inl ⟨.inr (.inl rfl),rfl⟩⟩⟩,_,_,_,bt,rfl,rfl,aD,rfl⟩⟩
  |some p=>
   obtain⟨jC,bF,g2,de⟩:=p;obtain⟨b',cS,en⟩:=sg _ rfl;have b':bF=((b6 L aP*2 ^z:Nat):Int):=b';have cS:g2=1:=cS
   cases Z:c9 ds dQ with
   |none=>
    simp only[HZ Z,HX Z] at dW;refine hZ [5,6] func79 ?_;refine ar jI <| ar U <| ar H <| ar (Fn.aX [(1001,3001),(1002,3002),(1003,3003)] q4) <| fm <| bw.iJ fa aD4 ⟨_,_,_,fun g=>_,fun g=>_,cC.aX [(3002,3003)] J,aD,rfl,fun _=>rfl,fun y=>?_⟩;obtain⟨⟨b,O⟩,E2⟩:=y;exact bz [] (bt) <| dE ⟨fun _ _=>ar dW ⟨eU aD4,fm ⟨⟨(0,_),.inr ⟨dX,_,⟨a2.symm,b,O,.inl ⟨a2,E2,rfl⟩⟩,.inl ⟨.inr (.inr Z),rfl⟩⟩⟩,_,_,_,bt,rfl,rfl,aD,rfl⟩⟩,fun h=>aE1⟩
   |some x=>
    simp only[HY Z] at dW;obtain⟨CA,pT⟩:=pE x (ke Z).1;obtain⟨cB,cH,dO,fy⟩:=h9.ok x (ke Z).1;have GZ:dQ.length<=64:=(ke Z).2▸fy;have bx:hg dQ=true:=(ke Z).2▸CA.nm;have cu:=O9 (u:=kR) (fun _=>rfl) Z;have aU:=O7 B3 db cu;have Ec:=apA (b:=jC) (ais x.s x.g (kR x).es bF g2 de cB cH aD1 aD1 aD1);have apF:=Fn.nt (b:=db) [1002,1003,1004] 1101 (alg B3 dQ);obtain⟨eX,bv⟩:=O' B3.ji cu;have zE:=X6 (B3.nQ dQ) db dQ aD1 x.s x.g (td x.s x.g (kR x).es (pz bF g2 de)) ⟨cB,cH,akF (HS dO _ _) _ _⟩
    have ut:tE (lh (kP ds dQ kR) dQ) dQ=0:=(mu (by rw[bx];decide)).trans (mu (by
     have:=B3.len;rw[eX];rintro(h |h)
     .cases h
     .omega))
    simp only[ut] at zE;refine hZ [5,6,12] func79 ?_;refine ar jI <| ar U <| ar H <| ar (Fn.aX [(1001,3001),(1002,3002),(1003,3003)] q4) <| fm <| bw.iJ fa aD4 ⟨_,_,_,fun g=>_,fun g=>_,cC.aX [(3002,3003)] J,aD,rfl,fun _=>rfl,fun y=>?_⟩;obtain⟨⟨b,O⟩,E2⟩:=y;refine bz [12] (bt) <| dE ⟨fun _ _=>ar dW ⟨eU aD4,dE <| ar aU ⟨rfl,eU aD4,ar (Fn.aX [(1001,5001),(1002,5002)] Ec) ⟨eU aD4,ar apF ⟨eU aD4,ar (Fn.aX [(2001,5001),(2002,5002)] zE) ⟨eU aD4,bw.ff (dv.jB 1101 rfl) fun aB=>?_⟩⟩⟩⟩⟩,fun h=>aE1⟩;obtain⟨l',gz⟩:=aB;have apG:=Fn.nt (b:=db) [1002,1003,1004] 1101 (ald gz.1 dQ x.on);exact bz [] (bt) <| ar apG ⟨eU aD4,⟨(0,_),apC (w:=⟨z,R,L,aP,db,ds,es,M,lb,Q,eT,.pu nm n rm l g over true,⟨eE,dQ,some (jC,bF,g2,de)⟩⟩) (lb:=E2) dX a2 O (Eq.refl _) Z ut gz⟩,_,_,_,bt,rfl,rfl,aD,rfl⟩
 .have gA: ∀b:{b:Nat//b∉M.map (·.1)},wl ⟨z,R,L,aP,db,ds,es,M,lb,Q,eT,.pu nm n rm l g over true,qr ⟨eE,dQ,dZ⟩ g⟩ (e3 Q (fD ⟨eE,dQ,dZ⟩ g)) (pM (e3 Q (fD ⟨eE,dQ,dZ⟩ g))) ⟨z,R,L,aP,db,ds,o0 es (e3 Q (fD ⟨eE,dQ,dZ⟩ g)) b.1,(b.1,o1 (e3 Q (fD ⟨eE,dQ,dZ⟩ g)) b.1)::M,lb,Q,eT,.pu nm n rm l g over true,qr ⟨eE,dQ,dZ⟩ g⟩:=fun b=>⟨Eq.refl _,b.1,b.2,.inr ⟨a2,Eq.refl _⟩⟩
  have J:=X8 ⟨z,R,L,aP,db,ds,es,M,lb,Q,eT,.pu nm n rm l g over true,qr ⟨eE,dQ,dZ⟩ g⟩ a2 (F:=o0 es (e3 Q (fD ⟨eE,dQ,dZ⟩ g))) (S:=o1 (e3 Q (fD ⟨eE,dQ,dZ⟩ g))) J;generalize pM (e3 Q (fD ⟨eE,dQ,dZ⟩ g))=e at gA a2 J;refine hZ [5,6] func79 ?_;exact ar jI <| ar U <| ar H <| ar (Fn.aX [(1001,3001),(1002,3002),(1003,3003)] q4) <| fm <| bw.iJ fa aD4 ⟨_,_,_,fun g=>_,fun g=>_,cC.aX [(3002,3003)] J,aD,rfl,fun _=>rfl,fun x=>bz [] (bt) ⟨fun _=>⟨eU aD4,⟨(e,_),.inr ⟨dX,_,gA x,.inl ⟨.inl a2,rfl⟩⟩⟩,_,_,_,bt,rfl,rfl,aD,rfl⟩,fun h=>as3 h (by simp[a2])⟩⟩
abbrev I0:Type:=List bf×gx×ey×Nat×List bQ
abbrev zH (w:bR) (g:aH3) (t:I0):bR:={w with bu:=qr w.bu g,ds:=t.1,es:=t.2.1,M:=t.2.2.1,lb:=t.2.2.2.1,Q:=t.2.2.2.2}
def zI {w w':bR} {Q:aH9} {e:Int} (h:wl w Q e w'):w'={w with es:=w'.es,M:=w'.M,lb:=w'.lb,Q:=w'.Q}:=by
 obtain⟨_,b,_,⟨_,lb,rfl⟩ |⟨_,rfl⟩⟩:=h
 .with_reducible rfl
 .with_reducible rfl
def Yd {w w':bR} {g:aH3} {e:Int} (h:wq w g e w'):w'=zH w g (w'.ds,w'.es,w'.M,w'.lb,w'.Q):=by
 rcases h with⟨_,_,rfl⟩ |⟨_,fb,G,⟨_,rfl⟩ |⟨_,jC,bF,g2,de,x,a,b,_,_,_,rfl⟩⟩
 .with_reducible rfl
 .have ah:=zI G;rw[ah]
 .have ah:=zI G;rw[ah]
def apH (w:bR) (aq:l0 w) {nm:aG9} {n rm:Int} {l:aH0} {g:aH3} {over:Bool} (V:w.bH= .pu nm n rm l g over true) (ae:gk w.z w.R w.L nm l g) (qI:hg (cT w.bu.eE)=true):
  cC prog 79 [ap 1401] (cV w) [] (X:={p:Int×I0//wq w g p.1 (zH w g p.2)}) (fun p=>ab p.1.1) (fun p=>cV (zH w g p.1.2)):=by
 have h:cC prog 79 [ap 1401] (cV w) [] (X:=nC (wq w g)) (fun p=>ab p.1.1) (fun p=>cV p.1.2):=by
  by_cases dX:gF w.Q (fD w.bu g)=0
  .exact apD w aq V ae qI dX
  .exact apB w aq V ae qI dX
 exact h.to (fun x=>⟨(x.1.1,x.1.2.ds,x.1.2.es,x.1.2.M,x.1.2.lb,x.1.2.Q),Yd x.2▸x.2⟩) (fun _=>rfl) fun x=>as5 cV (Yd x.2)
end
section
section
variable {P:aH6} {ids:aH0} {K:aZ} {B:aA} {o:Oper}
abbrev sv (f b:Nat):Value:=.func (.func f) #[.pointer (some ⟨b,0,none⟩)] #[]
def xK (b:Nat):Nat->aH0->List MapEntry->Prop
 |_,[],es=>es=[]
 |i,f::fs,es=> ∃e r,es=e::r/\e.key= .int .i64 (i:Int)/\e.val=sv f b/\xK b (i+1) fs r
def xK.BW {b f:Nat}: ∀{fs:aH0} {i:Nat} {es:aI7} {e:MapEntry},xK b i fs es->e.key= .int .i64 ((i+fs.length:Nat):Int)->e.val=sv f b->xK b i (fs++[f]) (es++[e])
 | [],i,es,e,h,E,G=>by rw[show es=[] from h];exact⟨e,[],rfl,E,G,rfl⟩
 |x::fs,i,_,e,⟨b9,r,h,b4,cf,a3⟩,E,G=>by
  rw[h];exact⟨b9,r++[e],rfl,b4,cf,xK.BW a3 (by rw[E,aw4,show i+(fs.length+1)=i+1+fs.length by omega]) G⟩
def I1 {b:Nat} {k:Int}: ∀{fs:aH0} {i:Nat} {es:aI7} (j:Nat),xK b i fs es->
  ((k < (i:Int)\/((i+fs.length:Nat):Int)<=k)->Instr.findNow (.int .i64) (.int .i64 k) es j=some none)/\(∀(m:Nat) (ay:m < fs.length),k=((i+m:Nat):Int)->Instr.findNow (.int .i64) (.int .i64 k) es j=some (some (j+m,sv fs[m] b)))
 | [],i,es,j,h=>by
  rw[show es=[] from h];exact⟨fun _=>rfl,fun m ay=>as3 ay (aB8 _)⟩
 |f::fs,i,_,j,⟨e,r,h,b4,cf,a3⟩=>by
  subst h;obtain⟨aB,aN,rs⟩:=MapKept.sameNow_of_keys (sC (aI:=ai) (d:=.int .i64) rfl k) (sC (aI:=ai) (d:=.int .i64) rfl ((i:Nat):Int));have aN:Instr.sameNow (.int .i64) (.int .i64 k) e.key=some aB:=by rw[b4];exact aN
  obtain⟨r1,r2⟩:=I1 (k:=k) (j+1) a3
  by_cases Z:k=(i:Int)
  .have apI:aB=true:=rs.2 (by rw[Z]);subst apI;refine⟨fun bd=>?_,fun m ay bd=>?_⟩
   .rw[aw4] at bd;omega
   .obtain rfl:m=0:=aD9
    simp[Instr.findNow,aN,cf]
  .have apJ:aB=false:=by
    cases aB with
    |false=>rfl
    |true=>
     have:=rs.1 rfl;injection this with _ G
     exact as3 G Z
   subst apJ;refine⟨fun bd=>?_,fun m ay bd=>?_⟩
   .simp only[Instr.findNow,aN];exact r1 (by rw[aw4] at bd;omega)
   .cases m with
    |zero=>exact as3 bd Z
    |succ m=>
     have:=r2 m (by simpa using ay) (by rw[bd];omega);simp only[Instr.findNow,aN];simp only[List.getElem_cons_succ];rw[show j+(m+1)=j+1+m by omega];exact this
def zJ (b:Nat) (fs:aH0):bg where
 bp:=fun _ F w p=>(∀x,F x↔x=p.bm)/\ ∃bV bY,w.heap[p.bm]? =some (.map (List.toArray bV) bY)/\xK b 0 fs bV/\ms bV bY
 cr:=fun _ F w _ w' p ⟨E,bV,bY,G,ah⟩ _ bj _=>⟨E,bV,bY,(bj _ ((E _).2 rfl)).trans G,ah⟩
def Pa (b:Nat) (fs:aH0) (ch:ba):Prop:=(fs=[]/\ch= .map ai .fn [])\/ch= .aH (zJ b fs)
def Pa.holds {b:Nat} {fs:aH0} {ch:ba} (h:Pa b fs ch) {ρ:Nat->bq} {I F:Nat->Prop} {w:aH5} {p:bq} (bd:Holds ρ I F w p ch):(zJ b fs).bp I F w p:=by
 rcases h with⟨rfl,rfl⟩ |rfl
 .obtain⟨E,bV,bY,G,ah,aW⟩:=bd;exact⟨E,bV,bY,G,ah,aW⟩
 .exact bd
def kU {T kt et:aI0} {x i v:aH8} {c f b:Nat} (ag:o.op= .insert T x i v) (b8:P.underlying T=some (.map kt et)) (kM:P.underlying kt=some (.int .i64)) {fs:aH0} {ch:ba} (hx:a7 K x= .c (.one (.mp c))) (Z:a7 K i= .c (.one (.d (.int .i64 (fs.length:Nat)))))
  (az:a7 K v=za f b) (J:aj B c=some ch) (hw:Pa b fs ch) (N:Nat):bD P N ids o K B .undef ⟨[c],[],[(c,some (.aH (zJ b (fs++[f]))))]⟩:=by
 have c0:x∈o.op.operands:=aD8
 have d5:i∈o.op.operands:=aD8
 have lO:v∈o.op.operands:=aD8
 refine bD.UK J fun K' B' g1 g2 C ρ F a w al av gz=>?_
 obtain⟨bj,bV,bY,O,ay,cQ⟩:=hw.holds (al.holds c _ gz);have af:=av.mp ((g1 x c0).trans hx);have ao:a.eval i= .int .i64 ((fs.length:Nat):Int):=av.int ((g1 i d5).trans Z);have bo:a.eval v=sv f b:=av.ev ((g1 v lO).trans az);have q0:=fun e=>MapKept.run_checkKey (P:=P) (w:=w) kM (sC (aI:=ai) (d:=.int .i64) rfl ((fs.length:Nat):Int)) e 9999
 have eB:=fun o=>MapKept.run_setObj_map (P:=P) o O
 have hf:=MapKept.run_findKey (P:=P) (w:=w) kM ((I1 0 ay).1 (.inr (by rw[aw9];exact Int.le_refl _)));have bv:=mr O;simp only[gZ] at q0
 have ax:(Instr.mapUpdate T (.map (some (ρ c).bm)) (.int .i64 ((fs.length:Nat):Int)) (sv f b)).run P w= .ok () {w with heap:=w.heap.setIfInBounds (ρ c).bm (.map (List.toArray (bV++[⟨.int .i64 ((fs.length:Nat):Int),sv f b,bY⟩])) (bY+1))}:=by
  simp[Instr.mapUpdate,run_underlying b8,ay2 O,q0,hf,eB,Result.andThen]
 refine⟨{w with heap:=w.heap.setIfInBounds (ρ c).bm (.map (List.toArray (bV++[⟨.int .i64 ((fs.length:Nat):Int),sv f b,bY⟩])) (bY+1))},?_,u5 ((bj _).2 rfl),fun I a2=>⟨bj,bV++[⟨.int .i64 ((fs.length:Nat):Int),sv f b,bY⟩],bY+1,by simp[bv],xK.BW ay (by rw[aw9]) rfl,PP cQ _ _⟩⟩;simp only[execOp,ag,aw5,af,ao,bo,ax,au5,ax2]
def apK {aV:dt} (bl:eq P aV) {T kt et:aI0} {x i:aH8} {c b:Nat} (ag:o.op= .lookup T x i true) (b8:P.underlying T=some (.map kt et)) (kM:P.underlying kt=some (.int .i64)) {ti:cd} (gT:aV.find et=some ti) {fs:aH0} (hx:a7 K x= .c (.one (.mp c))) {key:Int} (Z:a7 K i= .c (.one (.d (.int .i64 key))))
  (J:aj B c=some (.aH (zJ b fs))) {m:Nat} {f:Nat} (ay:fs[m]? =some f) (Pb:key=(m:Int)) (N:Nat):bD P N ids o K B (.cn [.one (.bN (sv f b)),.one (.d (.lit true))]) ⟨[c],[],[]⟩:=by
 have c0:x∈o.op.operands:=aD8
 have d5:i∈o.op.operands:=aD8
 obtain⟨Dh,d,bx⟩:=bl.at_ gT;obtain⟨aB,aN,m7⟩:=bx.zero;refine bD.val fun K' B' g1 g2 C ρ F a w al av=>?_
 obtain⟨bj,bV,bY,O,xc,cQ⟩:(zJ b fs).bp _ _ w _:=al.holds c _ ((g2 c aD3).trans J);have af:=av.mp ((g1 x c0).trans hx);have ao:a.eval i= .int .i64 key:=av.int ((g1 i d5).trans Z);have q0:=fun e=>MapKept.run_checkKey (P:=P) (w:=w) kM (sC (aI:=ai) (d:=.int .i64) rfl key) e 9999
 obtain⟨ak,U⟩:=at0.1 ay;have hf:=MapKept.run_findKey (P:=P) (w:=w) kM ((I1 (k:=key) 0 xc).2 m ak (by rw[aw9];exact Pb));rw[U] at hf;refine⟨.tuple #[sv f b,.bool true],?_,⟨[sv f b,.bool true],rfl,_,_,rfl,rfl,_,_,rfl,rfl,rfl⟩⟩
 have ax:(Instr.lookup T (.map (some (ρ c).bm)) (.int .i64 key) true).run P w= .ok (.tuple #[sv f b,.bool true]) w:=by
  simp only[gZ] at q0 hf;simp[Instr.lookup,run_underlying b8,ay2 O,q0,hf,Result.andThen]
 simp only[execOp,ag,aw5,af,ao,ax,au5,ax2]
def apL {aV:dt} (bl:eq P aV) {T kt et:aI0} {x i:aH8} {c b:Nat} (ag:o.op= .lookup T x i true) (b8:P.underlying T=some (.map kt et)) (kM:P.underlying kt=some (.int .i64)) {ti:cd} (gT:aV.find et=some ti) {fs:aH0} (hx:a7 K x= .c (.one (.mp c))) {key:Int} (Z:a7 K i= .c (.one (.d (.int .i64 key))))
  (J:aj B c=some (.aH (zJ b fs))) (Pb:key < 0\/((fs.length:Nat):Int)<=key) (N:Nat):bD P N ids o K B (.cn [.one .any,.one (.d (.lit false))]) ⟨[c],[],[]⟩:=by
 have c0:x∈o.op.operands:=aD8
 have d5:i∈o.op.operands:=aD8
 obtain⟨Dh,d,bx⟩:=bl.at_ gT;obtain⟨aB,aN,m7⟩:=bx.zero;refine bD.val fun K' B' g1 g2 C ρ F a w al av=>?_
 obtain⟨bj,bV,bY,O,xc,cQ⟩:(zJ b fs).bp _ _ w _:=al.holds c _ ((g2 c aD3).trans J);have af:=av.mp ((g1 x c0).trans hx);have ao:a.eval i= .int .i64 key:=av.int ((g1 i d5).trans Z);have Dn:(zeroValue et).run P w= .ok aB w:=by simp[zeroValue,typeInfo,bx.km,aN]
 have q0:=fun e=>MapKept.run_checkKey (P:=P) (w:=w) kM (sC (aI:=ai) (d:=.int .i64) rfl key) e 9999
 have hf:=MapKept.run_findKey (P:=P) (w:=w) kM ((I1 (k:=key) 0 xc).1 (by rw[aw9];exact Pb));refine⟨.tuple #[aB,.bool false],?_,⟨[aB,.bool false],rfl,_,_,rfl,trivial,_,_,rfl,rfl,rfl⟩⟩
 have ax:(Instr.lookup T (.map (some (ρ c).bm)) (.int .i64 key) true).run P w= .ok (.tuple #[aB,.bool false]) w:=by
  simp only[gZ] at q0 hf;simp[Instr.lookup,run_underlying b8,ay2 O,q0,hf,Dn,Result.andThen]
 simp only[execOp,ag,aw5,af,ao,ax,au5,ax2]
end
def cC.mk {P:aH6} {f:aI5} {c m b:Nat} {args:List aS} {aJ:aA} {bb:aH0} {X:Type} {res:X->aS} {aT:X->aA} (h:cC P f (.c (.one (.ptr c 0))::args) aJ bb res aT) (E:((aj aJ m).isNone&& !bb.contains c&& !bb.contains m)=true) (G: ∀g,(aj (aT g) m).isNone=true):
  cC P f (.c (.one (.d (.aM (some b))))::args) (aJ++[(m,.b7 c (fp b))]) bb res (fun g=>aT g++[(m,.b7 c (fp b))]):=by
 obtain⟨gf,h⟩:=h;simp only[as1,au9,aC4] at E G;obtain⟨⟨b4,cf⟩,a3⟩:=E;have cf:=wV cf;have hR: ∀(B:aA) {e:Nat} {ch:ba},aj B e=some ch->aj (B++[(m,.b7 c (fp b))]) e=some ch:=fun B {e ch} U=>by rw[i1,U]
 have one: ∀(B:aA),aj B m=none->aj (B++[(m,.b7 c (fp b))]) m=some (.b7 c (fp b)):=fun B hn=>by rw[i1,hn];simp[aj]
 have uv: ∀(B:aA) {e:Nat} {ch:ba},aj (B++[(m,.b7 c (fp b))]) e=some ch->(aj B e=some ch)\/(aj B e=none/\e=m/\ch= .b7 c (fp b)):=fun B {e ch} U=>by
  rw[i1] at U
  cases bd:aj B e with
  |some y=>rw[bd] at U;exact .inl U
  |none=>
   rw[bd] at U;simp only[ci] at U
   split at U
   .rename_i ao;injection U with U;exact .inr ⟨rfl,ao.symm,U.symm⟩
   .cases U
 refine⟨gf,fun ρ F I w bZ a1 c4 bj eQ bX dI=>?_⟩;have ay:(ρ c).bm=b/\ ∀x,¬F m x:=c4 m _ (one aJ b4);have nc: ∀y,(∃e ch,aj aJ e=some ch/\F e y)-> ∃e ch,aj (aJ++[(m,ba.b7 c (fp b))]) e=some ch/\F e y:=fun y ⟨e,ch,U,aC⟩=>⟨e,ch,hR _ U,aC⟩
 match bZ,bX with
 |v0::bZ,bX=>
 have yl:v0= .pointer (some ⟨b,0,none⟩):=dI 0 _ v0 rfl rfl;refine(h ρ F I w (v0::bZ) a1 (fun e ch U=>c4 e ch (hR _ U)) (fun e ch U=>bj e ch (hR _ U)) (fun e b9 ch ch' x U hc=>eQ e b9 ch ch' x (hR _ U) (hR _ hc)) (by simpa using bX) ?_).mono ?_
 .intro i v x az hx
  match i with
  |0=>
   simp only[at9,as9] at az hx;subst az hx;show v0=_;rw[ay.1];exact yl
  |i+1=>exact dI (i+1) v x aF3 hx
 .rintro e w' ⟨g,x,ρ',F',rfl,cJ,dA,I',jG,gM,l6,aq,ix,sW⟩;have a8: ∀{e ch},aj (aT g) e=some ch->e≠m:=fun {e ch} U ao=>by rw[ao,G g] at U;cases U
  refine⟨g,x,ρ',fun e=>if e=m then(fun _=>False) else F' e,rfl,cJ.mono fun y _ aC=>nc y aC,dA,I',jG,fun y aC=>⟨(gM y aC).1,?_⟩,?_,?_,?_,sW⟩
  .rcases(gM y aC).2 with h |h |h
   .exact .inl h
   .exact .inr (.inl (nc y h))
   .exact .inr (.inr h)
  .intro e ch U;rcases uv _ U with U |⟨_,rfl,rfl⟩
   .simp only[mu (a8 U)];exact l6 e ch U
   .simp only[if_true];exact⟨by rw[dA c cf];exact ay.1,fun _ h=>h⟩
  .intro e ch U y aC;rcases uv _ U with U |⟨_,rfl,rfl⟩
   .simp only[mu (a8 U)] at aC;obtain⟨cD,cv,hQ⟩:=aq e ch U y aC;exact⟨cD,cv,hQ.imp (nc y) id⟩
   .simp only[if_true] at aC
  .intro e b9 ch ch' y U hc hn aC eo;rcases uv _ U with b' |⟨_,rfl,rfl⟩
   .rcases uv _ hc with cS |⟨_,rfl,rfl⟩
    .simp only[mu (a8 b')] at aC;simp only[mu (a8 cS)] at eo;exact ix e b9 ch ch' y b' cS hn aC eo
    .simp only[if_true] at eo
   .simp only[if_true] at aC
def apM {P:aH6} {T:Nat} {name:String} {f:Nat} (h:((P.info? T).bind fun i=>(i.methods.find? (·.name == name)).map fun m=>(m.path.isEmpty,m.func))=some (true,some (f,true))): ∃di m,P.info? T=some di/\di.methods.find? (·.name == name)=some m/\m.path= #[]/\m.func=some (f,true):=by
 cases E:P.info? T with
 |none=>rw[E] at h;cases h
 |some di=>
  rw[E] at h
  cases G:di.methods.find? (·.name == name) with
  |none=>simp only[Option.bind_some,G,Option.map_none] at h;cases h
  |some m=>
   simp only[Option.bind_some,G,ay7,as9,ay8] at h;exact⟨di,m,rfl,G,Array.isEmpty_iff.1 h.1,h.2⟩
def kD {P:aH6} {ids:aH0} {K:aZ} {B:aA} {o:Oper} {f:aI5} {c:Call} {x:aH8} {b:Nat} {aJ:aA} {res:aS} {aT:aA} {T e:Nat} {name:String} (ag:o.op= .call c) (E:c.callee= .invoke x name) (G:c.args.toList=[]) (hx:a7 K x=D5 T b)
  (ay:((P.info? T).bind fun i=>(i.methods.find? (·.name == name)).map fun m=>(m.path.isEmpty,m.func))=some (true,some (f,true))) (a6:P.underlying T=some (.pointer e)) (hf:Fn P f [.c (.one (.d (.aM (some b))))] aJ [] res aT) (ib:lq B aJ) (bx:m0 aJ [] aT=true) (N:Nat):
  bD P N ids o K B res ⟨ct aJ,[],iW aJ aT⟩:=by
 obtain⟨di,m,b',cS,en,e0⟩:=apM ay;exact ai2 (fuel:=P.types.size+99) ag E G hx aD5 b' cS en e0 a6 hf ib bx N
end
section
def apN (w:bR) (s:dL) (V:w.bH= .no):Fn prog 42 [ap 1401,iF s] (cV w) [] (ab 1) (cV w):=by
 have b8:rk w.b w.bH= .nilIface:=by rw[V];rfl
 refine aY [] func42 ?_;refine⟨rfl,bc (fun N=>UC rfl underlying73 (by exact as5 (fun v=>aS.c (.one (.bN v))) b8) N) ?_⟩;exact bh
def apO (w:bR) (s:dL) (V:pL w.bH=false):Fn prog 42 [ap 1401,iF s] (cV w) [] (ab 0) (cV {w with bH:=.no}):=by
 obtain⟨z,R,L,aP,db,ds,es,M,lb,Q,b,bH,bu⟩:=w
 cases bH with
 |no=>cases V
 |dq top base l over=>
  refine aY [5] func42 ?_;refine⟨rfl,bc (qc rfl underlying73 rfl) ?_⟩;refine bc (fun N=>kD rfl rfl rfl rfl aD4 underlying74 (aoX (z:=z) (R:=R) (L:=L) (top:=top) (base:=base) (l:=l) (over:=over) (b:=b)) aE6 rfl N) ?_;exact ar (uH (z:=z) (R:=R) (L:=L) (aP:=aP) (db:=db) (lb:=lb) (m:=bu) (es:=es) (M:=M)) <| bz [] (ac.rj 1501 1001 rfl) bh
 |pl top base over=>
  refine aY [5] func42 ?_;refine⟨rfl,bc (qc rfl underlying73 rfl) ?_⟩;refine bc (fun N=>kD rfl rfl rfl rfl aD4 underlying136 (ao0 (z:=z) (R:=R) (L:=L) (top:=top) (base:=base) (over:=over) (b:=b)) aE6 rfl N) ?_;exact ar (uH (z:=z) (R:=R) (L:=L) (aP:=aP) (db:=db) (lb:=lb) (m:=bu) (es:=es) (M:=M)) <| bz [] (ac.rj 1501 1001 rfl) bh
 |pu nm n rm l g over done=>
  refine aY [5] func42 ?_;refine⟨rfl,bc (qc rfl underlying73 rfl) ?_⟩;refine bc (fun N=>kD rfl rfl rfl rfl aD4 underlying75 (ao2 (z:=z) (R:=R) (L:=L) (nm:=nm) (n:=n) (rm:=rm) (l:=l) (g:=g) (over:=over) (done:=done) (b:=b)) aE6 rfl N) ?_;exact ar (uH (z:=z) (R:=R) (L:=L) (aP:=aP) (db:=db) (lb:=lb) (m:=bu) (es:=es) (M:=M)) <| bz [] (ac.rj 1501 1001 rfl) bh
def apP (w:bR) {top base:aG9} {l:aH0} {over:Bool} (V:w.bH= .dq top base l over) (a1:lU w.z w.R w.L top l) (s:dL):Fn prog 41 [ap 1401,iF s] (cV w) [] (ab (ft w.z w.L top base l over).e) (cV {w with L:=(ft w.z w.L top base l over).L,bH:=if(ft w.z w.L top base l over).over=true then .no else .dq top base (ft w.z w.L top base l over).l (ft w.z w.L top base l over).over}):=by
 obtain⟨z,R,L,aP,db,ds,es,M,lb,Q,b,bH,bu⟩:=w;simp only at V;subst V;have au:=aoW (b:=b) (base:=base) (over:=over) a1;simp only at au⊢;generalize ft z L top base l over=r at au⊢;have go: ∀fR,Fn prog 80 [ap 1401] (mn z R r.L es M aP db lb 1 fR (some b) none bu) [] g4 (mn z R r.L es M aP db lb 0 .nilIface none none bu):=fun fR=>uH
 cases r with
 |mk up e L' g' B4=>
 simp only at au⊢
 cases B4 with
 |true=>
  by_cases U:e=0
  .refine aY [8] func41 ?_;refine⟨rfl,bc (qc rfl underlying73 rfl) ?_⟩;refine bc (fun N=>kD rfl rfl rfl rfl aD4 underlying74 au aE6 rfl N) ?_;refine⟨fun _=>⟨fun _ h=>aE1,fun _=>bc (fun N=>kD rfl rfl rfl rfl aD4 underlying74 (IS (z:=z) (R:=R) (L:=L') (top:=top) (base:=base) (l:=g') (over:=true) (b:=b)) aE6 rfl N) ?_⟩,fun h=>as3 h aG6⟩;exact⟨fun _=>ar (go _) <| bz [] (ac.rj 1501 1001 rfl) bh,fun h=>aE1⟩
  .refine aY [8] func41 ?_;refine⟨rfl,bc (qc rfl underlying73 rfl) ?_⟩;refine bc (fun N=>kD rfl rfl rfl rfl aD4 underlying74 au aE6 rfl N) ?_;refine⟨fun h=>as3 (gd h) U,fun _=>bc (fun N=>kD rfl rfl rfl rfl aD4 underlying74 (IS (z:=z) (R:=R) (L:=L') (top:=top) (base:=base) (l:=g') (over:=true) (b:=b)) aE6 rfl N) ?_⟩;exact⟨fun _=>ar (go _) <| bz [] (ac.rj 1501 1001 rfl) bh,fun h=>aE1⟩
 |false=>
  by_cases U:e=0
  .refine aY [] func41 ?_;refine⟨rfl,bc (qc rfl underlying73 rfl) ?_⟩;refine bc (fun N=>kD rfl rfl rfl rfl aD4 underlying74 au aE6 rfl N) ?_;refine⟨fun _=>⟨fun _ h=>aE1,fun _=>bc (fun N=>kD rfl rfl rfl rfl aD4 underlying74 (IS (z:=z) (R:=R) (L:=L') (top:=top) (base:=base) (l:=g') (over:=false) (b:=b)) aE6 rfl N) ?_⟩,fun h=>as3 h aG6⟩;exact⟨fun h=>aE1,fun _=>bh⟩
  .refine aY [] func41 ?_;refine⟨rfl,bc (qc rfl underlying73 rfl) ?_⟩;refine bc (fun N=>kD rfl rfl rfl rfl aD4 underlying74 au aE6 rfl N) ?_;refine⟨fun h=>as3 (gd h) U,fun _=>bc (fun N=>kD rfl rfl rfl rfl aD4 underlying74 (IS (z:=z) (R:=R) (L:=L') (top:=top) (base:=base) (l:=g') (over:=false) (b:=b)) aE6 rfl N) ?_⟩;exact⟨fun h=>aE1,fun _=>bh⟩
def apQ (w:bR) {top base:aG9} {over:Bool} (V:w.bH= .pl top base over) (a1:cb w.z w.R w.L) {d:aL} (H:dk w.L top=some d) (s:dL):Fn prog 41 [ap 1401,iF s] (cV w) [] (ab (h4 w.z w.L top base over).e) (cV {w with L:=(h4 w.z w.L top base over).L,bH:=if(h4 w.z w.L top base over).over=true then .no else .pl top base (h4 w.z w.L top base over).over}):=by
 obtain⟨z,R,L,aP,db,ds,es,M,lb,Q,b,bH,bu⟩:=w;simp only at V;subst V;have au:=aoZ (b:=b) (base:=base) (over:=over) a1 H;simp only at au⊢;generalize h4 z L top base over=r at au⊢;have go: ∀fR,Fn prog 80 [ap 1401] (mn z R r.L es M aP db lb 2 fR none none bu) [] g4 (mn z R r.L es M aP db lb 0 .nilIface none none bu):=fun fR=>uH
 cases r with
 |mk up e L' B4=>
 simp only at au⊢
 cases B4 with
 |true=>
  by_cases U:e=0
  .refine aY [8] func41 ?_;refine⟨rfl,bc (qc rfl underlying73 rfl) ?_⟩;refine bc (fun N=>kD rfl rfl rfl rfl aD4 underlying136 au aE6 rfl N) ?_;refine⟨fun _=>⟨fun _ h=>aE1,fun _=>bc (fun N=>kD rfl rfl rfl rfl aD4 underlying136 (IT (z:=z) (R:=R) (L:=L') (top:=top) (base:=base) (over:=true) (b:=b)) aE6 rfl N) ?_⟩,fun h=>as3 h aG6⟩;exact⟨fun _=>ar (go _) <| bz [] (ac.rj 1501 1001 rfl) bh,fun h=>aE1⟩
  .refine aY [8] func41 ?_;refine⟨rfl,bc (qc rfl underlying73 rfl) ?_⟩;refine bc (fun N=>kD rfl rfl rfl rfl aD4 underlying136 au aE6 rfl N) ?_;refine⟨fun h=>as3 (gd h) U,fun _=>bc (fun N=>kD rfl rfl rfl rfl aD4 underlying136 (IT (z:=z) (R:=R) (L:=L') (top:=top) (base:=base) (over:=true) (b:=b)) aE6 rfl N) ?_⟩;exact⟨fun _=>ar (go _) <| bz [] (ac.rj 1501 1001 rfl) bh,fun h=>aE1⟩
 |false=>
  by_cases U:e=0
  .refine aY [] func41 ?_;refine⟨rfl,bc (qc rfl underlying73 rfl) ?_⟩;refine bc (fun N=>kD rfl rfl rfl rfl aD4 underlying136 au aE6 rfl N) ?_;refine⟨fun _=>⟨fun _ h=>aE1,fun _=>bc (fun N=>kD rfl rfl rfl rfl aD4 underlying136 (IT (z:=z) (R:=R) (L:=L') (top:=top) (base:=base) (over:=false) (b:=b)) aE6 rfl N) ?_⟩,fun h=>as3 h aG6⟩;exact⟨fun h=>aE1,fun _=>bh⟩
  .refine aY [] func41 ?_;refine⟨rfl,bc (qc rfl underlying73 rfl) ?_⟩;refine bc (fun N=>kD rfl rfl rfl rfl aD4 underlying136 au aE6 rfl N) ?_;refine⟨fun h=>as3 (gd h) U,fun _=>bc (fun N=>kD rfl rfl rfl rfl aD4 underlying136 (IT (z:=z) (R:=R) (L:=L') (top:=top) (base:=base) (over:=false) (b:=b)) aE6 rfl N) ?_⟩;exact⟨fun h=>aE1,fun _=>bh⟩
def E3 (w:bR) (nm:aG9) (n rm:Int) (l:aH0) (g:aH3) (e:Int) (w':bR):Prop:=
 (l=[]/\ ∃t:I0,wq {w with bH:=.pu nm n rm [] g true true} g e (zH {w with bH:=.pu nm n rm [] g true true} g t)/\w'={zH w g t with bH:=.no})\/
 (l≠[]/\e=(dS w.z w.L nm rm l g (ek l)).e/\w'={w with bH:=if(dS w.z w.L nm rm l g (ek l)).over=true then .no else .pu nm n rm (dS w.z w.L nm rm l g (ek l)).l (dS w.z w.L nm rm l g (ek l)).g false false})
def apR (w:bR) (aq:l0 w) {nm:aG9} {n rm:Int} {l:aH0} {g:aH3} (V:w.bH= .pu nm n rm l g false false) (ae:gk w.z w.R w.L nm l g) (qI:hg (cT w.bu.eE)=true) (s:dL):
  cC prog 41 [ap 1401,iF s] (cV w) [] (X:=nC (E3 w nm n rm l g)) (fun p=>ab p.1.1) (fun p=>cV p.1.2):=by
 have au:=ao1 (b:=w.b) (n:=n) (rm:=rm) (over:=false) (done:=false) ae
 by_cases ak:l=[]
 .have U:kz w.z w.L nm rm l g false false=⟨true,0,[],g,true,true⟩:=by unfold kz;rw[mu aD2,vj ak]
  rw[U] at au;simp only at au;have EE:=apH {w with bH:=.pu nm n rm [] g true true} ⟨aq.cs,aq.kd,aq.ds,aq.ef,aq.q,aq.ob,aq.dZ⟩ rfl ae.nil qI;obtain⟨z,R,L,aP,db,ds,es,M,lb,Q,b,bH,bu⟩:=w;simp only at V;subst V;refine hZ [5,6,8] func41 ?_;refine⟨rfl,bc (qc rfl underlying73 rfl) ?_⟩;refine bc (fun N=>kD rfl rfl rfl rfl aD4 underlying75 au aE6 rfl N) ?_;refine fm ⟨fun _ _=>ar (XV (z:=z) (R:=R) (L:=L) (nm:=nm) (n:=n) (rm:=rm) (l:=[]) (g:=g) (over:=true) (done:=true) (b:=b)) ⟨fun _=>bw.iJ fa aD4 ⟨_,_,_,fun g=>_,fun g=>_,EE,aD,rfl,fun _=>rfl,fun x=>?_⟩,fun h=>aE1⟩,fun h=>aE1⟩;obtain⟨⟨af,t⟩,hx⟩:=x;refine bz [8] (bt) <| bc (fun N=>kD rfl rfl rfl rfl aD4 underlying75 (OW (z:=z) (R:=R) (L:=L) (nm:=nm) (n:=n) (rm:=rm) (l:=[]) (g:=g) (over:=true) (done:=true) (b:=b)) aE6 rfl N) ?_;exact⟨fun _=>ar (uH (z:=z) (R:=R) (L:=L) (aP:=aP) (db:=db) (lb:=t.2.2.2.1) (m:=qr bu g) (es:=t.2.1) (M:=t.2.2.1)) <| bz [] (ac.rj 1501 1001 rfl) ⟨⟨(af,⟨z,R,L,aP,db,t.1,t.2.1,t.2.2.1,t.2.2.2.1,t.2.2.2.2,b,.no,qr bu g⟩),.inl ⟨ak,t,hx,Eq.refl _⟩⟩,_,_,_,bt,rfl,rfl,aD,rfl⟩,fun h=>aE1⟩
 .have U:kz w.z w.L nm rm l g false false=⟨false,(dS w.z w.L nm rm l g (ek l)).e,(dS w.z w.L nm rm l g (ek l)).l,(dS w.z w.L nm rm l g (ek l)).g,(dS w.z w.L nm rm l g (ek l)).over,false⟩:=by unfold kz;rw[mu aD2,mu ak]
  rw[U] at au
  have E4:(dS w.z w.L nm rm l g (ek l)).over=decide ((dS w.z w.L nm rm l g (ek l)).e≠0):=by
   unfold dS
   split <;>rfl
  have gA: ∀W:bR,W={w with bH:=if(dS w.z w.L nm rm l g (ek l)).over=true then .no else .pu nm n rm (dS w.z w.L nm rm l g (ek l)).l (dS w.z w.L nm rm l g (ek l)).g false false}->E3 w nm n rm l g (dS w.z w.L nm rm l g (ek l)).e W:=fun W h=>.inr ⟨ak,Eq.refl _,h⟩
  obtain⟨z,R,L,aP,db,ds,es,M,lb,Q,b,bH,bu⟩:=w;simp only at V au E4 gA;subst V;generalize dS z L nm rm l g (ek l)=r at au E4 gA;obtain⟨e,g',g2,B4⟩:=r;simp only at au E4 gA
  by_cases B5:e=0
  .obtain rfl:B4=false:=by rw[E4];simp[B5]
   refine hZ [] func41 ?_;refine⟨rfl,bc (qc rfl underlying73 rfl) ?_⟩;refine bc (fun N=>kD rfl rfl rfl rfl aD4 underlying75 au aE6 rfl N) ?_;refine⟨fun _=>⟨fun _ _=>ar (XV (z:=z) (R:=R) (L:=L) (nm:=nm) (n:=n) (rm:=rm) (l:=g') (g:=g2) (over:=false) (done:=false) (b:=b)) ⟨fun h=>aE1,fun _=>bc (fun N=>kD rfl rfl rfl rfl aD4 underlying75 (OW (z:=z) (R:=R) (L:=L) (nm:=nm) (n:=n) (rm:=rm) (l:=g') (g:=g2) (over:=false) (done:=false) (b:=b)) aE6 rfl N) ?_⟩,fun h=>aE1⟩,fun h=>as3 B5 (oj h)⟩;exact⟨fun h=>aE1,fun _=>⟨⟨(e,⟨z,R,L,aP,db,ds,es,M,lb,Q,b,.pu nm n rm g' g2 false false,bu⟩),gA _ (Eq.refl _)⟩,_,_,_,bt,rfl,rfl,aD,rfl⟩⟩
  .obtain rfl:B4=true:=by rw[E4];simp[B5]
   refine hZ [8] func41 ?_;refine⟨rfl,bc (qc rfl underlying73 rfl) ?_⟩;refine bc (fun N=>kD rfl rfl rfl rfl aD4 underlying75 au aE6 rfl N) ?_;refine⟨fun h=>as3 (gd h) B5,fun _=>bc (fun N=>kD rfl rfl rfl rfl aD4 underlying75 (OW (z:=z) (R:=R) (L:=L) (nm:=nm) (n:=n) (rm:=rm) (l:=g') (g:=g2) (over:=true) (done:=false) (b:=b)) aE6 rfl N) ?_⟩;exact⟨fun _=>ar (uH (z:=z) (R:=R) (L:=L) (aP:=aP) (db:=db) (lb:=lb) (m:=bu) (es:=es) (M:=M)) <| bz [] (ac.rj 1501 1001 rfl) ⟨⟨(e,⟨z,R,L,aP,db,ds,es,M,lb,Q,b,.no,bu⟩),gA _ (Eq.refl _)⟩,_,_,_,bt,rfl,rfl,aD,rfl⟩,fun h=>aE1⟩
end
section
def apS (w:bR) (s:dL) (V:w.bH= .no):Fn prog 41 [ap 1401,iF s] (cV w) [] (ab 1) (cV w):=by
 have b8:rk w.b w.bH= .nilIface:=by rw[V];rfl
 refine aY [] func41 ?_;refine⟨rfl,bc (fun N=>UC rfl underlying73 (by exact as5 (fun v=>aS.c (.one (.bN v))) b8) N) ?_⟩;exact bh
def apT {es:gx} {M:ey} {Q:aH9} (hf:mT es M Q) (aQ:rn Q):
  Fn prog 83 [ap 1201] [qp es M] [3001,3002] (.cn [.one (.ptr 3001 0),dJ 0]) (qp es M::lZ 3001 3002 Q)\/(Q=[]/\Fn prog 83 [ap 1201] [qp es M] [] (.cn [nf,dJ 181]) [qp es M]):=by
 rcases hf.bG with⟨E,G⟩ |⟨a,m,E,G,ah,aW⟩
 .exact .inr ⟨G,Fn.close (c:=1201) (br:=n3 1201 1202 1203 4096 es M) (dP:=n3 1201 1202 1203 4096 es M) (aJ:=[]) (aT:=[]) [1202,1203] (Fn.aX [(1001,1201),(1002,1202),(1003,1203)] (aoE 4096 es (L:=M) E)) (fun _ _ _ _ h=>h) (fun _ _ _ _ h=>h) rfl rfl⟩
 .refine .inl ?_;have V:=aop ah aW (by have:=O3 aQ.tolV;have:dH 512=255:=rfl;omega);have ak:=Fn.aX [(1001,1201),(1002,1202),(1003,1203),(2001,3001),(2002,3002)] (aoB 4096 es (L:=M) E G ah.ok (by rw[ah.n];decide) V (O3 aQ.tolV) aQ.IV (fun b O=>EC aQ.tolV O) aQ.len);rw[OI] at ak;exact Fn.close (c:=1201) (br:=n3 1201 1202 1203 4096 es M) (dP:=n3 1201 1202 1203 4096 es M) (aJ:=[]) (aT:=lZ 3001 3002 Q) [1202,1203] ak (fun _ _ _ _ h=>h) (fun _ _ _ _ h=>h) rfl rfl
def apU {es:gx} {M:ey} {Q:aH9} (hf:mT es M Q) (ks:List mm) (Z:ks.length<=1073741824) (he: ∀k∈ks,(mO k).length<=1073741824):
  Fn prog 81 [ap 1201,bP ml ks] [qp es M] [] g4 [qp es M]:=by
 have h:=Fn.aX [(1001,1201),(1002,1202),(1003,1203)] (anR 4096 es M 0 ks hf.bA aD2 Z he);rw[hf.n2 ks] at h;exact Fn.close (c:=1201) (br:=n3 1201 1202 1203 4096 es M) (dP:=n3 1201 1202 1203 4096 es M) (aJ:=[]) (aT:=[]) [1202,1203] h (fun _ _ _ _ h=>h) (fun _ _ _ _ h=>h) rfl rfl
abbrev I2 (ds:aH7):=Nat×Nat×{l:List bf//eh l/\l.map pI=(h5 ds).map q'}
abbrev I3 (w:bR) (t:I2 w.ds):bR:={w with db:=t.1,lb:=t.2.1,ds:=t.2.2.1,bH:=.no}
def apV (w:bR) (aq:eO w) (s:dL) (Z:s.ks.length<=1073741824) (he: ∀k∈s.ks,(mO k).length<=1073741824):
  cC prog 43 [ap 1401,iF s] (cV w) [] (X:=I2 w.ds) (fun _=>ab 0) (fun t=>cV (I3 w t)):=by
 have Pc:=apU aq.ob s.ks Z he;have pE:Fn prog 25 [dy w.db,.c (.one (.d (.lit false)))] [OS w] [] (bP .u8 (q9 false w.ds)) [OS w]:=Fn.arg (Fn.nt (b:=w.db) [1002,1003,1004] 1101 (WC aq.ds false)) aD;have zf:=cC.aX [(1001,4001),(1002,4002),(1003,4003),(1004,4004)] (am8 aq.ds fun e U=>(aq.ef e U).1);have B6:=apT aq.ob aq.q;obtain⟨z,R,L,aP,db,ds,es,M,lb,Q,eT,bH,bu⟩:=w;simp only at Pc pE zf B6;rcases B6 with B6 |⟨nJ,B6⟩
 .refine hZ [3,4,8] func43 ?_;refine⟨rfl,ar (uH (z:=z) (R:=R) (L:=L) (aP:=aP) (db:=db) (lb:=lb) (m:=bu) (es:=es) (M:=M)) <| ar Pc ⟨eU aD4,bw.iJ fa aD4 <| lM pE.x fun _=>⟨_,_,_,fun g=>_,fun g=>_,zf,trivial,rfl,fun _=>rfl,fun x=>?_⟩⟩⟩;obtain⟨l',qv,qA⟩:=x;exact bw.ff (dv.mark 4001 4009 rfl aD2) fun b=>bw.le (ac.wm 1401 3 4001 4009 b rfl rfl rfl) <| bw.le (ac.close 4001 (kK (eM (lL [(1001,4001),(1002,4002),(1003,4003),(1004,4004)] [])) (eJ l')) (o:=so l') aD rfl fun I F x p h=>jJ.aX [(4001,1001),(4002,1002),(4003,1003),(4004,1004)] h) <| bw.le (ac.trans (ac.wn 4001 4009 b rfl rfl) (ac.put 1101 4001 aD2 rfl rfl)) <| bz [8] (ac.ET 1101 rfl) <| ar B6 <| dE <| bw.ff (dv.mark 3001 3009 rfl aD2) fun b2=>bw.le (ac.wm 1401 5 3001 3009 b2 rfl rfl rfl) <| bw.le (ac.close 3001 (lZ 3001 3002 Q) (o:=sq Q) aD rfl fun I F x p h=>jJ.aX [(3001,1001),(3002,1002)] h) <| bw.le (ac.trans (ac.wn 3001 3009 b2 rfl rfl) (ac.put 1301 3001 aD2 rfl rfl)) <| bz [] (ac.trans (ac.ET 1301 rfl) (ac.rj 1501 1001 rfl)) ⟨(b,b2,⟨l',qv,qA⟩),_,_,_,bt,rfl,rfl,aD,rfl⟩
 .subst nJ;refine hZ [3,4,8] func43 ?_;refine⟨rfl,ar (uH (z:=z) (R:=R) (L:=L) (aP:=aP) (db:=db) (lb:=lb) (m:=bu) (es:=es) (M:=M)) <| ar Pc ⟨eU aD4,bw.iJ fa aD4 <| lM pE.x fun _=>⟨_,_,_,fun g=>_,fun g=>_,zf,trivial,rfl,fun _=>rfl,fun x=>?_⟩⟩⟩;obtain⟨l',qv,qA⟩:=x;exact bw.ff (dv.mark 4001 4009 rfl aD2) fun b=>bw.le (ac.wm 1401 3 4001 4009 b rfl rfl rfl) <| bw.le (ac.close 4001 (kK (eM (lL [(1001,4001),(1002,4002),(1003,4003),(1004,4004)] [])) (eJ l')) (o:=so l') aD rfl fun I F x p h=>jJ.aX [(4001,1001),(4002,1002),(4003,1003),(4004,1004)] h) <| bw.le (ac.trans (ac.wn 4001 4009 b rfl rfl) (ac.put 1101 4001 aD2 rfl rfl)) <| bz [8] (ac.ET 1101 rfl) <| ar B6 <| fm <| ar (Fn.aX [(1001,3001),(1002,3002)] NA) <| bw.ff (dv.mark 3001 3009 rfl aD2) fun b2=>bw.le (ac.wm 1401 5 3001 3009 b2 rfl rfl rfl) <| bw.le (ac.close 3001 (lZ 3001 3002 []) (o:=sq []) aD rfl fun I F x p h=>jJ.aX [(3001,1001),(3002,1002)] h) <| bw.le (ac.trans (ac.wn 3001 3009 b2 rfl rfl) (ac.put 1301 3001 aD2 rfl rfl)) <| bz [] (ac.trans (ac.ET 1301 rfl) (ac.rj 1501 1001 rfl)) ⟨(b,b2,⟨l',qv,qA⟩),_,_,_,bt,rfl,rfl,aD,rfl⟩
end
section
abbrev jS:aH0:=[33,34,35,36,37,38,39,40,41,42,43,44]
def apW (w:bR) (s:dL) (Z:s.kd < 0\/12<=s.kd):Fn prog 12 [ap 1401,iF s] (cV w) [] (ab 1) (cV w):=by refine aY [1] func12 ?_;refine⟨rfl,bw.ff (dv.mark 1401 1409 rfl aD2) fun b=>bz [] (bt) ⟨rfl,bc (j' (m:=1409) (b:=b) rfl rfl rfl) ?_⟩⟩;refine bc (kU (fs:=jS.take 0) rfl underlying87 underlying3 rfl rfl rfl rfl (.inl ⟨rfl,rfl⟩)) ?_;refine bc (j' (m:=1409) (b:=b) rfl rfl rfl) ?_;refine bc (kU (fs:=jS.take 1) rfl underlying87 underlying3 rfl rfl rfl rfl (.inr rfl)) ?_;refine bc (j' (m:=1409) (b:=b) rfl rfl rfl) ?_;refine bc (kU (fs:=jS.take 2) rfl underlying87 underlying3 rfl rfl rfl rfl (.inr rfl)) ?_;refine bc (j' (m:=1409) (b:=b) rfl rfl rfl) ?_;refine bc (kU (fs:=jS.take 3) rfl underlying87 underlying3 rfl rfl rfl rfl (.inr rfl)) ?_;refine bc (j' (m:=1409) (b:=b) rfl rfl rfl) ?_;refine bc (kU (fs:=jS.take 4) rfl underlying87 underlying3 rfl rfl rfl rfl (.inr rfl)) ?_;refine bc (j' (m:=1409) (b:=b) rfl rfl rfl) ?_;refine bc (kU (fs:=jS.take 5) rfl underlying87 underlying3 rfl rfl rfl rfl (.inr rfl)) ?_;refine bc (j' (m:=1409) (b:=b) rfl rfl rfl) ?_;refine bc (kU (fs:=jS.take 6) rfl underlying87 underlying3 rfl rfl rfl rfl (.inr rfl)) ?_;refine bc (j' (m:=1409) (b:=b) rfl rfl rfl) ?_;refine bc (kU (fs:=jS.take 7) rfl underlying87 underlying3 rfl rfl rfl rfl (.inr rfl)) ?_;refine bc (j' (m:=1409) (b:=b) rfl rfl rfl) ?_;refine bc (kU (fs:=jS.take 8) rfl underlying87 underlying3 rfl rfl rfl rfl (.inr rfl)) ?_;refine bc (j' (m:=1409) (b:=b) rfl rfl rfl) ?_;refine bc (kU (fs:=jS.take 9) rfl underlying87 underlying3 rfl rfl rfl rfl (.inr rfl)) ?_;refine bc (j' (m:=1409) (b:=b) rfl rfl rfl) ?_;refine bc (kU (fs:=jS.take 10) rfl underlying87 underlying3 rfl rfl rfl rfl (.inr rfl)) ?_;refine bc (j' (m:=1409) (b:=b) rfl rfl rfl) ?_;refine bc (kU (fs:=jS.take 11) rfl underlying87 underlying3 rfl rfl rfl rfl (.inr rfl)) ?_;refine bc (apL fa (fs:=jS) rfl underlying87 underlying3 rfl rfl rfl rfl Z) ?_;exact bh
def sw (w:bR) (s:dL) {bp:Int->bR->Prop} {k f:Nat} (Z:s.kd=(k:Int)) (hf:jS[k]? =some f) (J:cC prog f [ap 1401,iF s] (cV w) [] (X:=nC bp) (fun p=>ab p.1.1) (fun p=>cV p.1.2)):
  cC prog 12 [ap 1401,iF s] (cV w) [] (X:=nC bp) (fun p=>ab p.1.1) (fun p=>cV p.1.2):=by
 refine hZ [1,5] func12 ?_;refine⟨rfl,bw.ff (dv.mark 1401 1409 rfl aD2) fun b=>bz [5] (bt) ⟨rfl,bc (j' (m:=1409) (b:=b) rfl rfl rfl) ?_⟩⟩;refine bc (kU (fs:=jS.take 0) rfl underlying87 underlying3 rfl rfl rfl rfl (.inl ⟨rfl,rfl⟩)) ?_;refine bc (j' (m:=1409) (b:=b) rfl rfl rfl) ?_;refine bc (kU (fs:=jS.take 1) rfl underlying87 underlying3 rfl rfl rfl rfl (.inr rfl)) ?_;refine bc (j' (m:=1409) (b:=b) rfl rfl rfl) ?_;refine bc (kU (fs:=jS.take 2) rfl underlying87 underlying3 rfl rfl rfl rfl (.inr rfl)) ?_;refine bc (j' (m:=1409) (b:=b) rfl rfl rfl) ?_;refine bc (kU (fs:=jS.take 3) rfl underlying87 underlying3 rfl rfl rfl rfl (.inr rfl)) ?_;refine bc (j' (m:=1409) (b:=b) rfl rfl rfl) ?_;refine bc (kU (fs:=jS.take 4) rfl underlying87 underlying3 rfl rfl rfl rfl (.inr rfl)) ?_;refine bc (j' (m:=1409) (b:=b) rfl rfl rfl) ?_;refine bc (kU (fs:=jS.take 5) rfl underlying87 underlying3 rfl rfl rfl rfl (.inr rfl)) ?_;refine bc (j' (m:=1409) (b:=b) rfl rfl rfl) ?_;refine bc (kU (fs:=jS.take 6) rfl underlying87 underlying3 rfl rfl rfl rfl (.inr rfl)) ?_;refine bc (j' (m:=1409) (b:=b) rfl rfl rfl) ?_;refine bc (kU (fs:=jS.take 7) rfl underlying87 underlying3 rfl rfl rfl rfl (.inr rfl)) ?_;refine bc (j' (m:=1409) (b:=b) rfl rfl rfl) ?_;refine bc (kU (fs:=jS.take 8) rfl underlying87 underlying3 rfl rfl rfl rfl (.inr rfl)) ?_;refine bc (j' (m:=1409) (b:=b) rfl rfl rfl) ?_;refine bc (kU (fs:=jS.take 9) rfl underlying87 underlying3 rfl rfl rfl rfl (.inr rfl)) ?_;refine bc (j' (m:=1409) (b:=b) rfl rfl rfl) ?_;refine bc (kU (fs:=jS.take 10) rfl underlying87 underlying3 rfl rfl rfl rfl (.inr rfl)) ?_;refine bc (j' (m:=1409) (b:=b) rfl rfl rfl) ?_;refine bc (kU (fs:=jS.take 11) rfl underlying87 underlying3 rfl rfl rfl rfl (.inr rfl)) ?_;refine bc (apK fa (fs:=jS) rfl underlying87 underlying3 rfl rfl rfl rfl hf Z) ?_;exact bw.iJ fa aD4 ⟨_,_,_,fun g=>_,fun g=>_,cC.mk (m:=1409) (b:=b) J rfl (fun _=>rfl),aD,rfl,fun _=>rfl,fun x=>⟨x,_,_,_,bt,rfl,rfl,aD,rfl⟩⟩
end
section
def cC.IP {P:aH6} {f:aI5} {args:List aS} {aJ:aA} {bb:aH0} {X:Type} {res:X->aS} {aT oF:X->aA} (h:cC P f args aJ bb res aT) (G: ∀g c,aj (oF g) c=aj (aT g) c):cC P f args aJ bb res oF:=by unfold cC at h⊢;simpa only[G] using h
structure tG (s:dL):Prop where
 b:s.b.length<=1000000
 nm:s.nm.length<=1000000
 l:s.l<=9223372036854775807
 ks:s.ks.length<=1073741824
 apX: ∀k∈s.ks,(mO k).length<=1073741824
inductive gX (w:bR) (s:dL):Int->bR->Prop where
 |H7 (h:s.kd < 0\/12<=s.kd):gX w s 1 w
 |write (h:s.kd=0):gX w s (fq w.z w.L w.aP s.a s.b).e (ed w s.a ((s.b.length:Int)/16) (fq w.z w.L w.aP s.a s.b))
 |zero (h:s.kd=1):gX w s (i4 w.z w.L w.aP s.a s.l).e (ed w s.a s.l (i4 w.z w.L w.aP s.a s.l))
 |Ye (h:s.kd=2) (ay:wk w.bH=true):gX w s 143 w
 |B7 (h:s.kd=2) (ay:wk w.bH=false):gX w s (h1 w.L w.aP s.a s.l).e (ed w s.a s.l (h1 w.L w.aP s.a s.l))
 |busy (h:s.kd=3\/(5<=s.kd/\s.kd<=7)) (V:pL w.bH=false):gX w s 143 w
 |over (h:s.kd=3) (V:w.bH= .no) {e:Int} {w':bR} (ax:X3 w s e w'):gX w s e w'
 |dQ (h:s.kd=4) (l':aH7) (ax:(oH ((ei w*2 ^w.z:Nat):Int) s.a=true/\E0 w.ds s.nm true true ((ei w*2 ^w.z:Nat):Int) s.a [] l')\/(oH ((ei w*2 ^w.z:Nat):Int) s.a=false/\l'=w.ds)):gX w s (IY w s) {w with ds:=l'}
 |merge (h:s.kd=5) (V:w.bH= .no) {e:Int} {w':bR} (ax:X4 w e w'):gX w s e w'
 |pull (h:s.kd=6) (V:w.bH= .no) {e:Int} {w':bR} (ax:X5 w s e w'):gX w s e w'
 |push (h:s.kd=7) (V:w.bH= .no) {e:Int} {w':bR} (ax:IZ w s e w'):gX w s e w'
 |Bz (h:s.kd=8) (V:w.bH= .no):gX w s 1 w
 |zK (h:s.kd=8) {top base:aG9} {l:aH0} (V:w.bH= .dq top base l false):gX w s (ft w.z w.L top base l false).e {w with L:=(ft w.z w.L top base l false).L,bH:=if(ft w.z w.L top base l false).over=true then .no else .dq top base (ft w.z w.L top base l false).l (ft w.z w.L top base l false).over}
 |zL (h:s.kd=8) {top base:aG9} (V:w.bH= .pl top base false):gX w s (h4 w.z w.L top base false).e {w with L:=(h4 w.z w.L top base false).L,bH:=if(h4 w.z w.L top base false).over=true then .no else .pl top base (h4 w.z w.L top base false).over}
 |ws (h:s.kd=8) {nm:aG9} {n rm:Int} {l:aH0} {g:aH3} (V:w.bH= .pu nm n rm l g false false) {e:Int} {w':bR} (ax:E3 w nm n rm l g e w'):gX w s e w'
 |Yf (h:s.kd=9) (V:w.bH= .no):gX w s 1 w
 |I4 (h:s.kd=9) (V:pL w.bH=false):gX w s 0 {w with bH:=.no}
 |n2 (h:s.kd=10) (t:I2 w.ds):gX w s 0 (I3 w t)
 |drop (h:s.kd=11) {e:Int} {w':bR} (ax:X9 w s e w'):gX w s e w'
def cC.l1 {P:aH6} {f:aI5} {args:List aS} {aJ:aA} {bb:aH0} {bp E5:Int->bR->Prop} (h:cC P f args aJ bb (X:=nC bp) (fun p=>ab p.1.1) (fun p=>cV p.1.2)) (gA: ∀e w',bp e w'->E5 e w'):cC P f args aJ bb (X:=nC E5) (fun p=>ab p.1.1) (fun p=>cV p.1.2):=
 h.to (fun p=>⟨p.1,gA _ _ p.2⟩) (fun _=>rfl) (fun _=>rfl)
def Fn.l1 {P:aH6} {f:aI5} {args:List aS} {aJ:aA} {bb:aH0} {E5:Int->bR->Prop} {e:Int} {w':bR} (h:Fn P f args aJ bb (ab e) (cV w')) (gA:E5 e w'):cC P f args aJ bb (X:=nC E5) (fun p=>ab p.1.1) (fun p=>cV p.1.2):=
 h.x.to (fun _=>⟨(e,w'),gA⟩) (fun _=>rfl) (fun _=>rfl)
def uI {j:ln} (h:pL j=true):j= .no:=by
 cases j with
 |no=>rfl
 |_=>cases h
def Pd (w:bR) (aq:eO w) (s:dL) (au:tG s):cC prog 12 [ap 1401,iF s] (cV w) [] (X:=nC (gX w s)) (fun p=>ab p.1.1) (fun p=>cV p.1.2):=by
 by_cases O:s.kd < 0\/12<=s.kd
 .exact(apW w s O).l1 (.H7 O)
 have J:s.kd=0\/s.kd=1\/s.kd=2\/s.kd=3\/s.kd=4\/s.kd=5\/s.kd=6\/s.kd=7\/s.kd=8\/s.kd=9\/s.kd=10\/s.kd=11:=aD9
 rcases J with h |h |h |h |h |h |h |h |h |h |h |h
 .exact sw w s (k:=0) h rfl ((apb w aq s au.b).l1 (.write h))
 .exact sw w s (k:=1) h rfl ((apc w aq s au.l).l1 (.zero h))
 .refine sw w s (k:=2) h rfl ?_
  cases ay:wk w.bH with
  |true=>exact(X1 w aq s au.l ⟨143,w.L⟩ (by rw[ay];rfl) w (by rw[ay];rfl)).l1 (.Ye h ay)
  |false=>exact(X1 w aq s au.l (h1 w.L w.aP s.a s.l) (by rw[ay];rfl) _ (by rw[ay];rfl)).l1 (.B7 h ay)
 .refine sw w s (k:=3) h rfl ?_
  cases V:pL w.bH with
  |false=>exact(ape w s V).l1 (.busy (.inl h) V)
  |true=>exact(apf w aq s (uI V) au.nm).l1 fun e w' ax=>.over h (uI V) ax
 .refine sw w s (k:=4) h rfl ?_
  exact((apm w aq s au.nm).aoP.IP (oF:=fun g=>cV {w with ds:=g.1}) fun g c=>by
   simp only[ci]
   by_cases E:1001=c
   .subst E;rfl
   .rw[mu E,mu E]).to (fun g=>⟨(_,_),.dQ h g.1 g.2⟩) (fun _=>rfl) (fun _=>rfl)
 .refine sw w s (k:=5) h rfl ?_
  cases V:pL w.bH with
  |false=>exact(apg w s V).l1 (.busy (.inr aD1) V)
  |true=>exact(apj w aq s (uI V)).l1 fun e w' ax=>.merge h (uI V) ax
 .refine sw w s (k:=6) h rfl ?_
  cases V:pL w.bH with
  |false=>exact(aph w s V).l1 (.busy (.inr aD1) V)
  |true=>exact(apk w aq s (uI V)).l1 fun e w' ax=>.pull h (uI V) ax
 .refine sw w s (k:=7) h rfl ?_
  cases V:pL w.bH with
  |false=>exact(api w s V).l1 (.busy (.inr aD1) V)
  |true=>exact(apw w aq s (uI V) au.nm).l1 fun e w' ax=>.push h (uI V) ax
 .refine sw w s (k:=8) h rfl ?_;have f2:=aq.bH
  cases V:w.bH with
  |no=>exact(apS w s V).l1 (.Bz h V)
  |dq top base l over=>
   rw[V] at f2;obtain⟨rfl,rfl,a1⟩:=f2;exact(apP w V a1 s).l1 (.zK h V)
  |pl top base over=>
   rw[V] at f2;obtain⟨rfl,rfl⟩:=f2;obtain⟨d,H⟩:=av9.1 aq.kd;exact(apQ w V aq.cs H s).l1 (.zL h V)
  |pu nm n rm l g over done=>
   rw[V] at f2;obtain⟨rfl,rfl,rfl,_,ae⟩:=f2;exact(apR w aq.tol0 V ae (aq.sc (by rw[V];rfl)) s).l1 fun e w' ax=>.ws h V ax
 .refine sw w s (k:=9) h rfl ?_
  cases V:pL w.bH with
  |false=>exact(apO w s V).l1 (.I4 h V)
  |true=>exact(apN w s (uI V)).l1 (.Yf h (uI V))
 .exact sw w s (k:=10) h rfl ((apV w aq s au.ks au.apX).to (fun t=>⟨(0,I3 w t),.n2 h t⟩) (fun _=>rfl) (fun _=>rfl))
 .exact sw w s (k:=11) h rfl ((app w aq s).l1 fun e w' ax=>.drop h ax)
end
section
def Yg (es:aH1) (f k:Int): ∀n:Nat,i9 (qS es f n) k=if f<=k/\k < f+(n:Int) then true else i9 es k
 |0=>by
  rw[mu aD1];rfl
 |n+1=>by
  have bn:=Yg es f k n;have h:=yv (aI:=ai) (aK:=ai) qK (f+(n:Int)) (1:Int) (qS es f n);show yN ((b0 (aI:=ai) (aK:=ai) (dx (aI:=ai) (aK:=ai) (qS es f n) (f+(n:Int)) (1:Int)) k).getD (cR ai))=_
  by_cases e:k=f+(n:Int)
  .rw[e,h.1,vj aD1];rfl
  .rw[h.2 k e];refine bn.trans ?_
   by_cases G:f<=k/\k < f+n
   .rw[vj G,vj aD1]
   .rw[mu G,mu aD1]
def Yh {es:aH1} (U:fg es) (f k:Int): ∀n:Nat,i9 (vH es f n) k=if f<=k/\k < f+(n:Int) then false else i9 es k
 |0=>by
  rw[mu aD1];rfl
 |n+1=>by
  have bn:=Yh U f k n;have h:=Dj (aI:=ai) (aK:=ai) qK (f+(n:Int)) (vH es f n) (HS U f n);show yN ((b0 (aI:=ai) (aK:=ai) (g0 (aI:=ai) (aK:=ai) (vH es f n) (f+(n:Int))) k).getD (cR ai))=_
  by_cases e:k=f+(n:Int)
  .rw[e,h.1,vj aD1];rfl
  .rw[h.2 k e];refine bn.trans ?_
   by_cases G:f<=k/\k < f+n
   .rw[vj G,vj aD1]
   .rw[mu G,mu aD1]
def kT.set {s g:Int} {es:aH1} (h:kT s g es) (au:0<=s/\s<=4096) (aU:1<=g/\g<=64) (fr bJ:Int):kT s g (la s g es fr bJ):=fun aB aN=>by
 by_cases az:qT s fr bJ
 .have e:la s g es fr bJ=qS es (fr/g) ((if bJ=0 then 0 else(fr+bJ+g - 1)/g) - fr/g).toNat:=vj az;obtain⟨k0,v2,v3,v4⟩:=az;have c1:0<=fr/g:=aC7 v2 aD1
  have gy:(if bJ=0 then 0 else(fr+bJ+g - 1)/g)<=mL s g:=by
   split
   .exact(y0 au aU).1
   .exact aC9 aD1 aD1
  have aw:=(y0 au aU).1;rw[e,Yg] at aN;generalize(if bJ=0 then 0 else(fr+bJ+g - 1)/g)=q at aN gy
  split at aN
  .omega
  .exact h aB aN
 .have e:la s g es fr bJ=es:=mu az;rw[e] at aN;exact h aB aN
def kT.Yi {s g:Int} {es:aH1} (h:kT s g es) (U:fg es):kT s g (DV s g es):=fun aB aN=>by
 unfold DV at aN;rw[Yh U] at aN
 split at aN
 .cases aN
 .exact h aB aN
def kT.nr {s g:Int} {es:aH1} (h:kT s g es) (au:0<=s/\s<=4096) (aU:1<=g/\g<=64) (l:aI4):kT s g (l.foldl (tc s g) es):=by
 induction l generalizing es with
 |nil=>exact h
 |cons x l bn=>
  refine bn ?_;unfold tc
  split
  .exact h.set au aU _ _
  .exact h
def kT.dq {s g:Int} {es:aH1} (h:kT s g es) (au:0<=s/\s<=4096) (aU:1<=g/\g<=64) (row:aI4):kT s g (td s g es row):=kT.nr h au aU _
def kT.nil (s g:Int):kT s g []:=fun aB aN=>by cases aN
def v7.of {e b9:bf} (h:v7 e) (E:b9.s=e.s) (G:b9.g=e.g) (ah:b9.nm=e.nm) (aW:kT e.s e.g b9.es):v7 b9:=⟨by rw[E,G];exact h.ok,by rw[E,G];exact aW,by rw[ah];exact h.nm⟩
def v7.wr {e:bf} (h:v7 e) (au:0<=e.s/\e.s<=4096) (aU:1<=e.g/\e.g<=64) (a aO:Int):v7 (kh a aO e):=h.of rfl rfl rfl (by
 show kT e.s e.g (if e.on=true then la e.s e.g e.es a aO else e.es)
 split
 .exact h.gi.set au aU a aO
 .exact h.gi)
def Pe {z:Nat} {L:aH2} {nm:aG9} {rm a aO:Int}: ∀(ks l:aH0) (g:aH3),(i7 z L nm rm a aO ks l g).e=0->(i7 z L nm rm a aO ks l g).over=false
 | [],l,g=>fun _=>rfl
 |k::ks,l,g=>by
  unfold i7
  split
  .exact Pe ks l g
  .split
   .exact Pe ks _ _
   .rename_i h;exact fun G=>as3 G h
def Yj {z:Nat} {L:aH2} {nm:aG9} {rm a aO:Int} {l:aH0} {g:aH3} (h:(f' z L nm rm a aO l g false).e=0):(f' z L nm rm a aO l g false).over=false:=by
 unfold f' at h⊢;rw[mu aD2] at h⊢
 split at h
 .rename_i J;rw[vj J]
 .rename_i J;rw[mu J];exact Pe _ _ _ h
def apY {z R:Nat} {L:aH2} {aP:aG9} {j:ln} (h:xJ z R L aP j) (a aO:Int):xJ z R L aP (nB z L a aO j):=by
 cases j with
 |pu nm n rm l g over done=>
  obtain⟨rfl,rfl,rfl,E,G⟩:=h;unfold nB;simp only
  split
  .rename_i U;exact⟨rfl,Yj U,rfl,E,G.HP rm a aO false⟩
  .trivial
 |_=>exact h
def xJ.sd {z R:Nat} {L L':aH2} {aP t:aG9} {j:ln} (h:xJ z R L aP j) (ak:i5 L t L'):xJ z R L' aP j:=by
 cases j with
 |no=>trivial
 |dq top base l over=>exact⟨h.1,h.2.1,h.2.2.sd ak⟩
 |pl top base over=>exact h
 |pu nm n rm l g over done=>exact⟨h.1,h.2.1,h.2.2.1,by rw[(ak.aR aP).1];exact h.2.2.2.1,h.2.2.2.2.sd ak⟩
def apZ {z R:Nat} {L:aH2} {aP:aG9} {j:ln} (h:xJ z R L aP j) (a aO:Int):xJ z R L aP (B1 z L a aO j):=by
 cases j with
 |dq top base l over=>exact⟨h.1,h.2.1,h.2.2.wr over a aO⟩
 |_=>exact h
def eO.o2 {w:bR} (aq:eO w) (a aO:Int) (r:mK) (ak:i5 w.L w.aP r.L):eO (ed w a aO r):=by
 have aN:=ak.aR w.aP;have V:=(apY aq.bH a aO).sd ak;have Z:=aq.kd;have ae: ∀j,ss (B1 w.z r.L a aO j)=ss j:=fun j=>by cases j <;>rfl
 have aQ: ∀j,ss (nB w.z w.L a aO j)=true->ss j=true:=fun j h=>by
  cases j with
  |pu=>rfl
  |_=>exact h
 unfold ed
 split
 .refine⟨⟨ak.cs aq.cs,by rw[<-aN.2] at Z;exact Z,(XI a aO).map aq.ds,fun e U=>?_,aq.q,aq.ob,fun p ae=>?_⟩,apZ V a aO,fun h=>aq.sc (aQ _ ((ae _).symm.trans h))⟩
  .obtain⟨bK,aw,rfl⟩:=av0.1 U;obtain⟨fH,g5,_⟩:=aq.ds.ok bK aw;obtain⟨c0,d5⟩:=aq.ef bK aw;exact⟨c0.wr fH g5 a aO,by show bK.s=((b6 r.L w.aP*2 ^w.z:Nat):Int);rw[aN.1];exact d5⟩
  .have ae:EZ a aO (nB w.z w.L a aO w.bH) w.bu.dZ=some p:=ae;show p.2.1=((b6 r.L w.aP*2 ^w.z:Nat):Int)/\_;rw[aN.1];unfold EZ at ae
   split at ae
   .exact aq.dZ p ae
   .obtain⟨q,aQ,rfl⟩:=aw3.1 ae;obtain⟨jc,bF,u0⟩:=aq.dZ q aQ;exact⟨jc,bF,Nq u0 _ _⟩
 .refine⟨⟨ak.cs aq.cs,by rw[<-aN.2] at Z;exact Z,aq.ds,fun e U=>?_,aq.q,aq.ob,fun p ae=>?_⟩,V,fun h=>aq.sc (aQ _ h)⟩
  .show _/\e.s=((b6 r.L w.aP*2 ^w.z:Nat):Int);rw[aN.1];exact aq.ef e U
  .show p.2.1=((b6 r.L w.aP*2 ^w.z:Nat):Int)/\_;rw[aN.1];exact aq.dZ p ae
end
section
def wt {w:bR} (h:l0 w) {L':aH2} {t:aG9} (J:cb w.z w.R L') (Z:(dk L' t).isSome=true) (aN:b6 L' t=b6 w.L w.aP) (b:Nat) (j:ln):l0 {w with L:=L',aP:=t,b:=b,bH:=j}:=
 ⟨J,Z,h.ds,fun e U=>⟨(h.ef e U).1,by rw[aN];exact(h.ef e U).2⟩,h.q,h.ob,fun p ae=>by
  obtain⟨jc,bF⟩:=h.dZ p ae;exact⟨by rw[aN];exact jc,bF⟩⟩
def Yk {z R:Nat} {L:aH2} (h:cb z R L) (top base:aG9) (over:Bool):cb z R (h4 z L top base over).L/\ ∀n,b6 (h4 z L top base over).L n=b6 L n/\(dk (h4 z L top base over).L n).isSome=(dk L n).isSome:=by
 unfold h4
 split
 .exact⟨h,fun _=>⟨rfl,rfl⟩⟩
 .cases oK L top base with
  |some k=>exact⟨(vK h _ _ _).cs h,fun n=>(vK h _ _ _).aR n⟩
  |none=>
   refine⟨Mw h top base,fun n=>?_⟩;show b6 (ip L top base).L n=_/\_;unfold ip
   split
   .exact⟨rfl,rfl⟩
   .split
    .exact⟨rfl,rfl⟩
    .split
     .unfold b6;rw[mJ]
      cases dk L n with
      |none=>exact⟨rfl,rfl⟩
      |some d=>
       show(e2 top base d).im.t.length=d.im.t.length/\_;unfold e2
       split <;>exact⟨rfl,rfl⟩
     .exact⟨rfl,rfl⟩
def Yl {z R:Nat} {L:aH2} (h:cb z R L) (top base:aG9) (l:aH0) (over:Bool): ∃t,i5 L t (ft z L top base l over).L:=by
 unfold ft
 split
 .exact⟨top,.inl rfl⟩
 .split
  .exact⟨top,tg h _ _ _⟩
  .exact⟨base,Ed h _ _ _⟩
def mT.xL {es:gx} {M:ey} {Q Q':aH9} (h:mT es M Q) {b:Nat} (O:b∉M.map (·.1)):mT (o0 es Q' b) ((b,o1 Q' b)::M) (if pM Q'=0 then Q' else Q):=h.ao' O
def l0.xL {w w':bR} (h:l0 w) {Q:aH9} (aQ:rn Q) {e:Int} (J:wl w Q e w'):l0 w':=by
 obtain⟨_,b,O,⟨U,lb,rfl⟩ |⟨U,rfl⟩⟩:=J
 .have:=h.ob.xL (Q':=Q) O;rw[vj U] at this;generalize o0 w.es Q b=F at this⊢;generalize o1 Q b=S at this⊢;exact⟨h.cs,h.kd,h.ds,h.ef,aQ,this,h.dZ⟩
 .have:=h.ob.xL (Q':=Q) O;rw[mu U] at this;generalize o0 w.es Q b=F at this⊢;generalize o1 Q b=S at this⊢;exact⟨h.cs,h.kd,h.ds,h.ef,h.q,this,h.dZ⟩
def rn.ap0 {Q:aH9} (h:rn Q) (nm:aG9):rn (q5 Q nm):=⟨V2 h.tolV nm,h.IV.drop nm⟩
def rn.Ym {Q:aH9} (h:rn Q) (b:bQ):rn (e3 Q b):=⟨h.tolV.add b,h.IV.add b⟩
def Yn {l l':aH7} (h:l'.map pI=(h5 l).map q') {e:bf} (U:e∈l'): ∃bK,bK∈l/\pI e=q' bK:=by have:pI e∈l'.map pI:=au0 U;rw[h] at this;obtain⟨bK,aw,E⟩:=av0.1 this;exact⟨bK,Is aw,E.symm⟩
def l0.n2 {w:bR} (h:l0 w) (t:I2 w.ds):l0 (I3 w t):=by obtain⟨db,lb,l',H,ae⟩:=t;refine⟨h.cs,h.kd,H,fun e U=>?_,h.q,h.ob,h.dZ⟩;obtain⟨bK,aw,E⟩:=Yn ae U;obtain⟨c0,d5⟩:=h.ef bK aw;obtain⟨fH,g5,_⟩:=h.ds.ok bK aw;unfold pI q' at E;simp only[ay8] at E;obtain⟨cB,_,_,cH,dO,fy⟩:=E;refine⟨c0.of cH dO cB fun aB aN=>?_,by rw[cH];exact d5⟩;rw[fy,WE fH g5 c0.gi] at aN;exact c0.gi aB aN
def eO.no {w:bR} (h:l0 w) (V:w.bH= .no):eO w:=⟨h,by rw[V];trivial,fun ae=>by rw[V] at ae;cases ae⟩
def Yo {l:aH7} {nm:aG9} {e:bf} (h:e∈lh l nm):e∈l:=(BH l nm).subset h
def l0.gq {w w':bR} (h:l0 w) {g:aH3} {e:Int} (ax:wq w g e w'):l0 w':=by
 have ay:l0 {w with bu:=qr w.bu g}:=⟨h.cs,h.kd,h.ds,h.ef,h.q,h.ob,h.dZ⟩;rcases ax with⟨_,_,rfl⟩ |⟨_,fb,G,⟨_,rfl⟩ |⟨_,jC,bF,g2,de,x,a,b,au,Z,H,rfl⟩⟩
 .exact ay
 .exact ay.xL (h.q.Ym _) G
 .have ah:=zI G;have hw:=ay.xL (h.q.Ym _) G;rw[ah] at hw⊢;refine⟨hw.cs,hw.kd,H,fun e U=>?_,hw.q,hw.ob,hw.dZ⟩;obtain⟨hx,_⟩:=ke Z;obtain⟨B0,EY⟩:=h.ef x hx;obtain⟨fH,g5,nl,_⟩:=h.ds.ok x hx;unfold zG kP at U;obtain⟨bK,aw,rfl⟩:=av0.1 U
  have E:v7 bK/\bK.s=((b6 w.L w.aP*2 ^w.z:Nat):Int):=by
   rcases au4.1 aw with aw |aw
   .obtain⟨af,E,rfl⟩:=av0.1 (Yo aw);obtain⟨vi,wQ⟩:=h.ef af E;obtain⟨k2,rA,z3,_⟩:=h.ds.ok af E
    split
    .exact⟨vi.of rfl rfl rfl (vi.gi.Yi z3),wQ⟩
    .exact⟨vi,wQ⟩
   .obtain rfl:=at7.1 aw;refine⟨B0.of rfl rfl (ke Z).2.symm ((B0.gi.Yi nl).dq fH g5 _),EY⟩
  split
  .exact⟨E.1.of rfl rfl rfl E.1.gi,E.2⟩
  .exact E
def B8 {z R:Nat} {L:aH2} {nm:aG9} {size:Int} {back:aG9} {p:aJ5}:((h2 z R L nm size back p).e=0->dk L nm=none/\hg nm=true/\(h2 z R L nm size back p).L=lc L nm back p.1 p.2 (gC z size.toNat R))/\((h2 z R L nm size back p).e≠0->(h2 z R L nm size back p).L=L):=by
 unfold h2
 split
 .exact⟨fun h=>as3 h (show¬(1:Int)=0 by decide),fun _=>rfl⟩
 .rename_i aw
  split
  .exact⟨fun h=>as3 h (show¬(143:Int)=0 by decide),fun _=>rfl⟩
  .rename_i E
   split
   .exact⟨fun h=>as3 h (show¬(140:Int)=0 by decide),fun _=>rfl⟩
   .split
    .exact⟨fun h=>as3 h (show¬(142:Int)=0 by decide),fun _=>rfl⟩
    .refine⟨fun _=>⟨?_,?_,rfl⟩,fun h=>as3 rfl h⟩
     .cases H:dk L nm with
      |none=>rfl
      |some d=>exact as3 (.inl (by rw[H];rfl)) E
     .cases hn:hg nm with
      |true=>rfl
      |false=>exact as3 (by rw[hn];rfl) aw
def ap1:fg ([]:aH1):=by first |exact trivial |exact List.Pairwise.nil |exact ay9
def Yp {w:bR} {s:dL} (h:pN w s=false):hg s.nm=true:=by
 unfold pN at h
 cases hn:hg s.nm with
 |true=>rfl
 |false=>rw[hn] at h;cases h
def gk.Yq {z R:Nat} {L:aH2} {nm:aG9} (h:cb z R L) (Z:(dk L nm).isSome=true) (f:Nat->Bool):gk z R L nm (hI f z (b6 L nm*2 ^z)) []:=
 ⟨h,Z,Ei f z _ _ (as2 _),Nl f z _,fun p ae=>(by cases ae),ay9,fun k _ h=>aE1⟩
def eO.step {w w':bR} (aq:eO w) {s:dL} {e:Int} (ax:gX w s e w'):eO w':=by
 cases ax with
 |H7 h=>exact aq
 |write h=>exact aq.o2 _ _ _ (vK aq.cs _ _ _)
 |zero h=>exact aq.o2 _ _ _ (Br aq.cs _ _ _)
 |Ye h ay=>exact aq
 |B7 h ay=>exact aq.o2 _ _ _ (tg aq.cs _ _ _)
 |busy h V=>exact aq
 |over h V ax=>
  obtain⟨p,ew,U,⟨aw,rfl⟩ |⟨aw,rfl⟩⟩:=ax
  .obtain⟨b4,_,cf⟩:=B8.1 (U.symm.trans aw);rw[cf] at ew⊢;have H:=yX (L:=w.L) (nm:=s.nm) (back:=w.aP) (ad:=p.1) (am:=p.2) (im:=gC w.z ((ei w:Nat):Int).toNat w.R) s.nm;rw[b4,vj rfl] at H;refine eO.no (wt aq.tol0 ew (by rw[H];rfl) ?_ w.b w.bH) V;unfold b6;rw[H];exact at5
  .rw[B8.2 (fun h=>aw (U.trans h))];exact aq
 |dQ h l' ax=>
  rcases ax with⟨O,H,⟨_,hn,_,_,a,b,rfl⟩ |⟨_,rfl⟩⟩ |⟨_,rfl⟩
  .refine⟨⟨aq.cs,aq.kd,H,fun e U=>?_,aq.q,aq.ob,aq.dZ⟩,aq.bH,aq.sc⟩;rcases au4.1 U with U |U
   .exact aq.ef e U
   .obtain rfl:=at7.1 U;exact⟨⟨O,kT.nil _ _,hn⟩,rfl⟩
  .exact aq
  .exact aq
 |merge h V ax=>
  obtain⟨U,⟨aw,b,rfl⟩ |⟨_,rfl⟩⟩:=ax
  .exact⟨wt aq.tol0 aq.cs aq.kd rfl _ _,⟨rfl,rfl,lU.BA aq.cs (by rw[<-U];exact aw)⟩,fun ae=>by cases ae⟩
  .exact aq
 |pull h V ax=>
  obtain⟨U,⟨aw,b,rfl⟩ |⟨_,rfl⟩⟩:=ax
  .exact⟨wt aq.tol0 aq.cs aq.kd rfl _ _,⟨rfl,rfl⟩,fun ae=>by cases ae⟩
  .exact aq
 |push h V ax=>
  rcases ax with⟨_,_,rfl⟩ |⟨hn,⟨_,⟨_,_,rfl⟩ |⟨_,_,b,rfl⟩⟩ |⟨_,_,_,rfl⟩ |⟨_,x,hx,⟨_,_,rfl⟩ |⟨_,⟨_,_,rfl⟩ |⟨_,_,b,jC,rfl⟩⟩⟩⟩
  .exact aq
  .exact aq
  .exact⟨⟨aq.cs,aq.kd,aq.ds,aq.ef,aq.q,aq.ob,fun p ae=>by cases ae⟩,⟨rfl,rfl,rfl,rfl,gk.Yq aq.cs aq.kd _⟩,fun _=>Yp hn⟩
  .exact aq
  .exact aq
  .exact aq
  .exact⟨⟨aq.cs,aq.kd,aq.ds,aq.ef,aq.q,aq.ob,fun p ae=>by cases ae;exact⟨rfl,rfl,ap1⟩⟩,⟨rfl,rfl,rfl,rfl,gk.Yq aq.cs aq.kd _⟩,fun _=>Yp hn⟩
 |Bz h V=>exact aq
 | @zK h top base l V=>
  have f2:=aq.bH;rw[V] at f2;obtain⟨rfl,_,a1⟩:=f2;obtain⟨t,ak⟩:=Yl aq.cs w.aP base l false;have al:=a1.step base false;have dd:=fun j=>wt aq.tol0 al.cs al.iM (ak.aR w.aP).1 w.b j
  split
  .exact eO.no (dd _) rfl
  .rename_i ag;exact⟨dd _,⟨rfl,az6.2 ag,al⟩,fun ae=>by cases ae⟩
 | @zL h top base V=>
  have f2:=aq.bH;rw[V] at f2;obtain⟨rfl,_⟩:=f2;obtain⟨J,aN⟩:=Yk aq.cs w.aP base false;have dd:=fun j=>wt aq.tol0 J (by rw[(aN w.aP).2];exact aq.kd) (aN w.aP).1 w.b j
  split
  .exact eO.no (dd _) rfl
  .rename_i ag;exact⟨dd _,⟨rfl,az6.2 ag⟩,fun ae=>by cases ae⟩
 | @ws h nm n rm l g V e w' ax=>
  have f2:=aq.bH;rw[V] at f2;obtain⟨rfl,_,_,hn,bl⟩:=f2;rcases ax with⟨rfl,t,ax,rfl⟩ |⟨ak,rfl,rfl⟩
  .have aw:l0 {w with bH:=.pu w.aP n rm [] g true true}:=wt aq.tol0 aq.cs aq.kd rfl w.b _;have E:=aw.gq ax;exact eO.no ⟨E.cs,E.kd,E.ds,E.ef,E.q,E.ob,E.dZ⟩ rfl
  .have ae:=bl.Em rm (D' ak).2.1
   split
   .exact eO.no (wt aq.tol0 aq.cs aq.kd rfl w.b _) rfl
   .exact⟨wt aq.tol0 aq.cs aq.kd rfl w.b _,⟨rfl,rfl,rfl,hn,ae⟩,fun _=>aq.sc (by rw[V];rfl)⟩
 |Yf h V=>exact aq
 |I4 h V=>exact eO.no (wt aq.tol0 aq.cs aq.kd rfl _ _) rfl
 |n2 h t=>exact eO.no (aq.tol0.n2 t) rfl
 |drop h ax=>
  rcases ax with⟨_,_,rfl⟩ |⟨_,J⟩
  .exact aq
  .have ah:=zI J;have hw:=aq.tol0.xL (aq.q.ap0 _) J;rw[ah] at hw⊢;exact⟨hw,aq.bH,aq.sc⟩
end
section
abbrev fu:aG9:=[100,105,115,107]
abbrev Yr:Made:=⟨(([]:aG9),([]:aG9),(0:Int),(0:Int),([]:List jz)),[],none⟩
abbrev tH (z R:Nat) (size:Int) (p:aJ5):List aL:=(h2 z R [] fu size [] p).L
abbrev ap2 (z R:Nat) (L:aH2):aA:=
 [(1401,.cells [.d (.int .i64 z),.d (.str fu),.ptr 1001 0,.ptr 4001 0,.ptr 1201 0,.ptr 3001 0,.d (.int .i64 0),.bN .nilIface,.bN (.pointer none),.bN (.pointer none),.d (.str []),.d (.str []),.d (.int .i64 0),.d (.int .i64 0),.d (.bG oQ []),.d (.str []),.bN (.pointer none)]),
  oZ z R L,qp [] [],(4001,.aH (so [])),(3001,.aH (sq []))]
def Ys (z R:Nat) (size:Int) (E:kN z 0 R=true) (G:kN z size R=true):
  cC prog 9 [ab (z:Int),ab size,ab (R:Int)] [] [1001,1201,1401,3001,4001] (X:={p:Nat×Nat//cb z R (tH z R size p)}) (fun _=>.cn [.one (.ptr 1401 0),dJ 0]) (fun p=>ap2 z R (tH z R size p.1)):=by
 have ay:=G;simp only[kN,as1,av6] at ay;have ew:cb z R []:=cb.nil aD1 aD1
 have U:(h2 z R [] fu size [] (0,0)).e=0:=by
  unfold h2;rw[mu (by rw[G];decide),mu aD2,mu aD2,mu aD2]
 have hn:=SW z R aD1 aD1;have ha:=O0 ew fu size [] aD2;rw[U] at ha;have hf:=anm 4096 aD2;refine hZ [2,4,5] func9 ?_;refine ar hn <| bz [4,5] (ac.close 1001 (bT z R []) (o:=EX z R []) aD rfl fun I F x p h=>h) <| dE <| ar ha <| dE <| bw.ff (dv.jB 1001 rfl) fun p=>bz [5] (bt) <| ar (Fn.aX [(1001,1201),(1002,1202)] hf) <| bz [] (ac.trans (ac.rK 1203 rfl) (ac.close 1201 (n3 1201 1202 1203 4096 [] []) (o:=zC [] []) aD rfl fun I F x p h=>h)) <| ar (Fn.aX [(1001,4001),(1002,4002),(1003,4003),(1004,4004)] Vj) <| ar (Fn.aX [(1001,3001),(1002,3002)] NA) ⟨rfl,?_⟩
 exact⟨p,_,_,_,ac.trans (ac.close 4001 (kK (eM (lL [(1001,4001),(1002,4002),(1003,4003),(1004,4004)] [])) (eJ [])) (o:=so []) aD rfl fun I F x p h=>jJ.aX [(4001,1001),(4002,1002),(4003,1003),(4004,1004)] h)
  (ac.trans (ac.close 3001 (lZ 3001 3002 []) (o:=sq []) aD rfl fun I F x p h=>jJ.aX [(3001,1001),(3002,1002)] h) (ac.trans (ac.aX 36 1401 rfl) (ac.th 1401 (l':=[.d (.int .i64 z),.d (.str fu),.ptr 1001 0,.ptr 4001 0,.ptr 1201 0,.ptr 3001 0,.d (.int .i64 0),.bN .nilIface,.bN (.pointer none),.bN (.pointer none),.d (.str []),.d (.str []),.d (.int .i64 0),.d (.int .i64 0),.d (.bG oQ []),.d (.str []),.bN (.pointer none)]) rfl aD))),rfl,aD,aD,rfl⟩
end
section
def mo (k:mm):Nat:=(mO k).length+(pK k).length
def Pf {α:Type} (f:α->Nat): ∀(l:List α) (k:Nat),((l.take k).map f).sum<=(l.map f).sum
 | [],k=>by simp
 |a::l,0=>by simp
 |a::l,k+1=>by
  simp only[List.take_succ_cons,au1,List.sum_cons];have:=Pf f l k;omega
def Pg {α:Type} (f:α->Nat) {l:List α} {k:Nat} (h:k < l.length):((l.take (k+1)).map f).sum=((l.take k).map f).sum+f l[k]:=by rw[aw6 h,aw2,List.sum_append];simp
end
section
def Yt: ∀b:aG9,f0 (.cc .u8) b=1+b.length
 | []=>rfl
 |x::b=>by
  have h:=Yt b;show 1+(1+(List.map (f0 .u8) b).sum)=_;have h:1+(List.map (f0 .u8) b).sum=1+b.length:=h;rw[h,aw4];omega
def Yu: ∀b:List Int,f0 (.cc ai) b=1+b.length
 | []=>rfl
 |x::b=>by
  have h:=Yu b;show 1+(1+(List.map (f0 ai) b).sum)=_;have h:1+(List.map (f0 ai) b).sum=1+b.length:=h;rw[h,aw4];omega
def ap3 (k:mm):f0 ml k=2+mo k:=by have h:=Yu (mO k);show(1+(pK k).length)+f0 (.cc ai) (mO k)=_;rw[h];unfold mo;omega
def Yv: ∀l:List mm,f0 (.cc ml) l=1+2*l.length+(l.map mo).sum
 | []=>rfl
 |k::l=>by
  have h:=Yv l;show 1+(f0 ml k+(List.map (f0 ml) l).sum)=_;have h:1+(List.map (f0 ml) l).sum=1+2*l.length+(l.map mo).sum:=h;rw[ap3,aw4,au1,List.sum_cons];omega
def Ph {α:Type} {f:α->Nat} {k:α}: ∀{l:List α},k∈l->f k<=(l.map f).sum
 | [],h=>by cases h
 |a::l,h=>by
  rw[au1,List.sum_cons];rcases as8.1 h with rfl |h
  .omega
  .have:=Ph (f:=f) h;omega
def l2 (n:Int):aG9:=UInt8.ofNat n.toNat::List.replicate 15 (0:aJ8)
def Yw (n:Int) (aw:0<=n) (E:n < 256):Fn prog 31 [k0 (.d (.int .u8 n))] [] [] (bP .u8 (l2 n)) []:=by refine aY [] func31 ?_;exact⟨⟨rfl,aD2,aD2⟩,rfl,⟨aD2,aD2⟩,⟨⟨aw,E⟩,aD2⟩,_,_,_,ac.eb 4 rfl,rfl,rfl,trivial,rfl⟩
abbrev hU:bB:=.bU ai (.bU ai (.bU ai (.bU (.cc .u8) (.bU .str (.bU .str (.cc ml))))))
abbrev kj:=aa hU
abbrev co (x:kj):dL:=⟨x.1,x.2.1,x.2.2.1,x.2.2.2.1,x.2.2.2.2.1,x.2.2.2.2.2.1,x.2.2.2.2.2.2⟩
abbrev Pi (s:dL) (v:bE):List bE:=[.d (.int .i64 s.kd),.d (.int .i64 s.a),.d (.int .i64 s.l),.d (.bG .u8 s.b),.d (.str s.nm),.d (.str s.eA),v]
abbrev Yx:List bE:=[.d (.int .i64 0),.d (.int .i64 0),.d (.int .i64 0),.dV,.d (.str []),.d (.str []),.dV]
abbrev Pj (s:dL) (k:Nat):aZ:=[(2,.c (.one (.ptr 2 0))),(3,.c (.one (.ptr 3 0))),(20,bP ml s.ks),(21,ab (s.ks.length:Nat)),(22,ab (k:Nat))]
abbrev Yy (s:dL) (k:Nat) (r:Nat):aA:=[(2,.cells Yx),(3,.cells (Pi s (.own r))),(r,.row 89 ml (s.ks.take k))]
def ap4 (s:dL) (Z:s.ks.length<=1073741824):Fn prog 13 [iF s] [] [] (iF s) []:=by
 refine aY [7] func13 ?_;refine⟨rfl,rfl,rfl,d1 [7] (X:=Nat) (fun k=>Pj s k) (fun k=>Yy s k 2003) (fun k=>k<=s.ks.length) (fun k=>s.ks.length - k) 0 (at2 _) ?_ ?_⟩
 .exact ac.trans (ac.wL 3 6 2003 89 ml rfl rfl rfl) (ac.sub aD aD)
 intro k cu;refine⟨fun J=>?_,fun J=>?_⟩
 .have J:decide ((k:Int) < (s.ks.length:Nat))=true:=J;have eX:k < s.ks.length:=by simpa using J
  refine⟨aD1,s.ks[k],j4 (n:=k) eX,rfl,?_⟩;have O:(s.ks.take k).length+1<=4294967296:=aE8
  refine⟨O,rfl,aD1,k+1,aD1,aD1,ac.trans (ac.sub (K':=Pj s (k+1)) (B':=Yy s (k+1) 30) aD ⟨rfl,rfl,?_,trivial⟩) (ac.aX 30 2003 rfl)⟩;rw[aw6 eX];rfl
 .have J:decide ((k:Int) < (s.ks.length:Nat))=false:=J;have eX:k=s.ks.length:=by simp at J;omega
  subst eX;exact bz [] (ac.trans (ac.sub (K':=Pj s s.ks.length) (B':=[(2,.cells Yx),(3,.cells (Pi s (.own 2003))),(2003,.row 89 ml s.ks)]) aD ⟨rfl,rfl,as5 (fun l=>some (ba.row 89 ml l)) au3,trivial⟩) (ac.eb 2003 rfl)) bh
abbrev zM (x y aB:Int):List bE:=[.d (.int .i64 x),.d (.int .i64 y),.d (.int .i64 aB)]
abbrev Pk (x y aB:Int):aS:=.c (.agg (zM x y aB))
def wu (s:dL):Nat:=s.b.length+s.nm.length+s.eA.length
def mU (s:dL):Nat:=wu s+(s.ks.map mo).sum
def o3 (l:List kj) (k:Nat):Nat:=((l.take k).map fun x=>mU (co x)).sum
def Yz (l:List kj) {k:Nat} (h:k < l.length):o3 l (k+1)=o3 l k+mU (co l[k]):=Pg (fun x=>mU (co x)) h
def tI (y:Int) (l:List kj):Bool:=(decide (l.length<=60)&&decide ((l.map fun x=>mU (co x)).sum<=4000))&&(decide (y<=8)||decide (256 < y))
abbrev ap5 (y:Int) (l:List kj) (k n:Nat):aZ:=[(1,bP hU l),(2,ap 2),(5,ab (n:Nat)),(10,bP hU l),(11,ab (l.length:Nat)),(12,ab (k:Nat))]
abbrev ap6 (y:Int) (l:List kj) (k n:Nat) (s:dL) (j:Nat):aZ:=[(1,bP hU l),(2,ap 2),(5,ab (n:Nat)),(10,bP hU l),(11,ab (l.length:Nat)),(12,ab (k:Nat)),(7,ap 7),(30,bP ml s.ks),(31,ab (s.ks.length:Nat)),(32,ab (j:Nat))]
def ap7 (x y aB:Int) (l:List kj) (ak:l.length<=1073741824) (cm:(l.map fun x=>mU (co x)).sum<=1073741824) (he: ∀o,o∈l->(co o).ks.length<=1073741824):Fn prog 10 [Pk x y aB,bP hU l] [] [] (fX (tI y l)) []:=by
 refine aY [] func10 ?_;refine⟨rfl,d1 [] (X:=Nat) (fun k=>ap5 y l k (o3 l k)) (fun _=>[(2,.cells (zM x y aB))]) (fun k=>k<=l.length) (fun k=>l.length - k) 0 (at2 _) ?_ ?_⟩
 .exact ac.sub aD aD
 intro k Z;refine⟨fun h=>?_,fun h=>?_⟩
 .have cu:k < l.length:=by
   have h:decide ((k:Int) < (l.length:Int))=true:=h;simpa using h
  have I5:=Pf (fun x=>mU (co x)) l (k+1);have I5:o3 l (k+1)<=(l.map fun x=>mU (co x)).sum:=I5;rw[Yz l cu] at I5;refine⟨aD1,l[k],j4 (n:=k) cu,?_⟩;have ap8:=he _ (av2 cu);have kI:=Yz l cu;generalize l[k]=o at I5 ap8 kI;have asa:mU (co o)=wu (co o)+((co o).ks.map mo).sum:=rfl;have asb:wu (co o)=(co o).b.length+(co o).nm.length+(co o).eA.length:=rfl;refine⟨rfl,?_⟩;have cB: -9223372036854775808<=((co o).b.length:Int)+(co o).nm.length/\((co o).b.length:Int)+(co o).nm.length<=9223372036854775807:=aD9
  have cH: -9223372036854775808<=((co o).b.length:Int)+(co o).nm.length+(co o).eA.length/\((co o).b.length:Int)+(co o).nm.length+(co o).eA.length<=9223372036854775807:=aD9
  have dO: -9223372036854775808<=(o3 l k:Int)+(((co o).b.length:Int)+(co o).nm.length+(co o).eA.length)/\(o3 l k:Int)+(((co o).b.length:Int)+(co o).nm.length+(co o).eA.length)<=9223372036854775807:=aD9
  refine⟨cB,cH,dO,d1 [] (X:=Nat) (fun j=>ap6 y l k (o3 l k+wu (co o)+(((co o).ks.take j).map mo).sum) (co o) j) (fun _=>[(2,.cells (zM x y aB)),(7,.cells (IR (co o)))]) (fun j=>j<=(co o).ks.length) (fun j=>(co o).ks.length - j) 0 (at2 _) ?_ ?_⟩
  .have e:(o3 l k:Int)+(((co o).b.length:Int)+(co o).nm.length+(co o).eA.length)=((o3 l k+wu (co o)+(((co o).ks.take 0).map mo).sum:Nat):Int):=by
    rw[List.take_zero,aC3,List.sum_nil];omega
   exact ac.sub ⟨rfl,rfl,e,rfl,rfl,rfl,rfl,rfl,rfl,rfl,trivial⟩ aD
  intro j V;refine⟨fun G=>?_,fun G=>?_⟩
  .have eR:j < (co o).ks.length:=by
    have G:decide ((j:Int) < ((co o).ks.length:Int))=true:=G;simpa using G
   have gc:=Pf mo (co o).ks (j+1);rw[Pg mo eR] at gc;have asc:j < List.length o.2.2.2.2.2.2:=eR;refine⟨aD1,(co o).ks[j],j4 (n:=j) eR,?_⟩;have ao:mo (co o).ks[j]=(mO (co o).ks[j]).length+(pK (co o).ks[j]).length:=rfl;refine⟨rfl,?_⟩;have r1: -9223372036854775808<=((mO (co o).ks[j]).length:Int)+(pK (co o).ks[j]).length/\((mO (co o).ks[j]).length:Int)+(pK (co o).ks[j]).length<=9223372036854775807:=aD9
   have r2: -9223372036854775808<=((o3 l k+wu (co o)+(((co o).ks.take j).map mo).sum:Nat):Int)+(((mO (co o).ks[j]).length:Int)+(pK (co o).ks[j]).length)/\((o3 l k+wu (co o)+(((co o).ks.take j).map mo).sum:Nat):Int)+(((mO (co o).ks[j]).length:Int)+(pK (co o).ks[j]).length)<=9223372036854775807:=aD9
   refine⟨r1,r2,aD1,j+1,aD1,aD1,ac.sub ⟨rfl,rfl,?_,rfl,rfl,rfl,rfl,rfl,rfl,rfl,trivial⟩ aD⟩;show((o3 l k+wu (co o)+(((co o).ks.take j).map mo).sum:Nat):Int)+(((mO (co o).ks[j]).length:Int)+(pK (co o).ks[j]).length)=_;rw[Pg mo eR];omega
  .have eR:j=(co o).ks.length:=by
    have G:decide ((j:Int) < ((co o).ks.length:Int))=false:=G;have ah:=oj G;have ap9:j<=(co o).ks.length:=V;exact Nat.le_antisymm ap9 aD1
   subst eR;rw[au3];have hn:o3 l k+wu (co o)+((co o).ks.map mo).sum=o3 l (k+1):=aD9
   rw[hn];refine⟨aD1,k+1,aD1,aD1,ac.sub aD aD⟩
 .have cu:k=l.length:=by
   have h:decide ((k:Int) < (l.length:Int))=false:=h;simp at h;omega
  subst cu;have b8:o3 l l.length=(l.map fun x=>mU (co x)).sum:=by unfold o3;rw[au3]
  rw[b8];have bj:tI y l=((decide (l.length<=60)&&decide ((l.map fun x=>mU (co x)).sum<=4000))&&(decide (y<=8)||decide (256 < y))):=rfl;generalize(l.map fun x=>mU (co x)).sum=n at*;refine⟨fun cD=>?_,fun cD=>?_⟩
  .have cD:decide (l.length<=60)=true:=at4 (by have:=gd cD;omega);refine⟨fun cv=>?_,fun cv=>?_⟩
   .have cv:decide (n<=4000)=true:=at4 (by have:=gd cv;omega);refine⟨fun hQ=>?_,fun hQ=>?_⟩
    .have hQ:decide (y<=8)=true:=hQ;refine⟨_,_,_,bt,rfl,(show true=tI y l from ?_),trivial,rfl⟩;rw[bj,cD,cv,hQ];rfl
    .have hQ:decide (y<=8)=false:=hQ;refine⟨_,_,_,bt,rfl,(show decide (256 < y)=tI y l from ?_),trivial,rfl⟩;rw[bj,cD,cv,hQ];rfl
   .have cv:decide (n<=4000)=false:=av7 (by have:=oj cv;omega);refine⟨_,_,_,bt,rfl,(show false=tI y l from ?_),trivial,rfl⟩;rw[bj,cD,cv];rfl
  .have cD:decide (l.length<=60)=false:=av7 (by have:=oj cD;omega);refine⟨_,_,_,bt,rfl,(show false=tI y l from ?_),trivial,rfl⟩;rw[bj,cD];rfl
def ap' {y:Int} {l:List kj} (h:tI y l=true) {x:kj} (hx:x∈l):(co x).b.length<=4000/\(co x).nm.length<=4000/\ ∀k∈(co x).ks,(mO k).length<=4000:=by unfold tI at h;simp only[as1,av6] at h;have E:mU (co x)<=(l.map fun x=>mU (co x)).sum:=Ph (f:=fun x=>mU (co x)) hx;have G:mU (co x)=(co x).b.length+(co x).nm.length+(co x).eA.length+((co x).ks.map mo).sum:=rfl;refine⟨aD1,aD1,fun k Z=>?_⟩;have ah:=Ph (f:=mo) Z;have aW:mo k=(mO k).length+(pK k).length:=rfl;omega
end
section
def gX.GO {w w':bR} {s:dL} {e:Int} (Z:s.kd=0) (h:gX w s e w'):e=(fq w.z w.L w.aP s.a s.b).e/\w'=ed w s.a ((s.b.length:Int)/16) (fq w.z w.L w.aP s.a s.b):=by
 cases h with
 |write h=>exact⟨rfl,rfl⟩
 |_=>omega
def gX.xM {w w':bR} {s:dL} {e:Int} (Z:s.kd=7) (h:gX w s e w'):(pL w.bH=false/\e=143/\w'=w)\/(w.bH= .no/\IZ w s e w'):=by
 cases h with
 |busy h V=>exact .inl ⟨V,rfl,rfl⟩
 |push h V ax=>exact .inr ⟨V,ax⟩
 |_=>omega
def gX.Pl {w w':bR} {s:dL} {e:Int} (Z:s.kd=8) (h:gX w s e w'):(w.bH= .no/\e=1/\w'=w)\/(∃top base l,w.bH= .dq top base l false/\e=(ft w.z w.L top base l false).e/\w'={w with L:=(ft w.z w.L top base l false).L,bH:=if(ft w.z w.L top base l false).over=true then .no else .dq top base (ft w.z w.L top base l false).l (ft w.z w.L top base l false).over})\/
  (∃top base,w.bH= .pl top base false/\e=(h4 w.z w.L top base false).e/\w'={w with L:=(h4 w.z w.L top base false).L,bH:=if(h4 w.z w.L top base false).over=true then .no else .pl top base (h4 w.z w.L top base false).over})\/
  ∃nm n rm l g,w.bH= .pu nm n rm l g false false/\E3 w nm n rm l g e w':=by
 cases h with
 |Bz h V=>exact .inl ⟨V,rfl,rfl⟩
 |zK h V=>exact .inr (.inl ⟨_,_,_,V,rfl,rfl⟩)
 |zL h V=>exact .inr (.inr (.inl ⟨_,_,V,rfl,rfl⟩))
 |ws h V ax=>exact .inr (.inr (.inr ⟨_,_,_,_,_,V,ax⟩))
 |_=>omega
def mq (p:aJ5):List aL:=(fq 0 (tH 0 9 2 p) fu 0 (l2 97)).L
def xN (p:aJ5):List aL:=(fq 0 (mq p) fu 0 (l2 98)).L
def YA (p:aJ5):(fq 0 (tH 0 9 2 p) fu 0 (l2 97)).e=0:=by kernel_rfl
def YB (p:aJ5):(fq 0 (mq p) fu 0 (l2 98)).e=0:=by kernel_rfl
def aqa (p:aJ5):b6 (mq p) fu=2:=by kernel_rfl
def aqb:hI (fun _=>true) 0 (2*2 ^0)=[0,1]:=by kernel_rfl
def aqc (p:aJ5):i7 0 (mq p) fu 9 0 1 [0,1] [0,1] []=⟨0,[1],[(0,l2 97)],false⟩:=by kernel_rfl
def aqd (p:aJ5):f' 0 (mq p) fu 9 0 1 [0,1] [] false=⟨0,[1],[(0,l2 97)],false⟩:=by show i7 0 (mq p) fu 9 0 1 (oO [0,1]) [0,1] []=_;rw[aki,aqc]
def aqe (p:aJ5):dS 0 (xN p) fu 9 [1] [(0,l2 97)] 1=⟨0,[],[(0,l2 97),(1,List.replicate 16 0)],false⟩:=by kernel_rfl
def aqf (p:aJ5):r9 0 (xN p) fu 0 1=(l2 98,0):=by kernel_rfl
def YC:List jz:=[((0:Int),l2 97),((1:Int),List.replicate 16 (0:aJ8))]
def aqg:lg [(0,l2 97),(1,List.replicate 16 0)]=YC:=by unfold lg;rw[show hh (ka [(0,l2 97),(1,List.replicate 16 0)])=[0,1] from rfl,U9 (m:=[0,1]) (List.Perm.refl _) aD2];rfl
def sx:bQ:=([120],[],(0:Int),(2:Int),YC)
def YD:gF [] sx=0:=by kernel_rfl
def aqh:pM [sx]=0:=by kernel_rfl
def aqi:oT [sx] [120]=0:=by kernel_rfl
def aqj:(lW [sx] [120]).length=32/\fd (lW [sx] [120]) 0=some 97:=⟨aD4,aD4⟩
abbrev gH (z R:Nat) (size:Int) (p:aJ5) (db lb:Nat):bR:=⟨z,R,tH z R size p,fu,db,[],[],[],lb,[],0,.no,Yr⟩
def YE {z R:Nat} {size:Int} (G:kN z size R=true) (p:aJ5):dk (tH z R size p) fu=some ⟨fu,[],p.1,p.2,gC z size.toNat R,none⟩:=by
 have e:tH z R size p=lc [] fu [] p.1 p.2 (gC z size.toNat R):=by
  show(h2 z R [] fu size [] p).L=_;unfold h2;rw[mu (by rw[G];decide),mu aD2,mu aD2,mu aD2]
 rw[e,yX];rfl
def aqk {z R:Nat} {size:Int} (G:kN z size R=true) (p:aJ5):b6 (tH z R size p) fu=size.toNat:=by unfold b6;rw[YE G];exact at5
def mT.nil:mT [] [] []:=⟨List.Pairwise.nil,fun p h=>aE1,⟨fun p h=>aE1,ay9,ay9,fun p h=>aE1,fun p h=>aE1⟩,fun p h=>aE1,.inl ⟨rfl,rfl⟩⟩
def rn.nil:rn []:=⟨⟨aD2,fun b h=>aE1,fun k b h=>aE1⟩,rf.nil⟩
def YF {z R:Nat} {size:Int} (G:kN z size R=true) {p:aJ5} (ew:cb z R (tH z R size p)) (db lb:Nat):eO (gH z R size p db lb):=
 eO.no ⟨ew,by show(dk (tH z R size p) fu).isSome=true;rw[YE G];rfl,eh.nil,fun e U=>(by cases U),rn.nil,mT.nil,fun p ae=>(by cases ae)⟩ rfl
abbrev YG:dL:=⟨0,0,0,l2 97,[],[],[]⟩
abbrev Pm:dL:=⟨7,0,9,[],[120],[],[]⟩
abbrev tJ:dL:=⟨0,0,0,l2 98,[],[],[]⟩
abbrev YH:dL:=⟨8,0,0,[],[],[],[]⟩
def tG.of {s:dL} (E:s.b.length<=1000000) (G:s.nm.length<=1000000) (ah:s.l<=9223372036854775807) (aW:s.ks=[]):tG s:=⟨E,G,ah,by rw[aW];decide,by rw[aW];exact fun k h=>aE1⟩
abbrev uJ:Made:=wo [120] [] 0 2 [] none
def aql:Nat->bR->Prop
 |0,w=>w.bH= .pu fu 2 9 [1] [(0,l2 97)] false false/\w.bu=uJ/\w.Q=[]
 |1,w=>w.bH= .pu fu 2 9 [] [(0,l2 97),(1,List.replicate 16 0)] false false/\w.bu=uJ/\w.Q=[]
 |_,w=>w.bH= .no/\w.Q=[sx]
structure zN (p:aJ5) (k:Nat) (w:bR):Prop where
 ok:eO w
 bi:w.z=0
 L:w.L=xN p
 asd:w.aP=fu
 ase:aql k w
def aqm {p:aJ5} {db lb:Nat} {e:Int} {w':bR} (h:gX (gH 0 9 2 p db lb) YG e w'):e=0/\w'={gH 0 9 2 p db lb with L:=mq p}:=by obtain⟨rfl,rfl⟩:=h.GO rfl;refine⟨YA p,?_⟩;unfold ed;rw[vj (YA p)];rfl
def aqn {p:aJ5} {db lb:Nat} {e:Int} {w':bR} (h:gX {gH 0 9 2 p db lb with L:=mq p} Pm e w'):e=0/\ ∃b,w'={gH 0 9 2 p db lb with L:=mq p,b:=b,bH:=.pu fu 2 9 [0,1] [] false false,bu:=uJ}:=by
 have hn: ∀w:bR,w.Q=[]->pN w Pm=false:=fun w h=>by
  unfold pN;rw[h];rfl
 rcases h.xM rfl with⟨h,_⟩ |⟨_,h⟩
 .cases h
 .rcases h with⟨h,_⟩ |⟨_,⟨_,⟨h,_⟩ |⟨_,rfl,b,rfl⟩⟩ |⟨h,_⟩ |⟨h,_⟩⟩
  .exact as3 (h.symm.trans (hn _ rfl)) aD2
  .exact as3 h aD2
  .refine⟨rfl,b,?_⟩;have aN:ei {gH 0 9 2 p db lb with L:=mq p}=2:=aqa p;rw[aN,aqb];rfl
  .exact as3 rfl h
  .exact as3 rfl h
def aqo {p:aJ5} {db lb b:Nat} {e:Int} {w':bR} (aq:eO {gH 0 9 2 p db lb with L:=mq p,b:=b,bH:=.pu fu 2 9 [0,1] [] false false,bu:=uJ}) (h:gX {gH 0 9 2 p db lb with L:=mq p,b:=b,bH:=.pu fu 2 9 [0,1] [] false false,bu:=uJ} tJ e w'):e=0/\zN p 0 w':=by
 have dd:=aq.step h;obtain⟨rfl,rfl⟩:=h.GO rfl;have ak:(((tJ.b.length:Nat):Int)/16)=1:=by decide
 have V:nB 0 (mq p) 0 1 (.pu fu 2 9 [0,1] [] false false)= .pu fu 2 9 [1] [(0,l2 97)] false false:=by
  unfold nB;simp only[aqd];rfl
 have e:ed {gH 0 9 2 p db lb with L:=mq p,b:=b,bH:=.pu fu 2 9 [0,1] [] false false,bu:=uJ} tJ.a (((tJ.b.length:Nat):Int)/16) (fq 0 (mq p) fu tJ.a tJ.b)=⟨0,9,xN p,fu,db,[],[],[],lb,[],b,.pu fu 2 9 [1] [(0,l2 97)] false false,uJ⟩:=by
  unfold ed;rw[vj (YB p),ak];simp only[V];rfl
 have ao:=e▸dd;refine⟨YB p,?_⟩;show zN p 0 (ed {gH 0 9 2 p db lb with L:=mq p,b:=b,bH:=.pu fu 2 9 [0,1] [] false false,bu:=uJ} tJ.a (((tJ.b.length:Nat):Int)/16) (fq 0 (mq p) fu tJ.a tJ.b));rw[e];exact⟨ao,rfl,rfl,rfl,rfl,rfl,rfl⟩
def aqp {w:bR} {g:aH3} {e:Int} {t:I0} (h:wq w g e (zH w g t)) (dX:gF w.Q (fD w.bu g)=0) (a2:pM (e3 w.Q (fD w.bu g))=0):t.2.2.2.2=e3 w.Q (fD w.bu g)/\e=0:=by
 have key: ∀fb,wl {w with bu:=qr w.bu g} (e3 w.Q (fD w.bu g)) e fb->fb.Q=e3 w.Q (fD w.bu g)/\e=0:=fun fb G=>by
  obtain⟨U,b,_,⟨_,lb,rfl⟩ |⟨h,_⟩⟩:=G
  .exact⟨Eq.refl _,U.trans a2⟩
  .exact as3 a2 h
 rcases h with⟨h,_⟩ |⟨_,fb,G,⟨_,ah⟩ |⟨_,jC,bF,g2,de,x,a,b,_,_,_,ah⟩⟩
 .exact as3 dX h
 .have:=key fb G;exact⟨(as5 bR.Q ah).trans this.1,this.2⟩
 .have:=key fb G;exact⟨(as5 bR.Q ah).trans this.1,this.2⟩
def aqq {p:aJ5} {k:Nat} {w w':bR} {e:Int} (a1:zN p k w) (h:gX w YH e w'):zN p (k+1) w':=by
 have dd:=a1.ok.step h;obtain⟨aq,E,G,ah,aW⟩:=a1
 match k,aW with
 |0,aW=>
  obtain⟨kB,pD,uB⟩:=aW;rcases h.Pl rfl with⟨j,_⟩ |⟨_,_,_,j,_⟩ |⟨_,_,j,_⟩ |⟨nm,n,rm,l,g,j,ax⟩
  .rw[kB] at j;cases j
  .rw[kB] at j;cases j
  .rw[kB] at j;cases j
  .rw[kB] at j
   cases j
   rcases ax with⟨ak,_⟩ |⟨_,_,rfl⟩
   .cases ak
   .have ay:ek [1]=1:=rfl;rw[E,G,ay,aqe] at dd⊢;exact⟨dd,rfl,rfl,ah,rfl,pD,uB⟩
 |1,aW=>
  obtain⟨kB,pD,uB⟩:=aW;rcases h.Pl rfl with⟨j,_⟩ |⟨_,_,_,j,_⟩ |⟨_,_,j,_⟩ |⟨nm,n,rm,l,g,j,ax⟩
  .rw[kB] at j;cases j
  .rw[kB] at j;cases j
  .rw[kB] at j;cases j
  .rw[kB] at j
   cases j
   rcases ax with⟨_,t,ax,rfl⟩ |⟨ak,_⟩
   .have O:fD w.bu [(0,l2 97),(1,List.replicate 16 0)]=sx:=by
     rw[pD];show([120],[],(0:Int),(2:Int),lg [(0,l2 97),(1,List.replicate 16 0)])=sx;rw[aqg];rfl
    have ak:e3 [] sx=[sx]:=by
     unfold e3;rw[YD];rfl
    have:=aqp ax (by show gF w.Q (fD w.bu _)=0;rw[O,uB];exact YD) (by show pM (e3 w.Q (fD w.bu _))=0;rw[O,uB,ak];exact aqh);refine⟨dd,E,G,ah,rfl,this.1.trans ?_⟩;show e3 w.Q (fD w.bu _)=_;rw[O,uB,ak]
   .exact as3 rfl ak
 |k+2,aW=>
  obtain⟨kB,pD⟩:=aW;rcases h.Pl rfl with⟨_,_,rfl⟩ |⟨_,_,_,j,_⟩ |⟨_,_,j,_⟩ |⟨nm,n,rm,l,g,j,ax⟩
  .exact⟨aq,E,G,ah,kB,pD⟩
  .rw[kB] at j;cases j
  .rw[kB] at j;cases j
  .rw[kB] at j;cases j
end
section
abbrev aqr (s:dL):List aS:=[ap 1401,.c (.agg (Pi s .dV))]
def YI (w:bR) (aq:eO w) (s:dL) (au:tG s) (aw:s.ks=[]):cC prog 12 (aqr s) (cV w) [] (X:=nC (gX w s)) (fun p=>ab p.1.1) (fun p=>cV p.1.2):=
 cC.arg (Pd w aq s au) ⟨rfl,⟨rfl,rfl,rfl,rfl,rfl,rfl,by rw[aw];rfl,trivial⟩,trivial⟩
abbrev aqs (s:dL):List aS:=[ap 1401,.c (.agg [.d (.int .i64 s.kd),.d (.int .i64 s.a),.d (.int .i64 s.l),.dV,.d (.str s.nm),.d (.str s.eA),.dV])]
def Pn (w:bR) (aq:eO w) (s:dL) (au:tG s) (aw:s.ks=[]) (E:s.b=[]):cC prog 12 (aqs s) (cV w) [] (X:=nC (gX w s)) (fun p=>ab p.1.1) (fun p=>cV p.1.2):=
 cC.arg (Pd w aq s au) ⟨rfl,⟨rfl,rfl,rfl,by rw[E];rfl,rfl,rfl,by rw[aw];rfl,trivial⟩,trivial⟩
abbrev YJ (p:aJ5) (db lb:Nat):bR:=⟨0,9,mq p,fu,db,[],[],[],lb,[],0,.no,Yr⟩
abbrev YK (p:aJ5) (db lb b:Nat):bR:=⟨0,9,mq p,fu,db,[],[],[],lb,[],b,.pu fu 2 9 [0,1] [] false false,uJ⟩
def aqt:Fn prog 11 [] [] [] (fX true) []:=by
 have hn:=Ys 0 9 2 aD2 aD2;refine aY [1,2,4,5,6,7,8,10,12] func11 ?_;refine bw.iJ fa aD4 ⟨_,_,_,fun g=>_,fun g=>_,hn,trivial,rfl,fun _=>rfl,fun x=>?_⟩;obtain⟨p,ew⟩:=x;refine bw.ff (dv.mark 4001 4009 rfl aD2) fun db=>bw.le (ac.trans (ac.wm 1401 3 4001 4009 db rfl rfl rfl) (ac.trans (ac.wn 4001 4009 db rfl rfl) (ac.trans (ac.rK 1101 rfl) (ac.put 1101 4001 aD2 rfl rfl)))) <| bw.ff (dv.mark 3001 3009 rfl aD2) fun lb=>bw.le (ac.trans (ac.wm 1401 5 3001 3009 lb rfl rfl rfl) (ac.trans (ac.wn 3001 3009 lb rfl rfl) (ac.trans (ac.rK 1301 rfl) (ac.put 1301 3001 aD2 rfl rfl)))) <| bw.le (ac.trans (ac.wi 1401 8 rfl rfl) (ac.trans (ac.wi 1401 9 rfl rfl) (ac.trans (ac.wi 1401 16 rfl rfl) (ac.trans (ac.rK 1601 rfl) (ac.XK 1501 1001 rfl aD2))))) ?_
 have aw:=YF aD2 ew db lb;have E:=YI _ aw YG (tG.of aD2 aD2 aD2 rfl) rfl;refine bz [4,5,6,7,8,10,12] (cM [(1,ap 1401),(2,ab 0)] (cV (gH 0 9 2 p db lb))) <| dE <| bw.iJ fa aD4 <| lM ((Yw 97 aD2 aD2).x) fun _=>⟨_,_,_,fun g=>_,fun g=>_,E,aD,rfl,fun _=>rfl,fun x=>?_⟩
 obtain⟨⟨e,d9⟩,ax⟩:=x;have E6:=aw.step ax;obtain⟨U,hw⟩:=aqm ax;have U:e=0:=U;have hw:d9=_:=hw;subst U hw;have E6:eO (YJ p db lb):=E6;have G:=Pn _ E6 Pm (tG.of aD2 aD2 aD2 rfl) rfl rfl;refine bw.le (cM [(1,ap 1401),(3,ab 0)] (cV (YJ p db lb))) <| bw.iJ fa aD4 ⟨_,_,_,fun g=>_,fun g=>_,G,aD,rfl,fun _=>rfl,fun x=>?_⟩;obtain⟨⟨e,fb⟩,sR⟩:=x;have yz:=E6.step sR;obtain⟨U,b,hw⟩:=aqn sR;have U:e=0:=U;have hw:fb=_:=hw;subst U hw;have yz:eO (YK p db lb b):=yz;have ah:=YI _ yz tJ (tG.of aD2 aD2 aD2 rfl) rfl;refine bz [7,8,10,12] (cM [(1,ap 1401),(3,ab 0),(4,ab 0)] (cV (YK p db lb b))) <| ar (XR (z:=0) (R:=9) (L:=mq p) (aP:=fu) (db:=db) (lb:=lb) (es:=[]) (M:=[]) (kd:=3) (fR:=rk b (.pu fu 2 9 [0,1] [] false false)) (dq:=none) (pu:=some b) (m:=uJ)) <| bw.iJ fa aD4 <| lM ((Yw 98 aD2 aD2).x) fun _=>⟨_,_,_,fun g=>_,fun g=>_,ah,aD,rfl,fun _=>rfl,fun x=>?_⟩
 obtain⟨⟨e,iK⟩,YL⟩:=x;obtain⟨U,a1⟩:=aqo yz YL;have U:e=0:=U;have a1:zN p 0 iK:=a1;subst U;refine bz [10,12] (cM [(1,ap 1401),(3,ab 0),(4,ab 0),(5,ab 3),(6,ab 0)] (cV iK)) ?_;clear YL ah yz G E6 E aw sR ax;refine d1 [10,12] (X:=Nat×bR) (fun x=>[(1,ap 1401),(3,ab 0),(4,ab 0),(5,ab 3),(6,ab 0),(36,ab (x.1:Nat))]) (fun x=>cV x.2) (fun x=>x.1<=3/\zN p x.1 x.2) (fun x=>3 - x.1) (0,iK) ⟨aD1,a1⟩ ?_ ?_
 .exact ac.sub aD aD
 rintro⟨k,w⟩ ⟨Z,a1⟩;have Z:k<=3:=Z;have a1:zN p k w:=a1;refine⟨fun h=>?_,fun h=>?_⟩
 .have h:decide ((k:Int) < 3)=true:=h;have eX:k < 3:=by have:=gd h;omega
  have iH:=Pn w a1.ok YH (tG.of aD2 aD2 aD2 rfl) rfl rfl;refine bw.iJ fa aD4 ⟨_,_,_,fun g=>_,fun g=>_,iH,aD,rfl,fun _=>rfl,fun x=>?_⟩;obtain⟨⟨e,w'⟩,ax⟩:=x;refine⟨aD1,(k+1,w'),⟨by show k+1<=3;omega,aqq a1 ax⟩,by show 3 - (k+1) < 3 - k;omega,ac.sub aD aD⟩
 .have h:decide ((k:Int) < 3)=false:=h;have eX:k=3:=by have:=oj h;omega
  subst eX;obtain⟨aq,af,ao,bo,c7,fY⟩:=a1;have aQ:=aq.q.tolV;have fG:=aq.cs;obtain⟨z,R,L,aP,db,ds,es,M,lb,Q,b,bH,bu⟩:=w;simp only at af ao bo c7 fY aQ fG;subst af ao bo c7 fY;have gA:=Fn.nt (b:=lb) [1002] 1301 (VH aQ [120]);rw[aqi] at gA;have ce:=XT (aP:=fu) (db:=db) (lb:=lb) (es:=es) (M:=M) (kd:=0) (fR:=.nilIface) (dq:=none) (pu:=none) (m:=bu) fG 0 1;rw[aqf] at ce;obtain⟨r1,r2⟩:=aqj;generalize lW [sx] [120]=bp at*;refine bz [] (cM [(1,ap 1401),(3,ab 0),(4,ab 0),(5,ab 3),(6,ab 0)] (cV ⟨0,R,xN p,fu,db,ds,es,M,lb,[sx],b,.no,bu⟩)) <| ar (XS (z:=0) (R:=R) (L:=xN p) (aP:=fu) (db:=db) (lb:=lb) (es:=es) (M:=M) (kd:=0) (fR:=.nilIface) (dq:=none) (pu:=none) (m:=bu)) <| ar (aoR (z:=0) (R:=R) (L:=xN p) (aP:=fu) (db:=db) (lb:=lb) (es:=es) (M:=M) (kd:=0) (fR:=.nilIface) (dq:=none) (pu:=none) (m:=bu)) ⟨fun _ _=>ar gA <| ar ce <| fm <| fm <| fm <| fm <| ar (XR (z:=0) (R:=R) (L:=xN p) (aP:=fu) (db:=db) (lb:=lb) (es:=es) (M:=M) (kd:=0) (fR:=.nilIface) (dq:=none) (pu:=none) (m:=bu)) <| fm <| fm ?_,fun h=>aE1⟩;have Vd:decide ((bp.length:Int)=32)=true:=by rw[r1];rfl
  exact⟨fun _=>⟨aD2,(97:aJ8),r2,fm <| fm ⟨aD2,(98:aJ8),rfl,fm <| eN bt rfl (show decide (fu=fu)=true by decide)⟩⟩,fun h=>Bool.noConfusion (Vd.symm.trans h)⟩
end
section
def aqu (z R:Int) (h:kN z 0 R=false):Fn prog 26 [ab z,ab R] [] [] (.cn [nf,dJ 1]) []:=by refine aY [] func26 ?_;exact ar (SN z 0 R h) <| fm bh
def aqv (b s r:Int) (h:kN b s r=false):Fn prog 9 [ab b,ab s,ab r] [] [] (.cn [nf,dJ 1]) []:=by
 by_cases E:kN b 0 r=true
 .have ay:=E;simp only[kN,as1,av6] at ay;obtain⟨⟨_,Po,sR⟩,hd,fk⟩:=ay;obtain⟨z,rfl⟩:=aA8 hd;obtain⟨R,rfl⟩:=aA8 Po;have ew:cb z R []:=cb.nil aD1 aD1
  have U:(h2 z R [] fu s [] (0,0)).e=1:=by
   unfold h2;rw[vj (by rw[h];rfl)]
  have hn:=SW z R aD1 aD1;have ha:=O0 ew fu s [] aD2;rw[U] at ha;refine aY [2] func9 ?_;exact ar hn <| bz [] (ac.close 1001 (bT z R []) (o:=EX z R []) aD rfl fun I F x p h=>h) <| dE <| ar ha <| fm bh
 .have hn:=aqu b r (az6.2 E);refine aY [] func9 ?_;exact ar hn <| fm bh
def YM (x:kj):mU (co x)+(co x).ks.length+1<=f0 hU x:=by have E:=Yt (co x).b;have G:=Yv (co x).ks;have e:f0 hU x=1+(1+(1+(f0 (.cc .u8) (co x).b+((1+(co x).nm.length)+((1+(co x).eA.length)+f0 (.cc ml) (co x).ks))))):=rfl;have ao:mU (co x)=(co x).b.length+(co x).nm.length+(co x).eA.length+((co x).ks.map mo).sum:=rfl;rw[e,E,G,ao];omega
def YN: ∀l:List kj,l.length+(l.map fun x=>mU (co x)).sum<=f0 (.cc hU) l/\ ∀x∈l,f0 hU x<=f0 (.cc hU) l
 | []=>⟨at2 _,fun x h=>aE1⟩
 |o::l=>by
  obtain⟨E,G⟩:=YN l;have e:f0 (.cc hU) (o::l)=1+(f0 hU o+(List.map (f0 hU) l).sum):=rfl;have ao:f0 (.cc hU) l=1+(List.map (f0 hU) l).sum:=rfl;have bo:=YM o;refine⟨?_,fun x hx=>?_⟩
  .rw[e,aw4,au1,List.sum_cons];omega
  .rcases as8.1 hx with rfl |hx
   .rw[e];omega
   .have:=G x hx;rw[e];omega
structure uK (l:List kj):Prop where
 len:l.length<=1048576
 sum:(l.map fun x=>mU (co x)).sum<=1048576
 ks: ∀o,o∈l->(co o).ks.length<=1048576
 l: ∀o,o∈l->(co o).l<=9223372036854775807
def uK.of {l:List kj} (h:f0 (.cc hU) l<=1048576) (ak: ∀o,o∈l->(co o).l<=9223372036854775807):uK l:=by obtain⟨E,G⟩:=YN l;refine⟨aD1,aD1,fun o ag=>?_,ak⟩;have:=G o ag;have:=YM o;omega
def uK.BT {l:List kj} (h:uK l) (x y aB:Int):Fn prog 10 [Pk x y aB,bP hU l] [] [] (fX (tI y l)) []:=
 ap7 x y aB l (by have:=h.len;omega) (by have:=h.sum;omega) fun o ag=>by have:=h.ks o ag;omega
def uK.aqw {l:List kj} (h:uK l) {y:Int} (hf:tI y l=true) {x:kj} (hx:x∈l):tG (co x):=by obtain⟨E,G,ah⟩:=ap' hf hx;exact⟨aD1,aD1,h.l x hx,by have:=h.ks x hx;omega,fun k Z=>by have:=ah k Z;omega⟩
def uK.step {l:List kj} (h:uK l) {x:kj} (hx:x∈l):Fn prog 13 [iF (co x)] [] [] (iF (co x)) []:=ap4 (co x) (by have:=h.ks x hx;omega)
abbrev I6 (w:bR):aA:=mn w.z w.R w.L w.es w.M w.aP w.db w.lb (EV w.bH) (rk w.b w.bH) (xG w.b w.bH) (xH w.b w.bH) w.bu
def YO (w:bR):Fn prog 15 [ap 1401] (I6 w) [] (dy w.lb) (I6 w):=XS
def aqx (w:bR) (h:cb w.z w.R w.L) (a l:Int):Fn prog 14 [ap 1401,ab a,ab l] (I6 w) [] (.cn [.one (.d (.bG .u8 (r9 w.z w.L w.aP a l).1)),dJ (r9 w.z w.L w.aP a l).2]) (I6 w):=XT h a l
def aqy {o:kj} (h:rH hU o):(co o).l<=9223372036854775807:=by have G:(Lit.int .i64 (co o).l).wf=true:=h.2.2.1;have ah:(decide (IntKind.i64.min<=(co o).l)&&decide ((co o).l<=IntKind.i64.max))=true:=G;simp only[as1] at ah;exact gd ah.2
def aqz {l:List kj} (h:rH (.cc hU) l): ∀o,o∈l->(co o).l<=9223372036854775807:=fun o ag=>aqy (h o ag)
end
section
structure pO (w w':bR):Prop where
 bi:w'.z=w.z
 mA:w'.R=w.R
 aR:b6 w'.L w'.aP=b6 w.L w.aP
def pO.refl (w:bR):pO w w:=⟨rfl,rfl,rfl⟩
def pO.o2 (w:bR) (a aO:Int) (r:mK) (ak:i5 w.L w.aP r.L):pO w (ed w a aO r):=by
 unfold ed
 split
 .exact⟨rfl,rfl,(ak.aR w.aP).1⟩
 .exact⟨rfl,rfl,(ak.aR w.aP).1⟩
def pO.xL {w w':bR} {Q:aH9} {e:Int} (h:wl w Q e w'):pO w w':=by rw[zI h];exact⟨rfl,rfl,rfl⟩
def gX.eP {w w':bR} (aq:eO w) {s:dL} {e:Int} (ax:gX w s e w'):pO w w':=by
 cases ax with
 |write h=>exact pO.o2 w _ _ _ (vK aq.cs _ _ _)
 |zero h=>exact pO.o2 w _ _ _ (Br aq.cs _ _ _)
 |B7 h ay=>exact pO.o2 w _ _ _ (tg aq.cs _ _ _)
 |over h V ax=>
  obtain⟨p,ew,U,⟨aw,rfl⟩ |⟨aw,rfl⟩⟩:=ax
  .obtain⟨b4,_,cf⟩:=B8.1 (U.symm.trans aw);refine⟨rfl,rfl,?_⟩;show b6 (h2 w.z w.R w.L s.nm ((ei w:Nat):Int) w.aP p).L s.nm=_;rw[cf];have H:=yX (L:=w.L) (nm:=s.nm) (back:=w.aP) (ad:=p.1) (am:=p.2) (im:=gC w.z ((ei w:Nat):Int).toNat w.R) s.nm;rw[b4,vj rfl] at H;unfold b6;rw[H];exact at5
  .rw[B8.2 (fun h=>aw (U.trans h))];exact pO.refl w
 |merge h V ax=>obtain⟨_,⟨_,b,rfl⟩ |⟨_,rfl⟩⟩:=ax <;>exact⟨rfl,rfl,rfl⟩
 |pull h V ax=>obtain⟨_,⟨_,b,rfl⟩ |⟨_,rfl⟩⟩:=ax <;>exact⟨rfl,rfl,rfl⟩
 |push h V ax=>
  rcases ax with⟨_,_,rfl⟩ |⟨hn,⟨_,⟨_,_,rfl⟩ |⟨_,_,b,rfl⟩⟩ |⟨_,_,_,rfl⟩ |⟨_,x,hx,⟨_,_,rfl⟩ |⟨_,⟨_,_,rfl⟩ |⟨_,_,b,jC,rfl⟩⟩⟩⟩ <;>exact⟨rfl,rfl,rfl⟩
 | @zK h top base l V=>
  obtain⟨t,ak⟩:=Yl aq.cs top base l false;exact⟨rfl,rfl,(ak.aR w.aP).1⟩
 | @zL h top base V=>exact⟨rfl,rfl,((Yk aq.cs top base false).2 w.aP).1⟩
 | @ws h nm n rm l g V e w' ax=>
  rcases ax with⟨rfl,t,ax,rfl⟩ |⟨ak,rfl,rfl⟩ <;>exact⟨rfl,rfl,rfl⟩
 |drop h ax=>
  rcases ax with⟨_,_,rfl⟩ |⟨_,J⟩
  .exact pO.refl _
  .exact pO.xL J
 |_=>exact⟨rfl,rfl,rfl⟩
end
section
section
variable {z R:Nat} {L wv:aH2}
def aqA (Z: ∀n d,dk L n=some d->dk wv n=some d) (hE: ∀d,d∈L->d.back≠[]-> ∃e,dk L d.back=some e) {n:aG9} {k:Nat} (h:eu L n k) (aw: ∃d,dk L n=some d):dc wv k n=dc L k n:=by
 induction h with
 |gone h=>obtain⟨d,H⟩:=aw;rw[h] at H;cases H
 |base h O=>rfl
 |step h O au bn=>
  unfold dc;rw[h,Z _ _ h];simp only;rw[bn (hE _ (cY h).1 O)]
def YP {c:Nat} (Z: ∀n d,dk L n=some d->dk wv n=some d): ∀(ns:aJ0) (i:Nat),(∀n,n∈ns-> ∃d,dk L n=some d)->gU z wv c ns i=gU z L c ns i
 | [],_,_=>rfl
 |n::ns,i,h=>by
  obtain⟨d,H⟩:=h n (at6 ..);unfold gU;rw[H,Z _ _ H];simp only;rw[YP Z ns (i+1) fun n hn=>h n (as6 _ hn)]
def aqB (h:cb z R L) (Z: ∀n d,dk L n=some d->dk wv n=some d) {n:aG9} {d:aL} (H:dk L n=some d) (c:Nat):fi z wv n (cl wv n) c=fi z L n (cl L n) c:=by have ce:=(h.b7 n).1;have iH:=(h.b7 n).2;have BO:=TS (L':=wv) (fun n d H=>⟨d,Z n d H,rfl⟩) h.iM ce ⟨d,H⟩;have e:cl wv n=cl L n:=ta BO aD1;unfold fi;rw[e,aqA Z h.iM ce ⟨d,H⟩,YP Z _ _ (h.MJ ⟨d,H⟩)]
def aqC {nm aP:aG9} {ad am:Nat} {d:aL} (h:cb z R L) (H:dk L aP=some d) (aw:dk L nm=none) (G:cb z R (lc L nm aP ad am (gC z d.im.t.length R))):lf z (lc L nm aP ad am (gC z d.im.t.length R)) nm=lf z L aP:=by
 have Z: ∀n e,dk L n=some e->dk (lc L nm aP ad am (gC z d.im.t.length R)) n=some e:=fun n e U=>by rw[yX,U];rfl
 have I7:dk (lc L nm aP ad am (gC z d.im.t.length R)) nm=some ⟨nm,aP,ad,am,gC z d.im.t.length R,none⟩:=by rw[yX,aw,vj rfl];rfl
 have jo:aP≠[]:=DW h ⟨d,H⟩;have eB:=MK G I7 jo;have eB:cl (lc L nm aP ad am (gC z d.im.t.length R)) nm=cl (lc L nm aP ad am (gC z d.im.t.length R)) aP+1:=eB;have ak:(gC z d.im.t.length R).t.length=d.im.t.length:=at5;unfold lf;rw[I7,H];simp only;rw[ak];refine Ua (N:=d.im.t.length) (fun c J=>?_) _ (as2 _);rw[Bq I7 (fun bd=>bd.2 (by show((List.replicate d.im.t.length ck).getD c ck).1=0;rw[as7,aB6];split <;>rfl)),eB,MI I7];exact aqB h Z H c
def Pp {nm:aG9} {a l:Int} (U:(h1 L nm a l).e≠0):(h1 L nm a l).L=L:=by
 unfold h1 at U⊢
 split at U
 .rfl
 .split at U
  .rename_i c;rw[vj c]
  .exact as3 rfl U
def i5.YQ {L':aH2} {t top base:aG9} (h:cb z R L) (ak:i5 L t L'):hS L' top base=hS L top base:=by
 rcases ak with rfl |⟨d,im,H,au,rfl⟩
 .rfl
 .exact(ajj h H au).2
end
def jD (w:bR):Prop:=match w.bH with
 | .dq top base l _=>lC w.z w.R w.L top base l/\se w.z w.L top base l
 | .pl top base _=>hS w.L top base=true
 |_=>True
abbrev hL (w:bR):aG9:=lf w.z w.L w.aP
def I8 (w:bR) (a aO:Int) (r:mK):hL (ed w a aO r)=lf w.z r.L w.aP:=by
 unfold ed
 split <;>rfl
def jD.no {w:bR} (h:w.bH= .no):jD w:=by
 unfold jD;rw[h]
 trivial
def jD.o2 {w:bR} (aq:eO w) (al:jD w) {a aO:Int} {r:mK} (k6:i5 w.L w.aP r.L) (I9:r.e≠0->r.L=w.L)
  (hw:r.e=0->wk w.bH=true-> ∃a' N:Nat,a=a'/\aO=N/\ ∀s,¬(a'<=s/\s < a'+N)->gw w.z r.L w.aP s=gw w.z w.L w.aP s):jD (ed w a aO r):=by
 have f2:=aq.bH;have fG:=aq.cs;obtain⟨z,R,L,aP,db,ds,es,M,lb,Q,b,bH,bu⟩:=w;unfold ed
 cases bH with
 |no=>split <;>exact jD.no rfl
 |pu nm n rm l g over done=>
  unfold nB
  split
  .simp only
   split
   .trivial
   .trivial
  .simp only
   split
   .trivial
   .trivial
 |pl top base over=>
  have al:hS L top base=true:=al;have O:hS r.L top base=true:=by rw[k6.YQ fG];exact al
  split <;>exact O
 |dq top base l over=>
  obtain⟨rfl,rfl,_⟩:=f2;obtain⟨cE,yi⟩:lC z R L top base l/\se z L top base l:=al
  by_cases U:r.e=0
  .rw[vj U];obtain⟨a',N,rfl,rfl,au⟩:=hw U rfl;exact⟨(cE.sd k6).wr false _ _,ajO cE yi k6 au⟩
  .rw[mu U];show lC z R r.L top base l/\se z r.L top base l;rw[I9 U];exact⟨cE,yi⟩
def jD.step {w w':bR} (aq:eO w) (al:jD w) {s:dL} {e:Int} (ax:gX w s e w'):jD w':=by
 cases ax with
 |write h=>
  refine al.o2 aq (vK aq.cs _ _ _) (D0 aq.cs) fun U _=>?_
  obtain⟨_,_,_,ha,_⟩:=Hy U;refine⟨s.a.toNat,s.b.length/16,ha,aD1,fun t cm=>?_⟩;show jw _ _ _ _ _=jw _ _ _ _ _;rw[Hz aq.cs U t,mu cm]
 |zero h=>
  refine al.o2 aq (Br aq.cs _ _ _) (HB aq.cs) fun U _=>?_
  obtain⟨_,_,ha,ak,_⟩:=MQ U;refine⟨s.a.toNat,s.l.toNat,ha,ak,fun t cm=>?_⟩;show jw _ _ _ _ _=jw _ _ _ _ _;rw[MR aq.cs U t,mu cm]
 |B7 h ay=>exact al.o2 aq (tg aq.cs _ _ _) Pp fun _ aU=>by rw[ay] at aU;cases aU
 |over h V ax=>obtain⟨_,_,_,⟨_,rfl⟩ |⟨_,rfl⟩⟩:=ax <;>exact jD.no V
 |merge h V ax=>
  obtain⟨U,⟨aw,b,rfl⟩ |⟨_,rfl⟩⟩:=ax
  .rw[aw] at U;exact⟨lC.BA aq.cs U.symm,ajL aq.cs U.symm⟩
  .exact al
 |pull h V ax=>
  obtain⟨U,⟨aw,b,rfl⟩ |⟨_,rfl⟩⟩:=ax
  .rw[aw] at U;show hS w.L w.aP s.eA=true;unfold uA at U
   split at U
   .exact as3 U aD2
   .split at U
    .exact as3 U aD2
    .rename_i hn;exact ax7 fun O=>hn (.inl (az6.2 O))
  .exact al
 |push h V ax=>
  rcases ax with⟨_,_,rfl⟩ |⟨hn,⟨_,⟨_,_,rfl⟩ |⟨_,_,b,rfl⟩⟩ |⟨_,_,_,rfl⟩ |⟨_,x,hx,⟨_,_,rfl⟩ |⟨_,⟨_,_,rfl⟩ |⟨_,_,b,jC,rfl⟩⟩⟩⟩
  all_goals first |exact al |trivial
 | @zK h top base l V=>
  have f2:=aq.bH;unfold jD at al;rw[V] at f2 al;obtain⟨cE,yi⟩:=al
  split
  .exact jD.no rfl
  .exact⟨(cE.step false).1,(UX cE yi).1⟩
 | @zL h top base V=>
  unfold jD at al;rw[V] at al;have al:hS w.L top base=true:=al;have f2:=aq.bH;rw[V] at f2;obtain⟨rfl,_⟩:=f2
  split
  .exact jD.no rfl
  .rename_i ag;show hS (h4 w.z w.L w.aP base false).L w.aP base=true;obtain⟨d,H⟩:=av9.1 aq.kd;unfold h4 at ag⊢;rw[mu (by rw[aq.kd];decide)] at ag⊢
   cases hn:oK w.L w.aP base with
   |some k=>
    show hS (fq w.z w.L w.aP ((k*2 ^w.z:Nat):Int) (fI w.z w.L w.aP (k:Int))).L w.aP base=true;rw[(vK aq.cs _ _ _).YQ aq.cs];exact al
   |none=>
    rw[hn] at ag;exact as3 (show decide ((ip w.L w.aP base).e=0)=true by rw[M8 aq.cs H al];rfl) ag
 | @ws h nm n rm l g V e w' ax=>
  rcases ax with⟨rfl,t,ax,rfl⟩ |⟨ak,rfl,rfl⟩
  .exact jD.no rfl
  .split
   .exact jD.no rfl
   .trivial
 |I4 h V=>exact jD.no rfl
 |n2 h t=>exact jD.no rfl
 |drop h ax=>
  rcases ax with⟨_,_,rfl⟩ |⟨_,J⟩
  .exact al
  .rw[zI J];exact al
 |_=>exact al
def aqD {w w':bR} (aq:eO w) (al:jD w) {s:dL} {e:Int} (ax:gX w s e w') (hn:e≠0\/s.kd < 0\/2 < s.kd):hL w'=hL w:=by
 obtain⟨d,H⟩:=av9.1 aq.kd
 cases ax with
 |write h=>rw[I8,D0 aq.cs aD1]
 |zero h=>rw[I8,HB aq.cs aD1]
 |B7 h ay=>rw[I8,Pp aD1]
 |over h V ax=>
  obtain⟨p,ew,U,⟨aw,rfl⟩ |⟨aw,rfl⟩⟩:=ax
  .obtain⟨b4,_,cf⟩:=B8.1 (U.symm.trans aw);show lf w.z (h2 w.z w.R w.L s.nm ((ei w:Nat):Int) w.aP p).L s.nm=_;rw[cf] at ew⊢
   have aN:((ei w:Nat):Int).toNat=d.im.t.length:=by
    show ei w=_;unfold ei b6;rw[H]
   rw[aN] at ew⊢;exact aqC aq.cs H b4 ew
  .rw[B8.2 (fun h=>aw (U.trans h))]
 |merge h V ax=>obtain⟨_,⟨_,b,rfl⟩ |⟨_,rfl⟩⟩:=ax <;>rfl
 |pull h V ax=>obtain⟨_,⟨_,b,rfl⟩ |⟨_,rfl⟩⟩:=ax <;>rfl
 |push h V ax=>
  rcases ax with⟨_,_,rfl⟩ |⟨hn,⟨_,⟨_,_,rfl⟩ |⟨_,_,b,rfl⟩⟩ |⟨_,_,_,rfl⟩ |⟨_,x,hx,⟨_,_,rfl⟩ |⟨_,⟨_,_,rfl⟩ |⟨_,_,b,jC,rfl⟩⟩⟩⟩ <;>rfl
 | @zK h top base l V=>
  have f2:=aq.bH;unfold jD at al;rw[V] at f2 al;obtain⟨rfl,_⟩:=f2;exact(UX al.1 al.2).2
 | @zL h top base V=>
  unfold jD at al;rw[V] at al;have al:hS w.L top base=true:=al;have f2:=aq.bH;rw[V] at f2;obtain⟨rfl,_⟩:=f2;show lf w.z (h4 w.z w.L w.aP base false).L w.aP=_;unfold h4;rw[mu (by rw[aq.kd];decide)]
  cases ae:oK w.L w.aP base with
  |some k=>
   show lf w.z (fq w.z w.L w.aP ((k*2 ^w.z:Nat):Int) (fI w.z w.L w.aP (k:Int))).L w.aP=_;have Z:=(UN ae).2.1;have aN:b6 w.L w.aP=d.im.t.length:=aE5
   exact aiG aq.cs H aD1
  |none=>
   show lf w.z (ip w.L w.aP base).L w.aP=_;rw[M8 aq.cs H al];exact(ajk aq.cs H al ae).2
 | @ws h nm n rm l g V e w' ax=>
  rcases ax with⟨rfl,t,ax,rfl⟩ |⟨ak,rfl,rfl⟩ <;>rfl
 |drop h ax=>
  rcases ax with⟨_,_,rfl⟩ |⟨_,J⟩
  .rfl
  .rw[zI J]
 |_=>rfl
def aqE {w:bR} (aq:eO w):(hL w).length=16*(b6 w.L w.aP*2 ^w.z):=by obtain⟨d,H⟩:=av9.1 aq.kd;unfold hL lf b6;rw[H];exact DA aq.cs.tonV H (aq.cs.b7 _).1 0 _
def zO {w:bR} (aq:eO w) {j:Nat} (V:j < b6 w.L w.aP*2 ^w.z):eZ (hL w) j=gw w.z w.L w.aP j:=by obtain⟨d,H⟩:=av9.1 aq.kd;unfold hL lf gw;unfold b6 at V;rw[H] at V⊢;have:=aiK aq.cs H 0 _ j V;rw[aw9] at this;exact this
def aqF {w:bR} (aq:eO w):r9 w.z w.L w.aP 0 ((b6 w.L w.aP*2 ^w.z:Nat):Int)=(hL w,0):=by
 obtain⟨d,H⟩:=av9.1 aq.kd;have aN:b6 w.L w.aP=d.im.t.length:=aE5
 rw[aiv aq.cs H (by rw[y1 aq.cs H,aN];exact as2 _)];unfold hL lf;rw[H,aN]
end
section
def YR {k:Nat}: ∀{g:aH3},k∈g.map Prod.fst->(k,uz g (k:Int))∈g
 | [],h=>by cases h
 |p::g,h=>by
  have c9:fT ai (k:Int) ((p.1:Nat):Int)=decide (k=p.1):=By k p.1
  by_cases e:k=p.1
  .have af:uz (p::g) (k:Int)=p.2:=by
    show((match fT ai (k:Int) ((p.1:Nat):Int) with |true=>some p.2 |false=>b0 (aI:=ai) (aK:=i6) (ka g) (k:Int)).getD (cR i6))=_;rw[c9,at4 e];rfl
   rw[af,e];exact at6 ..
  .have af:uz (p::g) (k:Int)=uz g (k:Int):=by
    show((match fT ai (k:Int) ((p.1:Nat):Int) with |true=>some p.2 |false=>b0 (aI:=ai) (aK:=i6) (ka g) (k:Int)).getD (cR i6))=_;rw[c9,av7 e];rfl
   rw[af];rw[au1,as8] at h;exact as6 _ (YR (h.resolve_left e))
def aqG {g:aH3} {p:jz} (ae:p∈lg g): ∃q,q∈g/\p= @Prod.mk Int aG9 ((q.1:Nat):Int) q.2:=by obtain⟨k,Z,rfl⟩:=av0.1 ae;have Z:=(y9 _).mem_iff.1 Z;rw[BB] at Z;obtain⟨j,V,rfl⟩:=av0.1 Z;exact⟨_,YR V,rfl⟩
def aqH {g:aH3} {k:Nat} (h:k∈g.map Prod.fst): ∃p,p∈lg g/\fK p=(k:Int):=by refine⟨Nh g (k:Int),au0 ((y9 _).mem_iff.2 ?_),rfl⟩;rw[BB];exact au0 h
def aqI {Q:aH9} (a1:lV Q) {b:bQ} (dX:gF Q b=0):oT (e3 Q b) (cT b)=0/\lW (e3 Q b) (cT b)=sh b (lW Q (c2 b)):=by
 obtain⟨E,G,ah,aW⟩:=H8 dX;have e:e3 Q b=Q++[b]:=vj dX;rw[e];have jF:dU (Q++[b]) (cT b)=Q.length:=alR G aD3;refine⟨by unfold oT;rw[jF,mu aD3],?_⟩
 have aU:lj (Q++[b]) (dU (Q++[b]) (cT b))=some b:=by
  rw[jF];unfold lj fd;rw[vj aD1];simp
 unfold lW;rw[as4,List.length_singleton];show nw (Q++[b]) (cT b) (qg (Q++[b]) (Q.length+1))=_;unfold nw;rw[aU];simp only
 by_cases ae:c2 b=[]
 .unfold sh;simp only[ae,decide_true,if_true]
 .rw[NH a1 b _ _ (aW (by simpa using ae))]
def aqJ {Q:aH9} {b:bQ} (dX:gF Q b=0):mh (e3 Q b)=cT b:=by have e:e3 Q b=Q++[b]:=vj dX;unfold mh;rw[e,List.getLast?_append];rfl
section
variable {n b:Nat}
def B9 {c:Nat} (h:c < n):c*2 ^b+2 ^b<=n*2 ^b:=by
 have:(c+1)*2 ^b<=n*2 ^b:=ax5 _ h
 rwa[az3] at this
def YS {acc:aG9} {p:jz} {c:Nat} (J:fK p=(c:Int)) (kq:c < n) (O:(kf p).length=16*2 ^b) (ha:acc.length=16*(n*2 ^b)):mM ((16*2 ^b:Nat):Int) acc p=laid acc (16*(c*2 ^b)) (kf p).length (kf p):=by
 have e:(fK p*((16*2 ^b:Nat):Int)).toNat=16*(c*2 ^b):=by
  rw[J,<-az8,az0];exact aA2 ..
 have gy:=B9 (b:=b) kq;unfold mM;rw[e,aiM _ _ _ aD1]
def aqK {acc:aG9} {p:jz} {c:Nat} (J:fK p=(c:Int)) (kq:c < n) (O:(kf p).length=16*2 ^b) (ha:acc.length=16*(n*2 ^b)) (j:Nat):eZ (mM ((16*2 ^b:Nat):Int) acc p) j=if j/2 ^b=c then eZ (kf p) (j % 2 ^b) else eZ acc j:=by
 have gy:=B9 (b:=b) kq;rw[YS J kq O ha,aiO (m:=2 ^b) aD1 O]
 by_cases h:j/2 ^b=c
 .rw[vj (sf.2 h),vj h,Nf h]
 .rw[mu (fun e=>h (sf.1 e)),mu h]
def YT {F:aG9} (bj:F.length=16*(n*2 ^b)): ∀(bI:List jz) (acc:aG9),acc.length=16*(n*2 ^b)->(∀p,p∈bI-> ∃c:Nat,fK p=(c:Int)/\c < n/\(kf p).length=16*2 ^b/\ ∀j,j/2 ^b=c->eZ (kf p) (j % 2 ^b)=eZ F j)->
  (∀j,j < n*2 ^b->(∀p,p∈bI->fK p≠((j/2 ^b:Nat):Int))->eZ acc j=eZ F j)->bI.foldl (mM ((16*2 ^b:Nat):Int)) acc=F
 | [],acc,ha,_,h=>Ut ha bj fun j V=>h j V fun p ae=>(by cases ae)
 |p::bI,acc,ha,ae,h=>by
  obtain⟨c,E,G,ah,aW⟩:=ae p (at6 ..);have gy:=B9 (b:=b) G;rw[List.foldl_cons];refine YT bj bI _ ?_ (fun q aQ=>ae q (as6 _ aQ)) fun j V hn=>?_
  .rw[YS E G ah ha,aiN aD1,ha]
  .rw[aqK E G ah ha]
   by_cases e:j/2 ^b=c
   .rw[vj e];exact aW j e
   .rw[mu e];refine h j V fun q aQ=>?_
    rcases as8.1 aQ with rfl |aQ
    .rw[E];intro ao;exact e aD1
    .exact hn q aQ
def YU:fc ((b:Nat):Int)=((16*2 ^b:Nat):Int):=by unfold fc;rw[az0,az8];rfl
def aqL {F below:aG9} (bj:F.length=16*(n*2 ^b)) {nm pa:aG9} {g:aH3} (aU: ∀q,q∈g->q.1 < n/\q.2.length=16*2 ^b/\ ∀j,j/2 ^b=q.1->eZ q.2 (j % 2 ^b)=eZ F j)
  (O: ∀j,j < n*2 ^b->j/2 ^b∉g.map Prod.fst->pa≠[]/\below.length=16*(n*2 ^b)/\eZ below j=eZ F j):sh (nm,pa,((b:Nat):Int),((n:Nat):Int),lg g) below=F:=by
 have aN:(((n:Nat):Int)*fc ((b:Nat):Int)).toNat=16*(n*2 ^b):=by
  rw[YU,<-az8,az0];exact aA2 ..
 have H:sh (nm,pa,((b:Nat):Int),((n:Nat):Int),lg g) below=(lg g).foldl (mM (fc ((b:Nat):Int))) (if decide (pa=[])=true then List.replicate (((n:Nat):Int)*fc ((b:Nat):Int)).toNat (0:aJ8) else laid (List.replicate (((n:Nat):Int)*fc ((b:Nat):Int)).toNat (0:aJ8)) 0 (List.replicate (((n:Nat):Int)*fc ((b:Nat):Int)).toNat (0:aJ8)).length below):=rfl;rw[H,aN,YU]
 have ak: ∀ys:aG9,(laid (List.replicate (16*(n*2 ^b)) (0:aJ8)) 0 (List.replicate (16*(n*2 ^b)) (0:aJ8)).length ys).length=16*(n*2 ^b):=fun ys=>by
  unfold laid;simp only[as4,at3,ax4,at5];omega
 refine YT bj _ _ ?_ (fun p ae=>?_) fun j V hn=>?_
 .split
  .exact at5
  .exact ak _
 .obtain⟨q,aQ,rfl⟩:=aqG ae;obtain⟨E,G,ah⟩:=aU q aQ;exact⟨q.1,rfl,E,G,ah⟩
 .obtain⟨E,G,ah⟩:=O j V fun ay=>by
   obtain⟨p,ae,e⟩:=aqH ay;exact hn p ae e
  rw[mu aG2]
  have e:laid (List.replicate (16*(n*2 ^b)) (0:aJ8)) 0 (List.replicate (16*(n*2 ^b)) (0:aJ8)).length below=below:=by
   unfold laid;rw[at5,<-G,au3,List.take_zero,aC6,aw9,List.drop_of_length_le (by rw[at5];exact as2 _),av8]
  rw[e];exact ah
end
end
section
def aqM {w:bR} (aq:eO w) {c:Nat} (J:c < b6 w.L w.aP):(fI w.z w.L w.aP (c:Int)).length=16*2 ^w.z/\ ∀j,j/2 ^w.z=c->eZ (fI w.z w.L w.aP (c:Int)) (j % 2 ^w.z)=eZ (hL w) j:=by
 obtain⟨d,H⟩:=av9.1 aq.kd;have aN:b6 w.L w.aP=d.im.t.length:=aE5
 rw[UU H aD1];refine⟨xe aq.cs.tonV H (aq.cs.b7 _).1 c,fun j V=>?_⟩;have E:=B9 (b:=w.z) J;have G:=(sf (z:=w.z)).2 V;rw[zO aq aD1];unfold gw;rw[qa,V]
end
section
def Pq (w:bR) (a aO:Int) (r:mK) (j:Nat):gw (ed w a aO r).z (ed w a aO r).L (ed w a aO r).aP j=gw w.z r.L w.aP j:=by
 unfold ed
 split <;>rfl
end
end Go.Proofs.YtkfbeijmgggkmaaGreat
