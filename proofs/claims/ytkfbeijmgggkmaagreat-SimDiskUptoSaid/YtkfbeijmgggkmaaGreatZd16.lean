/-
A part of the proof of this claim: lemmas, with no condition beyond what each says.
-/
import Derived.Test.YtkfbeijmgggkmaaGreatZd15
set_option linter.unusedVariables false
set_option linter.unusedSimpArgs false
set_option maxRecDepth 10000
set_option maxHeartbeats 4000000
namespace Go.Proofs.YtkfbeijmgggkmaaGreat
open Go.RowKit Go.Proofs Tryz
section
def mn (s g:Int):Int:=(s+g - 1)/g
theorem yB {s g:Int} (aw:0<=s/\s<=4096) (aZ:1<=g/\g<=64):0<=mn s g/\mn s g<=4160:=by
 unfold mn;have dJ:(0:Int)<=(s+g - 1)/g:=ay1 ay4 ay4;have dM:(s+g - 1)/g<=s+g - 1:=Int.ediv_le_self _ ay4;omega
theorem Hl (s g:Int) (es:List (Z al×Z al)) (aw:0<=s/\s<=4096) (aZ:1<=g/\g<=64):Fn Tryz.prog 97 [aq 1001] (iz s g es) [] (ab (mn s g)) (iz s g es):=by
 have k5:=yB aw aZ;unfold mn at k5⊢;have dU:c1 (s+g):=az2
 have ls:c1 (s+g - 1):=az2
 have sF:c1 ((s+g - 1)/g):=az2
 have n6:(0:Int)<=s+g - 1/\0 < g:=az2
 refine aU [] Tryz.func97 ?_;exact⟨dU,ls,n6,sF,eF ay7,bg⟩
def vk (es:List (Z al×Z al)) (f:Int):Nat->List (Z al×Z al)
 |0=>es
 |n+1=>gM (aI:=al) (aK:=al) (vk es f n) (f+(n:Int))
theorem ajf (s g:Int) (es:List (Z al×Z al)) (k:Int):Fn Tryz.prog 209 [ab k,aq 3001] (rT s g es) [] gO (rT s g (gM (aI:=al) (aK:=al) es k)):=by
 refine aU [] Tryz.func209 ?_;exact bg
abbrev ajg (ea k:Int):aY:=[(4,ab ea),(5,.c (.one (.cY 209 [.p 3001 0]))),(13,ab k)]
theorem ajh (s g:Int) (es:List (Z al×Z al)) (fr bL f' ea:Int) (E:0<=bL) (G:0<=fr) (af:bL<=s) (aW:fr<=s - bL) (aw:s<=4096) (bG:0<=f') (fF:ea<=1000000):Fn Tryz.prog 156 [aq 1001,ab fr,ab bL,ab f',ab ea,.c (.one (.cY 209 [.p 3001 0]))] (rT s g es) [] (ab 0) (rT s g (vk es f' (ea - f').toNat)):=by
 have m1:c1 (s - bL):=az2
 refine aU [] Tryz.func156 ?_;refine⟨fun h=>absurd (gd h) ay4,fun _=>⟨fun h=>absurd (gd h) ay4,fun _=>⟨fun h=>absurd (gd h) ay4,fun _=>⟨m1,fun h=>absurd (gd h) ay4,fun _=>d2 [6] (X:=Nat) (fun j=>ajg ea (f'+(j:Int))) (fun j=>rT s g (vk es f' j)) (fun j=>j<=(ea - f').toNat) (fun j=>(ea - f').toNat - j) 0 (aq8 _) ?_ ?_⟩⟩⟩⟩
 .exact ac.sub ⟨rfl,rfl,(show f'=f'+((0:Nat):Int) by omega),trivial⟩ aC
 intro j V;have V:j<=(ea - f').toNat:=V;refine⟨fun J=>?_,fun J=>?_⟩
 .have J:decide (f'+(j:Int) < ea)=true:=J;have J:=gd J;exact bu [] (br) <| av (ajf s g (vk es f' j) (f'+(j:Int))) ⟨ay4,j+1,ay4,ay4,ac.sub ⟨rfl,rfl,(show f'+(j:Int)+1=f'+((j+1:Nat):Int) by omega),trivial⟩ aC⟩
 .have J:decide (f'+(j:Int) < ea)=false:=J;have J:=mu J;have ft:j=(ea - f').toNat:=az2
  subst ft;exact bg
def DJ (s g:Int) (es:List (Z al×Z al)):List (Z al×Z al):=vk es 0 (mn s g).toNat
abbrev aji (s ea:Int):aY:=[(1,ab 0),(2,ab s),(3,aq 3),(7,ab ea)]
theorem ajj (s g:Int) (es:List (Z al×Z al)) (aw:0<=s/\s<=4096) (aZ:1<=g/\g<=64):Fn Tryz.prog 172 [aq 1001,ab 0,ab s] (iz s g es) [] (ab 0) (iz s g (DJ s g es)):=by
 have k5:=yB aw aZ;have rK:=Hl s g es aw aZ;have dQ:(0:Int)<=(0+s)/g:=ay1 ay4 ay4;have cW:(0+s)/g<=0+s:=Int.ediv_le_self _ ay4;have cU:c1 (0+s):=az2
 have dU:(0:Int)<=0+s/\0 < g:=az2
 have ls:c1 ((0+s)/g):=az2
 have sF:c1 (0+g):=az2
 have n5:c1 (0+g - 1):=az2
 have n6:(0:Int)<=0+g - 1/\0 < g:=az2
 have bF:(0+g - 1)/g=0:=Int.ediv_eq_zero_of_lt ay4 ay4;have n7:c1 ((0+g - 1)/g):=az2
 have U:=ajh s g es 0 s 0 (mn s g) aw.1 (Int.le_refl 0) (Int.le_refl s) ay4 aw.2 (Int.le_refl 0) ay4;have aT:(mn s g - 0).toNat=(mn s g).toNat:=by rw[Int.sub_zero]
 rw[aT] at U;unfold DJ;generalize mn s g=ea at*;refine aU [4] Tryz.func172 ?_;refine⟨rfl,cU,dU,ls,cU,?_⟩;exact⟨fun _=>av rK <| bu [] (cM (aji s ea) (Dz s g es)) ⟨sF,n5,n6,n7,av (Fn.arg (args:=[aq 1001,ab 0,ab s,ab ((0+g - 1)/g),ab ea,.c (.one (.cY 209 [.p 3001 0]))]) U ⟨rfl,rfl,rfl,bF,rfl,rfl,trivial⟩ |> Fn.aV [(3001,3)]) ⟨eF ay7,bg⟩⟩,fun h=>absurd (show decide (0+s=s)=false from h) (by rw[Int.zero_add];simp)⟩
def ov (g:Int) (es:List (Z al×Z al)) (n:Nat):List Int:=(List.range n).map fun k=>if mZ g es k=true then 1 else 0
theorem ajk (g:Int) (es:List (Z al×Z al)) (n:Nat):ov g es (n+1)=ov g es n++[if mZ g es n=true then 1 else 0]:=by
 unfold ov;rw[List.range_succ,au0];rfl
theorem MV (g:Int) (es:List (Z al×Z al)) (n:Nat):(ov g es n).length=n:=by
 unfold ov;rw[ar1,List.length_range]
def sM (s g:Int) (es:List (Z al×Z al)):List dR:=nx (ov g es s.toNat)
abbrev ajl (s:Int) (j:Nat):aY:=[(0,aq 1001),(3,eM 5002),(9,ab s),(10,ab (j:Nat))]
abbrev Us (s:Int) (j:Nat):aY:=[(0,aq 1001),(3,eM 19),(9,ab s),(10,ab (j:Nat))]
abbrev ajm (s g:Int) (es:List (Z al×Z al)) (x:List Int):az:=iz s g es++[(5002,.row 3 al x)]
abbrev Ut (s g:Int) (es:List (Z al×Z al)) (x:List Int):az:=iz s g es++[(19,.row 3 al x)]
theorem ajn (s g:Int) (es:List (Z al×Z al)) (aw:0<=s/\s<=4096) (aZ:1<=g):Fn Tryz.prog 174 [aq 1001] (iz s g es) [] (bQ hT (sM s g es)) (iz s g es):=by
 have ajo:=ai0 (ov g es s.toNat) (by rw[MV];omega);unfold sM;refine aU [] Tryz.func174 ?_;refine d2 [] (X:=Nat) (fun j=>ajl s j) (fun j=>ajm s g es (ov g es j)) (fun j=>j<=s.toNat) (fun j=>s.toNat - j) 0 (aq8 _) ?_ ?_
 .exact(ac.nil 3 5002 3 al rfl rfl).trans (ac.sub aC aC)
 intro j V;have V:j<=s.toNat:=V;have sj:=ajk g es j;have wH:=MV g es j;refine⟨fun J=>?_,fun J=>?_⟩
 .have J:decide ((j:Int) < s)=true:=J;have eO:(j:Int) < s:=gd J;have aF:=T1 s g es j aZ eO aw.2;have m:List.length (α:=Int) (ov g es j)+1<=4294967296:=az2
  have m2:c1 ((j:Int)+1):=az2
  generalize ov g es j=ks at*;generalize mZ g es j=b at*;refine av aF ⟨fun O=>?_,fun O=>?_⟩
  .have O:b=true:=O;subst O;have sj:ov g es (j+1)=ks++[1]:=sj;exact⟨m,rfl,m2,j+1,(by show j+1<=s.toNat;omega),(by show s.toNat - (j+1) < s.toNat - j;omega),ac.trans (ac.sub (K':=Us s (j+1)) (B':=Ut s g es (ov g es (j+1))) aC ⟨rfl,rfl,congrArg (fun aB:List Int=>some (ba.row 3 al aB)) sj.symm,trivial⟩) <| (ac.aV 19 5002 rfl).trans (ac.sub aC aC)⟩
  .have O:b=false:=O;subst O;have sj:ov g es (j+1)=ks++[0]:=sj;exact⟨m,rfl,m2,j+1,(by show j+1<=s.toNat;omega),(by show s.toNat - (j+1) < s.toNat - j;omega),ac.trans (ac.sub (K':=Us s (j+1)) (B':=Ut s g es (ov g es (j+1))) aC ⟨rfl,rfl,congrArg (fun aB:List Int=>some (ba.row 3 al aB)) sj.symm,trivial⟩) <| (ac.aV 19 5002 rfl).trans (ac.sub aC aC)⟩
 .have J:decide ((j:Int) < s)=false:=J;have ft:j=s.toNat:=aA4
  subst ft;exact av (Fn.own (d:=5002) (e:=3) (u:=al) (xs:=ov g es s.toNat) (args:=[eM 5002]) ajo rfl) bg
theorem Uu (es:List (Z al×Z al)):Fn Tryz.prog 96 [.c (.one (.mp 1001))] [(1001,.map al al es)] [2001] (.c (.one (.mp 2001))) [(1001,.map al al es),(2001,.map al al es)]:=
 Ur adw ay7 es
theorem ajp (s g:Int) (es:List (Z al×Z al)):Fn Tryz.prog 54 [aq 1001] (iz s g es) [2001,2002] (aq 2001) (iz s g es++[(2001,.cells [.d (.int .i64 s),.d (.int .i64 g),.mp 2002]),(2002,.map al al es)]):=by
 refine aU [] Tryz.func54 ?_;exact av (Fn.aV [(1001,1002),(2001,2002)] (Uu es)) ⟨rfl,eF ay7,_,_,_,ac.aV 17 2001 rfl,rfl,rfl,aC,rfl⟩
abbrev MW (l:List dR) (k:Int):az:=[(2001,.cells [.d (.co hT l)]),(2002,.cells [.d (.int .i64 k)])]
abbrev MX (l:List dR) (k:Int) (o:bc):az:=[(2001,.cells [.d (.co hT l)]),(2002,.cells [.d (.int .i64 k)]),(1001,.aG o)]
abbrev Uv (y:Nat) (m:List dR) (i:Nat):aY:=[(0,CZ y),(2,aq 2002),(7,bQ hT m),(8,ab (m.length:Nat)),(9,ab (i:Nat))]
theorem ajq (l:List dR) (k:Int):Fn Tryz.prog 173 [bQ hT l,ab k] [] [2001,2002] (.c (.one (.cY 210 [.p 2001 0,.p 2002 0]))) (MW l k):=by
 refine aU [] Tryz.func173 ?_;exact⟨rfl,rfl,_,_,_,(ac.aV 2 2001 rfl).trans (ac.aV 3 2002 rfl),rfl,rfl,aC,rfl⟩
theorem ajr (y:Nat) (l:List dR) (k:Int) (ak:l.length<=1000000) (eb: ∀x,x∈l-> -4611686018427387904<=x.2.1/\x.2.1<=4611686018427387903) {X:Type} (fX:X->bc) (xs:Nat->X)
  (aD: ∀i (h:i < (ij l).length),(ij l)[i].2.2=k->xO Tryz.prog y [ab (ij l)[i].1,ab (ij l)[i].2.1] [(1001,.aG (fX (xs i)))] (fun _:Unit=>q5 true) (fun _=>[(1001,.aG (fX (xs (i+1))))]))
  (a7: ∀i (h:i < (ij l).length),¬(ij l)[i].2.2=k->xs (i+1)=xs i) (fa:(ij l).length<=1000000):
  Fn Tryz.prog 210 [CZ y,aq 2001,aq 2002] (MX l k (fX (xs 0))) [] (.ci []) [(1001,.aG (fX (xs (ij l).length)))]:=by
 have hn:=aje l ak eb;generalize ij l=m at*;refine aU [3] Tryz.func210 ?_;refine av hn <| d2 [3] (X:=Nat) (fun i=>Uv y m i) (fun i=>MX l k (fX (xs i))) (fun i=>i<=m.length) (fun i=>m.length - i) 0 (aq8 _) ?_ ?_
 .exact ac.sub aC aC
 intro i aF;have aF:i<=m.length:=aF;refine⟨fun J=>?_,fun J=>?_⟩
 .have J:decide ((i:Int) < ((m.length:Nat):Int))=true:=J;have d1:i < m.length:=aA7
  have aZ:=jJ (n:=i) d1;have aD:=aD i d1;have a7:=a7 i d1;generalize m[i]=x at*;have dQ:(0:Int)<=(i:Int):=az2
  have cW:c1 ((i:Int)+1):=az2
  refine⟨dQ,x,aZ,rfl,bw.le (cM ((5,aq 5)::Uv y m i) ((5,.cells (aiU x))::MX l k (fX (xs i)))) <| bw.iL e3 ay7 ⟨fun aa=>?_,fun aa=>?_⟩⟩
  .have aa:x.2.2=k:=gd aa;refine⟨Unit,_,_,_,aD aa,aC,fun _=>rfl,fun _=>?_⟩;exact⟨cW,i+1,d1,(by show m.length - (i+1) < m.length - i;omega),ac.sub aC aC⟩
  .have aa: ¬x.2.2=k:=mu aa;have a7:=a7 aa;exact⟨cW,i+1,d1,(by show m.length - (i+1) < m.length - i;omega),ac.sub aC ⟨rfl,rfl,congrArg (fun aB=>some (ba.aG (fX aB))) a7.symm,trivial⟩⟩
 .have J:decide ((i:Int) < ((m.length:Nat):Int))=false:=J;have pU:i=m.length:=aA4
  subst pU;exact bg
theorem ajs {ks:List Int} (aa:ks.length<=65536):(nx ks).length<=65536/\ ∀x,x∈nx ks-> -4611686018427387904<=x.2.1/\x.2.1<=4611686018427387903:=by
 have h:=Um ks;refine⟨by have:=h.len;omega,fun x hx=>?_⟩;have:=h.Hi x hx;omega
theorem ajt (l:List dR) (fr bL:Int):(vi l fr bL).length<=l.length:=by
 unfold vi
 split
 .have:=Up l fr bL l.length;unfold rV at this
  rwa[ar9] at this
 .exact aq8 _
def wR (s g:Int) (es:List (Z al×Z al)) (x:dR):List (Z al×Z al):=if x.2.2=1 then nw s g es x.1 x.2.1 else es
def ny (s g:Int) (es:List (Z al×Z al)) (m:List dR) (i:Nat):List (Z al×Z al):=(m.take i).foldl (wR s g) es
theorem Uw (s g:Int) (es:List (Z al×Z al)) {m:List dR} {i:Nat} (h:i < m.length):ny s g es m (i+1)=wR s g (ny s g es m i) m[i]:=by
 unfold ny;rw[List.take_add_one,oj h];show((m.take i)++[m[i]]).foldl _ _=_;rw[ax5];rfl
def AT (s g:Int) (es:List (Z al×Z al)) (row:List dR):List (Z al×Z al):=ny s g es (ij row) (ij row).length
abbrev Hm (s g:Int) (es:List (Z al×Z al)) (bC g2:Int) (ei:List (Z al×Z al)):az:=[(1001,.cells (MB s g)),(1002,.map al al es),(3001,.cells [.d (.int .i64 bC),.d (.int .i64 g2),.mp 3002]),(3002,.map al al ei)]
abbrev Ux (s g:Int) (es:List (Z al×Z al)) (bC g2:Int) (ei:List (Z al×Z al)):az:=[(1001,.cells (MB s g)),(1002,.map al al es),(2,.cells [.ptr 1001 0]),(3001,.cells [.d (.int .i64 bC),.d (.int .i64 g2),.mp 3002]),(3002,.map al al ei)]
theorem aju (s g:Int) (es:List (Z al×Z al)) (bC g2:Int) (ei:List (Z al×Z al)) (aw:0<=s/\s<=4096) (aZ:1<=g/\g<=64) (fS:0<=bC/\bC<=4096) (sN:1<=g2/\g2<=64) (ajv:bC=s):Fn Tryz.prog 124 [aq 1001,aq 3001] (Hm s g es bC g2 ei) [] (ab 0) (Hm s g (AT s g es (sM bC g2 ei)) bC g2 ei):=by
 have fK:=ajn bC g2 ei fS sN.1;have eb:=ajs (ks:=ov g2 ei bC.toNat) (by rw[MV];omega);have eb:(sM bC g2 ei).length<=65536/\ ∀x,x∈sM bC g2 ei->_:=eb;have fa:(ij (sM bC g2 ei)).length<=(sM bC g2 ei).length:=ajt _ _ _;unfold AT;generalize sM bC g2 ei=rw at*;refine aU [] Tryz.func124 ?_;refine⟨rfl,eF ay7,fun J=>absurd (show(!decide (bC=s))=true from J) (by simp[ajv]),fun _=>av (Fn.aV [(1001,3001),(1002,3002)] fK) <| av (ajq rw 1) <| bw.le (cM [(22,.c (.one (.cY 210 [.p 2001 0,.p 2002 0]))),(2,aq 2)] (MW rw 1++Ux s g es bC g2 ei)) <| bw.range e3 [] (pl:=[23,24]) rfl ay7 ay7 ay7 ay7 [1001,1002,2,3001,3002] _ [(2,aq 2)] (MW rw 1) (fun e:List (Z al×Z al)=>Ux s g e bC g2 ei) 1001 es (ny s g es (ij rw) (ij rw).length) (fun e aE b7=> ∃(i:Nat) (h:i < (ij rw).length),(ij rw)[i].2.2=1/\e=ny s g es (ij rw) i/\aE=[ab (ij rw)[i].1,ab (ij rw)[i].2.1]/\b7=ny s g es (ij rw) (i+1)) rfl az7 rfl rfl ?_ ?_ ?_⟩
 .rintro e aE b7 ⟨i,aF,aa,rfl,rfl,rfl⟩;have sj:=Uw s g es aF;have gV:=ME s g (ny s g es (ij rw) i) (ij rw)[i].1 (ij rw)[i].2.1 aw aZ;have sj:ny s g es (ij rw) (i+1)=nw s g (ny s g es (ij rw) i) (ij rw)[i].1 (ij rw)[i].2.1:=by rw[sj];unfold wR;rw[if_pos aa]
  generalize(ij rw)[i]=x at*;generalize ny s g es (ij rw) i=ae at*;generalize ny s g es (ij rw) (i+1)=ao at*;subst sj;exact⟨rfl,rfl,rfl,av gV ⟨rfl,ac.sub trivial aC⟩⟩
 .intro y fX rF aD;exact ajr y rw 1 ay4 eb.2 fX (fun i=>ny s g es (ij rw) i) (fun i aF aa=>aD _ _ _ ⟨i,aF,aa,rfl,rfl,rfl⟩) (fun i aF aa=>by rw[Uw s g es aF];unfold wR;rw[if_neg aa]) ay4
 .exact bg
end
section
abbrev MY (aK:bz):=Nat×(Z al×Z aK)
def ajw {aK:bz} (p:MY aK):Int:=p.2.1
def gone {aK:bz} (n:Int) (bK:aC4) (l:List (MY aK)):List (MY aK):=l.filter fun p=> !(bK.contains p.1&&decide (n<=ajw p))
theorem Uy {es:List (Z al×Z al)} (h:e5 es) (f:Int): ∀n,e5 (sK es f n)
 |0=>h
 |n+1=>e5.put rq (Uy h f n)
theorem MZ {s g:Int} {es:List (Z al×Z al)} (h:e5 es) (fr bL:Int):e5 (nw s g es fr bL):=by
 unfold nw
 split
 .exact Uy h _ _
 .exact h
theorem Hn {es:List (Z al×Z al)} (h:e5 es) (f:Int): ∀n,e5 (vk es f n)
 |0=>h
 |n+1=>e5.ng (Hn h f n)
theorem ajx {s g:Int} {es:List (Z al×Z al)} (h:e5 es) (m:List dR) (i:Nat):e5 (ny s g es m i):=by
 unfold ny;generalize m.take i=l
 induction l generalizing es with
 |nil=>exact h
 |cons x l bq=>
  refine bq (es:=wR s g es x) ?_;unfold wR
  split
  .exact MZ h _ _
  .exact h
end
section
open Go.RowKit Go.Proofs Go.Maps Go.Shelf Go.MapKept Tryz
open Go.WideElems (Fit rd rg pl rd_val rd_key rg_of)
theorem ajy (es:List (Z .str×Z .aM)):Fn Tryz.prog 51 [.c (.one (.mp 1001))] [(1001,.map .str .aM es)] [2001] (.c (.one (.cY 95 [.p 2001 0]))) [(2001,.cells [.mp 1001]),(1001,.map .str .aM es)]:=by
 refine aU [] Tryz.func51 ?_;exact⟨rfl,_,_,_,ac.aV 1 2001 rfl,rfl,rfl,aC,rfl⟩
theorem ajz (es:List (Z .str×Z .aM)) (hn:(mf es).Nodup) (ak: ∀s∈mf es,s.length<=maxLen) (aw:es.length<=4294967296):
  Fn Tryz.prog 50 [.c (.one (.cY 95 [.p 2001 0]))] [(2001,.cells [.mp 1001]),(1001,.map .str .aM es)] [] (bQ .str (oh es)) [(2001,.cells [.mp 1001]),(1001,.map .str .aM es)]:=by
 refine⟨ay7,fun ρ F I w bU a8 cZ bh eE bV dy=>?_⟩
 match bU,bV with
 | [v],_=>
  obtain⟨aE,ay,fZ,r,hD,kO,ax⟩:=dy 0 _ v rfl rfl;have ax:r=[]:=ax;have kO:fZ= .pointer (some ⟨(ρ 2001).bk,0,none⟩):=kO;subst ax kO hD ay;obtain⟨_,aE,T,gX,hD⟩:=cZ 2001 _ rfl;obtain⟨x,r,hD,hx,ax⟩:=hD;have ax:r=[]:=ax;have hx:x= .map (some (ρ 1001).bk):=hx;subst ax hx hD;obtain⟨_,bR,bS,hm,aA,c5⟩:=cZ 1001 _ rfl;have GF:(4294967296:Nat)<=maxLen:=by decide
  obtain⟨ju,dw,cC,o9⟩:=SN (P:=Tryz.prog) (k:=9) ay7 hm aA c5 hn ak ay4;have bt:(ρ 2001).bk < w.heap.size:=l3 gX
  have u4:SeqGives Fence.wide 2 Tryz.prog 95 #[.pointer (some ⟨(ρ 2001).bk,0,none⟩)] encStr (fun hc=>hc.Perm (strKeys ju)) (Maps.size ju) w:=
   AnyZ.keys_gives (ρ:=RH) {adu with} Fence.wide _ trivial rfl ay4 (ρ 2001).bk (ρ 1001).bk es.length ju w bt (oS gX rfl) dw
  have J:=AnyZ.sorted_in RF Fence.wide 5 trivial trivial trivial trivial rfl ay4 (SP _) (enters_of Tryz.func94 ay7 rfl) 95 #[.pointer (some ⟨(ρ 2001).bk,0,none⟩)] trivial (enters_of Tryz.func95 ay7 rfl) _ _ aB0 aB0 _ u4;refine(callsIn_wide.1 J).mono ?_;rintro e w' ⟨v,hc,rfl,ar,fK,yh,gF⟩;have a1:cm I w (fun b=>b < w'.heap.size/\(I b\/w.heap.size<=b)) w':=fun b fN=>⟨⟨ar6 (a8 b fN) gF.size,.inl fN⟩,gF.block b (a8 b fN)⟩
  refine⟨v,ρ,F,rfl,cS.pq gF,fun _ _=>rfl,_,a1,fun b h=>⟨h.1,h.2.imp id .inr⟩,fun c ch J=>Holds.cp a1 (fun b O=>gF.block b (bh c ch J b O).1) gF.size ch (fun _ _=>rfl) (cZ c ch J),fun c ch J b O=>?_,fun c b9 ch ch' b E G=>eE c b9 ch ch' b E G,?_⟩
  .have:=bh c ch J b O;exact⟨ar6 this.1 gF.size,fun h=>(by rcases h.2 with h |h;exact this.2 h;omega),.inl ⟨c,ch,J,O⟩⟩
  .have aa:hc.mergeSort (fun x y=>decide (x<=y))=oh es:=Go.mergeSort_of_perm (ar.trans o9);rw[aa] at fK;have hB:=fC.ps fK;have wH:hc.length=(oh es).length:=by rw[<-aa,List.length_mergeSort]
   rw[wH] at hB;exact(hB.za fun i _ aF=>(fK.lt i aF).1).SO fun b E G=>⟨E,.inr G⟩
structure bd where
 nm:aC3
 ad:Nat
 du:Nat
 on:Bool
 us:Bool
 s:Int
 g:Int
 es:List (Z al×Z al)
abbrev jS (e:bd):Z .str×Z .aM:=((e.nm:Z .str),(some e.ad:Z .aM))
abbrev AU (nm:aC3) (on us:Bool) (du:Nat):List bB:=[.d (.str nm),.d (.bool on),.d (.bool us),.d (.aM (some du))]
def qF (nm:aC3) (on us:Bool) (du:Nat):bc:=bc.ch (.cells (AU nm on us du)) (fun _=>rfl)
def fo (s g:Int) (es:List (Z al×Z al)):bc:=bc.i9 1001 (iz s g es)
def dW (l:List bd):List (Z .str×Z .aM):=l.map jS
abbrev wS (e:bd):Nat×bc:=(e.ad,qF e.nm e.on e.us e.du)
abbrev wT (e:bd):Nat×bc:=(e.du,fo e.s e.g e.es)
def kb (l:List bd):List (Nat×bc):=l.map wS
def jT (l:List bd):List (Nat×bc):=l.map wT
abbrev eA (l:List bd):az:=[(1001,.cells [.mp 1002]),(1002,.map .str .aM (dW l)),(1003,.aG (.bx (kb l))),(1004,.aG (.bx (jT l)))]
def dd (l:List bd) (nm:aC3):Option bd:=l.find? fun e=>decide (e.nm=nm)
theorem wU (d:bd) (L:List bd) (nm:aC3):dd (d::L) nm=if d.nm=nm then some d else dd L nm:=by
 unfold dd;rw[List.find?_cons]
 by_cases e:d.nm=nm
 .rw[ar0 e,if_pos e]
 .rw[at0 e,if_neg e]
theorem kx {l:List bd} {nm:aC3} {e:bd} (h:dd l nm=some e):e∈l/\e.nm=nm:=⟨ax4 h,by have:=List.find?_some h;simpa using this⟩
theorem Ho (nm:aC3): ∀L:List bd,(bY (aI:=.str) (aK:=.aM) (dW L) nm).getD (cO .aM)=((dd L nm).map (·.ad):Option Nat)
 | []=>rfl
 |d::L=>by
  have bq:=Ho nm L;show(bY (aI:=.str) (aK:=.aM) (jS d::dW L) nm).getD (cO .aM)=_;rw[wU];rw[show bY (aI:=.str) (aK:=.aM) (jS d::dW L) nm=match f0 .str (nm:Z .str) (jS d).1 with |true=>some (jS d).2 |false=>bY (aI:=.str) (aK:=.aM) (dW L) nm from rfl]
  by_cases e:d.nm=nm
  .rw[show f0 .str (nm:Z .str) (jS d).1=true from(qr _ _).2 e.symm,if_pos e];rfl
  .rw[show f0 .str (nm:Z .str) (jS d).1=false from rr (aI:=.str) qr (fun h=>e h.symm),if_neg e];exact bq
theorem M0 {f:bd->Nat×bc}: ∀{L:List bd},(L.map fun d=>(f d).1).Nodup-> ∀{d:bd},d∈L->eu (L.map f) (f d).1=some (f d).2
 | [],_,d,h=>by cases h
 |e::L,hn,d,h=>by
  rw[ar4] at hn;obtain⟨cU,dU⟩:=as8.1 hn;rw[ar4];unfold eu;rcases aq5.1 h with rfl |h
  .rw[if_pos rfl]
  .rw[if_neg (fun e=>cU (by rw[e];exact ar8 (f:=fun d=>(f d).1) h))];exact M0 dU h
theorem M1 {f:bd->Nat×bc} {u:bd->bd}: ∀{L:List bd},(L.map fun d=>(f d).1).Nodup-> ∀{d:bd},d∈L->(f (u d)).1=(f d).1->e' (L.map f) (f d).1 (f (u d)).2=(L.map fun x=>if(f x).1=(f d).1 then u x else x).map f
 | [],_,d,h,_=>by cases h
 |e::L,hn,d,h,aa=>by
  rw[ar4] at hn;obtain⟨cU,dU⟩:=as8.1 hn;rw[ar4,ar4,ar4];unfold e';rcases aq5.1 h with rfl |h
  .rw[if_pos rfl,if_pos rfl]
   have ajA:(L.map fun x=>if(f x).1=(f d).1 then u x else x)=L:=by
    refine(as2 fun x hx=>?_).trans (List.map_id' L);rw[if_neg fun e=>cU (by rw[<-e];exact ar8 (f:=fun d=>(f d).1) hx)]
   rw[ajA]
   congr 1
   exact Prod.ext aa.symm rfl
  .have a7: ¬(f e).1=(f d).1:=fun ao=>cU (by rw[ao];exact ar8 (f:=fun d=>(f d).1) h)
   rw[if_neg a7,if_neg a7,M1 dU h aa]
def nz (l:List bd) (a:Nat) (u:bd->bd):List bd:=l.map fun x=>if x.ad=a then u x else x
structure d9 (l:List bd):Prop where
 jd:(l.map (·.nm)).Nodup
 me:(l.map (·.ad)).Nodup
 vl:(l.map (·.du)).Nodup
 ok: ∀e,e∈l->(0<=e.s/\e.s<=4096)/\(1<=e.g/\e.g<=64)/\e5 e.es/\e.nm.length<=64
 len:l.length<=8
theorem wV {α lN:Type} {f:α->lN}: ∀{l:List α},(l.map f).Nodup-> ∀{p q:α},p∈l->q∈l->f p=f q->p=q
 | [],_,_,_,h,_,_=>by cases h
 |a::l,h,p,q,ai,aT,e=>by
  rw[ar4,as8] at h;rcases aq5.1 ai with ai |ai <;>rcases aq5.1 aT with aT |aT
  .rw[ai,aT]
  .exact absurd (by rw[<-ai,e];exact ar8 aT) h.1
  .exact absurd (by rw[<-aT,<-e];exact ar8 ai) h.1
  .exact wV h.2 ai aT e
theorem d9.D {l:List bd} (h:d9 l) {e:bd} (U:e∈l):eu (kb l) e.ad=some (qF e.nm e.on e.us e.du):=M0 (f:=wS) h.me U
theorem d9.M {l:List bd} (h:d9 l) {e:bd} (U:e∈l):eu (jT l) e.du=some (fo e.s e.g e.es):=M0 (f:=wT) h.vl U
theorem Uz {l:List bd} {a:Nat} {u:bd->bd} (E: ∀e,(u e).nm=e.nm) (G: ∀e,(u e).ad=e.ad):dW (nz l a u)=dW l:=by
 unfold dW nz;rw[at7];refine as2 fun x _=>?_
 show jS (if x.ad=a then u x else x)=jS x
 split
 .unfold jS;rw[E,G]
 .rfl
theorem UA {l:List bd} (h:d9 l) {e:bd} (U:e∈l) {u:bd->bd} (G:(u e).ad=e.ad):e' (kb l) e.ad (qF (u e).nm (u e).on (u e).us (u e).du)=kb (nz l e.ad u):=
 M1 (f:=wS) (u:=u) h.me U G
theorem UB {l:List bd} (h:d9 l) {e:bd} (U:e∈l) {u:bd->bd} (G:(u e).du=e.du):e' (jT l) e.du (fo (u e).s (u e).g (u e).es)=jT (nz l e.ad u):=by
 refine(M1 (f:=wT) (u:=u) h.vl U G).trans ?_;unfold jT nz
 congr 1
 refine as2 fun x hx=>?_
 by_cases J:x.ad=e.ad
 .have:=wV h.me hx U J;subst this;rw[if_pos rfl,if_pos rfl]
 .rw[if_neg J,if_neg fun ao=>J (by rw[wV h.vl hx U ao])]
theorem ajB {l:List bd} {a:Nat} {u:bd->bd} (E: ∀e,(u e).du=e.du/\(u e).s=e.s/\(u e).g=e.g/\(u e).es=e.es):jT (nz l a u)=jT l:=by
 unfold jT nz;rw[at7];refine as2 fun x _=>?_
 show wT (if x.ad=a then u x else x)=wT x
 split
 .obtain⟨bZ,cg,a3,a4⟩:=E x;unfold wT;rw[bZ,cg,a3,a4]
 .rfl
theorem d9.da {l:List bd} (h:d9 l) {a:Nat} {u:bd->bd} (E: ∀e,(u e).nm=e.nm/\(u e).ad=e.ad/\(u e).du=e.du) (G: ∀e,e∈l->e.ad=a->(0<=(u e).s/\(u e).s<=4096)/\(1<=(u e).g/\(u e).g<=64)/\e5 (u e).es):d9 (nz l a u):=by
 have key: ∀{lN:Type} (f:bd->lN),(∀e,f (u e)=f e)->(nz l a u).map f=l.map f:=fun f hf=>by
  unfold nz;rw[at7];refine as2 fun x _=>?_
  show f (if x.ad=a then u x else x)=f x
  split
  .exact hf x
  .rfl
 refine⟨by rw[key _ fun e=>(E e).1];exact h.jd,by rw[key _ fun e=>(E e).2.1];exact h.me,by rw[key _ fun e=>(E e).2.2];exact h.vl,fun e U=>?_,by unfold nz;rw[ar1];exact h.len⟩;obtain⟨x,hx,rfl⟩:=as9.1 U
 by_cases J:x.ad=a
 .rw[if_pos J];obtain⟨b1,b2,b3⟩:=G x hx J;exact⟨b1,b2,b3,by rw[(E x).1];exact(h.ok x hx).2.2.2⟩
 .rw[if_neg J];exact h.ok x hx
theorem Hp {f:FuncId} {args:List aP} {res:aP} {s g s' hp:Int} {es eB:List (Z al×Z al)} {M:List (Nat×bc)} {b:Nat} (h:Fn Tryz.prog f (aq 1001::args) (iz s g es) [] res (iz s' hp eB)) (aj:eu M b=some (fo s g es))
  (E:nZ 1001 [1002] (aq 1001::args) (iz s g es) [] [] []=true) (G:n0 1001 (mO [1002] [] []) res (iz s' hp eB) []=true) (af:(args.all fun v=> !v.has 1001)=true) (aW:(!res.has 1001)=true):
  Fn Tryz.prog f (dr b::args) [(1004,.aG (.bx M))] [] res [(1004,.aG (.bx (e' M b (fo s' hp eB))))]:=by
 have J:Fn Tryz.prog f (aq 1001::args) [(1001,.aG (fo s g es))] [] res [(1001,.aG (fo s' hp eB))]:=Fn.close (bp:=iz s g es) (dG:=iz s' hp eB) (aJ:=[]) (aO:=[]) [1002] az3 (fun _ _ _ _ h=>h) (fun _ _ _ _ h=>h) E G;exact(cx.bx (c:=1001) (q:=1004) (b:=b) (args:=args) (aJ:=[]) (bb:=[]) (X:=Unit) (res:=fun _=>res) (aO:=fun _=>[]) (o:=fo s g es) (o':=fun _=>fo s' hp eB) (L:=M) J.x aj af ⟨rfl,rfl⟩ rfl (fun _=>aW)).fn
theorem UC:Fn Tryz.prog 29 [] [] [1001,1002,1003,1004] (aq 1001) (eA []):=by
 refine aU [] Tryz.func29 ?_;exact⟨rfl,rfl,_,_,_,ac.trans (ac.aV 3 1001 rfl) (ac.trans (ac.aV 1 1002 rfl) (ac.trans (ac.ro 1003 rfl) (ac.ro 1004 rfl))),rfl,rfl,aC,rfl⟩
theorem AV (l:List bd):mf (dW l)=l.map (·.nm):=by
 unfold mf dW;rw[at7];rfl
def ik (l:List bd):List aC3:=oh (dW l)
theorem M2 (l:List bd):(ik l).length=l.length:=by
 unfold ik oh;rw[List.length_mergeSort,AV,ar1]
theorem ajC {l:List bd} (h:d9 l):Fn Tryz.prog 23 [aq 1001] (eA l) [] (bQ .str (ik l)) (eA l):=by
 have aa:(mf (dW l)).Nodup:=by rw[AV];exact h.jd
 have aA: ∀s∈mf (dW l),s.length<=maxLen:=fun s aw=>by
  rw[AV] at aw;obtain⟨d,H,rfl⟩:=as9.1 aw;exact aw2 (h.ok d H).2.2.2 ay5
 have aw:(dW l).length<=4294967296:=by unfold dW;rw[ar1];have:=h.len;omega
 refine aU [] Tryz.func23 ?_;exact av (Fn.aV [(1001,1002),(2001,5001)] (ajy (dW l))) <| av (Fn.aV [(1001,1002),(2001,5001)] (ajz (dW l) aa aA aw)) bg
theorem DK:(Tryz.prog.info? 4).map (·.size)=some 1:=by kernel_rfl
theorem Hq:(Tryz.prog.info? 58).map (·.size)=some 1:=by kernel_rfl
theorem M3 {I:Nat->Prop} {w:World} {b:Bool} {aB:Value} (h:gK I w (.bool b) aB):aB.cells=List.toArray [aB]/\aB.oneCell'=true:=by
 have h:aB= .bool b:=h;subst h;exact⟨rfl,rfl⟩
theorem ajD {I:Nat->Prop} {w:World} {b:Bool} {aB:Value} (h:gK I w (.lit b) aB):aB.cells=List.toArray [aB]/\aB.oneCell'=true:=by
 have h:aB= .bool b:=h;subst h;exact⟨rfl,rfl⟩
theorem ajE {l:List bd} (h:d9 l) {e:bd} (U:e∈l) (on:Bool):Fn Tryz.prog 176 [dr e.ad,aq 3001] (eA l++[(3001,.cells [.d (.bool on)])]) [] gO (eA (nz l e.ad fun x=>{x with on:=on})++[(3001,.cells [.d (.bool on)])]):=by
 obtain⟨o8,gj,gk⟩:=ku DK;have cf:=h.D U;have pc:=Uz (l:=l) (a:=e.ad) (u:=fun x=>{x with on:=on}) (fun _=>rfl) (fun _=>rfl);have sG:=UA h U (u:=fun x=>{x with on:=on}) rfl;have wI:=ajB (l:=l) (a:=e.ad) (u:=fun x=>{x with on:=on}) (fun _=>⟨rfl,rfl,rfl,rfl⟩);refine aU [] Tryz.func176 ?_;refine⟨_,_,fun N=>i' (b:=e.ad) rfl rfl N,rfl,?_⟩;refine⟨_,_,fun N=>jq rfl Tryz.underlying60 rfl rfl gj az6 rfl N,rfl,?_⟩;refine⟨_,_,fun N=>zY (q:=1003) (b:=e.ad) (j:=1) (y:=.bool on) (l:=AU e.nm e.on e.us e.du) (h':=fun _=>rfl) rfl gj gk rfl rfl rfl cf (show 1 < 4 by decide) M3 N,rfl,?_⟩;exact sx br rfl trivial ⟨rfl,congrArg (fun e=>some (ba.map .str .aM e)) pc.symm,congrArg (fun e=>some (ba.aG (.bx e))) sG,congrArg (fun e=>some (ba.aG (.bx e))) wI.symm,rfl,trivial⟩ rfl
def ow (x:bd):bd:={x with us:=true,es:=DJ x.s x.g x.es}
theorem ajF {l:List bd} (h:d9 l) {e:bd} (U:e∈l):Fn Tryz.prog 171 [dr e.ad] (eA l) [] gO (eA (nz l e.ad ow)):=by
 obtain⟨o8,gj,gk⟩:=ku DK;obtain⟨M4,wW,wX⟩:=ku Hq;obtain⟨cj,cT,eg,eR⟩:=h.ok e U;have cf:=h.D U;have aj:=h.M U;have pc:=Uz (l:=l) (a:=e.ad) (u:=ow) (fun _=>rfl) (fun _=>rfl);have sG:=UA h U (u:=ow) rfl;have wI:=UB h U (u:=ow) rfl;have aw:=Hp (MD e.s e.g e.es) aj rfl rfl rfl rfl;rw[xX aj] at aw;have J:=Hp (ajj e.s e.g e.es cj cT) aj rfl rfl rfl rfl;refine aU [] Tryz.func171 ?_;refine⟨_,_,fun N=>i' (b:=e.ad) rfl rfl N,rfl,?_⟩;refine⟨_,_,fun N=>jq rfl Tryz.underlying60 rfl rfl wW (by rw[wX];decide) rfl N,rfl,?_⟩;refine⟨_,_,fun N=>lq (q:=1003) rfl Tryz.underlying58 rfl rfl rfl cf rfl N,rfl,?_⟩;refine⟨_,_,fun N=>i' (b:=e.ad) rfl rfl N,rfl,?_⟩;refine⟨_,_,fun N=>jq rfl Tryz.underlying60 rfl rfl wW (by rw[wX];decide) rfl N,rfl,?_⟩;refine⟨_,_,fun N=>lq (q:=1003) rfl Tryz.underlying58 rfl rfl rfl cf rfl N,rfl,?_⟩;refine av aw <| av J ⟨eF ay7,_,_,fun N=>i' (b:=e.ad) rfl rfl N,rfl,?_⟩;refine⟨_,_,fun N=>jq rfl Tryz.underlying60 rfl rfl gj az6 rfl N,rfl,?_⟩;refine⟨_,_,fun N=>zY (q:=1003) (b:=e.ad) (j:=2) (y:=.lit true) (l:=AU e.nm e.on e.us e.du) (h':=fun _=>rfl) rfl gj gk rfl rfl rfl cf (show 2 < 4 by decide) ajD N,rfl,?_⟩;exact sx br rfl trivial ⟨rfl,congrArg (fun e=>some (ba.map .str .aM e)) pc.symm,congrArg (fun e=>some (ba.aG (.bx e))) sG,congrArg (fun e=>some (ba.aG (.bx e))) wI,trivial⟩ rfl
end
section
section
variable {P:Program} {ids:aC4} {K:aY} {B:az}
theorem ajG {o:Oper} {T:TypeId} {x:Operand} {q b:Nat} {L:List (Nat×bc)} {l:List bB} {h: ∀c,(ba.cells l).has c=false} {d:TypeDesc} {i:TypeInfo} (ah:o.op= .load T x) (b6:P.underlying T=some d) (fK:d.isRow=true) (aF:P.info? T=some i) (aN:i.size=l.length) (hx:a2 K x= .c (.one (.d (.aM (some b)))))
  (aT:ag B q=some (.aG (.bx L))) (cL:eu L b=some (bc.ch (.cells l) h)) (N:Nat):bA P N ids o K B (.c (.agg l)) ⟨[q],[],[]⟩:=by
 have aA:x∈o.op.operands:=az1
 refine bA.val fun K' B' g1 g2 C ρ F a w aj ar=>?_
 have bl:fM (bX C B' F w) w L (F q):=aj.holds q _ ((g2 q ay6).trans aT);have ay:a.eval x= .pointer (some ⟨b,0,none⟩):=ar.ev ((g1 x aA).trans hx);obtain⟨cG,cN,p,cj,cT,eg,eR,uM⟩:=bl.out cL;obtain⟨E,aE,eJ,G,af⟩:=eR;rw[eg] at G
 refine⟨.agg (List.toArray aE),E3 (cs:=aE) ah ay b6 fK aF (by rw[cc.length _ _ af];exact aN) (fun j v V=>by rw[au1];exact oS G V),aE,rfl,cc.mono (cm.refl _ _) _ _ (fun c J=>by
  have au:mB c l=false:=h c;rw[au] at J
  cases J) af⟩
end
abbrev iC (c d:Nat) (s g:Int) (es:List (Z al×Z al)):az:=[(c,.cells [.d (.int .i64 s),.d (.int .i64 g),.mp d]),(d,.map al al es)]
theorem ajH (s g:Int) (es:List (Z al×Z al)):Fn Tryz.prog 54 [aq 3001] (iC 3001 3002 s g es) [1001] (aq 1001) (iC 3001 3002 s g es++[(1001,.aG (fo s g es))]):=by
 refine aU [] Tryz.func54 ?_;exact av (Fn.aV [(1001,3002),(2001,1002)] (Uu es)) ⟨rfl,eF ay7,_,_,_,ac.trans (ac.aV 17 1001 rfl) (ac.close 1001 (iz s g es) aC rfl fun _ _ _ _ h=>h),rfl,rfl,aC,rfl⟩
theorem ajI {s g:Int} {es:List (Z al×Z al)} {M:List (Nat×bc)} {b:Nat} (aj:eu M b=some (fo s g es)):Fn Tryz.prog 54 [dr b] [(1004,.aG (.bx M))] [5001,5002] (aq 5001) [(1004,.aG (.bx M)),(5001,.cells [.d (.int .i64 s),.d (.int .i64 g),.mp 5002]),(5002,.map al al es)]:=by
 have au:=Fn.aV [(2001,5001),(2002,5002)] (ajp s g es);have J:Fn Tryz.prog 54 [aq 1001] [(1001,.aG (fo s g es))] [5001,5002] (aq 5001) ((1001,.aG (fo s g es))::iC 5001 5002 s g es):=Fn.close (bp:=iz s g es) (dG:=iz s g es) (aJ:=[]) (aO:=iC 5001 5002 s g es) [1002] au (fun _ _ _ _ h=>h) (fun _ _ _ _ h=>h) rfl rfl;have:=(cx.bx (c:=1001) (q:=1004) (b:=b) (args:=[]) (aJ:=[]) (bb:=[5001,5002]) (X:=Unit) (res:=fun _=>aq 5001) (aO:=fun _=>iC 5001 5002 s g es) (o:=fo s g es) (o':=fun _=>fo s g es) (L:=M) J.x aj rfl ⟨rfl,rfl⟩ rfl (fun _=>rfl)).fn;rw[xX aj] at this;exact this
end
section
abbrev AW (b:Nat):Z .aM:=(some b:Option Nat)
section
variable {P:Program} {ids:aC4} {K:aY} {B:az}
end
end
section
def yC (ox:Nat->bc) (mI:bc):bc where
 bo:=fun I F w p=> ∃(cG cN:Nat->Prop) (q:bn),(∀x,F x↔cG x\/cN x)/\(∀x,cG x-> ¬cN x)/\(ox q.bk).bo I cG w p/\mI.bo I cN w q
 cp:=fun I F w I' w' p ⟨cG,cN,q,E,G,af,aW⟩ U bh aN=>⟨cG,cN,q,E,G,(ox q.bk).cp _ _ _ _ _ _ af U (fun b O=>bh b ((E b).2 (.inl O))) aN,mI.cp _ _ _ _ _ _ aW U (fun b O=>bh b ((E b).2 (.inr O))) aN⟩
def UD (aI:bz) (es:List (Z aI×Z .aM)) (key:Z aI) (o:bc) (I F:Nat->Prop) (w:World) (p:bn):Prop:=
 ∃(ce:Nat->Prop) (q:bn),(∀x,F x↔x=p.bk\/ce x)/\ ¬ce p.bk/\(∃bR bS,w.heap[p.bk]? =some (.map (List.toArray bR) bS)/\ir I w aI .aM (dx (aI:=aI) (aK:=.aM) es key (AW q.bk)) bR/\l4 bR bS)/\o.bo I ce w q
def Hr (aI:bz) (es:List (Z aI×Z .aM)) (key:Z aI) (o:bc):bc where
 bo:=UD aI es key o
 cp:=fun I F w I' w' p ⟨ce,q,E,G,⟨bR,bS,aW,bG,fF⟩,jZ⟩ U bh aN=>⟨ce,q,E,G,⟨bR,bS,(bh _ ((E _).2 (.inl rfl))).trans aW,bG.mono U,fF⟩,o.cp _ _ _ _ _ _ jZ U (fun b O=>bh b ((E b).2 (.inr O))) aN⟩
section
variable {P:Program} {ids:aC4} {K:aY} {B:az}
theorem ac.ajJ (c:Nat) {ch:ba} (h: ∀c,ch.has c=false) (J:ag B c=some ch):ac ids K B K ((c,.aG (bc.ch ch h))::B):=by
 rintro N C a w ⟨hn,H,ρ,F,aj,ar⟩;obtain⟨bI,a1⟩:=aj.hI (w':=w) (ch:=.aG (bc.ch ch h)) J (cS.refl _ _) fun I a8=>bc.Rv h (Holds.cp (ρ':=ρ) a8 (fun _ _=>rfl) (aq0 _) ch (fun _ _=>rfl) (aj.holds c _ J))
 exact⟨hn,H,ρ,F,bI,ar.mono a1 fun _ _ _=>rfl⟩
theorem ajK {o:Oper} {T kt et:TypeId} {x i v:Operand} {c d e:Nat} (ah:o.op= .mapUpdate T x i v) (b6:P.underlying T=some (.map kt et)) {dk:TypeDesc} (kq:P.underlying kt=some dk) {aI:bz} (H:m' aI dk=true)
  (hx:a2 K x= .c (.one (.mp c))) {key:Z aI} (aa:xr aI (a2 K i)=some key) (ay:a2 K v= .c (.one (.ptr d 0))) {es:List (Z aI×Z .aM)} {bf: ∀c,(ba.map aI .aM es).has c=false} {l:List bB} {ox:Nat->bc} {mI:bc}
  (J:ag B c=some (.aG (bc.ch (.map aI .aM es) bf))) (k6:ag B d=some (.cells l)) (gE:ag B e=some (.aG mI)) (a7:c≠d) (UE:c≠e) (ajL:d≠e)
  (M5: ∀(ρ:Nat->bn) (I F:Nat->Prop) (w:World) (p:bn),Holds ρ I F w p (.cells l)->(ox (ρ e).bk).bo I F w p) (N:Nat):bA P N ids o K B .undef ⟨[c,d,e],[],[(d,none),(e,none),(c,some (.aG (Hr aI es key (yC ox mI))))]⟩:=by
 have m1:x∈o.op.operands:=az1
 have m2:i∈o.op.operands:=az1
 have m3:v∈o.op.operands:=az1
 rintro K' B' g1 g2 - C a w ⟨hn,mc,ρ,F,aj,ar⟩ bt fJ Q cV;have cK:=(g2 c ay6).trans J;have dq:=(g2 d ay6).trans k6;have gW:=(g2 e ay6).trans gE;obtain⟨mJ,bR,bS,aW,bG,fF⟩:Holds (fun _=>ρ c) (bX C B' F w) (F c) w (ρ c) (.map aI .aM es):=aj.holds c _ cK;have ajM:=aj.holds d _ dq;have ajN:mI.bo (bX C B' F w) (F e) w (ρ e):=aj.holds e _ gW;have yD: ∀y,F d y-> ¬F e y:=fun y aD d'=>aj.fh d e _ _ y dq gW ajL aD d'
 have ap:(yC ox mI).bo (bX C B' F w) (fun y=>F d y\/F e y) w (ρ d):=⟨F d,F e,ρ e,fun x=>Iff.rfl,yD,M5 ρ _ _ _ _ ajM,ajN⟩;have ae:=ar.mp ((g1 x m1).trans hx);have ao:a.eval i=gL aI key:=BT aa (ar.ev (g1 i m2));have bm:a.eval v= .pointer (some ⟨(ρ d).bk,0,none⟩):=ar.ev ((g1 v m3).trans ay)
 have c0:jz (bX C B' F w) w .aM (AW (ρ d).bk) (a.eval v):=by
  rw[bm];exact⟨rfl,⟨fun _=>rfl,fun h=>by cases h⟩,rfl⟩
 obtain⟨eB,jX,ax,gu,qh⟩:=BD (P:=P) b6 kq H aW bG fF key c0;have eE: ∀y,(F d y\/F e y)-> ¬F c y:=fun y aD d'=>aD.elim (fun aD=>aj.fh d c _ _ y dq cK (Ne.symm a7) aD d') (fun aD=>aj.fh e c _ _ y gW cK (Ne.symm UE) aD d')
 have rp:=(aw5.1 aW).1;have uR: ∀y,y≠(ρ c).bk->({w with heap:=w.heap.setIfInBounds (ρ c).bk (.map (List.toArray eB) jX)}:World).heap[y]? =w.heap[y]? :=fun y aD=>aw1 (Ne.symm aD)
 unfold Oper.wp;have hx:(execOp a.eval o).run P w= .ok .skip {w with heap:=w.heap.setIfInBounds (ρ c).bk (.map (List.toArray eB) jX)}:=aB3
 rw[hx,Oper.upon_skip]
 obtain⟨bI,a1⟩:=aj.step (B':=(c,.aG (Hr aI es key (yC ox mI)))::gS (gS B' d) e) (ρ':=ρ) (F':=da F c (fun y=>F c y\/(F d y\/F e y))) (w':={w with heap:=w.heap.setIfInBounds (ρ c).bk (.map (List.toArray eB) jX)}) (fun j=>j=d\/j=e\/j=c) (fun _=>False)
  ((uz (S:=F c) ((mJ _).2 rfl)).mono fun y _ aD=>⟨c,_,cK,.inr (.inr rfl),aD⟩)
  (fun j ch V aA=>by
   rw[cd,if_neg (fun e=>aA (.inr (.inr e.symm))),hA,if_neg (fun e=>aA (.inr (.inl e.symm))),hA,if_neg (fun e=>aA (.inl e.symm))] at V;exact V)
  (fun _ _=>rfl) (fun j aA=>dh _ _ (fun e=>aA (.inr (.inr e)))) (fun _ _ h=>h) (fun _ h=>h.elim) (fun _ _ _ _ _ _ h=>h)
  (fun j ch V aA a1=>by
   rw[cd] at V
   split at V
   .rename_i e;subst e;injection V with V
    subst V;rw[c7];have xA: ∀y,(F d y\/F e y)->y≠(ρ c).bk:=fun y aD e=>eE y aD (e▸(mJ _).2 rfl)
    refine⟨fun y=>F d y\/F e y,ρ d,fun y=>?_,fun h=>xA _ h rfl,⟨eB,jX,by simp[rp],gu.mono a1,qh⟩,(yC ox mI).cp _ _ _ _ _ _ ap a1 (fun y aD=>uR y (xA y aD)) ay6⟩;show(F c y\/(F d y\/F e y))↔(y=(ρ c).bk\/(F d y\/F e y));rw[mJ]
   .rename_i bF;rcases aA with rfl |rfl |rfl
    .rw[hA] at V
     split at V
     .cases V
     .rw[hA,if_pos rfl] at V;cases V
    .rw[hA,if_pos rfl] at V;cases V
    .exact absurd rfl bF)
  (fun j ch V aA y aD=>by
   rw[cd] at V
   split at V
   .rename_i bF;subst bF;rw[c7] at aD;rcases aD with aD |aD |aD
    .exact⟨by simpa using(aj.own c _ cK y aD).1,.inl ⟨c,_,cK,.inr (.inr rfl),aD⟩⟩
    .exact⟨by simpa using(aj.own d _ dq y aD).1,.inl ⟨d,_,dq,.inl rfl,aD⟩⟩
    .exact⟨by simpa using(aj.own e _ gW y aD).1,.inl ⟨e,_,gW,.inr (.inl rfl),aD⟩⟩
   .rename_i bF;rcases aA with rfl |rfl |rfl
    .rw[hA] at V
     split at V
     .cases V
     .rw[hA,if_pos rfl] at V;cases V
    .rw[hA,if_pos rfl] at V;cases V
    .exact absurd rfl bF)
  (fun j rj ch ch' y V kG aA gu ajO=>by
   have key: ∀j ch,ag ((c,ba.aG (Hr aI es key (yC ox mI)))::gS (gS B' d) e) j=some ch->(j=d\/j=e\/j=c)->j=c:=fun j ch V aA=>by
    rcases aA with rfl |rfl |rfl
    .rw[cd,if_neg a7,hA] at V
     split at V
     .cases V
     .rw[hA,if_pos rfl] at V;cases V
    .rw[cd,if_neg UE,hA,if_pos rfl] at V;cases V
    .rfl
   exact absurd ((key j ch V aA).trans (key rj ch' kG gu).symm) ajO)
 exact cV _ _ ⟨ki.trans hn,kj.trans mc,ρ,_,bI,(ar.mono a1 fun _ _ _=>rfl).kk (fun e U=>by rw[hn];exact bt e U) rfl⟩
theorem di.ajP (c d:Nat) {aI:bz} {es:List (Z aI×Z .aM)} {key:Z aI} {o:bc} (J:ag B c=some (.aG (Hr aI es key o))) (H:g6 ids K B d=true):di ids K B (X:=Nat) (fun _=>K) (fun ad=>(d,.aG (o.at ad))::(c,.map aI .aM (dx (aI:=aI) (aK:=.aM) es key (AW ad)))::B):=by
 rintro N C a w ⟨hn,mc,ρ,F,aj,ar⟩;obtain⟨ce,q,E,G,⟨bR,bS,aW,bG,fF⟩,jZ⟩:UD aI es key o (bX C B F w) (F c) w (ρ c):=aj.holds c _ J;obtain⟨ib,jC,f3,px⟩:=k4 H
 obtain⟨bI,a1⟩:=aj.split (K:=K) (i4:=.map aI .aM (dx (aI:=aI) (aK:=.aM) es key (AW q.bk))) (oR:=.aG (o.at q.bk)) J H q (fun x=>x=(ρ c).bk) ce (fun b O=>(E b).2 (.inl O)) (fun b O=>(E b).2 (.inr O)) (fun b O k5=>G (O▸k5))
  (fun I a8=>⟨fun b=>Iff.rfl,bR,bS,aW,bG.mono a8,fF⟩) (fun I a8=>by
   refine⟨rfl,?_⟩;exact o.cp _ _ _ _ _ _ jZ a8 (fun _ _=>rfl) (aq0 _))
 exact⟨q.bk,hn,mc,_,_,bI,ar.mono a1 fun s j V=>dh _ _ (fun b7=>by subst b7;rw[ib s] at V;cases V)⟩
theorem di.ajQ (d e:Nat) {ox:Nat->bc} {mI:bc} {ad:Nat} (J:ag B d=some (.aG ((yC ox mI).at ad))) (U:g6 ids K B e=true):di ids K B (X:=Nat) (fun _=>K) (fun du=>(e,.aG (mI.at du))::(d,.aG ((ox du).at ad))::B):=by
 rintro N C a w ⟨hn,mc,ρ,F,aj,ar⟩;obtain⟨O,cG,cN,q,E,G,af,aW⟩:((yC ox mI).at ad).bo (bX C B F w) (F d) w (ρ d):=aj.holds d _ J;obtain⟨ib,jC,f3,px⟩:=k4 U
 obtain⟨bI,a1⟩:=aj.split (K:=K) (i4:=.aG ((ox q.bk).at ad)) (oR:=.aG (mI.at q.bk)) J U q cG cN (fun b O=>(E b).2 (.inl O)) (fun b O=>(E b).2 (.inr O)) G
  (fun I a8=>⟨O,(ox q.bk).cp _ _ _ _ _ _ af a8 (fun _ _=>rfl) (aq0 _)⟩) (fun I a8=>⟨rfl,mI.cp _ _ _ _ _ _ aW a8 (fun _ _=>rfl) (aq0 _)⟩)
 exact⟨q.bk,hn,mc,_,_,bI,ar.mono a1 fun s j V=>dh _ _ (fun b7=>by subst b7;rw[ib s] at V;cases V)⟩
end
theorem UF {nm:aC3} {on us:Bool} {du:Nat}:(qF nm on us du).o3:=fun I F w p h=>(h.1 _).2 rfl
theorem UG {s g:Int} {es:List (Z al×Z al)}:(fo s g es).o3:=by
 rintro I F w p ⟨ρ,ce,E,G,af,aW⟩;obtain⟨bh,_⟩:=G 1001 _ rfl;exact(aW _).2 ⟨1001,_,rfl,(bh _).2 (by rw[E])⟩
theorem ajR (l:List bd): ∀p∈kb l,p.2.o3:=fun p ai=>by
 obtain⟨d,_,rfl⟩:=as9.1 ai;exact UF
theorem ajS (l:List bd): ∀p∈jT l,p.2.o3:=fun p ai=>by
 obtain⟨d,_,rfl⟩:=as9.1 ai;exact UG
theorem UH (nm:aC3) (x:Z .aM): ∀L:List bd,dd L nm=none->dx (aI:=.str) (aK:=.aM) (dW L) (nm:Z .str) x=(dW L++[Aw nm x]:List (Z .str×Z .aM))
 | [],_=>rfl
 |d::L,h=>by
  rw[wU] at h
  by_cases e:d.nm=nm
  .rw[if_pos e] at h;cases h
  .rw[if_neg e] at h;have bq:=UH nm x L h;show dx (aI:=.str) (aK:=.aM) (jS d::dW L) (nm:Z .str) x=_;rw[show dx (aI:=.str) (aK:=.aM) (jS d::dW L) (nm:Z .str) x=(match f0 .str (nm:Z .str) (jS d).1 with |true=>Aw nm x::dW L |false=>jS d::dx (aI:=.str) (aK:=.aM) (dW L) (nm:Z .str) x:List (Z .str×Z .aM)) from rfl];rw[show f0 .str (nm:Z .str) (jS d).1=false from rr (aI:=.str) qr (fun h=>e h.symm)];simp only;rw[bq];rfl
theorem Hs {l:List bd} {nm:aC3} (h:dd l nm=none):nm∉l.map (·.nm):=fun hx=>by
 obtain⟨d,H,e⟩:=as9.1 hx;have:=List.find?_eq_none.1 h d H;exact this (by simpa using e)
theorem d9.add {l:List bd} (h:d9 l) {e:bd} (au:dd l e.nm=none) (ha:e.ad∉l.map (·.ad)) (O:e.du∉l.map (·.du)) (bv:(0<=e.s/\e.s<=4096)/\(1<=e.g/\e.g<=64)/\e5 e.es/\e.nm.length<=64) (ak:l.length < 8):d9 (l++[e]):=by
 have key: ∀{α:Type} (f:bd->α) (d:bd),(l.map f).Nodup->f d∉l.map f->((l++[d]).map f).Nodup:=fun f d E G=>by
  rw[au0];refine List.nodup_append.2 ⟨E,ay6,fun a ha b O e=>?_⟩;rw[ar4,ax6,ar5] at O;exact G (by rw[<-O,<-e];exact ha)
 refine⟨key _ _ h.jd (Hs au),key _ _ h.me ha,key _ _ h.vl O,fun x hx=>?_,by rw[aq1];show l.length+1<=8;omega⟩;rcases as1.1 hx with hx |hx
 .exact h.ok x hx
 .rw[ar5.1 hx];exact bv
theorem UI {f:bd->Nat×bc} (L:List bd) (d:bd):(f d::L.map f).Perm ((L++[d]).map f):=by
 rw[au0];exact(List.perm_append_comm (l₁:=[f d]) (l₂:=L.map f))
abbrev AX (l:List bd) (s g:Int) (es:List (Z al×Z al)):az:=eA l++iC 2001 2002 s g es
theorem DL {l:List bd} {nm:aC3} (au:dd l nm=none):(bY (aI:=.str) (aK:=.aM) (dW l) nm).getD (cO .aM)=none:=by rw[Ho,au];rfl
theorem AY {l:List bd} {nm:aC3} {e:bd} (au:dd l nm=some e):(bY (aI:=.str) (aK:=.aM) (dW l) nm).getD (cO .aM)=some e.ad:=by rw[Ho,au];rfl
theorem UJ {l:List bd} (h:d9 l) (nm:aC3) (hn:nm.length<=4294967296) (ax:gY nm=true) (au:dd l nm=none) (iu:l.length < 8) (s g:Int) (es:List (Z al×Z al)) (bv:(0<=s/\s<=4096)/\(1<=g/\g<=64)/\e5 es):
  cx Tryz.prog 70 [aq 1001,bT nm,aq 2001] (AX l s g es) [] (X:={p:Nat×Nat//d9 (l++[⟨nm,p.1,p.2,true,true,s,g,es⟩])}) (fun _=>ab 0) (fun p=>AX (l++[⟨nm,p.1.1,p.1.2,true,true,s,g,es⟩]) s g es):=by
 have hx:=DL au;have bV:(dW l).length=l.length:=ar1 ..;refine hO [5,6] Tryz.func70 ?_;refine av (qB _ hn) ⟨fun ae=>?_,fun ae=>?_⟩
 .rw[ax] at ae;cases ae
 refine⟨fun d5 bm=>?_,fun bm=>?_⟩
 .exfalso;have:(bY (aI:=.str) (aK:=.aM) (dW l) nm).getD (cO .aM)=some d5:=bm;rw[hx] at this
  cases this
 refine⟨fun c0=>?_,fun c0=>?_⟩
 .exfalso;have c0:(8:Int)<=((dW l).length:Int):=gd c0;omega
 refine bw.le (ac.ajJ 1002 (fun _=>rfl) rfl) <| bu [6] (br) <| av (Fn.aV [(1001,38),(3001,2001),(3002,2002)] (ajH s g es)) ⟨rfl,_,_,fun N=>ajK (c:=1002) (d:=40) (e:=38) (aI:=.str) (key:=nm) (ox:=fun du=>qF nm true true du) rfl Tryz.underlying104 (dk:=.string) ay7 rfl rfl rfl rfl rfl rfl rfl ay5 ay5 ay5 (fun ρ I F w p bf=>?M5) N,rfl,?_⟩
 case M5=>
  obtain⟨cA,aE,T,cF,k1,r1,ae,k7,v2,r2,ao,bC,v3,gg,bm,uv,v4,j2,c0,BR,fQ⟩:=bf;exact⟨cA,aE,T,cF,k1,r1,ae,k7,v2,r2,ao,bC,v3,gg,bm,uv,v4,j2,c0,BR,fQ⟩
 refine⟨eF ay7,bw.e4 (di.ajP 1002 5001 rfl rfl) fun ad=>bw.e4 (di.ajQ 5001 5002 rfl rfl) fun du=>bw.le (K':=[]) (B':=[(1001,.cells [.mp 1002]),(1002,.map .str .aM (dx (aI:=.str) (aK:=.aM) (dW l) nm (AW ad))),(1003,.aG (.bx ((ad,qF nm true true du)::kb l))),(1004,.aG (.bx ((du,fo s g es)::jT l))),(2001,.cells [.d (.int .i64 s),.d (.int .i64 g),.mp 2002]),(2002,.map al al es)]) (ac.trans (ac.put 1003 5001 ay5 rfl rfl) (ac.trans (ac.put 1004 5002 ay5 rfl rfl) (ac.sub trivial aC))) ?_⟩;refine bw.e4 (di.Cx 1003 (L:=(ad,qF nm true true du)::kb l) (fun p ai=>(aq5.1 ai).elim (fun e=>by rw[e];exact UF) (ajR l p)) rfl) fun ajT=>?_
 refine bw.e4 (di.Cx 1004 (L:=(du,fo s g es)::jT l) (fun p ai=>(aq5.1 ai).elim (fun e=>by rw[e];exact UG) (ajS l p)) rfl) fun ajU=>?_
 refine bu [] (br) ?_;have LI:ad∉l.map (·.ad):=fun aA=>(as8.1 ajT.down).1 (by show ad∈(kb l).map (·.1);unfold kb;rw[at7];exact aA)
 have ajV:du∉l.map (·.du):=fun aA=>(as8.1 ajU.down).1 (by show du∈(jT l).map (·.1);unfold jT;rw[at7];exact aA)
 have Lg:nm.length<=64:=by have:=(Dg ax).2;omega
 have pc:dx (aI:=.str) (aK:=.aM) (dW l) (nm:Z .str) (AW ad)=dW (l++[⟨nm,ad,du,true,true,s,g,es⟩]):=(UH nm _ l au).trans (by unfold dW;rw[au0];rfl);exact⟨⟨(ad,du),h.add (e:=⟨nm,ad,du,true,true,s,g,es⟩) au LI ajV ⟨bv.1,bv.2.1,bv.2.2,Lg⟩ iu⟩,_,_,_,ac.trans (ac.Av 1003 (UI (f:=wS) l ⟨nm,ad,du,true,true,s,g,es⟩) rfl) (ac.Av 1004 (UI (f:=wT) l ⟨nm,ad,du,true,true,s,g,es⟩) rfl),rfl,rfl,⟨rfl,congrArg (fun e=>some (ba.map .str .aM e)) pc,rfl,rfl,rfl,rfl,trivial⟩,rfl⟩
theorem ajW {l:List bd} (nm:aC3) (hn:nm.length<=4294967296) (ax:gY nm=false) (s g:Int) (es:List (Z al×Z al)):
  Fn Tryz.prog 70 [aq 1001,bT nm,aq 2001] (AX l s g es) [] (ab 1) (AX l s g es):=by
 refine aU [] Tryz.func70 ?_;refine av (qB _ hn) ⟨fun ae=>?_,fun ae=>?_⟩
 .exact bg
 .rw[ax] at ae;cases ae
theorem ajX {l:List bd} (nm:aC3) (hn:nm.length<=4294967296) (ax:gY nm=true) (au:(dd l nm).isSome=true\/8<=l.length) (s g:Int) (es:List (Z al×Z al)):
  Fn Tryz.prog 70 [aq 1001,bT nm,aq 2001] (AX l s g es) [] (ab 111) (AX l s g es):=by
 have bV:(dW l).length=l.length:=ar1 ..;refine aU [5] Tryz.func70 ?_;refine av (qB _ hn) ⟨fun ae=>?_,fun ae=>?_⟩
 .rw[ax] at ae;cases ae
 refine⟨fun d5 bm=>?_,fun bm=>?_⟩
 .exact bg
 refine⟨fun c0=>?_,fun c0=>?_⟩
 .exact bg
 .exfalso;have bm:(bY (aI:=.str) (aK:=.aM) (dW l) nm).getD (cO .aM)=none:=bm;have c0: ¬(8:Int)<=((dW l).length:Int):=mu c0;rcases au with au |au
  .rw[Ho] at bm
   cases E:dd l nm with
   |none=>rw[E] at au;cases au
   |some e=>rw[E] at bm;cases bm
  .omega
end
section
theorem ajY {l l':List bd} {nm:aC3} {e:bd} (U:dd l nm=some e) (J:Fn Tryz.prog 175 [dr e.ad,aq 3001,aq 3002] (eA l++[(3001,.cells [.ptr 1001 0]),(3002,.cells [.d (.str nm)])]) [] gO (eA l'++[(3001,.cells [.ptr 1001 0]),(3002,.cells [.d (.str nm)])])):
  Fn Tryz.prog 52 [aq 1001,bT nm,.c (.one (.cY 175 [.p 3001 0,.p 3002 0]))] (eA l++[(3001,.cells [.ptr 1001 0]),(3002,.cells [.d (.str nm)])]) [] (ab 0) (eA l'++[(3001,.cells [.ptr 1001 0]),(3002,.cells [.d (.str nm)])]):=by
 have h':=AY U;refine aU [] Tryz.func52 ?_;exact⟨fun d5 O=>av (Fn.arg (args:=[As ((bY (aI:=.str) (aK:=.aM) (dW l) nm).getD (cO .aM)),aq 3001,aq 3002]) J ⟨h',rfl,rfl,trivial⟩) bg,fun O=>absurd (show(bY (aI:=.str) (aK:=.aM) (dW l) nm).getD (cO .aM)=none from O) aA0⟩
theorem ajZ {l:List bd} {nm:aC3} (U:dd l nm=none):
  Fn Tryz.prog 52 [aq 1001,bT nm,.c (.one (.cY 175 [.p 3001 0,.p 3002 0]))] (eA l++[(3001,.cells [.ptr 1001 0]),(3002,.cells [.d (.str nm)])]) [] (ab 112) (eA l++[(3001,.cells [.ptr 1001 0]),(3002,.cells [.d (.str nm)])]):=by
 have h':=DL U;refine aU [] Tryz.func52 ?_;exact⟨fun d5 O=>absurd (show(bY (aI:=.str) (aK:=.aM) (dW l) nm).getD (cO .aM)=some d5 from O) aA0,fun _=>bg⟩
theorem aj0 {l l':List bd} {nm:aC3} (on:Bool) {e:bd} (U:dd l nm=some e) (J:Fn Tryz.prog 176 [dr e.ad,aq 3001] (eA l++[(3001,.cells [.d (.bool on)])]) [] gO (eA l'++[(3001,.cells [.d (.bool on)])])):
  Fn Tryz.prog 52 [aq 1001,bT nm,.c (.one (.cY 176 [.p 3001 0]))] (eA l++[(3001,.cells [.d (.bool on)])]) [] (ab 0) (eA l'++[(3001,.cells [.d (.bool on)])]):=by
 have h':=AY U;refine aU [] Tryz.func52 ?_;exact⟨fun d5 O=>av (Fn.arg (args:=[As ((bY (aI:=.str) (aK:=.aM) (dW l) nm).getD (cO .aM)),aq 3001]) J ⟨h',rfl,trivial⟩) bg,fun O=>absurd (show(bY (aI:=.str) (aK:=.aM) (dW l) nm).getD (cO .aM)=none from O) aA0⟩
theorem aj1 {l:List bd} {nm:aC3} (on:Bool) (U:dd l nm=none):
  Fn Tryz.prog 52 [aq 1001,bT nm,.c (.one (.cY 176 [.p 3001 0]))] (eA l++[(3001,.cells [.d (.bool on)])]) [] (ab 112) (eA l++[(3001,.cells [.d (.bool on)])]):=by
 have h':=DL U;refine aU [] Tryz.func52 ?_;exact⟨fun d5 O=>absurd (show(bY (aI:=.str) (aK:=.aM) (dW l) nm).getD (cO .aM)=some d5 from O) aA0,fun _=>bg⟩
theorem aj2 {l l':List bd} {nm:aC3} {e:bd} (U:dd l nm=some e) (J:Fn Tryz.prog 171 [dr e.ad] (eA l) [] gO (eA l')):
  Fn Tryz.prog 52 [aq 1001,bT nm,.c (.one (.cY 171 []))] (eA l) [] (ab 0) (eA l'):=by
 have h':=AY U;refine aU [] Tryz.func52 ?_;exact⟨fun d5 O=>av (Fn.arg (args:=[As ((bY (aI:=.str) (aK:=.aM) (dW l) nm).getD (cO .aM))]) J ⟨h',trivial⟩) bg,fun O=>absurd (show(bY (aI:=.str) (aK:=.aM) (dW l) nm).getD (cO .aM)=none from O) aA0⟩
theorem aj3 {l:List bd} {nm:aC3} (U:dd l nm=none):
  Fn Tryz.prog 52 [aq 1001,bT nm,.c (.one (.cY 171 []))] (eA l) [] (ab 112) (eA l):=by
 have h':=DL U;refine aU [] Tryz.func52 ?_;exact⟨fun d5 O=>absurd (show(bY (aI:=.str) (aK:=.aM) (dW l) nm).getD (cO .aM)=some d5 from O) aA0,fun _=>bg⟩
theorem aj4 {l l':List bd} {nm:aC3} (on us:Bool) (s g:Int) (es:List (Z al×Z al)) {e:bd} (U:dd l nm=some e) (J:Fn Tryz.prog 53 [dr e.ad,aq 3001] (eA l++[(3001,.cells [.d (.str []),.d (.lit false),.d (.lit false),.bJ (.pointer none)])]) [5001,5002] gO (eA l'++[(3001,.cells [.d (.str nm),.d (.bool on),.d (.bool us),.ptr 5001 0]),(5001,.cells [.d (.int .i64 s),.d (.int .i64 g),.mp 5002]),(5002,.map al al es)])):
  Fn Tryz.prog 52 [aq 1001,bT nm,.c (.one (.cY 53 [.p 3001 0]))] (eA l++[(3001,.cells [.d (.str []),.d (.lit false),.d (.lit false),.bJ (.pointer none)])]) [5001,5002] (ab 0) (eA l'++[(3001,.cells [.d (.str nm),.d (.bool on),.d (.bool us),.ptr 5001 0]),(5001,.cells [.d (.int .i64 s),.d (.int .i64 g),.mp 5002]),(5002,.map al al es)]):=by
 have h':=AY U;refine aU [] Tryz.func52 ?_;exact⟨fun d5 O=>av (Fn.arg (args:=[As ((bY (aI:=.str) (aK:=.aM) (dW l) nm).getD (cO .aM)),aq 3001]) J ⟨h',rfl,trivial⟩) bg,fun O=>absurd (show(bY (aI:=.str) (aK:=.aM) (dW l) nm).getD (cO .aM)=none from O) aA0⟩
theorem aj5 {l:List bd} {nm:aC3} (U:dd l nm=none):
  Fn Tryz.prog 52 [aq 1001,bT nm,.c (.one (.cY 53 [.p 3001 0]))] (eA l++[(3001,.cells [.d (.str []),.d (.lit false),.d (.lit false),.bJ (.pointer none)])]) [] (ab 112) (eA l++[(3001,.cells [.d (.str []),.d (.lit false),.d (.lit false),.bJ (.pointer none)])]):=by
 have h':=DL U;refine aU [] Tryz.func52 ?_;exact⟨fun d5 O=>absurd (show(bY (aI:=.str) (aK:=.aM) (dW l) nm).getD (cO .aM)=some d5 from O) aA0,fun _=>bg⟩
def mj (l:List bd) (nm:aC3) (u:bd->bd):List bd:=l.map fun x=>if x.nm=nm then u x else x
theorem M6 {l:List bd} (h:d9 l) {nm:aC3} {e:bd} (U:dd l nm=some e) (u:bd->bd):nz l e.ad u=mj l nm u:=by
 obtain⟨E,G⟩:=kx U;unfold nz mj;refine as2 fun x hx=>?_
 by_cases J:x.ad=e.ad
 .have:=wV h.me hx E J;subst this;rw[if_pos J,if_pos G]
 .rw[if_neg J,if_neg fun ao=>J (by rw[wV h.jd hx E (ao.trans G.symm)])]
theorem Ht {l:List bd} {nm:aC3} (U:dd l nm=none) (u:bd->bd):mj l nm u=l:=by
 unfold mj;refine(as2 fun x hx=>?_).trans (List.map_id' l);rw[if_neg fun e=>Hs U (by rw[<-e];exact ar8 hx)]
theorem d9.nil:d9 []:=⟨List.Pairwise.nil,List.Pairwise.nil,List.Pairwise.nil,(fun e U=>by cases U),aq8 _⟩
theorem d9.UK {l:List bd} (h:d9 l) (u:bd->bd) (nm:aC3) (E: ∀e,(u e).nm=e.nm/\(u e).ad=e.ad/\(u e).du=e.du) (G: ∀e,(0<=e.s/\e.s<=4096)/\(1<=e.g/\e.g<=64)/\e5 e.es->(0<=(u e).s/\(u e).s<=4096)/\(1<=(u e).g/\(u e).g<=64)/\e5 (u e).es):d9 (mj l nm u):=by
 cases U:dd l nm with
 |none=>rw[Ht U];exact h
 |some e=>
  rw[<-M6 h U];exact h.da E fun x hx _=>G x ⟨(h.ok x hx).1,(h.ok x hx).2.1,(h.ok x hx).2.2.1⟩
def yE (l:List bd) (nm:aC3):Int:=if(dd l nm).isSome=true then 0 else 112
theorem Hu {l:List bd} {nm:aC3} {e:bd} (U:dd l nm=some e):yE l nm=0:=by unfold yE;rw[U];rfl
theorem Hv {l:List bd} {nm:aC3} (U:dd l nm=none):yE l nm=112:=by unfold yE;rw[U];rfl
theorem aj6 {l:List bd} (h:d9 l) (nm:aC3) (on:Bool):Fn Tryz.prog 126 [aq 1001,bT nm,fI on] (eA l) [] (ab (yE l nm)) (eA (mj l nm fun x=>{x with on:=on})):=by
 cases U:dd l nm with
 |none=>
  have J:=aj1 on U;rw[Hv U,Ht U];refine aU [] Tryz.func126 ?_;exact⟨rfl,av (Fn.aV [(3001,5)] J) bg⟩
 |some e=>
  have J:=aj0 on U (ajE h (kx U).1 on);rw[Hu U,<-M6 h U];refine aU [] Tryz.func126 ?_;exact⟨rfl,av (Fn.aV [(3001,5)] J) bg⟩
theorem aj7 {l:List bd} (h:d9 l) (nm:aC3):Fn Tryz.prog 123 [aq 1001,bT nm] (eA l) [] (ab (yE l nm)) (eA (mj l nm ow)):=by
 cases U:dd l nm with
 |none=>
  have J:=aj3 U;rw[Hv U,Ht U];refine aU [] Tryz.func123 ?_;exact av J bg
 |some e=>
  have J:=aj2 U (ajF h (kx U).1);rw[Hu U,<-M6 h U];refine aU [] Tryz.func123 ?_;exact av J bg
def ld:List bd->aC3->List bd
 | [],_=>[]
 |d::L,nm=>if d.nm=nm then L else d::ld L nm
theorem AZ (L:List bd) (nm:aC3):(ld L nm).Sublist L:=by
 induction L with
 |nil=>exact .slnil
 |cons e L bq=>
  unfold ld
  split
  .exact List.sublist_cons_self ..
  .exact bq.cons_cons _
theorem UL {nm:aC3}: ∀{L:List bd},dd L nm=none->ld L nm=L
 | [],_=>rfl
 |d::L,h=>by
  rw[wU] at h;unfold ld
  by_cases e:d.nm=nm
  .rw[if_pos e] at h;cases h
  .rw[if_neg e] at h;rw[if_neg e,UL h]
theorem UM (nm:aC3): ∀L:List bd,gM (aI:=.str) (aK:=.aM) (dW L) nm=dW (ld L nm)
 | []=>rfl
 |d::L=>by
  have bq:=UM nm L;show gM (aI:=.str) (aK:=.aM) (jS d::dW L) nm=_;rw[show gM (aI:=.str) (aK:=.aM) (jS d::dW L) nm=match f0 .str (nm:Z .str) (jS d).1 with |true=>dW L |false=>jS d::gM (aI:=.str) (aK:=.aM) (dW L) nm from rfl];unfold ld
  by_cases e:d.nm=nm
  .rw[show f0 .str (nm:Z .str) (jS d).1=true from(qr _ _).2 e.symm,if_pos e]
  .rw[show f0 .str (nm:Z .str) (jS d).1=false from rr (aI:=.str) qr (fun h=>e h.symm),if_neg e];simp only;rw[bq];rfl
theorem M7 {f:bd->Nat×bc}: ∀{L:List bd},(L.map fun d=>(f d).1).Nodup-> ∀{nm:aC3} {bN:bd},dd L nm=some bN->kr (L.map f) (f bN).1=(ld L nm).map f
 | [],_,nm,bN,h=>by cases h
 |d::L,hn,nm,bN,h=>by
  rw[ar4] at hn;obtain⟨cU,dU⟩:=as8.1 hn;rw[wU] at h;rw[ar4];unfold kr ld
  by_cases e:d.nm=nm
  .rw[if_pos e] at h;injection h with h
   subst h;rw[if_pos rfl,if_pos e]
  .rw[if_neg e] at h;have a7: ¬(f d).1=(f bN).1:=fun ao=>cU (by rw[ao];exact ar8 (f:=fun d=>(f d).1) (kx h).1)
   rw[if_neg a7,if_neg e,ar4,M7 dU h]
theorem d9.ng {l:List bd} (h:d9 l) (nm:aC3):d9 (ld l nm):=
 ⟨h.jd.sublist ((AZ l nm).map _),h.me.sublist ((AZ l nm).map _),h.vl.sublist ((AZ l nm).map _),fun e U=>h.ok e ((AZ l nm).subset U),aw2 (AZ l nm).length_le h.len⟩
theorem aj8 {l:List bd} (h:d9 l) {nm:aC3} {e:bd} (U:dd l nm=some e):Fn Tryz.prog 175 [dr e.ad,aq 3001,aq 3002] (eA l++[(3001,.cells [.ptr 1001 0]),(3002,.cells [.d (.str nm)])]) [] gO (eA (ld l nm)++[(3001,.cells [.ptr 1001 0]),(3002,.cells [.d (.str nm)])]):=by
 have cf:=h.D (kx U).1;have aj:=h.M (kx U).1;have pc:=UM nm l;have sG:kr (kb l) e.ad=kb (ld l nm):=M7 (f:=wS) h.me U;have wI:kr (jT l) e.du=jT (ld l nm):=M7 (f:=wT) h.vl U;refine aU [] Tryz.func175 ?_;exact⟨eF ay7,_,_,_,(ac.CK 1003 6001 e.ad rfl cf rfl).trans (ac.CK 1004 6002 e.du rfl aj rfl),rfl,trivial,⟨rfl,congrArg (fun e=>some (ba.map .str .aM e)) pc,congrArg (fun e=>some (ba.aG (.bx e))) sG,congrArg (fun e=>some (ba.aG (.bx e))) wI,rfl,rfl,trivial⟩,rfl⟩
theorem aj9 {l:List bd} (h:d9 l) (nm:aC3):Fn Tryz.prog 125 [aq 1001,bT nm] (eA l) [] (ab (yE l nm)) (eA (ld l nm)):=by
 cases U:dd l nm with
 |none=>
  have J:=ajZ U;rw[Hv U,UL U];refine aU [] Tryz.func125 ?_;exact⟨rfl,rfl,av (Fn.aV [(3001,2),(3002,3)] J) bg⟩
 |some e=>
  have J:=ajY U (aj8 h U);rw[Hu U];refine aU [] Tryz.func125 ?_;exact⟨rfl,rfl,av (Fn.aV [(3001,2),(3002,3)] J) bg⟩
theorem aj':(Tryz.prog.info? 60).map (·.size)=some 4:=by kernel_rfl
abbrev jD (nm:aC3) (on us:Bool):List bB:=[.d (.str nm),.d (.bool on),.d (.bool us),.ptr 5001 0]
theorem aka {l:List bd} (h:d9 l) {e:bd} (U:e∈l):Fn Tryz.prog 53 [dr e.ad,aq 3001] (eA l++[(3001,.cells [.d (.str []),.d (.lit false),.d (.lit false),.bJ (.pointer none)])]) [5001,5002] gO (eA l++[(3001,.cells (jD e.nm e.on e.us)),(5001,.cells [.d (.int .i64 e.s),.d (.int .i64 e.g),.mp 5002]),(5002,.map al al e.es)]):=by
 obtain⟨M4,wW,wX⟩:=ku Hq;obtain⟨CU,akb,akc⟩:=ku aj';have cf:=h.D U;have aj:=h.M U;have J:=ajI aj;refine aU [] Tryz.func53 ?_;refine⟨_,_,fun N=>i' (b:=e.ad) rfl rfl N,rfl,?_⟩;refine⟨_,_,fun N=>ajG (q:=1003) (l:=AU e.nm e.on e.us e.du) rfl Tryz.underlying60 rfl akb akc rfl rfl cf N,rfl,?_⟩;refine⟨_,_,fun N=>i' (b:=e.ad) rfl rfl N,rfl,?_⟩;refine⟨_,_,fun N=>jq rfl Tryz.underlying60 rfl rfl wW (by rw[wX];decide) rfl N,rfl,?_⟩;refine⟨_,_,fun N=>lq (q:=1003) rfl Tryz.underlying58 rfl rfl rfl cf rfl N,rfl,?_⟩;exact av J bg
theorem akd {l:List bd} (h:d9 l) {nm:aC3} {e:bd} (U:dd l nm=some e):Fn Tryz.prog 24 [aq 1001,bT nm] (eA l) [5001,5002] (.ci [.agg (jD e.nm e.on e.us),dz 0]) (eA l++[(5001,.cells [.d (.int .i64 e.s),.d (.int .i64 e.g),.mp 5002]),(5002,.map al al e.es)]):=by
 have aZ:=aka h (kx U).1;rw[(kx U).2] at aZ;have J:=aj4 e.on e.us e.s e.g e.es U aZ;rw[(kx U).2];refine aU [] Tryz.func24 ?_;exact⟨rfl,rfl,av (Fn.aV [(3001,6)] J) <| eG br rfl ⟨aC,rfl,trivial⟩⟩
theorem ake {l:List bd} {nm:aC3} (U:dd l nm=none):Fn Tryz.prog 24 [aq 1001,bT nm] (eA l) [] (.ci [.agg [.d (.str []),.d (.lit false),.d (.lit false),.bJ (.pointer none)],dz 112]) (eA l):=by
 have J:=aj5 U;refine aU [] Tryz.func24 ?_;exact⟨rfl,rfl,av (Fn.aV [(3001,6)] J) <| eG br rfl ⟨aC,rfl,trivial⟩⟩
end
section
abbrev oy:bz:=.bP (.int .i64) (.b' .u8)
abbrev lV:bz:=.bP .str (.bP .str (.bP (.int .i64) (.bP (.int .i64) (.b' oy))))
abbrev ky:Type:=Z oy
abbrev bW:Type:=Z lV
abbrev gm (p:ky):Int:=p.1
abbrev mo (p:ky):aC3:=p.2
abbrev ep (b:bW):aC3:=b.1
abbrev dA (b:bW):aC3:=b.2.1
abbrev c2 (b:bW):Int:=b.2.2.1
abbrev eH (b:bW):Int:=b.2.2.2.1
abbrev cB (b:bW):List ky:=b.2.2.2.2
abbrev Hw (b:bW):List bB:=[.d (.str (ep b)),.d (.str (dA b)),.d (.int .i64 (c2 b)),.d (.int .i64 (eH b)),.d (.co oy (cB b))]
abbrev yF (b:bW):aP:=.c (.agg (Hw b))
abbrev kT (L:List bW):az:=[(1001,.cells [.own 1002]),(1002,.row 78 lV L)]
theorem akf (b:bW) (nm:aC3):Fn Tryz.prog 90 [yF b,aq 1001] [(1001,.cells [.d (.str nm)])] [] (fI (decide (ep b=nm))) [(1001,.cells [.d (.str nm)])]:=by
 refine aU [] Tryz.func90 ?_;exact⟨rfl,bg⟩
def mq {α:Type} (p:α->Bool) (L:List α):Int:=match L.findIdx? p with
 |some k=>(k:Nat)
 |none=> -1
theorem UN {α:Type} {p:α->Bool} {L:List α} {k:Nat} (E:k < L.length) (ai: ∀(i:Nat) b,i < k->L[i]? =some b->p b=false) (h:p L[k]=true):mq p L=(k:Nat):=by
 unfold mq;rw[show L.findIdx? p=some k from List.findIdx?_eq_some_iff_getElem.2 ⟨E,h,fun j V=>by simpa using ai j _ V (oj ay4)⟩]
theorem akg {α:Type} {p:α->Bool} {L:List α} (ai: ∀(i:Nat) b,i < L.length->L[i]? =some b->p b=false):mq p L= -1:=by
 unfold mq
 rw[show L.findIdx? p=none from List.findIdx?_eq_none_iff.2 fun x hx=>by
  obtain⟨i,aF,rfl⟩:=aw0 hx;exact ai i _ aF (oj aF)]
theorem wY {α:Type} (p:α->Bool) (L:List α):(mq p L= -1/\ ∀(i:Nat) b,L[i]? =some b->p b=false)\/ ∃(k:Nat) (x:α),mq p L=k/\L[k]? =some x/\p x=true/\ ∀(i:Nat) b,i < k->L[i]? =some b->p b=false:=by
 unfold mq
 cases h:L.findIdx? p with
 |none=>
  refine .inl ⟨rfl,fun i b O=>?_⟩;have:=List.findIdx?_eq_none_iff.1 h b (au5 O);simpa using this
 |some k=>
  obtain⟨E,G,af⟩:=List.findIdx?_eq_some_iff_getElem.1 h;refine .inr ⟨k,L[k],rfl,oj E,G,fun i b aF O=>?_⟩;have:=af i aF;rw[oj ay4] at O;injection O with O
  rw[<-O];simpa using this
theorem akh {α:Type} {p:α->Prop} {L:List α} {k:Nat} (E:k < L.length) (ai: ∀(i:Nat) b,i < k->L[i]? =some b->p b) (h:p L[k]): ∀(i:Nat) b,i < k+1->L[i]? =some b->p b:=fun i b aF O=>by
 rcases Nat.lt_or_ge i k with G |G
 .exact ai i b G O
 .have:i=k:=az2
  subst this;rw[oj E] at O;injection O with O
  rw[<-O];exact h
theorem pW {α:Type} {L:List α} {k:Nat} {n:Int} (hn:n=(k:Nat)) (h:k < L.length):fE L n.toNat=some L[k]:=by
 subst hn;exact oj h
theorem UO (g:Nat) (p:bW->Bool) (nm:aC3) (L:List bW) (cL:L.length<=4294967296) (aw: ∀b,Fn Tryz.prog g [yF b,aq 1001] [(1001,.cells [.d (.str nm)])] [] (fI (p b)) [(1001,.cells [.d (.str nm)])]):
  Fn Tryz.prog 89 [eM 1002,k1 (.cY g [.p 1001 0])] [(1001,.cells [.d (.str nm)]),(1002,.row 78 lV L)] [] (ab (mq p L)) [(1001,.cells [.d (.str nm)]),(1002,.row 78 lV L)]:=by
 refine aU [] Tryz.func89 ?_;refine d2 [] (X:=Nat) (fun k=>[(0,eM 1002),(1,k1 (.cY g [.p 1001 0])),(7,ab (L.length:Nat)),(8,ab (k:Nat))]) (fun _=>[(1001,.cells [.d (.str nm)]),(1002,.row 78 lV L)]) (fun k=>k<=L.length/\ ∀(i:Nat) b,i < k->L[i]? =some b->p b=false) (fun k=>L.length - k) 0 ⟨aq8 _,fun i b h=>absurd h (ax7 _)⟩ ?_ ?_
 .exact ac.sub aC aC
 .rintro k ⟨aa,ai⟩;refine⟨fun h=>?_,fun h=>?_⟩
  .have E:k < L.length:=az3
   refine⟨⟨ay4,ay4⟩,L[k],pW rfl E,av (aw L[k]) ⟨fun h=>?_,fun h=>?_⟩⟩
   .exact eG br rfl ((UN E ai h).symm)
   .exact⟨ay4,k+1,⟨ay4,akh E ai h⟩,ay4,ac.sub aC aC⟩
  .have E: ¬k < L.length:=az3
   exact eG br rfl ((akg fun i b aF O=>ai i b ay4 O).symm)
def eY (L:List bW) (nm:aC3):Int:=mq (fun b=>decide (ep b=nm)) L
theorem Hx (nm:aC3) (L:List bW) (cL:L.length<=4294967296):Fn Tryz.prog 46 [aq 1001,bT nm] (kT L) [] (ab (eY L nm)) (kT L):=by
 refine aU [] Tryz.func46 ?_;exact⟨rfl,av (Fn.aV [(1001,3)] (UO 90 _ nm L cL fun b=>akf b nm)) bg⟩
end
section
def fO (z:Int):Int:=16*((2 ^z.toNat:Nat):Int)
theorem UP {bi:Int} (au:0<=bi) (E:bi<=3):1<=((2 ^bi.toNat:Nat):Int)/\((2 ^bi.toNat:Nat):Int)<=8:=by
 have:bi=0\/bi=1\/bi=2\/bi=3:=az2
 rcases this with rfl |rfl |rfl |rfl <;>decide
theorem UQ {bi:Int} (au:0<=bi) (E:bi<=3):16<=fO bi/\fO bi<=128:=by
 have:=UP au E;unfold fO;omega
def sO (size n:Int):Int->List ky->Bool
 |_,[]=>true
 |oz,p::r=> !(decide (gm p<=oz)||decide (size<=gm p)|| !decide (((mo p).length:Int)=n))&&sO size n (gm p) r
def hy (b:bW):Bool:=
 gY (ep b)&&decide (0<=c2 b)&&decide (c2 b<=3)&&decide (0<=eH b)&&decide (eH b<=256)&&sO (eH b) (fO (c2 b)) (-1) (cB b)&&
  (!decide (dA b=[])||decide (((cB b).length:Int)=eH b))
theorem M8 (b:bW) (au:0<=c2 b) (E:c2 b<=3):Fn Tryz.prog 47 [yF b] [] [] (ab (fO (c2 b))) []:=by
 have ai:=UP au E;refine aU [] Tryz.func47 ?_;exact⟨rfl,⟨ay4,ay4,ay4⟩,⟨ay4,ay4⟩,bg⟩
theorem aki (size n oz:Int) (l:List ky) (k:Nat) (aa:k < l.length):sO size n oz (l.drop k)=(!(decide (gm l[k]<=oz)||decide (size<=gm l[k])|| !decide (((mo l[k]).length:Int)=n))&&sO size n (gm l[k]) (l.drop (k+1))):=by
 rw[av6 aa];rfl
theorem akj (b:bW) (hn:(ep b).length<=4294967296) (ak:(cB b).length<=4294967296) (ai: ∀p,p∈cB b->(mo p).length<=4294967296):Fn Tryz.prog 170 [yF b] [] [] (fI (hy b)) []:=by
 refine aU [] Tryz.func170 ?_;refine⟨rfl,av (qB _ hn) ⟨fun h=>?_,fun E=>?_⟩⟩
 .exact eG br rfl (show false=hy b by simp_all [hy])
 refine⟨fun h=>?_,fun G=>?_⟩
 .exact eG br rfl (show false=hy b by simp at h;simp[hy];omega)
 refine⟨fun h=>?_,fun af=>?_⟩
 .exact eG br rfl (show false=hy b by simp at h;simp[hy];omega)
 refine⟨fun h=>?_,fun aW=>?_⟩
 .exact eG br rfl (show false=hy b by simp at h;simp[hy];omega)
 refine⟨fun h=>?_,fun bG=>?_⟩
 .exact eG br rfl (show false=hy b by simp at h;simp[hy];omega)
 simp only[decide_eq_false_iff_not,Bool.not_eq_false'] at E G af aW bG
 have ax:hy b=(sO (eH b) (fO (c2 b)) (-1) (cB b)&&(!decide (dA b=[])||decide (((cB b).length:Int)=eH b))):=by
  unfold hy;rw[E,ar0 (show 0<=c2 b by omega),ar0 (show c2 b<=3 by omega),ar0 (show 0<=eH b by omega),ar0 (show eH b<=256 by omega)];simp
 refine d2 [] (X:=Nat×Int) (fun x=>[(1,aq 1),(31,bQ oy (cB b)),(3,ab x.2),(32,ab ((cB b).length:Nat)),(33,ab (x.1:Nat))]) (fun _=>[(1,.cells (Hw b))]) (fun x=>x.1<=(cB b).length/\sO (eH b) (fO (c2 b)) (-1) (cB b)=sO (eH b) (fO (c2 b)) x.2 ((cB b).drop x.1)) (fun x=>(cB b).length - x.1) (0,-1) ⟨aq8 _,rfl⟩ ?_ ?_
 .exact ac.sub aC aC
 rintro⟨k,oz⟩ ⟨aa,aF⟩;refine⟨fun h=>?_,fun h=>?_⟩
 .have ct:k < (cB b).length:=az3
  rw[aki _ _ _ _ _ ct] at aF;have hl:=ai _ (as3 ct);refine⟨ay4,(cB b)[k],pW rfl ct,rfl,fun h=>?_,fun fF=>?_⟩
  .refine⟨rfl,?_⟩;exact eG br rfl (show false=hy b by rw[ax,aF,h];rfl)
  refine⟨fun h=>?_,fun jZ=>?_⟩
  .refine⟨rfl,?_⟩;exact eG br rfl (show false=hy b by rw[ax,aF,fF,h];rfl)
  refine⟨_,_,_,_,M8 b ay4 ay4,trivial,rfl,rfl,fun h=>?_,fun iu=>?_⟩
  .exact eG br rfl (show false=hy b by rw[ax,aF,fF,jZ,show(!decide (((mo (cB b)[k]).length:Int)=fO (c2 b)))=true from h];rfl)
  .refine⟨ay4,(k+1,gm (cB b)[k]),⟨by simp only;omega,?_⟩,by simp only;omega,?_⟩
   .rw[aF,fF,jZ,show(!decide (((mo (cB b)[k]).length:Int)=fO (c2 b)))=false from iu];rfl
   .exact ac.sub aC aC
 .have ct: ¬k < (cB b).length:=az3
  rw[List.drop_eq_nil_of_le ay4] at aF;refine⟨fun h=>?_,fun h=>?_⟩
  .exact eG br rfl (show true=hy b by rw[ax,aF,show(!decide (dA b=[]))=true from h];rfl)
  .exact eG br rfl (show decide (((cB b).length:Int)=eH b)=hy b by rw[ax,aF,show(!decide (dA b=[]))=false from h];rfl)
end
section
theorem M9:Fn Tryz.prog 30 [] [] [1001,1002] (aq 1001) (kT []):=by
 refine aU [] Tryz.func30 ?_;exact⟨rfl,_,_,_,ac.trans (ac.wb 2 0 1002 78 lV rfl rfl rfl) (ac.aV 2 1001 rfl),rfl,rfl,aC,rfl⟩
def t1 (L:List bW):aC3:=match L.getLast? with
 |some b=>ep b
 |none=>[]
theorem akk (L:List bW) (cL:L.length<=4294967296):Fn Tryz.prog 20 [aq 1001] (kT L) [] (bT (t1 L)) (kT L):=by
 refine aU [] Tryz.func20 ?_;refine⟨fun h=>?_,fun h=>?_⟩
 .have au:L.length=0:=by simp only[as5] at h;omega
  refine⟨_,_,_,br,rfl,?_,aC,rfl⟩;rw[at9 au];rfl
 .have au:0 < L.length:=by simp only[decide_eq_false_iff_not] at h;omega
  have bt:L.length - 1 < L.length:=az2
  refine⟨ay4,⟨ay4,ay4⟩,L[L.length - 1],pW (k:=L.length - 1) ay4 bt,rfl,_,_,_,br,rfl,?_,aC,rfl⟩;show ep L[L.length - 1]=t1 L;unfold t1;rw[List.getLast?_eq_getElem?,oj bt]
def gG (L:List bW) (b:bW):Int:=
 if(!hy b||decide (0<=eY L (ep b))||decide (64<=(L.length:Int)))=true then 1
 else if(!decide (dA b=[])&&decide (eY L (dA b) < 0))=true then 181
 else if(!decide (dA b=[])&& !decide ((match fE L (eY L (dA b)).toNat with |some x=>c2 x |none=>c2 b)=c2 b))=true then 1 else 0
def g4 (L:List bW) (b:bW):List bW:=if gG L b=0 then L++[b] else L
theorem UR {L:List bW} {b:bW} (h:(!hy b)=true):gG L b=1:=by unfold gG;rw[if_pos (by simp[h])]
theorem US {L:List bW} {b:bW} (h:decide (0<=eY L (ep b))=true):gG L b=1:=by unfold gG;rw[if_pos (by simp[h])]
theorem UT {L:List bW} {b:bW} (h:decide (64<=(L.length:Int))=true):gG L b=1:=by unfold gG;rw[if_pos (by simp[h])]
theorem DM {b:bW} (h:hy b=true):0<=c2 b/\c2 b<=3/\0<=eH b/\eH b<=256:=by
 simp only[hy,vj,as5] at h;omega
abbrev UU (L:List bW):az:=[(1001,.cells [.own 1003]),(1003,.row 78 lV L)]
theorem vm {α:Type} {l:List α} {k:Nat} (h:k < l.length):l.take k++[l[k]]=l.take (k+1):=by
 rw[List.take_add_one,oj h];rfl
abbrev M' (b:bW) (r k:Nat):aY:=[(0,aq 1001),(3,aq 3),(6,eM r),(58,bQ oy (cB b)),(59,ab ((cB b).length:Nat)),(60,ab (k:Nat))]
abbrev Na (L:List bW) (b:bW) (r:Nat) (l:List ky):az:=[(r,.row 96 oy l),(3,.cells (Hw b)),(1001,.cells [.own 1002]),(1002,.row 78 lV L)]
theorem Nb (L:List bW) (b:bW) (cL:L.length<=1000000) (hn:(ep b).length<=4294967296) (ak:(cB b).length<=1000000) (ai: ∀p,p∈cB b->(mo p).length<=4294967296):
  Fn Tryz.prog 122 [aq 1001,yF b] (kT L) [1003] (ab (gG L b)) (UU (g4 L b)):=by
 have fU: ∀e,gG L b=e->e≠0->g4 L b=L:=fun e E G=>by unfold g4;rw[if_neg ay4]
 refine aU [14] Tryz.func122 ?_;refine⟨rfl,av (Hx (dA b) L ay4) <| av (akj b hn ay4 ai) ⟨fun h=>?_,fun E=>?_⟩⟩
 .rw[fU 1 (UR h) ay4,UR h];exact⟨_,_,_,ac.aV 1002 1003 rfl,rfl,rfl,aC,rfl⟩
 refine av (Hx (ep b) L ay4) ⟨fun h=>?_,fun G=>?_⟩
 .rw[fU 1 (US h) ay4,US h];exact⟨_,_,_,ac.aV 1002 1003 rfl,rfl,rfl,aC,rfl⟩
 refine⟨fun h=>?_,fun af=>?_⟩
 .rw[fU 1 (UT h) ay4,UT h];exact⟨_,_,_,ac.aV 1002 1003 rfl,rfl,rfl,aC,rfl⟩
 have a1:gG L b=if(!decide (dA b=[])&&decide (eY L (dA b) < 0))=true then 181 else if(!decide (dA b=[])&& !decide ((match fE L (eY L (dA b)).toNat with |some x=>c2 x |none=>c2 b)=c2 b))=true then 1 else 0:=by
  unfold gG;rw[if_neg (by rw[show(!hy b)=false from E,show decide (0<=eY L (ep b))=false from G,show decide (64<=(L.length:Int))=false from af];simp)]
 have ax:hy b=true:=aC0
 obtain⟨r1,r2,gg,j2⟩:=DM ax;have qG:gG L b=0->g4 L b=L++[b]:=fun h=>by unfold g4;rw[if_pos h]
 refine⟨fun aW=>?a,fun aW=>?b⟩
 case' a=>
  refine⟨fun h=>?_,fun bG=>?_⟩
  .rw[show(!decide (dA b=[]))=true from aW,show decide (eY L (dA b) < 0)=true from h] at a1;have a1:gG L b=181:=a1;rw[fU 181 a1 ay4,a1];exact⟨_,_,_,ac.aV 1002 1003 rfl,rfl,rfl,aC,rfl⟩
  have fF: ¬eY L (dA b) < 0:=by simpa using bG
  have aa: ∃k:Nat,∃aa:k < L.length,eY L (dA b)=(k:Nat):=by
   rcases wY (fun x=>decide (ep x=dA b)) L with⟨h,_⟩ |⟨k,x,h,hx,_⟩
   .exact absurd (show eY L (dA b) < 0 by unfold eY;omega) fF
   .exact⟨k,(aq7.1 hx).1,h⟩
  obtain⟨k,aa,yG⟩:=aa;rw[show(!decide (dA b=[]))=true from aW,show decide (eY L (dA b) < 0)=false from bG,pW yG aa] at a1;have a1:gG L b=if(!decide (c2 L[k]=c2 b))=true then 1 else 0:=a1
  refine⟨fun jZ=>⟨⟨ay4,ay4⟩,L[k],pW yG aa,rfl,fun h=>?_,fun h=>?_⟩,fun jZ=>absurd aW (by rw[show(!decide (dA b=[]))=false from jZ];simp)⟩
  .rw[show(!decide (c2 L[k]=c2 b))=true from h] at a1;have a1:gG L b=1:=a1;rw[fU 1 a1 ay4,a1];exact⟨_,_,_,ac.aV 1002 1003 rfl,rfl,rfl,aC,rfl⟩
  rw[show(!decide (c2 L[k]=c2 b))=false from h] at a1;have eQ:gG L b=0:=a1;clear a1 h
 case' b=>
  rw[show(!decide (dA b=[]))=false from aW] at a1;have eQ:gG L b=0:=a1;clear a1;refine⟨fun jZ=>absurd aW (by rw[show(!decide (dA b=[]))=true from jZ];simp),fun jZ=>⟨rfl,?_⟩⟩
 all_goals
  rw[qG eQ,eQ];refine d2 [14] (X:=Nat) (M' b 2002) (fun k=>Na L b 2002 ((cB b).take k)) (fun k=>k<=(cB b).length) (fun k=>(cB b).length - k) 0 (aq8 _) ?_ ?_
  .exact ac.trans (ac.nil 6 2002 96 oy rfl rfl) (ac.sub aC aC)
  intro j V;refine⟨fun h=>?_,fun h=>?_⟩
  .have eO:j < (cB b).length:=az3
   have hl:=ai _ (as3 eO);refine⟨ay4,(cB b)[j],pW rfl eO,rfl,av (LG _ hl) ⟨?_,rfl,rfl,?_⟩⟩
   .show((cB b).take j).length+1<=4294967296;rw[aq9];omega
   .exact⟨ay4,j+1,eO,ay4,ac.trans (ac.sub (K':=M' b 72 (j+1)) (B':=Na L b 72 ((cB b).take (j+1))) aC ⟨congrArg (fun l=>some (ba.row _ oy l)) (vm eO),rfl,rfl,rfl,trivial⟩) (ac.aV 72 2002 rfl)⟩
  .have eO:j=(cB b).length:=by
     have: ¬j < (cB b).length:=az3
     omega
   subst eO;refine bu [] (ac.trans (ac.sub (K':=M' b 2002 (cB b).length) (B':=Na L b 2002 (cB b)) aC ⟨congrArg (fun l=>some (ba.row _ oy l)) ar9,rfl,rfl,rfl,trivial⟩) (ac.d0 2002 rfl)) ⟨?_,rfl,rfl,?_⟩
   .show L.length+1<=4294967296;omega
   .exact⟨_,_,_,ac.aV 83 1003 rfl,rfl,rfl,aC,rfl⟩
end
section
theorem Nc (size n:Int): ∀(l:List ky) (oz:Int),sO size n oz l=true-> ∀p,p∈l->oz < gm p/\gm p < size/\((mo p).length:Int)=n
 | [],_,_,p,ai=>by cases ai
 |q::l,oz,h,p,ai=>by
  simp only[sO,vj,Bool.not_eq_true',au4,decide_eq_false_iff_not,Bool.not_eq_false',as5] at h;obtain⟨⟨⟨E,G⟩,af⟩,aW⟩:=h;rcases aq5.1 ai with rfl |ai
  .exact⟨ay4,ay4,af⟩
  .have:=Nc size n l (gm q) aW p ai;exact⟨ay4,this.2.1,this.2.2⟩
def pX (kz:Int) (acc:aC3) (p:ky):aC3:=laid acc (gm p*kz).toNat (acc.length - (gm p*kz).toNat) (mo p)
def A0 (b:bW) (below:aC3):aC3:=
 let aB:=List.replicate (eH b*fO (c2 b)).toNat (0:UInt8)
 (cB b).foldl (pX (fO (c2 b))) (if decide (dA b=[])=true then aB else laid aB 0 aB.length below)
def pY (L:List bW) (i:Int):Option bW:=if 0<=i then fE L i.toNat else none
def wZ (L:List bW) (nm:aC3) (bP:aC3->aC3):aC3:=match pY L (eY L nm) with
 |none=>[]
 |some b=>A0 b (bP (dA b))
def vn (L:List bW) (nm:aC3):Int:=if decide (eY L nm < 0)=true then 181 else 0
def Hy (out:aC3) (e:Int):aP:=.ci [.one (.d (.co .u8 out)),.one (.d (.int .i64 e))]
theorem UV {size kz:Int} {b:aC3} {p:ky} (au:0<=kz) (E:0<=gm p) (G:gm p < size) (O:b.length=(size*kz).toNat):(gm p*kz).toNat<=b.length/\(pX kz b p).length=b.length:=by
 have:gm p*kz<=size*kz:=Int.mul_le_mul_of_nonneg_right ay4 au;have af:(gm p*kz).toNat<=b.length:=az2
 exact⟨af,Fh _ _ ay4⟩
theorem UW {size kz:Int} (au:0<=kz): ∀(l:List ky) (acc:aC3),(∀p,p∈l->0<=gm p/\gm p < size)->acc.length=(size*kz).toNat->(l.foldl (pX kz) acc).length=(size*kz).toNat
 | [],acc,_,ha=>ha
 |p::l,acc,ai,ha=>UW au l (pX kz acc p) (fun q aT=>ai q (aq2 _ aT)) (by
  have:=ai p ar2;rw[(UV au this.1 this.2 ha).2,ha])
theorem akl {α lN:Type} (f:lN->α->lN) (x:lN) {l:List α} {k:Nat} (h:k < l.length):(l.take (k+1)).foldl f x=f ((l.take k).foldl f x) l[k]:=by
 rw[<-vm h,ax5];rfl
abbrev akm (b:bW) (k:Nat):aY:=[(7,aq 7),(8,eM 30),(45,bQ oy (cB b)),(46,ab ((cB b).length:Nat)),(47,ab (k:Nat))]
abbrev akn (L:List bW) (b:bW) (x:aC3):az:=[(30,.row 5 .u8 x),(7,.cells (Hw b)),(1001,.cells [.own 1002]),(1002,.row 78 lV L)]
theorem UX (L:List bW) (nm:aC3) (cL:L.length<=1000000) (ax: ∀b,b∈L->hy b=true/\(cB b).length<=1000000) (bP:aC3->aC3)
  (bq: ∀b,pY L (eY L nm)=some b->(!decide (dA b=[]))=true->Fn Tryz.prog 17 [aq 1001,bT (dA b)] (kT L) [] (Hy (bP (dA b)) (vn L (dA b))) (kT L)):
  Fn Tryz.prog 17 [aq 1001,bT nm] (kT L) [] (Hy (wZ L nm bP) (vn L nm)) (kT L):=by
 refine aU [] Tryz.func17 ?_;refine av (Hx nm L ay4) ⟨fun h=>?_,fun h=>?_⟩
 .have E: ¬0<=eY L nm:=by simp only[as5] at h;omega
  exact eG br rfl ⟨(show wZ L nm bP=[] by unfold wZ pY;rw[if_neg E]),(show(181:Int)=vn L nm by unfold vn;rw[if_pos h]),trivial⟩
 have hf: ¬eY L nm < 0:=az3
 have aa: ∃k:Nat,∃aa:k < L.length,eY L nm=(k:Nat):=by
  rcases wY (fun x=>decide (ep x=nm)) L with⟨h,_⟩ |⟨k,x,h,hx,_⟩
  .exact absurd (show eY L nm < 0 by unfold eY;omega) hf
  .exact⟨k,(aq7.1 hx).1,h⟩
 obtain⟨k,aa,yG⟩:=aa;have aZ:pY L (eY L nm)=some L[k]:=by unfold pY;rw[if_pos ay4];exact pW yG aa
 have a1:vn L nm=0:=by unfold vn;rw[if_neg (by rw[h];simp)]
 have ar:wZ L nm bP=A0 L[k] (bP (dA L[k])):=by unfold wZ;rw[aZ]
 have bq:=bq _ aZ;rw[a1,ar];refine⟨⟨ay4,ay4⟩,L[k],pW yG aa,?_⟩;obtain⟨yy,hl⟩:=ax _ (as3 aa);generalize i6:L[k]=b at*;obtain⟨r1,r2,gg,j2⟩:=DM yy;obtain⟨cI,cE⟩:=UQ r1 r2
 have Uj:0<=eH b*fO (c2 b)/\eH b*fO (c2 b)<=32768:=⟨Int.mul_nonneg ay4 ay4,by
  have:eH b*fO (c2 b)<=256*128:=Int.mul_le_mul j2 cE ay4 ay4;omega⟩
 have aN:(List.replicate (eH b*fO (c2 b)).toNat (0:UInt8)).length=(eH b*fO (c2 b)).toNat:=ar7
 have UY: ∀p,p∈cB b->0<=gm p/\gm p < eH b:=fun p ai=>by
  have yy:=yy;simp only[hy,vj] at yy;have:=Nc _ _ _ _ yy.1.2 p ai;omega
 refine⟨rfl,av (M8 b r1 r2) ?_⟩;have ako: -9223372036854775808<=eH b*fO (c2 b)/\eH b*fO (c2 b)<=9223372036854775807:=az2
 have akp:eH b*fO (c2 b)<=4294967296:=az2
 refine⟨ako,⟨rfl,Uj.1,akp⟩,rfl,rfl,fun aW=>?a,fun aW=>?b⟩
 case' a=>
  refine av (bq aW) ⟨ay4,?_⟩
  have O: ∃y,A0 b (bP (dA b))=(cB b).foldl (pX (fO (c2 b))) y/\y=laid (List.replicate (eH b*fO (c2 b)).toNat (0:UInt8)) 0 (List.replicate (eH b*fO (c2 b)).toNat (0:UInt8)).length (bP (dA b))/\y.length=(eH b*fO (c2 b)).toNat:=⟨_,by
   unfold A0;simp only;rw[show decide (dA b=[])=false by simpa using aW];rfl,rfl,(Fh _ _ ay4).trans aN⟩
  obtain⟨y,H,aD,Sj⟩:=O
 case' b=>
  have O: ∃y,A0 b (bP (dA b))=(cB b).foldl (pX (fO (c2 b))) y/\y=(List.replicate (eH b*fO (c2 b)).toNat (0:UInt8))/\y.length=(eH b*fO (c2 b)).toNat:=⟨_,by
   unfold A0;simp only;rw[show decide (dA b=[])=true by simpa using aW];rfl,rfl,aN⟩
  obtain⟨y,H,aD,Sj⟩:=O
 all_goals
  rw[H];refine d2 [] (X:=Nat) (akm b) (fun k=>akn L b (((cB b).take k).foldl (pX (fO (c2 b))) y)) (fun k=>k<=(cB b).length) (fun k=>(cB b).length - k) 0 (aq8 _) ?_ ?_
  .exact ac.sub aC ⟨congrArg (fun l=>some (ba.row _ .u8 l)) aD.symm,rfl,rfl,rfl,trivial⟩
  intro j V;refine⟨fun h=>?_,fun h=>?_⟩
  .have eO:j < (cB b).length:=az3
   have A1:=UY _ (as3 eO);have Lx:(((cB b).take j).foldl (pX (fO (c2 b))) y).length=(eH b*fO (c2 b)).toNat:=UW ay4 _ _ (fun p ai=>UY p (List.mem_of_mem_take ai)) ay4;obtain⟨cA,cF⟩:=UV ay4 A1.1 A1.2 Lx;have akq:0<=gm (cB b)[j]*fO (c2 b):=Int.mul_nonneg A1.1 ay4;have akr: -9223372036854775808<=gm (cB b)[j]*fO (c2 b)/\gm (cB b)[j]*fO (c2 b)<=9223372036854775807:=az2
   refine⟨ay4,(cB b)[j],pW rfl eO,rfl,av (M8 b r1 r2) ⟨akr,⟨akq,?_⟩,?_⟩⟩
   .show gm (cB b)[j]*fO (c2 b)<=((((cB b).take j).foldl (pX (fO (c2 b))) y).length:Int);omega
   refine⟨?_,rfl,?_⟩
   .show(gm (cB b)[j]*fO (c2 b)).toNat+((((cB b).take j).foldl (pX (fO (c2 b))) y).length - (gm (cB b)[j]*fO (c2 b)).toNat)<=(((cB b).take j).foldl (pX (fO (c2 b))) y).length;omega
   .exact⟨ay4,j+1,eO,ay4,ac.sub aC ⟨congrArg (fun l=>some (ba.row _ .u8 l)) (akl (pX (fO (c2 b))) y eO).symm,rfl,rfl,rfl,trivial⟩⟩
  .have eO:j=(cB b).length:=by
     have: ¬j < (cB b).length:=az3
     omega
   subst eO;exact⟨_,_,_,ac.trans (ac.d0 30 rfl) (br),rfl,⟨(show((cB b).take (cB b).length).foldl (pX (fO (c2 b))) y=(cB b).foldl (pX (fO (c2 b))) y by rw[ar9]),rfl,trivial⟩,aC,rfl⟩
def Hz (L:List bW):Nat->aC3->aC3
 |0,_=>[]
 |n+1,nm=>wZ L nm (Hz L n)
structure nA (L:List bW):Prop where
 len:L.length<=64
 right: ∀b,b∈L->hy b=true
 HA: ∀(k:Nat) b,L[k]? =some b->decide (dA b=[])=false->0<=eY L (dA b)/\eY L (dA b) < k
theorem UZ {b:bW} (h:hy b=true):(cB b).length<=256:=by
 have G:=DM h;simp only[hy,vj] at h
 have key: ∀(l:List ky) (oz:Int),sO (eH b) (fO (c2 b)) oz l=true->(l.length:Int)<=max 0 (eH b - 1 - oz):=by
  intro l
  induction l with
  |nil=>intro oz _;simp only[List.length_nil];omega
  |cons p l bq=>
   intro oz h;simp only[sO,vj,Bool.not_eq_true',au4,decide_eq_false_iff_not] at h;have:=bq _ h.2;simp only[at8];omega
 have:=key _ _ h.1.2;omega
theorem U0 (L:List bW) (nm:aC3):eY L nm < L.length:=by
 rcases wY (fun x=>decide (ep x=nm)) L with⟨h,_⟩ |⟨k,x,h,hx,_⟩
 .unfold eY;omega
 .have:=(aq7.1 hx).1;unfold eY;omega
theorem aks {L:List bW} {i:Int} {b:bW} (h:pY L i=some b): ∃k:Nat,i=k/\L[k]? =some b:=by
 unfold pY at h
 split at h
 .exact⟨i.toNat,ay4,h⟩
 .cases h
theorem akt {L:List bW} (a8:nA L): ∀(n:Nat) (nm:aC3),eY L nm < n->Fn Tryz.prog 17 [aq 1001,bT nm] (kT L) [] (Hy (Hz L n nm) (vn L nm)) (kT L):=by
 have cL:L.length<=1000000:=by have:=a8.len;omega
 have ax: ∀b,b∈L->hy b=true/\(cB b).length<=1000000:=fun b O=>⟨a8.right b O,by have:=UZ (a8.right b O);omega⟩
 intro n
 induction n with
 |zero=>
  intro nm h;have au:pY L (eY L nm)=none:=by unfold pY;rw[if_neg ay4]
  have:=UX L nm cL ax (fun _=>[]) (fun b O=>by rw[au] at O;cases O);rw[show wZ L nm (fun _=>[])=[] by unfold wZ;rw[au]] at this;exact this
 |succ n bq=>
  intro nm h
  exact UX L nm cL ax (Hz L n) (fun b O ai=>bq (dA b) (by
   obtain⟨k,aa,O⟩:=aks O;have:=(a8.HA k b O (by simpa using ai)).2;omega))
def HB (L:List bW) (nm:aC3):aC3:=Hz L (L.length+1) nm
theorem aku {L:List bW} (a8:nA L) (nm:aC3):Fn Tryz.prog 17 [aq 1001,bT nm] (kT L) [] (Hy (HB L nm) (vn L nm)) (kT L):=
 akt a8 _ nm (by have:=U0 L nm;omega)
end
section
abbrev U1:bz:=.bP (.int .i64) .str
abbrev U2:bz:=.bP .str (.bP .str (.bP (.int .i64) (.bP (.int .i64) (.b' U1))))
abbrev w0:Type:=Z U1
abbrev m4:Type:=Z U2
abbrev akv (p:w0):Int:=p.1
abbrev DN (p:w0):aC3:=p.2
abbrev akw (b:m4):aC3:=b.1
abbrev akx (b:m4):aC3:=b.2.1
abbrev aky (b:m4):Int:=b.2.2.1
abbrev U3 (b:m4):Int:=b.2.2.2.1
abbrev akz (b:m4):List w0:=b.2.2.2.2
def sP (p:w0):ky:=(akv p,DN p)
def jv (b:m4):bW:=(akw b,akx b,aky b,U3 b,(akz b).map sP)
theorem akA {α lN:Type} (f:α->lN) {l:List α} {k:Nat} (h:k < l.length):(l.take k).map f++[f l[k]]=(l.take (k+1)).map f:=by
 rw[<-vm h,au0];rfl
end
section
theorem akB (b:bW) (nm:aC3):Fn Tryz.prog 140 [yF b,aq 1001] [(1001,.cells [.d (.str nm)])] [] (fI (decide (dA b=nm))) [(1001,.cells [.d (.str nm)])]:=by
 refine aU [] Tryz.func140 ?_;exact⟨rfl,bg⟩
theorem akC (g:Nat) (p:bW->Bool) (nm:aC3) (L:List bW) (cL:L.length<=4294967296) (aw: ∀b,Fn Tryz.prog g [yF b,aq 1001] [(1001,.cells [.d (.str nm)])] [] (fI (p b)) [(1001,.cells [.d (.str nm)])]):
  Fn Tryz.prog 139 [eM 1002,k1 (.cY g [.p 1001 0])] [(1001,.cells [.d (.str nm)]),(1002,.row 78 lV L)] [] (fI (decide (0<=mq p L))) [(1001,.cells [.d (.str nm)]),(1002,.row 78 lV L)]:=by
 refine aU [] Tryz.func139 ?_;exact av (UO g p nm L cL aw) bg
def w1 (L:List bW) (nm:aC3):Bool:=decide (0<=mq (fun b=>decide (dA b=nm)) L)
end
section
end
section
abbrev oA:bz:=.int .i64
abbrev akD:bz:=.bP .str (.b' oA)
abbrev HC:bz:=.bP oA (.bP oA (.bP oA (.bP (.b' .u8) (.b' oA))))
abbrev HD:bz:=.bP oA (.bP oA (.bP .str (.bP .str (.bP (.b' akD) HC))))
abbrev akE:bz:=.bP oA (.bP oA (.bP U2 (.bP .str HD)))
abbrev HE:Type:=Z akE
abbrev akF (o:HE):Int:=o.2.1
abbrev akG (o:HE):m4:=o.2.2.1
abbrev Nd (o:HE):Z HD:=o.2.2.2.2
abbrev akH (o:Z HD):Int:=o.2.1
abbrev U4 (o:Z HD):Z HC:=o.2.2.2.2.2
abbrev akI (o:Z HC):Int:=o.1
abbrev akJ (o:Z HC):Int:=o.2.2.1
def over (n a b:Int):Bool:=decide (a < n)&&decide (n<=b)
def Nf (o:HE):Bool:=over (U3 (akG o)) 12 256||over (akF o) 100 4096||over (akH (Nd o)) 100 4096||(decide (akI (U4 (Nd o))=4)&&over (akJ (U4 (Nd o))) 100 4096)
end
section
theorem Ng {L:List bW} {b:bW} (h:gG L b=0):hy b=true/\eY L (ep b) < 0/\L.length < 64/\(decide (dA b=[])=false->0<=eY L (dA b)):=by
 unfold gG at h
 split at h
 .cases h
 .rename_i E
  split at h
  .cases h
  .rename_i G;simp only[av5,Bool.not_eq_true',as5,not_or,Bool.not_eq_false] at E;refine⟨E.1.1,ay4,ay4,fun h=>?_⟩;rw[h] at G;simp only[Bool.not_false,Bool.true_and,as5] at G;omega
theorem U5 {α:Type} {p:α->Bool} {L:List α} (x:α) (h:0<=mq p L):mq p (L++[x])=mq p L:=by
 unfold mq at*;rw[List.findIdx?_append]
 cases hf:L.findIdx? p with
 |none=>rw[hf] at h;exact absurd h ay5
 |some k=>simp
theorem U6 {α:Type} {L:List α} {b:α} (k:Nat) (x:α) (hx:(L++[b])[k]? =some x):L[k]? =some x\/(k=L.length/\x=b):=by
 rcases Nat.lt_or_ge k L.length with h |h
 .rw[as6 h] at hx;exact .inl hx
 .rw[at1 h] at hx
  cases aa:k - L.length with
  |zero=>rw[aa] at hx;exact .inr ⟨ay4,by simpa using hx.symm⟩
  |succ n=>rw[aa] at hx;simp at hx
theorem nA.add {L:List bW} (a8:nA L) (b:bW):nA (g4 L b):=by
 unfold g4
 split
 .rename_i h;obtain⟨E,G,af,aW⟩:=Ng h;refine⟨by simp;omega,fun x hx=>?_,fun k x aa ai=>?_⟩
  .rcases as1.1 hx with hx |hx
   .exact a8.right x hx
   .simp only[aq5,List.not_mem_nil,or_false] at hx;rw[hx];exact E
  .rcases U6 k x aa with aa |⟨rfl,rfl⟩
   .have:=a8.HA k x aa ai;unfold eY at*;rw[U5 b this.1];exact this
   .have:=aW ai;have bt:=U0 L (dA x);unfold eY at*;rw[U5 x this];exact⟨this,bt⟩
 .exact a8
end
end Go.Proofs.YtkfbeijmgggkmaaGreat
