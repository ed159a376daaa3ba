/-
A part of the proof of this claim: lemmas, with no condition beyond what each says.
-/
import Derived.Test.YthnboghbhgapcaaGreatZa14
set_option linter.unusedVariables false
set_option linter.unusedSimpArgs false
set_option maxRecDepth 10000
namespace Go.Proofs.YthnboghbhgapcaaGreat
open Go.RowKit Go.Proofs
section
theorem ahd (z U:Int) (L:List aO) (nm:List UInt8) (n rm:Int) (l:List Nat) (g:List (Nat×List UInt8)) (done:Bool) (a a2:Int):Fn Tryz.prog 82 [ao 2001,ae a,ae a2] (ip z U L nm n rm l g true done) [] (ae 0) (ip z U L nm n rm l g true done):=by
 refine aW [] Tryz.func82 rfl rfl rfl rfl ?_;refine eO ?_;exact aT aH rfl rfl ac rfl
def o1 (l:List Nat):List Nat:=(mP (l.map fun k:Nat=>(k:Int))).map Int.toNat
theorem ahe (l:List Nat):mP (gR (fY l))=(o1 l).map fun k:Nat=>(k:Int):=by
 unfold o1;rw[uM,as2]
 conv=>lhs;rw[<-List.map_id (mP (l.map fun k:Nat=>(k:Int)))]
 refine ar1 fun x hx=>?_
 obtain⟨k,_,rfl⟩:=ar2.1 ((CW _).mem_iff.1 hx);rfl
theorem Af (l:List Nat):(o1 l).Perm l:=by
 have h:=(CW (l.map fun k:Nat=>(k:Int))).map Int.toNat;rw[as2] at h
 have e:l.map (Int.toNat∘fun k:Nat=>(k:Int))=l:=by
  conv=>rhs;rw[<-List.map_id l]
  exact ar1 fun x _=>rfl
 rw[e] at h;exact h
structure S9 where
 e:Int
 l:List Nat
 g:List (Nat×List UInt8)
 over:Bool
def lj (z:Nat) (L:List aO) (nm:List UInt8) (rm a a2:Int):List Nat->List Nat->List (Nat×List UInt8)->S9
 | [],l,g=>⟨0,l,g,false⟩
 |k::ks,l,g=>if((k*2 ^z+2 ^z:Nat):Int)<=a\/a<=((k*2 ^z:Nat):Int) - a2 then lj z L nm rm a a2 ks l g else if(ei z L nm rm l g k).e=0 then lj z L nm rm a a2 ks (ei z L nm rm l g k).l (ei z L nm rm l g k).g else⟨(ei z L nm rm l g k).e,(ei z L nm rm l g k).l,(ei z L nm rm l g k).g,(ei z L nm rm l g k).over⟩
theorem ahf {z:Nat} {L:List aO} {nm:List UInt8} {rm:Int} {l:List Nat} {g:List (Nat×List UInt8)} {k:Nat} (V:(ei z L nm rm l g k).e=0):(ei z L nm rm l g k).over=false/\(ei z L nm rm l g k).g=g++[(k,hH z L nm (k:Int))]:=by
 unfold ei at V⊢
 split at V
 .exact absurd V (show¬(171:Int)=0 by decide)
 .rename_i c;rw[if_neg c];exact⟨rfl,rfl⟩
abbrev ahg (a a2:Int) (b:Nat) (ks:List Int) (i:Nat):a1:=[(0,ao 2001),(1,ae a),(2,ae a2),(7,x3 134 b),(27,bS ak ks),(28,ae (ks.length:Nat)),(29,ae (i:Nat))]
set_option maxHeartbeats 1000000 in
theorem ahh {z U:Nat} {L:List aO} (h:cE z U L) (nm:List UInt8) (n rm:Int) (l:List Nat) (g:List (Nat×List UInt8)) (done:Bool) (a a2:Int) (E:1<=a2) (G:a2<=9223372036854775807) (aq: ∀k,k∈l->k<=256) (p3:l.length<=256) (hn:l.Nodup) (a6: ∀k,k∈l->k∉g.map Prod.fst):
  Fn Tryz.prog 82 [ao 2001,ae a,ae a2] (ip z U L nm n rm l g false done) [] (ae (lj z L nm rm a a2 (o1 l) l g).e) (ip z U L nm n rm (lj z L nm rm a a2 (o1 l) l g).l (lj z L nm rm a a2 (o1 l) l g).g (lj z L nm rm a a2 (o1 l) l g).over done):=by
 have Gn:=agW (fY l) (Lp hn) (Lq fun k ab=>by have:=aq k ab;omega) (by rw[Ln];omega);rw[ahe] at Gn;have ag:=ko h.b3;have x0:=h.b3;have ho:(o1 l).length=l.length:=(Af l).length_eq;have Ta: ∀k,k∈o1 l->k<=256/\k∉g.map Prod.fst:=fun k ab=>⟨aq k ((Af l).mem_iff.1 ab),a6 k ((Af l).mem_iff.1 ab)⟩
 have rA:(o1 l).Nodup:=(Af l).nodup_iff.2 hn;generalize o1 l=iq at*;generalize fp:lj z L nm rm a a2 iq l g=R at*;refine aW [3,4,9] Tryz.func82 rfl rfl rfl rfl ?_;refine da ?_;refine⟨fun h=>absurd (gd h) au5,fun _=>?_⟩;refine bt.eY (df.mark 2001 9001 rfl au6) fun b=>?_
 refine bz [4,9] (cG [(0,ao 2001),(1,ae a),(2,ae a2)] (tB z U L nm n rm l g false done b)) ?_;refine⟨_,_,fun N=>jz (m:=9001) (b:=b) rfl rfl rfl N,rfl,?_⟩;refine bz [9] (cG [(0,ao 2001),(1,ae a),(2,ae a2),(7,x3 134 b)] (tB z U L nm n rm l g false done b)) ?_;refine au (Fn.aX [(1001,2002),(2001,9101)] (Lj (fY l))) ?_;refine au (Fn.aX [(1001,2002),(2001,9101)] Gn) ?_;refine dX [9] (X:=Nat×List Nat×List (Nat×List UInt8)) (fun x=>ahg a a2 b (iq.map fun k:Nat=>(k:Int)) x.1) (fun x=>tB z U L nm n rm x.2.1 x.2.2 false done b) (fun x=>x.1<=iq.length/\lj z L nm rm a a2 (iq.drop x.1) x.2.1 x.2.2=R/\ ∀k,k∈iq.drop x.1->k∉x.2.2.map Prod.fst) (fun x=>iq.length - x.1) (0,l,g) ⟨ap7 _,fp,fun k ab=>(Ta k ab).2⟩ ?_ ?_
 .exact af.sub ac ac
 rintro⟨i,gM,g2⟩ ⟨aI,aF,ab⟩;have aI:i<=iq.length:=aI;have aF:lj z L nm rm a a2 (iq.drop i) gM g2=R:=aF;have ab: ∀k,k∈iq.drop i->k∉g2.map Prod.fst:=ab;refine⟨fun H=>?_,fun H=>?_⟩
 .have H:decide ((i:Int) < (((iq.map fun k:Nat=>(k:Int)).length:Nat):Int))=true:=H;have dW:i < iq.length:=by have:=gd H;rw[aq3] at this;omega
  have Cg:iq.drop i=iq[i]::iq.drop (i+1):=List.drop_eq_getElem_cons dW
  have mw:fB (α:=Z ak) (iq.map fun k:Nat=>(k:Int)) i=some ((iq[i]:Nat):Int):=by
   show(iq.map fun k:Nat=>(k:Int))[i]? =_;rw[ar0,oj dW];rfl
  have d0:=rA.sublist (List.drop_sublist i iq);rw[Cg] at aF ab d0;have zq:=(aq7.1 d0).1;have O:=(Ta _ (ar3 dW)).1;generalize iq[i]=k at*;have xp:=S4 h nm n rm gM g2 done k (ab k (aq1 ..)) b;have bu:=ahf (z:=z) (L:=L) (nm:=nm) (rm:=rm) (l:=gM) (g:=g2) (k:=k);have aF:(if((k*2 ^z+2 ^z:Nat):Int)<=a\/a<=((k*2 ^z:Nat):Int) - a2 then lj z L nm rm a a2 (iq.drop (i+1)) gM g2 else if(ei z L nm rm gM g2 k).e=0 then lj z L nm rm a a2 (iq.drop (i+1)) (ei z L nm rm gM g2 k).l (ei z L nm rm gM g2 k).g else⟨(ei z L nm rm gM g2 k).e,(ei z L nm rm gM g2 k).l,(ei z L nm rm gM g2 k).g,(ei z L nm rm gM g2 k).over⟩)=R:=aF;generalize ei z L nm rm gM g2 k=r at*;have mk:k*2 ^z<=256*8:=Nat.mul_le_mul O ag.2
  have o0:(k:Int)*((2 ^((z:Nat):Int).toNat:Nat):Int)=((k*2 ^z:Nat):Int):=by
   show(k:Int)*((2 ^z:Nat):Int)=_;rw[Int.natCast_mul]
  have ru:(1:Int)*((2 ^((z:Nat):Int).toNat:Nat):Int)=((2 ^z:Nat):Int):=by rw[Int.one_mul];rfl
  have cx:(0:Int)<=(k:Int)/\(0:Int)<=((z:Nat):Int)/\((z:Nat):Int)<=64:=by omega
  have cA:cY ((k:Int)*((2 ^((z:Nat):Int).toNat:Nat):Int)):=by rw[o0];omega
  have cH:(0:Int)<=(1:Int)/\(0:Int)<=((z:Nat):Int)/\((z:Nat):Int)<=64:=by omega
  have dF:cY ((1:Int)*((2 ^((z:Nat):Int).toNat:Nat):Int)):=by rw[ru];omega
  have la:cY ((k:Int)*((2 ^((z:Nat):Int).toNat:Nat):Int)+(1:Int)*((2 ^((z:Nat):Int).toNat:Nat):Int)):=by rw[o0,ru];omega
  have sl:cY ((k:Int)*((2 ^((z:Nat):Int).toNat:Nat):Int) - a2):=by rw[o0];omega
  refine⟨au5,_,mw,cx,cA,cH,dF,la,fun cB=>?_,fun cB=>?_⟩
  .have cB:=gd (show decide ((k:Int)*((2 ^((z:Nat):Int).toNat:Nat):Int)+(1:Int)*((2 ^((z:Nat):Int).toNat:Nat):Int)<=a)=true from cB);rw[o0,ru] at cB;rw[if_pos (.inl au5)] at aF;exact⟨au5,(i+1,gM,g2),⟨dW,aF,fun q aV=>ab q (ap2 _ aV)⟩,by show iq.length - (i+1) < iq.length - i;omega,af.sub ac ac⟩
  have cB:=mu (show decide ((k:Int)*((2 ^((z:Nat):Int).toNat:Nat):Int)+(1:Int)*((2 ^((z:Nat):Int).toNat:Nat):Int)<=a)=false from cB);rw[o0,ru] at cB;refine⟨sl,fun cL=>?_,fun cL=>?_⟩
  .have cL:=gd (show decide (a<=(k:Int)*((2 ^((z:Nat):Int).toNat:Nat):Int) - a2)=true from cL);rw[o0] at cL;rw[if_pos (.inr cL)] at aF;exact⟨au5,(i+1,gM,g2),⟨dW,aF,fun q aV=>ab q (ap2 _ aV)⟩,by show iq.length - (i+1) < iq.length - i;omega,af.sub ac ac⟩
  have cL:=mu (show decide (a<=(k:Int)*((2 ^((z:Nat):Int).toNat:Nat):Int) - a2)=false from cL);rw[o0] at cL;rw[if_neg (by rintro(e |e) <;>omega)] at aF;refine bz [] (cG [(0,ao 2001),(1,ae a),(2,ae a2),(7,x3 134 b),(27,bS ak (iq.map fun k:Nat=>(k:Int))),(28,ae ((iq.map fun k:Nat=>(k:Int)).length:Nat)),(29,ae (i:Nat)),(9,ae (k:Nat))] (tB z U L nm n rm gM g2 false done b)) ?_;refine⟨_,_,fun N=>agY rfl rfl rfl rfl xp (by exact ac) rfl N,rfl,?_⟩;refine⟨fun V=>?_,fun V=>?_⟩
  .have V:(!decide (r.e=0))=true:=V;have V: ¬r.e=0:=by simpa using V
   rw[if_neg V] at aF;subst aF;exact aT aH rfl rfl ac rfl
  .have V:(!decide (r.e=0))=false:=V;have V:r.e=0:=by simpa using V
   obtain⟨fg,g0⟩:=bu V;rw[if_pos V] at aF
   exact⟨au5,(i+1,r.l,r.g),⟨dW,aF,fun q aV aA=>by
    rw[g0,as3,aq8] at aA;rcases aA with aA |aA
    .exact ab q (ap2 _ aV) aA
    .have aA:q=k:=by simpa using aA
     exact zq (aA▸aV)⟩,by show iq.length - (i+1) < iq.length - i;omega,af.sub ac ⟨rfl,rfl,rfl,rfl,congrArg (fun aB=>some (bd.cells (CY nm z n rm aB done))) fg,rfl,rfl,rfl,trivial⟩⟩
 .have H:decide ((i:Int) < (((iq.map fun k:Nat=>(k:Int)).length:Nat):Int))=false:=H;have dW:i=iq.length:=by have:=mu H;rw[aq3] at this;omega
  subst dW;rw[List.drop_length] at aF;subst aF;exact aT aH rfl rfl ac rfl
section
variable {z U:Nat} {L:List aO} {nm:List UInt8} {rm:Int} {l:List Nat} {g:List (Nat×List UInt8)}
theorem ahi {d:aO} (J:dk L nm=some d) {k:Nat} (ab:k < d.im.t.length):hH z L nm (k:Int)=pC z L nm (fi L nm) k:=by
 unfold hH;rw[J];simp only;rw[if_pos ⟨au5,au5⟩];rfl
structure fk (z U:Nat) (L:List aO) (nm:List UInt8) (l:List Nat) (g:List (Nat×List UInt8)):Prop where
 cs:cE z U L
 il:(dk L nm).isSome=true
 lt: ∀k,k∈l->k < c4 L nm
 fK:l.Nodup
 gt: ∀p,p∈g->p.1 < c4 L nm/\p.2.length=16*2 ^z
 C1:(g.map Prod.fst).Nodup
 dj: ∀k,k∈l->k∉g.map Prod.fst
theorem fk.aS (h:fk z U L nm l g):c4 L nm<=256:=by
 obtain⟨d,J⟩:=as8.1 h.il;have:=(h.cs.hh d (c1 J).1).1.eW;unfold c4;rw[J];exact this
theorem fk.lc (h:fk z U L nm l g):l.length<=256:=as9 (CM _ l h.fK h.lt) h.aS
theorem fk.LK (h:fk z U L nm l g):g.length<=256:=by
 have:=CM (c4 L nm) (g.map Prod.fst) h.C1 fun x hx=>by
  obtain⟨p,ag,rfl⟩:=ar2.1 hx;exact(h.gt p ag).1
 rw[aq3] at this;exact as9 this h.aS
theorem fk.nil (h:fk z U L nm l g):fk z U L nm [] g:=⟨h.cs,h.il,fun k ab=>(by cases ab),at0,h.gt,h.C1,fun k ab=>(by cases ab)⟩
theorem fk.ry {L':List aO} {t:List UInt8} (h:fk z U L nm l g) (aq:mb L t L'):fk z U L' nm l g:=
 ⟨aq.cs h.cs,by rw[(aq.aS nm).2];exact h.il,fun k ab=>by rw[(aq.aS nm).1];exact h.lt k ab,h.fK,fun p ag=>by rw[(aq.aS nm).1];exact h.gt p ag,h.C1,h.dj⟩
theorem fk.LL (h:fk z U L nm l g) (rm:Int) {k:Nat} (ab:k∈l):fk z U L nm (ei z L nm rm l g k).l (ei z L nm rm l g k).g:=by
 unfold ei
 split
 .exact h.nil
 .obtain⟨d,J⟩:=as8.1 h.il;have ax:c4 L nm=d.im.t.length:=by unfold c4;rw[J]
  have hg:=h.lt k ab;refine⟨h.cs,h.il,fun q aV=>h.lt q (List.mem_of_mem_erase aV),h.fK.erase _,fun p ag=>?_,?_,fun q aV aA=>?_⟩
  .have ag:p∈g++[(k,hH z L nm (k:Int))]:=ag;rcases aq8.1 ag with ag |ag
   .exact h.gt p ag
   .obtain rfl:=aq0.1 ag;refine⟨hg,?_⟩;show(hH z L nm (k:Int)).length=_;rw[ahi J au5,Cw h.cs.tond J (h.cs.co nm).1 k]
  .show((g++[(k,hH z L nm (k:Int))]).map Prod.fst).Nodup;rw[as3];refine List.nodup_append.2 ⟨h.C1,List.pairwise_singleton _ _,fun a ha b O=>?_⟩;have O:b=k:=by simpa using O
   rintro rfl;exact h.dj k ab (O▸ha)
  .have aV:q∈l.erase k:=aV;have aA:q∈(g++[(k,hH z L nm (k:Int))]).map Prod.fst:=aA;rw[as3,aq8] at aA;rcases aA with aA |aA
   .exact h.dj q (List.mem_of_mem_erase aV) aA
   .have aA:q=k:=by simpa using aA
    exact((h.fK.mem_erase_iff).1 aV).1 aA
theorem fk.step (h:fk z U L nm l g) (rm:Int) (over done:Bool):fk z U L nm (i1 z L nm rm l g over done).l (i1 z L nm rm l g over done).g:=by
 unfold i1
 split
 .exact h
 .split
  .exact h.nil
  .rename_i ba;exact h.LL rm (Gf ba).2.1
theorem fk.LM (rm a a2:Int): ∀(ks l:List Nat) (g:List (Nat×List UInt8)),fk z U L nm l g->(∀k,k∈ks->k∈l)->ks.Nodup->fk z U L nm (lj z L nm rm a a2 ks l g).l (lj z L nm rm a a2 ks l g).g
 | [],l,g,h,_,_=>h
 |k::ks,l,g,h,Gq,hn=>by
  unfold lj;have hn:=aq7.1 hn
  split
  .exact fk.LM rm a a2 ks l g h (fun q aV=>Gq q (ap2 _ aV)) hn.2
  .have ab:=h.LL rm (Gq k (aq1 ..))
   split
   .rename_i V;refine fk.LM rm a a2 ks _ _ ab (fun q aV=>?_) hn.2;have JQ:=Gq q (ap2 _ aV);unfold ei at V⊢
    split
    .rename_i c;rw[if_pos c] at V;exact absurd V (show¬(171:Int)=0 by decide)
    .exact(h.fK.mem_erase_iff).2 ⟨fun e=>hn.1 (e▸aV),JQ⟩
   .exact ab
theorem fk.get (h:fk z U L nm l g): ∃d,dk L nm=some d:=as8.1 h.il
theorem fk.Ly (h:fk z U L nm l g) (n rm:Int) (over done:Bool):Fn Tryz.prog 292 [ao 2001] (ip z U L nm n rm l g over done) [] (.ce [.one (.d (.bool (i1 z L nm rm l g over done).so)),dw (i1 z L nm rm l g over done).e])
  (ip z U L nm n rm (i1 z L nm rm l g over done).l (i1 z L nm rm l g over done).g (i1 z L nm rm l g over done).over (i1 z L nm rm l g over done).done):=
 ag5 h.cs nm n rm l g over done (fun k ab=>by have:=h.lt k ab;have:=h.aS;omega) (by have:=h.lc;omega) h.fK h.dj
def jA (z:Nat) (L:List aO) (nm:List UInt8) (rm a a2:Int) (l:List Nat) (g:List (Nat×List UInt8)) (over:Bool):S9:=if over=true then⟨0,l,g,true⟩ else if a2 < 1 then⟨0,l,g,false⟩ else lj z L nm rm a a2 (o1 l) l g
theorem fk.ahj (h:fk z U L nm l g) (rm a a2:Int) (over:Bool):fk z U L nm (jA z L nm rm a a2 l g over).l (jA z L nm rm a a2 l g over).g:=by
 unfold jA
 split
 .exact h
 .split
  .exact h
  .exact fk.LM rm a a2 _ l g h (fun k ab=>(Af l).mem_iff.1 ab) ((Af l).nodup_iff.2 h.fK)
theorem ahk (z U:Int) (L:List aO) (nm:List UInt8) (n rm:Int) (l:List Nat) (g:List (Nat×List UInt8)) (done:Bool) (a a2:Int) (E:a2 < 1):Fn Tryz.prog 82 [ao 2001,ae a,ae a2] (ip z U L nm n rm l g false done) [] (ae 0) (ip z U L nm n rm l g false done):=by
 refine aW [] Tryz.func82 rfl rfl rfl rfl ?_;refine da ?_;refine⟨fun _=>?_,fun h=>absurd (mu h) au5⟩;exact aT aH rfl rfl ac rfl
theorem fk.ahl (h:fk z U L nm l g) (n rm:Int) (over done:Bool) (a a2:Int) (G:a2<=9223372036854775807):Fn Tryz.prog 82 [ao 2001,ae a,ae a2] (ip z U L nm n rm l g over done) [] (ae (jA z L nm rm a a2 l g over).e)
  (ip z U L nm n rm (jA z L nm rm a a2 l g over).l (jA z L nm rm a a2 l g over).g (jA z L nm rm a a2 l g over).over done):=by
 cases over with
 |true=>exact ahd z U L nm n rm l g done a a2
 |false=>
  by_cases E:a2 < 1
  .have e:jA z L nm rm a a2 l g false=⟨0,l,g,false⟩:=(if_neg au6).trans (if_pos E);rw[e];exact ahk z U L nm n rm l g done a a2 E
  .have e:jA z L nm rm a a2 l g false=lj z L nm rm a a2 (o1 l) l g:=(if_neg au6).trans (if_neg E);rw[e];exact ahh h.cs nm n rm l g done a a2 au5 G (fun k ab=>by have:=h.lt k ab;have:=h.aS;omega) h.lc h.fK h.dj
theorem fk.ahm (h:fk z U L nm l g) (n rm:Int) (over:Bool):Fn Tryz.prog 101 [ao 2001] (ip z U L nm n rm l g over true) [] (.ce [.one (.d (.ck tC (n4 g))),.one (.d (.int .i64 n)),.one (.d (.bool true))]) (ip z U L nm n rm l g over true):=
 ag6 z U L nm n rm l g over h.C1 (fun p ag=>by
  have E:=h.gt p ag;have G:=h.aS;have al:=ko h.cs.b3;exact⟨au5,by rw[E.2];omega⟩) (by have:=h.LK;omega)
end
theorem ahn (l:List Int):(mP l).Pairwise fun a b=>x2 a b=true:=
 List.pairwise_mergeSort (le:=x2) (fun a b c E G=>aq2 (Int.le_trans (gd E) (gd G))) (fun a b=>by
  rcases Int.le_total a b with h |h
  .rw[show x2 a b=true from aq2 h];rfl
  .rw[show x2 b a=true from aq2 h];exact Bool.or_true _) l
theorem Tb {l m:List Int} (ag:m.Perm l) (ax:m.Pairwise fun a b=>x2 a b=true):mP l=m:=
 List.Perm.eq_of_pairwise (fun a b _ _ E G=>Int.le_antisymm (gd E) (gd G)) (ahn l) ax ((CW l).trans ag.symm)
theorem aho:o1 [0,1]=[0,1]:=by
 show(mP [(0:Int),1]).map Int.toNat=_;rw[Tb (m:=[0,1]) (List.Perm.refl _) au6];rfl
end
section
section
variable {z U:Nat} {L:List aO} {top base:List UInt8}
theorem ahp {j:Nat} (h:cE z U L) {d:aO} (J:dk L top=some d) (aa:j<=fi L top) (e4: ∀i,i < j->eI L (i+1) top≠base) (lJ:j=fi L top\/eI L (j+1) top=base):(ey L (fi L top) top).take j=nh L top base:=by
 have b9:=(h.co top).1;have aq:=rs b9;unfold nh;refine(SF _ _ j au5 (fun i x aI hx=>?_) ?_).symm
 .rw[Ge b9 au5] at hx;injection hx with hx
  subst hx;have:=e4 i aI;simp[this]
 .rcases lJ with lJ |lJ
  .exact .inl au5
  .by_cases c:j=fi L top
   .exact .inl au5
   .exact .inr ⟨_,Ge b9 au5,by rw[lJ];simp⟩
theorem ahq {j:Nat} (h:cE z U L) {d:aO} (J:dk L top=some d) (aa:j<=fi L top) (lJ:eI L (j+1) top=base):n0 L top base=true:=by
 have b9:=(h.co top).1;unfold n0;rw[J,Option.isSome_some,Bool.true_and,Bool.or_eq_true]
 by_cases c:j=fi L top
 .rw[c,Lf h b9 ⟨d,J⟩] at lJ;exact .inl (aq2 lJ.symm)
 .refine .inr (aq2 ?_);have:=Ge b9 (i:=j) au5;rw[lJ] at this;exact List.mem_of_getElem? this
theorem ahr (h:cE z U L) {d:aO} (J:dk L top=some d) (e4: ∀i,i<=fi L top->eI L (i+1) top≠base):n0 L top base=false:=by
 have b9:=(h.co top).1;unfold n0;rw[J,Option.isSome_some,Bool.true_and,Bool.or_eq_false_iff];constructor
 .refine ar8 fun e=>e4 _ (ap0 _) ?_
  rw[Lf h b9 ⟨d,J⟩,e]
 .refine ar8 fun e=>?_
  obtain⟨i,aI,hx⟩:=List.getElem_of_mem e;have aq:=rs b9;have:=Ge b9 (i:=i) au5;rw[oj aI,hx] at this;injection this with this
  exact e4 i au5 this.symm
abbrev Tc (base:List UInt8) (a:List UInt8) (c:Nat):a1:=[(0,ao 1001),(2,bV base),(8,eM c),(9,bV a),(10,ae 0)]
abbrev Td (z U:Int) (L:List aO) (c:Nat) (x:List (List UInt8)):ay:=bP z U L++[(c,.row 9 .str x)]
set_option maxHeartbeats 1000000 in
theorem LN (h:cE z U L) {d:aO} (J:dk L top=some d) (base:List UInt8):Fn Tryz.prog 97 [ao 1001,bV top,bV base] (bP z U L) [] (.ce [.one (.d (.ck .str (nh L top base))),.one (.d (.bool (n0 L top base)))]) (bP z U L):=by
 have b9:=(h.co top).1;have iS:=(h.co top).2;have hb:=rs b9;have iN:=fun j aa=>Le h b9 ⟨d,J⟩ j aa
 have lJ:=Lf h b9 ⟨d,J⟩
 have tz:fw L top=(eI L 1 top,0):=by
  unfold fw;rw[show eI L 1 top=d.back by rw[zO];show(match dk L top with |none=>top |some d=>d.back)=_;rw[J],J]
 have k3: ∀j,j < fi L top->fw L (eI L (j+1) top)=(eI L (j+1+1) top,0)/\eI L (j+1) top≠[]:=fun j aa=>by
  obtain⟨e,V⟩:=iN (j+1) aa;refine⟨?_,af9 h ⟨e,V⟩⟩;unfold fw;rw[zO L (j+1),V]
 have mZ: ∀j,j < fi L top->(ey L (fi L top) top).take (j+1)=(ey L (fi L top) top).take j++[eI L (j+1) top]:=fun j aa=>FV b9 j aa
 have iR:=fun j aa e4 V=>ahp (j:=j) (base:=base) h J aa e4 V
 have ahs:=fun j aa V=>ahq (j:=j) (base:=base) h J aa V
 have aht:=fun e4=>ahr (base:=base) h J e4
 have zv:=Ga h top;rw[tz] at zv;generalize nh L top base=jQ at*;generalize n0 L top base=sA at*;generalize ey L (fi L top) top=hu at*;generalize fi L top=s3 at*;refine aW [3,5,7] Tryz.func97 rfl rfl rfl rfl ?_;refine au zv ?_;refine dX [5,7] (X:=Nat) (fun j=>Tc base (eI L (j+1) top) 5002) (fun j=>Td z U L 5002 (hu.take j)) (fun j=>j<=s3/\ ∀i,i < j->eI L (i+1) top≠base) (fun j=>s3 - j) 0 ⟨ap7 _,fun i aI=>absurd aI (au3 i)⟩ ?_ ?_
 .exact(af.nil 8 5002 9 .str rfl rfl).trans (af.sub ac ac)
 rintro j ⟨aa,e4⟩;refine eO ?_;refine⟨fun E=>?_,fun E=>?_⟩
 .have E:(!decide (eI L (j+1) top=base))=true:=E;have E: ¬eI L (j+1) top=base:=by simpa using E
  refine⟨fun G=>?_,fun G=>?_⟩
  .have G:eI L (j+1) top=[]:=gd G
   have C2:j=s3:=by
    rcases Nat.lt_or_ge j s3 with bl |bl
    .exact absurd G (k3 j bl).2
    .omega
   have LO:hu.take j=jQ:=iR j aa e4 (.inl C2)
   have vt:sA=false:=aht fun i aI=>by
    rcases Nat.lt_or_ge i j with bl |bl
    .exact e4 i bl
    .rw[show i=j by omega];exact E
   refine bz [] (aH) ?_;refine eO ?_;exact⟨_,_,_,af.dV 5002 rfl,rfl,⟨LO,(show decide (eI L (j+1) top=base)=sA by rw[ar8 E,vt]),trivial⟩,ac,rfl⟩
  .have G: ¬eI L (j+1) top=[]:=mu G
   have C2:j < s3:=by
    rcases Nat.lt_or_ge j s3 with bl |bl
    .exact bl
    .exact absurd (by rw[show j=s3 by omega];exact lJ) G
   have Te:=Ga h (eI L (j+1) top);rw[(k3 j C2).1] at Te;have m:List.length (α:=List UInt8) (hu.take j)+1<=4294967296:=by rw[ap8];omega
   have e:=mZ j C2;refine bz [7] (aH) ?_;refine⟨m,rfl,au Te ?_⟩;refine⟨j+1,⟨C2,fun i aI=>?_⟩,au5,?_⟩
   .rcases Nat.lt_or_ge i j with bl |bl
    .exact e4 i bl
    .rw[show i=j by omega];exact E
   refine af.trans (af.sub (K':=Tc base (eI L (j+1+1) top) 29) (B':=Td z U L 29 (hu.take (j+1))) ac ⟨rfl,rfl,rfl,rfl,congrArg (fun aB:List (List UInt8)=>some (bd.row 9 .str aB)) e.symm,trivial⟩) ?_;exact(af.aX 29 5002 rfl).trans (af.sub ac ac)
 .have E:(!decide (eI L (j+1) top=base))=false:=E;have E:eI L (j+1) top=base:=by simpa using E
  have LO:hu.take j=jQ:=iR j aa e4 (.inr E);have vt:sA=true:=ahs j aa E;refine bz [] (aH) ?_;refine eO ?_;exact⟨_,_,_,af.dV 5002 rfl,rfl,⟨LO,(show decide (eI L (j+1) top=base)=sA by rw[aq2 E,vt]),trivial⟩,ac,rfl⟩
abbrev Gr (top base:List UInt8) (over:Bool):List bC:=[.ptr 1001 0,.d (.str top),.d (.str base),.d (.bool over)]
abbrev pJ (z U:Int) (L:List aO) (top base:List UInt8) (over:Bool):ay:=bP z U L++[(2001,.cells (Gr top base over))]
def uP (L:List aO) (top base:List UInt8):Int:=if(dk L top).isSome=false then 140 else if n0 L top base=false\/nh L top base=[] then 1 else 0
theorem ahu (h:cE z U L) (top base:List UInt8) (V:uP L top base≠0):Fn Tryz.prog 58 [ao 1001,bV top,bV base] (bP z U L) [] (.ce [mF,dw (uP L top base)]) (bP z U L):=by
 unfold uP at V⊢
 cases J:dk L top with
 |none=>
  rw[if_pos (show(none:Option aO).isSome=false from rfl)];refine aW [] Tryz.func58 rfl rfl rfl rfl ?_;refine au (aew _ _ L top J) ?_;exact aT aH rfl ac ac rfl
 |some d=>
  have bG: ¬(some d).isSome=false:=by simp
  rw[J,if_neg bG] at V;rw[if_neg bG];have O:n0 L top base=false\/nh L top base=[]:=Decidable.byContradiction fun x=>V (if_neg x)
  rw[if_pos O];have lr:=LN h J base;generalize n0 L top base=sA at*;generalize nh L top base=jQ at*;refine aW [] Tryz.func58 rfl rfl rfl rfl ?_;refine au (jx _ _ L h.tohU top d J) ?_;refine⟨fun _ _=>?_,fun h=>by cases h⟩;refine au lr ?_;refine⟨fun _=>?_,fun E=>?_⟩
  .exact aT aH rfl ac ac rfl
  .refine⟨fun _=>?_,fun G=>?_⟩
   .exact aT aH rfl ac ac rfl
   .exfalso;have E:(!sA)=false:=E;have G:decide (((jQ.length:Nat):Int)=0)=false:=G;have G:=mu G;rcases O with O |O
    .rw[O] at E;cases E
    .rw[O] at G;exact G rfl
theorem ahv (V:uP L top base=0):(∃d,dk L top=some d)/\n0 L top base=true/\nh L top base≠[]:=by
 unfold uP at V
 split at V
 .exact absurd V au6
 .rename_i E
  split at V
  .exact absurd V au6
  .rename_i G;refine⟨as8.1 (by rw[Bool.not_eq_false] at E;exact E),?_,fun e=>G (.inr e)⟩
   cases e:n0 L top base with
   |true=>rfl
   |false=>exact absurd (.inl e) G
theorem ahw (h:cE z U L) (top base:List UInt8) (V:uP L top base=0):Fn Tryz.prog 58 [ao 1001,bV top,bV base] (bP z U L) [2001] (.ce [.one (.ptr 2001 0),dw 0]) (pJ z U L top base false):=by
 obtain⟨⟨d,J⟩,E,G⟩:=ahv V;have lr:=LN h J base;rw[E] at lr;generalize nh L top base=jQ at*;refine aW [] Tryz.func58 rfl rfl rfl rfl ?_;refine au (jx _ _ L h.tohU top d J) ?_;refine⟨fun _ _=>?_,fun h=>by cases h⟩;refine au lr ?_;refine da ?_;refine⟨fun al=>?_,fun _=>?_⟩
 .exfalso;have al:decide (((jQ.length:Nat):Int)=0)=true:=al;have al:=gd al;exact G (List.length_eq_zero_iff.1 au5)
 refine⟨rfl,?_⟩;exact⟨_,_,_,(af.aX 32 2001 rfl).trans (af.sw 2001 (l':=Gr top base false) rfl ac),rfl,ac,ac,rfl⟩
theorem ahx (z U:Int) (L:List aO) (top base:List UInt8) (over:Bool):Fn Tryz.prog 296 [ao 2001] (pJ z U L top base over) [] (fI over) (pJ z U L top base over):=by
 refine aW [] Tryz.func296 rfl rfl rfl rfl ?_;exact aT aH rfl rfl ac rfl
theorem ahy (z U:Int) (L:List aO) (top base:List UInt8) (over:Bool):Fn Tryz.prog 295 [ao 2001] (pJ z U L top base over) [] gI (pJ z U L top base true):=by
 refine aW [] Tryz.func295 rfl rfl rfl rfl ?_;exact⟨_,_,_,af.sw 2001 (l':=Gr top base true) rfl ac,rfl,trivial,ac,rfl⟩
theorem Tf (h:cE z U L) (top base:List UInt8) (over:Bool) (n:List UInt8) (k:Nat) {e:aO} (V:dk L n=some e):Fn Tryz.prog 300 [bV n,ae (k:Int),ao 3001] (pJ z U L top base over++[(3001,.cells [.ptr 2001 0])]) [] (fI (jf L n k)) (pJ z U L top base over++[(3001,.cells [.ptr 2001 0])]):=by
 have nc:=(h.hh e (c1 V).1).1.eW;have fv:=h.tohU.M (c1 V).1;have ahz:jf L n k=(decide (e.im.t.length<=k)||decide ((e.im.t.getD k cD).1=0)):=by unfold jf;rw[V]
 rw[ahz];refine aW [] Tryz.func300 rfl rfl rfl rfl ?_;refine au (jx _ _ L h.tohU n e V) ?_;refine au (hV (na e.im) fv rfl rfl rfl rfl) ?_;refine⟨fun E=>?_,fun E=>?_⟩
 .have E:((e.im.t.length:Nat):Int)<=(k:Int):=gd E;exact aT aH rfl (show true=_ by rw[aq2 (by omega:e.im.t.length<=k)];rfl) ac rfl
 .have E: ¬((e.im.t.length:Nat):Int)<=(k:Int):=mu E;refine au (hV (zM e.im nc k au5) fv rfl rfl rfl rfl) ?_;exact aT aH rfl (show decide ((e.im.t.getD k cD).1=0)=_ by rw[ar8 (by omega: ¬e.im.t.length<=k)];rfl) ac rfl
def pK (L:List aO) (top base:List UInt8) (over:Bool):Int×Bool:=if over=true then(0,false) else match sv L top base with
 |some k=>((k:Int),true)
 |none=>(0,false)
abbrev ahA (l:List (List UInt8)) (n k:Nat):a1:=[(1,ao 1),(5,bS .str l),(7,.c (.one (.cT 300 [.p 1 0]))),(50,ae (n:Int)),(51,ae (k:Int))]
abbrev ahB (l:List (List UInt8)) (n k i:Nat):a1:=[(1,ao 1),(5,bS .str l),(7,.c (.one (.cT 300 [.p 1 0]))),(50,ae (n:Int)),(51,ae (k:Int)),(8,ae (k:Int)),(54,bS .str l),(55,ae (l.length:Nat)),(56,ae (i:Int))]
abbrev Gs (z U:Int) (L:List aO) (top base:List UInt8) (over:Bool):ay:=pJ z U L top base over++[(1,.cells [.ptr 2001 0])]
theorem ahC {α:Type} (p:α->Bool) {l:List α} {i:Nat} (h:i < l.length) (aw:(l.take i).any p=false) (E:p l[i]=false):(l.take (i+1)).any p=false:=by
 rw[List.take_add_one,oj h,List.any_append,aw];show(false||(p l[i]||false))=false;rw[E];rfl
set_option maxHeartbeats 1000000 in
theorem ahD (h:cE z U L) (base:List UInt8) (over:Bool) {d:aO} (J:dk L top=some d):Fn Tryz.prog 298 [ao 2001] (pJ z U L top base over) [] (.ce [.one (.d (.int .i64 (pK L top base over).1)),.one (.d (.bool (pK L top base over).2))]) (pJ z U L top base over):=by
 have lr:=LN h J base;have nc:=(h.hh d (c1 J).1).1.eW;have fv:=h.tohU.M (c1 J).1;have cQ:c4 L top=d.im.t.length:=by unfold c4;rw[J]
 have R9:(nh L top base).length<=16:=by
  have E:(nh L top base).length<=(ey L (fi L top) top).length:=(List.takeWhile_sublist _).length_le;rw[rs (h.co top).1] at E;have:=(h.co top).2;omega
 have iN: ∀n,n∈nh L top base-> ∃e,dk L n=some e:=fun n hn=>(agc h J n hn).2
 have bn: ∀k,su L top base k=(jf L top k&&(nh L top base).any fun n=> !jf L n k):=fun k=>rfl
 have ahE:over=true->pK L top base over=(0,false):=fun e=>if_pos e
 have ahF:over=false->n0 L top base=false->pK L top base over=(0,false):=fun aj ap=>by
  unfold pK sv;rw[aj,ap];rfl
 have ahG:over=false->n0 L top base=true-> ∀k,k < c4 L top->su L top base k=true->(∀j,j < k->su L top base j=false)->pK L top base over=((k:Int),true):=fun aj ap k ab ag hn=>by
  unfold pK sv;rw[aj,if_neg au6,if_pos ap,List.find?_range_eq_some.2 ⟨ag,List.mem_range.2 ab,fun j aa=>by simp[hn j aa]⟩]
 have ahH:over=false->(∀k,k < c4 L top->su L top base k=false)->pK L top base over=(0,false):=fun aj hn=>by
  unfold pK;rw[aj,if_neg au6,agp hn]
 have Gh:=fun k=>Tf h top base over top k J
 have ahI:=fun n (hn:n∈nh L top base) k=>Tf h top base over n k (iN n hn).choose_spec
 generalize pK L top base over=Tg at*;generalize n0 L top base=sA at*;generalize nh L top base=jQ at*;generalize c4 L top=n at*;subst cQ;refine aW [5] Tryz.func298 rfl rfl rfl rfl ?_;refine⟨rfl,au (jx _ _ L h.tohU top d J) ?_⟩;refine⟨rfl,au lr ?_⟩;refine⟨rfl,fun ai=>?_,fun ai=>?_⟩
 .have e:=ahE ai;exact aT aH rfl ⟨congrArg Prod.fst e.symm,congrArg Prod.snd e.symm,trivial⟩ ac rfl
 have ai:over=false:=ai;refine⟨fun _ _=>?_,fun h=>by cases h⟩;refine⟨fun aI=>?_,fun aI=>?_⟩
 .have aI:sA=false:=by
   have aI:(!sA)=true:=aI;simpa using aI
  have e:=ahF ai aI;exact aT aH rfl ⟨congrArg Prod.fst e.symm,congrArg Prod.snd e.symm,trivial⟩ ac rfl
 have aI:sA=true:=by
  have aI:(!sA)=false:=aI;simpa using aI
 refine bz [] (cG [(1,ao 1),(4,dn d.am),(5,bS .str jQ)] (Gs z U L top base over)) ?_;refine au (hV (na d.im) fv rfl rfl rfl rfl) ?_;refine dX [16] (X:=Nat) (ahA jQ d.im.t.length) (fun _=>Gs z U L top base over) (fun k=>k<=d.im.t.length/\ ∀j,j < k->su L top base j=false) (fun k=>d.im.t.length - k) 0 ⟨ap7 _,fun j aa=>absurd aa (au3 j)⟩ ?_ ?_
 .exact af.sub ac ac
 rintro k ⟨ab,e4⟩;have ab:k<=d.im.t.length:=ab;refine⟨fun H=>?_,fun H=>?_⟩
 .have H:decide ((k:Int) < ((d.im.t.length:Nat):Int))=true:=H;have cn:k < d.im.t.length:=by have:=gd H;omega
  refine dX [12,16] (X:=Nat) (ahB jQ d.im.t.length k) (fun _=>Gs z U L top base over) (fun i=>i<=jQ.length/\(jf L top k&&(jQ.take i).any fun n=> !jf L n k)=false) (fun i=>jQ.length - i) 0 ⟨ap7 _,Bool.and_false _⟩ ?_ ?_
  .exact af.sub ac ac
  rintro i ⟨dW,pL⟩;have dW:i<=jQ.length:=dW;refine⟨fun H=>?_,fun H=>?_⟩
  .have H:decide ((i:Int) < ((jQ.length:Nat):Int))=true:=H;have wl:i < jQ.length:=by have:=gd H;omega
   have bl:=ahI _ (ar3 wl) k;have iR:=fun(a:(jQ.take i).any (fun n=> !jf L n k)=false) (b:(!jf L jQ[i] k)=false)=>ahC (fun n=> !jf L n k) wl a b
   have k4:=ar3 wl;have mw:=jv (n:=i) wl;generalize jQ[i]=nm at*;refine⟨au5,nm,mw,bz [16] (cG [(1,ao 1),(5,bS .str jQ),(7,.c (.one (.cT 300 [.p 1 0]))),(50,ae (d.im.t.length:Nat)),(51,ae (k:Int)),(8,ae (k:Int)),(54,bS .str jQ),(55,ae (jQ.length:Nat)),(56,ae (i:Int)),(10,bV nm)] (Gs z U L top base over)) ?_⟩;refine au (Fn.aX [(3001,1)] (Gh k)) ?_;refine⟨fun g1=>?_,fun g1=>?_⟩
   .have g1:jf L top k=true:=g1;refine au (Fn.aX [(3001,1)] bl) ?_;refine⟨fun g2=>?_,fun g2=>?_⟩
    .have g2:(!jf L nm k)=true:=g2
     have LP:su L top base k=true:=by
      rw[bn,g1,Bool.true_and,List.any_eq_true];exact⟨nm,k4,g2⟩
     have e:=ahG ai aI k cn LP e4;exact aT aH rfl ⟨congrArg Prod.fst e.symm,congrArg Prod.snd e.symm,trivial⟩ ac rfl
    .have g2:(!jf L nm k)=false:=g2;rw[g1,Bool.true_and] at pL;exact⟨au5,i+1,⟨wl,by rw[g1,Bool.true_and];exact iR pL g2⟩,au5,af.sub ac ac⟩
   .have g1:jf L top k=false:=g1;exact⟨au5,i+1,⟨wl,by rw[g1];rfl⟩,au5,af.sub ac ac⟩
  .have H:decide ((i:Int) < ((jQ.length:Nat):Int))=false:=H;have wl:i=jQ.length:=by have:=mu H;omega
   have LP:su L top base k=false:=by
    rw[bn,<-pL,wl,aq9]
   exact⟨au5,k+1,⟨cn,fun j aa=>by
    rcases Nat.lt_or_ge j k with bl |bl
    .exact e4 j bl
    .rw[show j=k by omega];exact LP⟩,au5,af.sub ac ac⟩
 .have H:decide ((k:Int) < ((d.im.t.length:Nat):Int))=false:=H;have fd:k=d.im.t.length:=by have:=mu H;omega
  have e:=ahH ai fun j aa=>e4 j au5
  exact aT aH rfl ⟨congrArg Prod.fst e.symm,congrArg Prod.snd e.symm,trivial⟩ ac rfl
theorem ahJ (h:cE z U L) (base:List UInt8) (over:Bool) {d:aO} (J:dk L top=some d):Fn Tryz.prog 297 [ao 2001] (pJ z U L top base over) [] (.ce [.one (.d (.bool (iF z L top base over).done)),dw (iF z L top base over).e]) (pJ z U (iF z L top base over).L top base (iF z L top base over).over):=by
 have uQ:=ahD h base over J;have nc:=(h.hh d (c1 J).1).1.eW;have fv:=h.tohU.M (c1 J).1;have lr:d.im.z=z:=(h.hh d (c1 J).1).2.1;have x0:=h.b3;have ag:=ko h.b3
 cases over with
 |true=>
  have e:iF z L top base true=⟨false,160,L,true⟩:=rfl;rw[e];refine aW [] Tryz.func297 rfl rfl rfl rfl ?_;refine au (jx _ _ L h.tohU top d J) ?_;refine⟨rfl,eO ?_⟩;exact aT aH rfl ac ac rfl
 |false=>
  have bG:iF z L top base false=match sv L top base with
   |some k=>⟨false,(hG z L top ((k*2 ^z:Nat):Int) (hH z L top (k:Int))).e,(hG z L top ((k*2 ^z:Nat):Int) (hH z L top (k:Int))).L,false⟩
   |none=>⟨decide ((kv L top base).e=0),(kv L top base).e,(kv L top base).L,decide ((kv L top base).e=0)⟩:=by
   unfold iF;rw[J];rfl
  cases hn:sv L top base with
  |some k=>
   rw[hn] at bG;have bG:iF z L top base false=⟨false,(hG z L top ((k*2 ^z:Nat):Int) (hH z L top (k:Int))).e,(hG z L top ((k*2 ^z:Nat):Int) (hH z L top (k:Int))).L,false⟩:=bG;rw[bG]
   have H:pK L top base false=((k:Int),true):=by
    unfold pK;rw[hn];rfl
   rw[H] at uQ
   have ab:k < d.im.t.length:=by
    have:=(ago hn).2.1;unfold c4 at this;rw[J] at this;exact this
   have Th:(k:Int)*((2 ^((d.im.z:Nat):Int).toNat:Nat):Int)=((k*2 ^z:Nat):Int):=by
    rw[lr];show(k:Int)*((2 ^z:Nat):Int)=_;rw[Int.natCast_mul]
   have dJ:=Ld h top (k:Int)
   have b6:(hH z L top (k:Int)).length<=1000000000:=by
    have:hH z L top (k:Int)=pC z L top (fi L top) k:=by
     unfold hH;rw[J];simp only;rw[if_pos ⟨au5,au5⟩];rfl
    rw[this,Cw h.tond J (h.co top).1 k];omega
   have Gj:=Lc h top ((k*2 ^z:Nat):Int) (hH z L top (k:Int)) b6;rw[<-Th] at Gj⊢;generalize hH z L top (k:Int)=x at*;generalize hG z L top ((k:Int)*((2 ^((d.im.z:Nat):Int).toNat:Nat):Int)) x=ao7 at*;have m1:(0:Int)<=(k:Int)/\(0:Int)<=((d.im.z:Nat):Int)/\((d.im.z:Nat):Int)<=64:=by omega
   have mk:k*2 ^z<=256*8:=Nat.mul_le_mul au5 ag.2;have m2:cY ((k:Int)*((2 ^((d.im.z:Nat):Int).toNat:Nat):Int)):=by rw[Th];omega
   refine aW [6] Tryz.func297 rfl rfl rfl rfl ?_;refine au (jx _ _ L h.tohU top d J) ?_;refine⟨rfl,da ?_⟩;refine⟨fun _ _=>?_,fun h=>by cases h⟩;refine au uQ ?_;refine⟨fun _=>?_,fun h=>absurd (show true=false from h) au6⟩;refine bz [] (cG [(0,ao 2001),(4,dn d.am),(5,ae (k:Int))] (pJ z U L top base false)) ?_;refine au (hV (wj d.im) fv rfl rfl rfl rfl) ?_;refine⟨m1,m2,au dJ ?_⟩;refine au Gj ?_;refine⟨rfl,?_⟩;exact aT aH rfl ac ac rfl
  |none=>
   rw[hn] at bG;have bG:iF z L top base false=⟨decide ((kv L top base).e=0),(kv L top base).e,(kv L top base).L,decide ((kv L top base).e=0)⟩:=bG;rw[bG]
   have H:pK L top base false=(0,false):=by
    unfold pK;rw[hn];rfl
   rw[H] at uQ;have x5:=af8 h top base;generalize kv L top base=ao8 at*;refine aW [7] Tryz.func297 rfl rfl rfl rfl ?_;refine au (jx _ _ L h.tohU top d J) ?_;refine⟨rfl,da ?_⟩;refine⟨fun _ _=>?_,fun h=>by cases h⟩;refine au uQ ?_;refine da ?_;refine bz [] (cG [(0,ao 2001)] (pJ z U L top base false)) ?_;refine au x5 ?_;refine⟨rfl,?_⟩;exact aT aH rfl ac ac rfl
end
end
section
section
variable {P:Program} {ids:List Nat} {K:a1} {B:ay}
theorem ahK {o:Oper} {T:TypeId} {x v:Operand} {c i off:Nat} {e:TypeId} {u:bx} {xs:List (Z u)} {y y':Z u} {Gt:D} {c7:TypeInfo} (ai:o.op= .store T x v) (aI:P.info? T=some c7) (aR:c7.size=1) (hx:a7 K x= .c (.one (.f1 c (aS u) i off)))
  (az:a7 K v= .c (.one (.d Gt))) (c':ah B c=some (.row e u xs)) (aC:fB xs i=some y) (B2:off < aS u) (m':ow u y') (H: ∀j,j < aS u->fA u y' j=if j=off then Gt else fA u y j)
  (E: ∀{I:Nat->Prop} {w:World} {aB:Value},gE I w Gt aB->aB.cells=List.toArray [aB]/\aB.oneCell'=true) (N:Nat):
  bB P N ids o K B .undef ⟨[c],[],[(c,some (.row e u (xs.set i y')))]⟩:=by
 have m1:x∈o.op.operands:=by rw[ai];simp[Op.operands]
 have m2:v∈o.op.operands:=by rw[ai];simp[Op.operands]
 have wm:i < xs.length:=AY aC;refine bB.hN c' fun K' B' g1 C ρ F a w ar av f4=>?_
 obtain⟨bj,jI,cs,du,jJ⟩:=ar.holds c _ f4;have IM:=av.f1 ((g1 x m1).trans hx);have ap:gE (bZ C B' F w) w Gt (a.eval v):=av.ev ((g1 v m2).trans az);obtain⟨hz,i5⟩:=E ap;obtain⟨pZ,du⟩:=du;rcases du with⟨_,aw⟩ |⟨g,cap,c8,oE,_,a6,w6,aA,cQ,cr⟩
 .omega
 .have y1:g=(ρ c).bk:=jI g (by rw[oE];rfl);subst y1
  have Ti:i*aS u+off < xs.length*aS u:=by
   have:=Nat.mul_le_mul_right (aS u) wm;rw[Nat.succ_mul] at this;omega
  have ao9:xs.length*aS u<=cap*aS u:=Nat.mul_le_mul_right _ w6;have uc:w.heap[(ρ c).bk]? =some (.cells (List.toArray c8.toList) e (0,0)):=by simpa using a6
  have k1:i*aS u+off+ [a.eval v].length<=c8.toList.length:=by simp;omega
  have ud:=Ba (P:=P) (ev:=a.eval) (w:=w) ai IM hz aI aR uc k1 (by simpa using i5);refine⟨_,ud,Ev ((bj _).2 (by rw[oE];rfl)),fun I V=>?_⟩;have oF:=setRow_heap w (ρ c).bk c8 (List.take (i*aS u+off) c8.toList++[a.eval v]++List.drop (i*aS u+off+ [a.eval v].length) c8.toList).toArray e (0,0) a6
  have gN:(List.take (i*aS u+off) c8.toList++[a.eval v]++List.drop (i*aS u+off+ [a.eval v].length) c8.toList)=c8.toList.set (i*aS u+off) (a.eval v):=by
   rw[List.set_eq_take_append_cons_drop,if_pos (by simp;omega)];simp
  rw[gN] at oF;refine⟨bj,jI,cs.set (i*aS u+off) (a.eval v),⟨by simp[pZ],.inr ⟨(ρ c).bk,cap,_,by rw[oE];simp,ap7 _,by rw[gN];exact oF,by simpa using w6,aA,by simp[cQ],?_⟩⟩,fun j aB aR=>?_⟩
  .rw[<-cr];simp[List.take_set]
  .by_cases kO:i=j
   .subst kO;rw[List.getElem?_set_self wm] at aR;injection aR with aR
    subst aR;have J:=jJ i y aC;refine cp.mk u y' _ m' fun q aV=>?_
    rw[H q aV]
    by_cases BM:q=off
    .rw[if_pos BM];subst BM;exact⟨a.eval v,by rw[List.getElem?_set_self au5],gE.mono V _ _ ap⟩
    .rw[if_neg BM];obtain⟨x,hx,pk⟩:=cp.cell u y _ q J aV;exact⟨x,by rw[List.getElem?_set_ne au5];exact hx,gE.mono V _ _ pk⟩
   .rw[List.getElem?_set_ne kO] at aR;have J:=jJ j aB aR;refine cp.mk u aB _ (cp.wf u aB _ J) fun q aV=>?_
    obtain⟨x,hx,pk⟩:=cp.cell u aB _ q J aV;refine⟨x,?_,gE.mono V _ _ pk⟩;rw[List.getElem?_set_ne ?_]
    .exact hx
    .intro e;have E:(i*aS u+off)/aS u=i:=by rw[Nat.mul_comm,Nat.mul_add_div au5,Nat.div_eq_of_lt B2,Nat.add_zero]
     have G:(j*aS u+q)/aS u=j:=by rw[Nat.mul_comm,Nat.mul_add_div au5,Nat.div_eq_of_lt aV,Nat.add_zero]
     rw[e,G] at E;exact kO E.symm
end
theorem ahL {I:Nat->Prop} {w:World} {n:Int} {aB:Value} (h:gE I w (.int .i64 n) aB):aB.cells=List.toArray [aB]/\aB.oneCell'=true:=by
 have h:aB= .int .i64 n:=h;subst h;exact⟨rfl,rfl⟩
theorem ahM:(Tryz.prog.info? 3).map (·.size)=some 1:=by kernel_rfl
abbrev hI:bx:=.bR ak (.bR ak ak)
abbrev dM:=Int×Int×Int
abbrev ahN (x:dM):List bC:=[.d (.int .i64 x.1),.d (.int .i64 x.2.1),.d (.int .i64 x.2.2)]
def gT (l:List dM):Int:=match l.getLast? with
 |none=>0
 |some x=>x.1+x.2.1
def mc (l:List dM) (n k:Int):List dM:=if n < 1 then l else match l.getLast? with
 |some x=>if x.2.2=k then l.set (l.length - 1) (x.1,x.2.1+n,x.2.2) else l++[(gT l,n,k)]
 |none=>l++[(gT l,n,k)]
theorem Ag {α:Type} {l:List α} {x:α} (h:l.getLast? =some x):0 < l.length/\fB l (l.length - 1)=some x:=by
 rw[List.getLast?_eq_getElem?] at h;exact⟨by have:=(ap5.1 h).1;omega,h⟩
theorem LQ {α:Type} {l:List α} (h:l.getLast? =none):l=[]:=by simpa using h
theorem ahO (l:List dM) (O: ∀x,l.getLast? =some x-> -4611686018427387904<=x.1/\x.1<=4611686018427387903/\ -4611686018427387904<=x.2.1/\x.2.1<=4611686018427387903) (aq:l.length<=4294967296):
  Fn Tryz.prog 240 [eM 1001] [(1001,.row 271 hI l)] [] (ae (gT l)) [(1001,.row 271 hI l)]:=by
 refine aW [] Tryz.func240 rfl rfl rfl rfl ?_;refine⟨fun h=>?_,fun h=>?_⟩
 .have h:((l.length:Nat):Int)=0:=gd h;have aw:l=[]:=List.length_eq_zero_iff.1 au5;subst aw;exact aT aH rfl rfl ac rfl
 .have h: ¬((l.length:Nat):Int)=0:=mu h
  cases hx:l.getLast? with
  |none=>rw[LQ hx] at h;exact absurd rfl h
  |some x=>
   have O:=O x hx;obtain⟨aw,a6⟩:=Ag hx;have e:(((l.length:Nat):Int) - 1).toNat=l.length - 1:=by omega
   have m:cY (((l.length:Nat):Int) - 1):=by omega
   have m2:(0:Int)<=((l.length:Nat):Int) - 1/\(((l.length:Nat):Int) - 1).toNat < l.length:=by omega
   have m3:cY (x.1+x.2.1):=by omega
   have ri:fB l (((l.length:Nat):Int) - 1).toNat=some x:=by rw[e];exact a6
   refine⟨m,⟨m2.1,au5⟩,x,ri,m,⟨m2.1,au5⟩,x,ri,m3,rfl,?_⟩;exact aT aH rfl (show x.1+x.2.1=gT l by unfold gT;rw[hx]) ac rfl
theorem Tj (l:List dM) (n k:Int) (O: ∀x,l.getLast? =some x-> -4611686018427387904<=x.1/\x.1<=4611686018427387903/\ -4611686018427387904<=x.2.1/\x.2.1<=4611686018427387903) (hn:n<=4611686018427387903) (aq:l.length<=1000000000):
  Fn Tryz.prog 210 [eM 1001,ae n,ae k] [(1001,.row 271 hI l)] [1002] (eM 1002) [(1002,.row 271 hI (mc l n k))]:=by
 obtain⟨ii,ahP,ahQ⟩:=j5 ahM;have lJ:=ahO l O au5;refine aW [] Tryz.func210 rfl rfl rfl rfl ?_;refine⟨fun h=>?_,fun h=>?_⟩
 .have h:n < 1:=gd h;have e:mc l n k=l:=if_pos h;exact⟨_,_,_,af.aX 1001 1002 rfl,rfl,rfl,⟨congrArg (fun aB:List dM=>some (bd.row 271 hI aB)) e.symm,trivial⟩,rfl⟩
 have h: ¬n < 1:=mu h;have m:cY (((l.length:Nat):Int) - 1):=by omega
 refine⟨m,?_⟩
 cases hx:l.getLast? with
 |none=>
  have aw:=LQ hx;subst aw;refine⟨fun G=>absurd G au6,fun _=>?_⟩;refine au lJ ?_;refine⟨(show(0+1:Nat)<=4294967296 from by decide),rfl,?_⟩;have e:mc [] n k=[(gT [],n,k)]:=by unfold mc;rw[if_neg h];rfl
  exact⟨_,_,_,af.aX 42 1002 rfl,rfl,rfl,⟨congrArg (fun aB:List dM=>some (bd.row 271 hI aB)) e.symm,trivial⟩,rfl⟩
 |some x=>
  have O:=O x hx;obtain⟨aw,a6⟩:=Ag hx;have e:(((l.length:Nat):Int) - 1).toNat=l.length - 1:=by omega
  have ri:fB l (((l.length:Nat):Int) - 1).toNat=some x:=by rw[e];exact a6
  have m2:(0:Int)<=((l.length:Nat):Int) - 1/\((l.length:Nat):Int) - 1 < l.length:=by omega
  refine⟨fun _=>?_,fun G=>?_⟩
  .refine⟨m2,x,ri,fun ab=>?_,fun ab=>?_⟩
   .have ab:x.2.2=k:=gd ab;have m3:cY (x.2.1+n):=by omega
    refine⟨m2,x,ri,m3,m2,_,_,fun N=>ahK (u:=hI) (y:=x) (y':=((x.1,x.2.1+n,x.2.2):dM)) (off:=1) rfl ahP ahQ rfl rfl rfl ri au6 ⟨trivial,trivial,trivial⟩ (fun j aa=>?_) ahL N,rfl,?_⟩
    .match j,aa with
     |0,_=>rfl
     |1,_=>rfl
     |2,_=>rfl
    have ap:mc l n k=l.set (((l.length:Nat):Int) - 1).toNat (x.1,x.2.1+n,x.2.2):=by
     unfold mc;rw[if_neg h,hx,e];show(if x.2.2=k then _ else _)=_;rw[if_pos ab]
    exact⟨_,_,_,af.aX 1001 1002 rfl,rfl,rfl,⟨congrArg (fun aB:List dM=>some (bd.row 271 hI aB)) ap.symm,trivial⟩,rfl⟩
   .have ab: ¬x.2.2=k:=mu ab;refine au lJ ?_;have jc:List.length (α:=dM) l+1<=4294967296:=by omega
    refine⟨jc,rfl,?_⟩
    have ap:mc l n k=l++[(gT l,n,k)]:=by
     unfold mc;rw[if_neg h,hx];show(if x.2.2=k then _ else _)=_;rw[if_neg ab]
    exact⟨_,_,_,af.aX 42 1002 rfl,rfl,rfl,⟨congrArg (fun aB:List dM=>some (bd.row 271 hI aB)) ap.symm,trivial⟩,rfl⟩
  .have G: ¬((l.length:Nat):Int) - 1≥0:=mu G;omega
def nk (ks:List Int):List dM:=ks.foldl (fun l k=>mc l 1 k) []
structure x6 (ks:List Int) (l:List dM):Prop where
 C3:gT l=(ks.length:Int)
 Gu: ∀x,x∈l->0<=x.1/\1<=x.2.1/\x.1+x.2.1<=(ks.length:Int)/\ ∀k:Nat,x.1<=(k:Int)->(k:Int) < x.1+x.2.1->ks[k]? =some x.2.2
 len:l.length<=ks.length
theorem ahR (l:List dM) (x:dM):gT (l++[x])=x.1+x.2.1:=by
 unfold gT;rw[List.getLast?_concat]
theorem x6.add {ks:List Int} {l:List dM} (h:x6 ks l) (k:Int):x6 (ks++[k]) (mc l 1 k):=by
 have mC: ∀x,x∈l->0<=x.1/\1<=x.2.1/\x.1+x.2.1<=((ks++[k]).length:Int)/\ ∀j:Nat,x.1<=(j:Int)->(j:Int) < x.1+x.2.1->(ks++[k])[j]? =some x.2.2:=fun x hx=>by
  obtain⟨E,G,al,aZ⟩:=h.Gu x hx;refine⟨E,G,by rw[ap1];simp;omega,fun j eE fh=>?_⟩;rw[ar7 au5];exact aZ j eE fh
 have oF:x6 (ks++[k]) (l++[(gT l,1,k)]):=by
  refine⟨?_,fun x hx=>?_,by simp;exact h.len⟩
  .rw[ahR,h.C3,ap1];simp
  .rcases aq8.1 hx with hx |hx
   .exact mC x hx
   .rw[aq0] at hx;subst hx;refine⟨by show 0<=gT l;rw[h.C3];omega,(show(1:Int)<=1 from by decide),by show gT l+1<=_;rw[h.C3,ap1];simp,fun j eE fh=>?_⟩;have eE:gT l<=(j:Int):=eE;have fh:(j:Int) < gT l+1:=fh;rw[h.C3] at eE fh;have:j=ks.length:=by omega
    subst this;rw[ar9 (ap0 _)];simp
 unfold mc;rw[if_neg au6]
 cases hx:l.getLast? with
 |none=>exact oF
 |some x=>
  simp only
  split
  .rename_i ab;obtain⟨aw,a6⟩:=Ag hx;have Gv:x∈l:=List.mem_of_getElem? a6;have lJ:x.1+x.2.1=(ks.length:Int):=by have:=h.C3;unfold gT at this;rw[hx] at this;exact this
   obtain⟨E,G,al,aZ⟩:=h.Gu x Gv;refine⟨?_,fun y aC=>?_,by rw[List.length_set,ap1];have:=h.len;omega⟩
   .unfold gT;rw[List.getLast?_eq_getElem?,List.length_set,List.getElem?_set_self au5];show x.1+(x.2.1+1)=_;rw[ap1];simp;omega
   .rcases List.mem_or_eq_of_mem_set aC with aC |rfl
    .exact mC y aC
    .refine⟨E,by show 1<=x.2.1+1;omega,by show x.1+(x.2.1+1)<=_;rw[ap1];simp;omega,fun j eE fh=>?_⟩;have eE:x.1<=(j:Int):=eE;have fh:(j:Int) < x.1+(x.2.1+1):=fh;show(ks++[k])[j]? =some x.2.2
     by_cases aa:(j:Int) < x.1+x.2.1
     .rw[ar7 au5];exact aZ j eE aa
     .have:j=ks.length:=by omega
      subst this;rw[ar9 (ap0 _),ab];simp
  .exact oF
theorem Tk (ks:List Int) (k:Int):nk (ks++[k])=mc (nk ks) 1 k:=by
 unfold nk;rw[at9];rfl
theorem Tl (ks:List Int):x6 ks (nk ks):=by
 have key: ∀n,n<=ks.length->x6 (ks.take n) (nk (ks.take n)):=fun n=>by
  induction n with
  |zero=>intro _;exact⟨rfl,(fun _ h=>by cases h),ap0 _⟩
  |succ n br=>
   intro hn;rw[List.take_add_one,oj au5];show x6 (ks.take n++[ks[n]]) (nk (ks.take n++[ks[n]]));rw[Tk];exact(br au5).add _
 have:=key ks.length (ap0 _)
 rwa[aq9] at this
abbrev ahS (ks:List Int) (j:Nat):a1:=[(3,eM 5002),(9,bS ak ks),(10,ae (ks.length:Nat)),(11,ae (j:Nat))]
theorem ahT (ks:List Int) (ab:ks.length<=65536):Fn Tryz.prog 190 [bS ak ks] [] [] (bS hI (nk ks)) []:=by
 refine aW [] Tryz.func190 rfl rfl rfl rfl ?_;refine⟨fun h=>?_,fun _=>?_⟩
 .exfalso;have h:(65536:Int) < ((ks.length:Nat):Int):=gd h;omega
 refine dX [] (X:=Nat) (ahS ks) (fun j=>[(5002,.row 271 hI (nk (ks.take j)))]) (fun j=>j<=ks.length) (fun j=>ks.length - j) 0 (ap7 _) ?_ ?_
 .exact(af.nil 3 5002 271 hI rfl rfl).trans (af.sub ac ac)
 intro j aa;refine⟨fun H=>?_,fun H=>?_⟩
 .have H:decide ((j:Int) < ((ks.length:Nat):Int))=true:=H;have eE:j < ks.length:=by have:=gd H;omega
  have bu:=Tl (ks.take j);have bw:(ks.take j).length=j:=by rw[ap8];omega
  have uQ:nk (ks.take (j+1))=mc (nk (ks.take j)) 1 ks[j]:=by
   rw[List.take_add_one,oj eE];exact Tk _ _
  refine⟨au5,ks[j],jv (n:=j) eE,au (Fn.aX [(1001,5002)] (Tj (nk (ks.take j)) 1 ks[j] (fun x hx=>?_) au6 (by have:=bu.len;omega))) ?_⟩
  .have:=bu.Gu x (List.mem_of_getElem? (Ag hx).2);omega
  exact⟨au5,j+1,eE,au5,af.trans (af.sub (K':=[(3,eM 1002),(9,bS ak ks),(10,ae (ks.length:Nat)),(11,ae ((j+1:Nat):Int))]) (B':=[(1002,.row 271 hI (nk (ks.take (j+1))))]) ac ⟨congrArg (fun aB:List dM=>some (bd.row 271 hI aB)) uQ.symm,trivial⟩) ((af.aX 1002 5002 rfl).trans (af.sub ac ac))⟩
 .have H:decide ((j:Int) < ((ks.length:Nat):Int))=false:=H;have fh:j=ks.length:=by have:=mu H;omega
  subst fh;exact⟨_,_,_,af.dV 5002 rfl,rfl,(show nk (ks.take ks.length)=nk ks by rw[aq9]),trivial,rfl⟩
section
variable {z U:Nat} {L:List aO}
end
end
section
def md:Int->List dM->Bool
 |_,[]=>true
 |n,x::l=>if x.1=n/\1<=x.2.1/\x.2.1<=65536 - n then md (n+x.2.1) l else false
theorem ahU (n:Int) (x:dM) (l:List dM):md n (x::l)=if x.1=n/\1<=x.2.1/\x.2.1<=65536 - n then md (n+x.2.1) l else false:=rfl
theorem Ah: ∀{l:List dM} {n:Int} {x:dM},md n l=true->0<=n->l.getLast? =some x->0<=x.1/\1<=x.2.1/\x.1+x.2.1<=65536
 | [],_,_,_,_,h=>by cases h
 |y::l,n,x,h,hn,hx=>by
  unfold md at h
  split at h
  .rename_i H
   cases l with
   |nil=>
    simp at hx;subst hx;omega
   |cons aB l=>
    rw[List.getLast?_cons_cons] at hx;exact Ah h au5 hx
  .cases h
theorem LR: ∀{l:List dM} {n:Int},md n l=true->0<=n-> ∀x,x∈l->n<=x.1/\1<=x.2.1/\x.1+x.2.1<=65536
 | [],_,_,_,x,hx=>by cases hx
 |y::l,n,h,hn,x,hx=>by
  unfold md at h
  split at h
  .rename_i H;rcases ap3.1 hx with rfl |hx
   .omega
   .have:=LR h au5 x hx;omega
  .cases h
abbrev ahV (l:List dM) (n:Int) (i:Nat):a1:=[(3,ae n),(6,bS hI l),(7,ae (l.length:Nat)),(8,ae (i:Nat))]
theorem LS (l:List dM) (aq:l.length<=1000000000) (fq: ∀x,x∈l-> -4611686018427387904<=x.2.1/\x.2.1<=4611686018427387903):Fn Tryz.prog 239 [bS hI l] [] [] (fI (md 0 l)) []:=by
 refine aW [] Tryz.func239 rfl rfl rfl rfl ?_;refine dX [] (X:=Int×Nat) (fun x=>ahV l x.1 x.2) (fun _=>[]) (fun x=>x.2<=l.length/\(0<=x.1/\x.1<=65536)/\md x.1 (l.drop x.2)=md 0 l) (fun x=>l.length - x.2) (0,0) ⟨ap7 _,⟨Int.le_refl 0,au5⟩,rfl⟩ ?_ ?_
 .exact af.sub ac trivial
 rintro⟨n,i⟩ ⟨aI,hn,aF⟩;have aI:i<=l.length:=aI;have hn:0<=n/\n<=65536:=hn;have aF:md n (l.drop i)=md 0 l:=aF;refine⟨fun H=>?_,fun H=>?_⟩
 .have H:decide ((i:Int) < ((l.length:Nat):Int))=true:=H;have dW:i < l.length:=by have:=gd H;omega
  have a6:=jv (n:=i) dW;have J:l.drop i=l[i]::l.drop (i+1):=List.drop_eq_getElem_cons dW;have hx:=fq _ (ar3 dW);rw[J] at aF;generalize l[i]=x at*;rw[ahU] at aF;have m1:(0:Int)<=(i:Int):=by omega
  refine⟨m1,x,a6,rfl,fun E=>?_,fun E=>?_⟩
  .have E:(!decide (x.1=n))=true:=E;have E: ¬x.1=n:=by simpa using E
   rw[if_neg (fun h=>E h.1)] at aF;exact aT aH rfl aF trivial rfl
  have E:(!decide (x.1=n))=false:=E;have E:x.1=n:=by simpa using E
  refine⟨fun G=>?_,fun G=>?_⟩
  .have G:x.2.1 < 1:=gd G;rw[if_neg (fun h=>by omega)] at aF;exact aT aH rfl aF trivial rfl
  have G: ¬x.2.1 < 1:=mu G;have m2:cY (65536 - n):=by omega
  refine⟨m2,fun al=>?_,fun al=>?_⟩
  .have al:65536 - n < x.2.1:=gd al;rw[if_neg (fun h=>by omega)] at aF;exact aT aH rfl aF trivial rfl
  have al: ¬65536 - n < x.2.1:=mu al;rw[if_pos ⟨E,au5,au5⟩] at aF;have m3:cY (n+x.2.1):=by omega
  have jc:cY ((i:Int)+1):=by omega
  refine⟨m3,jc,?_⟩;exact⟨(n+x.2.1,i+1),⟨dW,(by show 0<=n+x.2.1/\n+x.2.1<=65536;omega),aF⟩,(by show l.length - (i+1) < l.length - i;omega),af.sub ac trivial⟩
 .have H:decide ((i:Int) < ((l.length:Nat):Int))=false:=H;have pL:i=l.length:=by have:=mu H;omega
  subst pL;rw[List.drop_length] at aF;exact aT aH rfl aF trivial rfl
theorem LT (l:List dM) (O: ∀x,l.getLast? =some x-> -4611686018427387904<=x.1/\x.1<=4611686018427387903/\ -4611686018427387904<=x.2.1/\x.2.1<=4611686018427387903) (aq:l.length<=4294967296):
  Fn Tryz.prog 240 [bS hI l] [] [] (ae (gT l)) []:=by
 refine aW [] Tryz.func240 rfl rfl rfl rfl ?_;refine⟨fun h=>?_,fun h=>?_⟩
 .have h:((l.length:Nat):Int)=0:=gd h;have aw:l=[]:=List.length_eq_zero_iff.1 au5;subst aw;exact aT aH rfl rfl trivial rfl
 .have h: ¬((l.length:Nat):Int)=0:=mu h
  cases hx:l.getLast? with
  |none=>rw[LQ hx] at h;exact absurd rfl h
  |some x=>
   have O:=O x hx;obtain⟨aw,a6⟩:=Ag hx;have e:(((l.length:Nat):Int) - 1).toNat=l.length - 1:=by omega
   have m:cY (((l.length:Nat):Int) - 1):=by omega
   have m2:(0:Int)<=((l.length:Nat):Int) - 1:=by omega
   have m3:cY (x.1+x.2.1):=by omega
   have ri:fB l (((l.length:Nat):Int) - 1).toNat=some x:=by rw[e];exact a6
   refine⟨m,m2,x,ri,m,m2,x,ri,m3,eC au8,?_⟩;exact aT aH rfl (show x.1+x.2.1=gT l by unfold gT;rw[hx]) trivial rfl
def Gw (l:List dM):Int:=if md 0 l=true then gT l else 0
theorem ahW (l:List dM) (aq:l.length<=1000000000) (fq: ∀x,x∈l-> -4611686018427387904<=x.2.1/\x.2.1<=4611686018427387903):Fn Tryz.prog 209 [bS hI l] [] [] (ae (Gw l)) []:=by
 have aF:=LS l aq fq;unfold Gw
 cases H:md 0 l with
 |false=>
  rw[H] at aF;refine aW [] Tryz.func209 rfl rfl rfl rfl ?_;refine au aF ?_;refine eO ?_;exact aT aH rfl rfl trivial rfl
 |true=>
  rw[H] at aF;have V:=LT l (fun x hx=>by have:=Ah H (Int.le_refl 0) hx;omega) au5;refine aW [] Tryz.func209 rfl rfl rfl rfl ?_;refine au aF ?_;refine da ?_;refine au V ?_;exact aT aH rfl rfl trivial rfl
def x7 (fr bJ:Int) (out:List dM) (x:dM):List dM:=mc out (min (x.1+x.2.1) (fr+bJ) - max x.1 fr) x.2.2
def Ai (l:List dM) (fr bJ:Int):Bool:=md 0 l&&(decide (1<=bJ)&&(decide (0<=fr)&&(decide (bJ<=gT l)&&decide (fr<=gT l - bJ))))
def uR (l:List dM) (fr bJ:Int):List dM:=if Ai l fr bJ=true then l.foldl (x7 fr bJ) [] else[]
theorem ahX {l:List dM} {n k B:Int} (h: ∀x,l.getLast? =some x->0<=x.1/\0<=x.2.1/\x.1+x.2.1<=B) (c':0<=B) {C:Int} (eD:B+n<=C) (ao':B<=C): ∀x,(mc l n k).getLast? =some x->0<=x.1/\0<=x.2.1/\x.1+x.2.1<=C:=by
 intro x hx;unfold mc at hx
 split at hx
 .have:=h x hx;omega
 rename_i hn
 have lJ:0<=gT l/\gT l<=B:=by
  unfold gT
  split
  .omega
  .rename_i y aC;have:=h y aC;omega
 split at hx
 .rename_i y aC;have apa:=h y aC
  split at hx
  .obtain⟨aw,a6⟩:=Ag aC;rw[List.getLast?_eq_getElem?,List.length_set,List.getElem?_set_self au5] at hx;injection hx with hx
   subst hx;show 0<=y.1/\0<=y.2.1+n/\y.1+(y.2.1+n)<=C;omega
  .rw[List.getLast?_append] at hx;simp at hx;subst hx;show 0<=gT l/\0<=n/\gT l+n<=C;omega
 .rw[List.getLast?_append] at hx;simp at hx;subst hx;show 0<=gT l/\0<=n/\gT l+n<=C;omega
theorem ahY (l:List dM) (n k:Int):(mc l n k).length<=l.length+1:=by
 unfold mc
 split
 .omega
 split
 .split
  .rw[List.length_set];omega
  .rw[ap1];exact ap0 _
 .rw[ap1];exact ap0 _
abbrev ahZ (l:List dM) (fr bJ:Int) (i:Nat):a1:=[(1,ae fr),(2,ae bJ),(7,eM 5002),(37,bS hI l),(38,ae (l.length:Nat)),(39,ae (i:Nat))]
abbrev ah0 (l:List dM) (fr bJ:Int) (i:Nat):a1:=[(1,ae fr),(2,ae bJ),(7,eM 1002),(37,bS hI l),(38,ae (l.length:Nat)),(39,ae (i:Nat))]
abbrev ah1 (out:List dM):ay:=[(5002,.row 271 hI out)]
abbrev Tm (out:List dM):ay:=[(1002,.row 271 hI out)]
def rB (l:List dM) (fr bJ:Int) (i:Nat):List dM:=(l.take i).foldl (x7 fr bJ) []
theorem Tn {l:List dM} {fr bJ:Int} {i:Nat} (h:i < l.length):rB l fr bJ (i+1)=mc (rB l fr bJ i) (min (l[i].1+l[i].2.1) (fr+bJ) - max l[i].1 fr) l[i].2.2:=by
 unfold rB;rw[List.take_add_one,oj h];show((l.take i)++[l[i]]).foldl _ _=_;rw[at9];rfl
theorem To (l:List dM) (fr bJ:Int) (i:Nat):(rB l fr bJ i).length<=i:=by
 unfold rB
 have: ∀(m:List dM) (out:List dM),(m.foldl (x7 fr bJ) out).length<=out.length+m.length:=by
  intro m
  induction m with
  |nil=>intro out;exact ap0 _
  |cons x m br=>
   intro out;have E:=br (x7 fr bJ out x);have G:=ahY out (min (x.1+x.2.1) (fr+bJ) - max x.1 fr) x.2.2;show(m.foldl (x7 fr bJ) (x7 fr bJ out x)).length<=out.length+(m.length+1);have al:(x7 fr bJ out x).length<=out.length+1:=G;omega
 have h:=this (l.take i) [];have G:(l.take i).length<=i:=by rw[ap8];omega
 have al:([]:List dM).length=0:=rfl;omega
theorem Tp {l:List dM} {fr bJ:Int} (aF:md 0 l=true) (uC:0<=fr) (ah2:0<=bJ): ∀i,i<=l.length-> ∀x,(rB l fr bJ i).getLast? =some x->0<=x.1/\0<=x.2.1/\x.1+x.2.1<=65536*(i:Int)
 |0,_,x,hx=>by cases hx
 |i+1,aI,x,hx=>by
  have dW:i < l.length:=by omega
  rw[Tn dW] at hx;have V:=LR aF (Int.le_refl 0) _ (ar3 dW);exact ahX (Tp aF uC ah2 i au5) au5 au5 au5 x hx
theorem ah3 (l:List dM) (fr bJ:Int) (aq:l.length<=1000000000) (fq: ∀x,x∈l-> -4611686018427387904<=x.2.1/\x.2.1<=4611686018427387903) (h:Ai l fr bJ=false):Fn Tryz.prog 208 [bS hI l,ae fr,ae bJ] [] [] (kH .dD) []:=by
 have aF:=LS l aq fq;have V:md 0 l=true->_:=fun H=>LT l (fun x hx=>by have:=Ah H (Int.le_refl 0) hx;omega) au5
 have LU:md 0 l=true->0<=gT l/\gT l<=65536:=by
  intro H;unfold gT
  split
  .omega
  .rename_i y aC;have:=Ah H (Int.le_refl 0) aC;omega
 unfold Ai at h
 cases H:md 0 l with
 |false=>
  rw[H] at aF;refine aW [] Tryz.func208 rfl rfl rfl rfl ?_;refine au aF ?_;refine eO ?_;exact aT aH rfl rfl trivial rfl
 |true=>
  rw[H] at aF h;have V:=V H;have LU:=LU H;generalize gT l=e at*;refine aW [] Tryz.func208 rfl rfl rfl rfl ?_;refine au aF ?_;refine da ?_;refine⟨fun E=>?_,fun E=>?_⟩
  .exact aT aH rfl rfl trivial rfl
  have E: ¬bJ < 1:=mu E;refine⟨fun G=>?_,fun G=>?_⟩
  .exact aT aH rfl rfl trivial rfl
  have G: ¬fr < 0:=mu G;refine au V ?_;refine⟨fun al=>?_,fun al=>?_⟩
  .exact aT aH rfl rfl trivial rfl
  have al: ¬e < bJ:=mu al;refine au V ?_;have m1:cY (e - bJ):=by omega
  refine⟨m1,fun aZ=>?_,fun aZ=>?_⟩
  .exact aT aH rfl rfl trivial rfl
  have aZ: ¬e - bJ < fr:=mu aZ;rw[aq2 (show 1<=bJ by omega),aq2 (show 0<=fr by omega),aq2 (show bJ<=e by omega),aq2 (show fr<=e - bJ by omega)] at h
  cases h
set_option maxHeartbeats 1000000 in
theorem ah4 (l:List dM) (fr bJ:Int) (aq:l.length<=1000000) (fq: ∀x,x∈l-> -4611686018427387904<=x.2.1/\x.2.1<=4611686018427387903) (h:Ai l fr bJ=true):Fn Tryz.prog 208 [bS hI l,ae fr,ae bJ] [] [1002] (eM 1002) (Tm (uR l fr bJ)):=by
 have aF:=LS l au5 fq
 have ah5:uR l fr bJ=rB l fr bJ l.length:=by
  unfold uR rB;rw[if_pos h,aq9]
 rw[ah5];unfold Ai at h;simp only[vj,ar5] at h;obtain⟨H,E,G,al,aZ⟩:=h;rw[H] at aF;have V:=LT l (fun x hx=>by have:=Ah H (Int.le_refl 0) hx;omega) au5
 have LU:0<=gT l/\gT l<=65536:=by
  unfold gT
  split
  .omega
  .rename_i y aC;have:=Ah H (Int.le_refl 0) aC;omega
 have C4:=Tp H G (show 0<=bJ by omega);have ah6:=LR H (Int.le_refl 0);have b6:=To l fr bJ;generalize gT l=e at*;have m1:cY (e - bJ):=by omega
 have m2:cY (fr+bJ):=by omega
 refine aW [] Tryz.func208 rfl rfl rfl rfl ?_;refine au aF ?_;refine da ?_;refine⟨fun h=>absurd (gd h) au5,fun _=>?_⟩;refine⟨fun h=>absurd (gd h) au5,fun _=>?_⟩;refine au V ?_;refine⟨fun h=>absurd (gd h) au5,fun _=>?_⟩;refine au V ?_;refine⟨m1,fun h=>absurd (gd h) au5,fun _=>?_⟩;refine dX [] (X:=Nat) (fun i=>ahZ l fr bJ i) (fun i=>ah1 (rB l fr bJ i)) (fun i=>i<=l.length) (fun i=>l.length - i) 0 (ap7 _) ?_ ?_
 .exact(af.nil 7 5002 271 hI rfl rfl).trans (af.sub ac ac)
 intro i aI;have aI:i<=l.length:=aI;have C4:=C4 i aI;have b6:=b6 i;refine⟨fun H=>?_,fun H=>?_⟩
 .have H:decide ((i:Int) < ((l.length:Nat):Int))=true:=H;have dW:i < l.length:=by have:=gd H;omega
  have a6:=jv (n:=i) dW;have hx:=ah6 _ (ar3 dW);have uQ:=Tn (fr:=fr) (bJ:=bJ) dW;generalize l[i]=x at*;have dY:(0:Int)<=(i:Int):=by omega
  have cR:cY (x.1+x.2.1):=by omega
  have dG:cY (min (x.1+x.2.1) (fr+bJ) - max x.1 fr):=by omega
  have dL:cY ((i:Int)+1):=by omega
  have ku:min (x.1+x.2.1) (fr+bJ) - max x.1 fr<=4611686018427387903:=by omega
  have ha:=Tj (rB l fr bJ i) (min (x.1+x.2.1) (fr+bJ) - max x.1 fr) x.2.2 (fun y aC=>by have:=C4 y aC;omega) ku au5;rw[<-uQ] at ha;refine⟨dY,x,a6,rfl,cR,m2,eC au8,dG,au (Fn.aX [(1001,5002)] ha) ?_⟩;exact⟨dL,i+1,dW,by show l.length - (i+1) < l.length - i;omega,af.trans (cG (ah0 l fr bJ (i+1)) (Tm (rB l fr bJ (i+1)))) ((af.aX 1002 5002 rfl).trans (af.sub ac ac))⟩
 .have H:decide ((i:Int) < ((l.length:Nat):Int))=false:=H;have pL:i=l.length:=by have:=mu H;omega
  subst pL;exact⟨_,_,_,af.aX 5002 1002 rfl,rfl,rfl,ac,rfl⟩
theorem ah7 (l:List dM) (fr bJ:Int) (aq:l.length<=1000000) (fq: ∀x,x∈l-> -4611686018427387904<=x.2.1/\x.2.1<=4611686018427387903):Fn Tryz.prog 208 [bS hI l,ae fr,ae bJ] [] [] (bS hI (uR l fr bJ)) []:=by
 cases h:Ai l fr bJ with
 |false=>
  have e:uR l fr bJ=[]:=by unfold uR;rw[h];rfl
  rw[e];exact(ah3 l fr bJ au5 fq h).res rfl
 |true=>exact Fn.dV (aP:=[]) (ah4 l fr bJ aq fq h) rfl rfl
def h9 (l:List dM):List dM:=uR l 0 (Gw l)
theorem ah8 (l:List dM) (aq:l.length<=1000000) (fq: ∀x,x∈l-> -4611686018427387904<=x.2.1/\x.2.1<=4611686018427387903):Fn Tryz.prog 189 [bS hI l] [] [] (bS hI (h9 l)) []:=by
 have E:=ahW l au5 fq;have G:=ah7 l 0 (Gw l) aq fq;refine aW [] Tryz.func189 rfl rfl rfl rfl ?_;refine au E ?_;refine au G ?_;exact aT aH rfl rfl trivial rfl
end
section
theorem Tq {ρ:Go.Shelf.Ren} (L:SlLaysW.n5 Tryz.prog ρ) (fR:jl Tryz.prog (ρ.f 5)=true) {aJ aL:bx} (es:List (Z aJ×Z aL)):
  Fn Tryz.prog (ρ.f 5) [.c (.one (.mp 1001))] [(1001,.map aJ aL es)] [2001] (.c (.one (.mp 2001))) [(1001,.map aJ aL es),(2001,.map aJ aL es)]:=by
 refine⟨fR,fun ρ F I w bW bb cV bj eo b6 dt=>?_⟩
 match bW,b6 with
 | [v],_=>
  obtain rfl:v= .map (some (ρ 1001).bk):=dt 0 _ v rfl rfl;obtain⟨tk,bT,bU,O,aA,c'⟩:=cV 1001 _ rfl;refine(AnyW.maps_Clone L _ _ _ w O).mono ?_;rintro e w' ⟨rfl,rfl⟩;have gC:Below w.heap.size w (w.alloc (.map (List.toArray bT) bU)):=(Below.refl _ _).alloc (ap0 _) _;have aY:cd I w I (w.alloc (.map (List.toArray bT) bU)):=fun b fM=>⟨fM,gC.block b (bb b fM)⟩
  have bw:=k0 O;refine⟨_,c5 ρ 2001 ⟨w.heap.size,none,0,0⟩,c5 F 2001 (fun b=>b=w.heap.size),rfl,cJ.mn gC,fun c H=>de _ _ (fun e=>H (by simp[e])),I,aY,fun b fM=>⟨Nat.lt_of_lt_of_le (bb b fM) gC.size,.inl fM⟩,?_,?_,?_,?_⟩
  .intro c ch H;rw[ca] at H
   split at H
   .rename_i dP;subst dP;injection H with H;subst H
    rw[de _ _ au6,de _ _ au6];exact⟨tk,bT,bU,(gC.block _ bw).trans O,aA.mono aY,c'⟩
   .rw[ca] at H
    split at H
    .rename_i dP;subst dP;injection H with H;subst H
     rw[c6,c6];exact⟨fun b=>Iff.rfl,bT,bU,heap_alloc_new w _,aA.mono aY,c'⟩
    .simp[ah] at H
  .intro c ch H b pM;rw[ca] at H
   split at H
   .rename_i dP;subst dP;rw[de _ _ au6] at pM;have:=bj 1001 _ rfl b pM;exact⟨Nat.lt_of_lt_of_le this.1 gC.size,this.2,.inl ⟨1001,_,rfl,pM⟩⟩
   .rw[ca] at H
    split at H
    .rename_i dP;subst dP;rw[c6] at pM;subst pM;exact⟨au7,fun fM=>by have:=bb _ fM;omega,.inr (ap0 _)⟩
    .simp[ah] at H
  .intro c bX ch ch' b H cF ba gQ hc
   have key: ∀c ch,ah [(1001,bd.map aJ aL es),(2001,bd.map aJ aL es)] c=some ch->c=1001\/c=2001:=fun c ch H=>by
    rw[ca] at H
    split at H
    .rename_i h;exact .inl h.symm
    .rw[ca] at H
     split at H
     .rename_i h;exact .inr h.symm
     .simp[ah] at H
   rcases key c ch H with rfl |rfl <;>rcases key bX ch' cF with rfl |rfl
   .exact ba rfl
   .rw[de _ _ au6] at gQ;rw[c6] at hc;have:=(bj 1001 _ rfl b gQ).1;omega
   .rw[de _ _ au6] at hc;rw[c6] at gQ;have:=(bj 1001 _ rfl b hc).1;omega
   .exact ba rfl
  .show Value.map (some w.heap.size)=Value.map (some (c5 ρ 2001 _ 2001).bk);rw[c6]
end
section
def me (s g:Int):Int:=(s+g - 1)/g
theorem x8 {s g:Int} (ax:0<=s/\s<=4096) (a6:1<=g/\g<=64):0<=me s g/\me s g<=4160:=by
 unfold me;have dG:(0:Int)<=(s+g - 1)/g:=au4 au5 au5;have dL:(s+g - 1)/g<=s+g - 1:=Int.ediv_le_self _ au5;omega
theorem Gx (s g:Int) (es:List (Z ak×Z ak)) (ax:0<=s/\s<=4096) (a6:1<=g/\g<=64):Fn Tryz.prog 165 [ao 1001] (io s g es) [] (ae (me s g)) (io s g es):=by
 have kL:=x8 ax a6;unfold me at kL⊢;have dF:cY (s+g):=by omega
 have la:cY (s+g - 1):=by omega
 have sl:cY ((s+g - 1)/g):=by omega
 have n6:(0:Int)<=s+g - 1/\0 < g:=by omega
 refine aW [] Tryz.func165 rfl rfl rfl rfl ?_;refine⟨dF,la,n6,sl,eC au8,?_⟩;exact aT aH rfl rfl ac rfl
def uS (es:List (Z ak×Z ak)) (f:Int):Nat->List (Z ak×Z ak)
 |0=>es
 |n+1=>gG (aJ:=ak) (aL:=ak) (uS es f n) (f+(n:Int))
theorem ah9 (s g:Int) (es:List (Z ak×Z ak)) (k:Int):Fn Tryz.prog 187 [ae k,ao 3001] (rz s g es) [] gI (rz s g (gG (aJ:=ak) (aL:=ak) es k)):=by
 refine aW [] Tryz.func187 rfl rfl rfl rfl ?_;exact aT aH rfl trivial ac rfl
abbrev ah' (d5 k:Int):a1:=[(4,ae d5),(5,.c (.one (.cT 187 [.p 3001 0]))),(13,ae k)]
theorem aia (s g:Int) (es:List (Z ak×Z ak)) (fr bJ f0 d5:Int) (E:0<=bJ) (G:0<=fr) (al:bJ<=s) (aZ:fr<=s - bJ) (ax:s<=4096) (bK:0<=f0) (fD:d5<=1000000):Fn Tryz.prog 137 [ao 1001,ae fr,ae bJ,ae f0,ae d5,.c (.one (.cT 187 [.p 3001 0]))] (rz s g es) [] (ae 0) (rz s g (uS es f0 (d5 - f0).toNat)):=by
 have m1:cY (s - bJ):=by omega
 refine aW [] Tryz.func137 rfl rfl rfl rfl ?_;refine⟨fun h=>absurd (gd h) au5,fun _=>?_⟩;refine⟨fun h=>absurd (gd h) au5,fun _=>?_⟩;refine⟨fun h=>absurd (gd h) au5,fun _=>?_⟩;refine⟨m1,fun h=>absurd (gd h) au5,fun _=>?_⟩;refine dX [6] (X:=Nat) (fun j=>ah' d5 (f0+(j:Int))) (fun j=>rz s g (uS es f0 j)) (fun j=>j<=(d5 - f0).toNat) (fun j=>(d5 - f0).toNat - j) 0 (ap7 _) ?_ ?_
 .exact af.sub ⟨rfl,rfl,(show f0=f0+((0:Nat):Int) by omega),trivial⟩ ac
 intro j aa;have aa:j<=(d5 - f0).toNat:=aa;refine⟨fun H=>?_,fun H=>?_⟩
 .have H:decide (f0+(j:Int) < d5)=true:=H;have H:=gd H;refine bz [] (aH) ?_;refine au (ah9 s g (uS es f0 j) (f0+(j:Int))) ?_;exact⟨au5,j+1,au5,au5,af.sub ⟨rfl,rfl,(show f0+(j:Int)+1=f0+((j+1:Nat):Int) by omega),trivial⟩ ac⟩
 .have H:decide (f0+(j:Int) < d5)=false:=H;have H:=mu H;have fh:j=(d5 - f0).toNat:=by omega
  subst fh;exact aT aH rfl rfl ac rfl
def C5 (s g:Int) (es:List (Z ak×Z ak)):List (Z ak×Z ak):=uS es 0 (me s g).toNat
abbrev aib (s d5:Int):a1:=[(1,ae 0),(2,ae s),(3,ao 3),(7,ae d5)]
theorem aic (s g:Int) (es:List (Z ak×Z ak)) (ax:0<=s/\s<=4096) (a6:1<=g/\g<=64):Fn Tryz.prog 155 [ao 1001,ae 0,ae s] (io s g es) [] (ae 0) (io s g (C5 s g es)):=by
 have kL:=x8 ax a6;have nB:=Gx s g es ax a6;have dY:(0:Int)<=(0+s)/g:=au4 au5 au5;have cR:(0+s)/g<=0+s:=Int.ediv_le_self _ au5;have cH:cY (0+s):=by omega
 have dF:(0:Int)<=0+s/\0 < g:=by omega
 have la:cY ((0+s)/g):=by omega
 have sl:cY (0+g):=by omega
 have n5:cY (0+g - 1):=by omega
 have n6:(0:Int)<=0+g - 1/\0 < g:=by omega
 have bG:(0+g - 1)/g=0:=Int.ediv_eq_zero_of_lt au5 au5;have n7:cY ((0+g - 1)/g):=by omega
 have V:=aia s g es 0 s 0 (me s g) ax.1 (Int.le_refl 0) (Int.le_refl s) au5 ax.2 (Int.le_refl 0) au5;have aV:(me s g - 0).toNat=(me s g).toNat:=by rw[Int.sub_zero]
 rw[aV] at V;unfold C5;generalize me s g=d5 at*;refine aW [4] Tryz.func155 rfl rfl rfl rfl ?_;refine⟨rfl,cH,dF,la,cH,fun _=>?_,fun h=>absurd (show decide (0+s=s)=false from h) (by rw[Int.zero_add];simp)⟩;refine au nB ?_;refine bz [] (cG (aib s d5) (CV s g es)) ?_;refine⟨sl,n5,n6,n7,au (Fn.arg (args:=[ao 1001,ae 0,ae s,ae ((0+g - 1)/g),ae d5,.c (.one (.cT 187 [.p 3001 0]))]) V ⟨rfl,rfl,rfl,bG,rfl,rfl,trivial⟩ |> Fn.aX [(3001,3)]) ?_⟩;refine⟨eC au8,?_⟩;exact aT aH rfl rfl ac rfl
def n9 (g:Int) (es:List (Z ak×Z ak)) (n:Nat):List Int:=(List.range n).map fun k=>if mO g es k=true then 1 else 0
theorem aid (g:Int) (es:List (Z ak×Z ak)) (n:Nat):n9 g es (n+1)=n9 g es n++[if mO g es n=true then 1 else 0]:=by
 unfold n9;rw[List.range_succ,as3];rfl
theorem LV (g:Int) (es:List (Z ak×Z ak)) (n:Nat):(n9 g es n).length=n:=by
 unfold n9;rw[aq3,List.length_range]
def qr (s g:Int) (es:List (Z ak×Z ak)):List dM:=nk (n9 g es s.toNat)
abbrev aie (s:Int) (j:Nat):a1:=[(0,ao 1001),(3,eM 5002),(9,ae s),(10,ae (j:Nat))]
abbrev Tr (s:Int) (j:Nat):a1:=[(0,ao 1001),(3,eM 19),(9,ae s),(10,ae (j:Nat))]
abbrev aif (s g:Int) (es:List (Z ak×Z ak)) (x:List Int):ay:=io s g es++[(5002,.row 3 ak x)]
abbrev Ts (s g:Int) (es:List (Z ak×Z ak)) (x:List Int):ay:=io s g es++[(19,.row 3 ak x)]
theorem aig (s g:Int) (es:List (Z ak×Z ak)) (ax:0<=s/\s<=4096) (a6:1<=g):Fn Tryz.prog 157 [ao 1001] (io s g es) [] (bS hI (qr s g es)) (io s g es):=by
 have aih:=ahT (n9 g es s.toNat) (by rw[LV];omega);unfold qr;refine aW [] Tryz.func157 rfl rfl rfl rfl ?_;refine dX [] (X:=Nat) (fun j=>aie s j) (fun j=>aif s g es (n9 g es j)) (fun j=>j<=s.toNat) (fun j=>s.toNat - j) 0 (ap7 _) ?_ ?_
 .exact(af.nil 3 5002 3 ak rfl rfl).trans (af.sub ac ac)
 intro j aa;have aa:j<=s.toNat:=aa;have rZ:=aid g es j;have wd:=LV g es j;refine⟨fun H=>?_,fun H=>?_⟩
 .have H:decide ((j:Int) < s)=true:=H;have eE:(j:Int) < s:=gd H;have aI:=SZ s g es j a6 eE ax.2;have m:List.length (α:=Int) (n9 g es j)+1<=4294967296:=by omega
  have m2:cY ((j:Int)+1):=by omega
  generalize n9 g es j=ks at*;generalize mO g es j=b at*;refine au aI ?_;refine⟨fun O=>?_,fun O=>?_⟩
  .have O:b=true:=O;subst O;have rZ:n9 g es (j+1)=ks++[1]:=rZ;refine⟨m,rfl,m2,j+1,(by show j+1<=s.toNat;omega),(by show s.toNat - (j+1) < s.toNat - j;omega),af.trans (af.sub (K':=Tr s (j+1)) (B':=Ts s g es (n9 g es (j+1))) ac ⟨rfl,rfl,congrArg (fun aB:List Int=>some (bd.row 3 ak aB)) rZ.symm,trivial⟩) ?_⟩;exact(af.aX 19 5002 rfl).trans (af.sub ac ac)
  .have O:b=false:=O;subst O;have rZ:n9 g es (j+1)=ks++[0]:=rZ;refine⟨m,rfl,m2,j+1,(by show j+1<=s.toNat;omega),(by show s.toNat - (j+1) < s.toNat - j;omega),af.trans (af.sub (K':=Tr s (j+1)) (B':=Ts s g es (n9 g es (j+1))) ac ⟨rfl,rfl,congrArg (fun aB:List Int=>some (bd.row 3 ak aB)) rZ.symm,trivial⟩) ?_⟩;exact(af.aX 19 5002 rfl).trans (af.sub ac ac)
 .have H:decide ((j:Int) < s)=false:=H;have fh:j=s.toNat:=by have:=mu H;omega
  subst fh;refine au (Fn.own (d:=5002) (e:=3) (u:=ak) (xs:=n9 g es s.toNat) (args:=[eM 5002]) aih rfl) ?_;exact aT aH rfl rfl ac rfl
theorem Tt (es:List (Z ak×Z ak)):Fn Tryz.prog 146 [.c (.one (.mp 1001))] [(1001,.map ak ak es)] [2001] (.c (.one (.mp 2001))) [(1001,.map ak ak es),(2001,.map ak ak es)]:=
 Tq Tryz.acC au8 es
theorem aii (s g:Int) (es:List (Z ak×Z ak)):Fn Tryz.prog 94 [ao 1001] (io s g es) [2001,2002] (ao 2001) (io s g es++[(2001,.cells [.d (.int .i64 s),.d (.int .i64 g),.mp 2002]),(2002,.map ak ak es)]):=by
 refine aW [] Tryz.func94 rfl rfl rfl rfl ?_;refine au (Fn.aX [(1001,1002),(2001,2002)] (Tt es)) ?_;refine⟨rfl,eC au8,?_⟩;exact⟨_,_,_,af.aX 17 2001 rfl,rfl,rfl,ac,rfl⟩
abbrev LW (l:List dM) (k:Int):ay:=[(2001,.cells [.d (.ck hI l)]),(2002,.cells [.d (.int .i64 k)])]
abbrev LX (l:List dM) (k:Int) (o:bh):ay:=[(2001,.cells [.d (.ck hI l)]),(2002,.cells [.d (.int .i64 k)]),(1001,.aG o)]
abbrev Tu (y:Nat) (m:List dM) (i:Nat):a1:=[(0,Cm y),(2,ao 2002),(7,bS hI m),(8,ae (m.length:Nat)),(9,ae (i:Nat))]
theorem aij (l:List dM) (k:Int):Fn Tryz.prog 156 [bS hI l,ae k] [] [2001,2002] (.c (.one (.cT 188 [.p 2001 0,.p 2002 0]))) (LW l k):=by
 refine aW [] Tryz.func156 rfl rfl rfl rfl ?_;refine⟨rfl,rfl,?_⟩;exact⟨_,_,_,(af.aX 2 2001 rfl).trans (af.aX 3 2002 rfl),rfl,rfl,ac,rfl⟩
theorem aik (y:Nat) (l:List dM) (k:Int) (aq:l.length<=1000000) (fq: ∀x,x∈l-> -4611686018427387904<=x.2.1/\x.2.1<=4611686018427387903) {X:Type} (fT:X->bh) (xs:Nat->X)
  (aC: ∀i (h:i < (h9 l).length),(h9 l)[i].2.2=k->xo Tryz.prog y [ae (h9 l)[i].1,ae (h9 l)[i].2.1] [(1001,.aG (fT (xs i)))] (fun _:Unit=>qT true) (fun _=>[(1001,.aG (fT (xs (i+1))))]))
  (ba: ∀i (h:i < (h9 l).length),¬(h9 l)[i].2.2=k->xs (i+1)=xs i) (eH:(h9 l).length<=1000000):
  Fn Tryz.prog 188 [Cm y,ao 2001,ao 2002] (LX l k (fT (xs 0))) [] (.ce []) [(1001,.aG (fT (xs (h9 l).length)))]:=by
 have hn:=ah8 l aq fq;generalize h9 l=m at*;refine aW [3] Tryz.func188 rfl rfl rfl rfl ?_;refine au hn ?_;refine dX [3] (X:=Nat) (fun i=>Tu y m i) (fun i=>LX l k (fT (xs i))) (fun i=>i<=m.length) (fun i=>m.length - i) 0 (ap7 _) ?_ ?_
 .exact af.sub ac ac
 intro i aI;have aI:i<=m.length:=aI;refine⟨fun H=>?_,fun H=>?_⟩
 .have H:decide ((i:Int) < ((m.length:Nat):Int))=true:=H;have dW:i < m.length:=by have:=gd H;omega
  have a6:=jv (n:=i) dW;have aC:=aC i dW;have ba:=ba i dW;generalize m[i]=x at*;have dY:(0:Int)<=(i:Int):=by omega
  have cR:cY ((i:Int)+1):=by omega
  refine⟨dY,x,a6,rfl,bt.le (cG ((5,ao 5)::Tu y m i) ((5,.cells (ahN x))::LX l k (fT (xs i)))) ?_⟩;refine bt.h3 eN au8 ?_;refine⟨fun ab=>?_,fun ab=>?_⟩
  .have ab:x.2.2=k:=gd ab;refine⟨Unit,_,_,_,aC ab,ac,fun _=>rfl,fun _=>?_⟩;exact⟨cR,i+1,dW,(by show m.length - (i+1) < m.length - i;omega),af.sub ac ac⟩
  .have ab: ¬x.2.2=k:=mu ab;have ba:=ba ab;exact⟨cR,i+1,dW,(by show m.length - (i+1) < m.length - i;omega),af.sub ac ⟨rfl,rfl,congrArg (fun aB=>some (bd.aG (fT aB))) ba.symm,trivial⟩⟩
 .have H:decide ((i:Int) < ((m.length:Nat):Int))=false:=H;have pL:i=m.length:=by have:=mu H;omega
  subst pL;exact aT aH rfl trivial ac rfl
theorem ail {ks:List Int} (ab:ks.length<=65536):(nk ks).length<=65536/\ ∀x,x∈nk ks-> -4611686018427387904<=x.2.1/\x.2.1<=4611686018427387903:=by
 have h:=Tl ks;refine⟨by have:=h.len;omega,fun x hx=>?_⟩;have:=h.Gu x hx;omega
theorem aim (l:List dM) (fr bJ:Int):(uR l fr bJ).length<=l.length:=by
 unfold uR
 split
 .have:=To l fr bJ l.length;unfold rB at this
  rwa[aq9] at this
 .exact ap7 _
def wn (s g:Int) (es:List (Z ak×Z ak)) (x:dM):List (Z ak×Z ak):=if x.2.2=1 then nj s g es x.1 x.2.1 else es
def nl (s g:Int) (es:List (Z ak×Z ak)) (m:List dM) (i:Nat):List (Z ak×Z ak):=(m.take i).foldl (wn s g) es
theorem Tv (s g:Int) (es:List (Z ak×Z ak)) {m:List dM} {i:Nat} (h:i < m.length):nl s g es m (i+1)=wn s g (nl s g es m i) m[i]:=by
 unfold nl;rw[List.take_add_one,oj h];show((m.take i)++[m[i]]).foldl _ _=_;rw[at9];rfl
def wo (s g:Int) (es:List (Z ak×Z ak)) (row:List dM):List (Z ak×Z ak):=nl s g es (h9 row) (h9 row).length
abbrev Gy (s g:Int) (es:List (Z ak×Z ak)) (bD g2:Int) (d':List (Z ak×Z ak)):ay:=[(1001,.cells (LA s g)),(1002,.map ak ak es),(3001,.cells [.d (.int .i64 bD),.d (.int .i64 g2),.mp 3002]),(3002,.map ak ak d')]
abbrev Tw (s g:Int) (es:List (Z ak×Z ak)) (bD g2:Int) (d':List (Z ak×Z ak)):ay:=[(1001,.cells (LA s g)),(1002,.map ak ak es),(2,.cells [.ptr 1001 0]),(3001,.cells [.d (.int .i64 bD),.d (.int .i64 g2),.mp 3002]),(3002,.map ak ak d')]
set_option maxHeartbeats 1000000 in
theorem ain (s g:Int) (es:List (Z ak×Z ak)) (bD g2:Int) (d':List (Z ak×Z ak)) (ax:0<=s/\s<=4096) (a6:1<=g/\g<=64) (f':0<=bD/\bD<=4096) (sB:1<=g2/\g2<=64) (aio:bD=s):Fn Tryz.prog 104 [ao 1001,ao 3001] (Gy s g es bD g2 d') [] (ae 0) (Gy s g (wo s g es (qr bD g2 d')) bD g2 d'):=by
 have fW:=aig bD g2 d' f' sB.1;have fq:=ail (ks:=n9 g2 d' bD.toNat) (by rw[LV];omega);have fq:(qr bD g2 d').length<=65536/\ ∀x,x∈qr bD g2 d'->_:=fq;have eH:(h9 (qr bD g2 d')).length<=(qr bD g2 d').length:=aim _ _ _;unfold wo;generalize qr bD g2 d'=rw at*;refine aW [] Tryz.func104 rfl rfl rfl rfl ?_;refine⟨rfl,eC au8,fun H=>absurd (show(!decide (bD=s))=true from H) (by simp[aio]),fun _=>?_⟩;refine au (Fn.aX [(1001,3001),(1002,3002)] fW) ?_;refine au (aij rw 1) ?_;refine bt.le (cG [(22,.c (.one (.cT 188 [.p 2001 0,.p 2002 0]))),(2,ao 2)] (LW rw 1++Tw s g es bD g2 d')) ?_;refine bt.range eN [] (pl:=[23,24]) rfl au8 au8 au8 au8 [1001,1002,2,3001,3002] _ [(2,ao 2)] (LW rw 1) (fun e:List (Z ak×Z ak)=>Tw s g e bD g2 d') 1001 es (nl s g es (h9 rw) (h9 rw).length) (fun e aD b5=> ∃(i:Nat) (h:i < (h9 rw).length),(h9 rw)[i].2.2=1/\e=nl s g es (h9 rw) i/\aD=[ae (h9 rw)[i].1,ae (h9 rw)[i].2.1]/\b5=nl s g es (h9 rw) (i+1)) rfl (by exact ac) rfl rfl ?_ ?_ ?_
 .rintro e aD b5 ⟨i,aI,ab,rfl,rfl,rfl⟩;have rZ:=Tv s g es aI;have gN:=LD s g (nl s g es (h9 rw) i) (h9 rw)[i].1 (h9 rw)[i].2.1 ax a6;have rZ:nl s g es (h9 rw) (i+1)=nj s g (nl s g es (h9 rw) i) (h9 rw)[i].1 (h9 rw)[i].2.1:=by rw[rZ];unfold wn;rw[if_pos ab]
  generalize(h9 rw)[i]=x at*;generalize nl s g es (h9 rw) i=aj at*;generalize nl s g es (h9 rw) (i+1)=ap at*;subst rZ;refine⟨rfl,rfl,rfl,au gN ?_⟩;exact⟨rfl,af.sub trivial ac⟩
 .intro y fT rp aC;exact aik y rw 1 au5 fq.2 fT (fun i=>nl s g es (h9 rw) i) (fun i aI ab=>aC _ _ _ ⟨i,aI,ab,rfl,rfl,rfl⟩) (fun i aI ab=>by rw[Tv s g es aI];unfold wn;rw[if_neg ab]) au5
 .exact aT aH rfl rfl ac rfl
end
section
abbrev LY (aL:bx):=Nat×(Z ak×Z aL)
def aip {aL:bx} (p:LY aL):Int:=p.2.1
def gone {aL:bx} (n:Int) (bF:List Nat) (l:List (LY aL)):List (LY aL):=l.filter fun p=> !(bF.contains p.1&&decide (n<=aip p))
theorem Tx {es:List (Z ak×Z ak)} (h:eZ es) (f:Int): ∀n,eZ (sz es f n)
 |0=>h
 |n+1=>eZ.put q' (Tx h f n)
theorem LZ {s g:Int} {es:List (Z ak×Z ak)} (h:eZ es) (fr bJ:Int):eZ (nj s g es fr bJ):=by
 unfold nj
 split
 .exact Tx h _ _
 .exact h
theorem Gz {es:List (Z ak×Z ak)} (h:eZ es) (f:Int): ∀n,eZ (uS es f n)
 |0=>h
 |n+1=>eZ.k6 (Gz h f n)
theorem Ty {s g:Int} {es:List (Z ak×Z ak)} (h:eZ es) (m:List dM) (i:Nat):eZ (nl s g es m i):=by
 unfold nl;generalize m.take i=l
 induction l generalizing es with
 |nil=>exact h
 |cons x l br=>
  refine br (es:=wn s g es x) ?_;unfold wn
  split
  .exact LZ h _ _
  .exact h
end
end Go.Proofs.YthnboghbhgapcaaGreat
