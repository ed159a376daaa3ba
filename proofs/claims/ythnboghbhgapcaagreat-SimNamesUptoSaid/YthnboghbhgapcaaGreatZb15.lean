/-
A part of the proof of this claim: lemmas, with no condition beyond what each says.
-/
import Derived.Test.YthnboghbhgapcaaGreatZb14
set_option linter.unusedVariables false
set_option linter.unusedSimpArgs false
set_option maxRecDepth 10000
set_option maxHeartbeats 4000000
namespace Go.Proofs.YthnboghbhgapcaaGreat
open Go.RowKit Go.Proofs Tryz
section
theorem ahk (z U:Int) (L:List aN) (nm:ay4) (n rm:Int) (l:ay5) (g:List (Nat×ay4)) (done:Bool) (a aZ:Int):Fn Tryz.prog 82 [ap 2001,ac a,ac aZ] (io z U L nm n rm l g true done) [] (ac 0) (io z U L nm n rm l g true done):=by
 refine aU [] Tryz.func82 ?_;exact e5 bg
def o5 (l:ay5):ay5:=(mS (l.map fun k:Nat=>(k:Int))).map Int.toNat
theorem ahl (l:ay5):mS (gR (fZ l))=(o5 l).map fun k:Nat=>(k:Int):=by
 unfold o5;rw[uS,as2]
 conv=>lhs;rw[<-List.map_id (mS (l.map fun k:Nat=>(k:Int)))]
 refine ar1 fun x hx=>?_
 obtain⟨k,_,rfl⟩:=ar2.1 ((C4 _).mem_iff.1 hx);rfl
theorem Am (l:ay5):(o5 l).Perm l:=by
 have h:=(C4 (l.map fun k:Nat=>(k:Int))).map Int.toNat;rw[as2] at h
 have e:l.map (Int.toNat∘fun k:Nat=>(k:Int))=l:=by
  conv=>rhs;rw[<-List.map_id l]
  exact ar1 fun x _=>rfl
 rw[e] at h;exact h
structure Ti where
 e:Int
 l:ay5
 g:List (Nat×ay4)
 over:Bool
def ll (z:Nat) (L:List aN) (nm:ay4) (rm a aZ:Int):ay5->ay5->List (Nat×ay4)->Ti
 | [],l,g=>⟨0,l,g,false⟩
 |k::ks,l,g=>if((k*2 ^z+2 ^z:Nat):Int)<=a\/a<=((k*2 ^z:Nat):Int) - aZ then ll z L nm rm a aZ ks l g else if(ei z L nm rm l g k).e=0 then ll z L nm rm a aZ ks (ei z L nm rm l g k).l (ei z L nm rm l g k).g else⟨(ei z L nm rm l g k).e,(ei z L nm rm l g k).l,(ei z L nm rm l g k).g,(ei z L nm rm l g k).over⟩
theorem ahm {z:Nat} {L:List aN} {nm:ay4} {rm:Int} {l:ay5} {g:List (Nat×ay4)} {k:Nat} (V:(ei z L nm rm l g k).e=0):(ei z L nm rm l g k).over=false/\(ei z L nm rm l g k).g=g++[(k,hJ z L nm (k:Int))]:=by
 unfold ei at V⊢
 split at V
 .exact absurd V (show¬(171:Int)=0 by decide)
 .rename_i c;rw[if_neg c];exact⟨rfl,rfl⟩
abbrev ahn (a aZ:Int) (b:Nat) (ks:List Int) (i:Nat):aY:=[(0,ap 2001),(1,ac a),(2,ac aZ),(7,x' 134 b),(27,bS ak ks),(28,ac (ks.length:Nat)),(29,ac (i:Nat))]
theorem aho {z U:Nat} {L:List aN} (h:cE z U L) (nm:ay4) (n rm:Int) (l:ay5) (g:List (Nat×ay4)) (done:Bool) (a aZ:Int) (E:1<=aZ) (G:aZ<=9223372036854775807) (al: ∀k,k∈l->k<=256) (oK:l.length<=256) (hn:l.Nodup) (a1: ∀k,k∈l->k∉g.map Prod.fst):
  Fn Tryz.prog 82 [ap 2001,ac a,ac aZ] (io z U L nm n rm l g false done) [] (ac (ll z L nm rm a aZ (o5 l) l g).e) (io z U L nm n rm (ll z L nm rm a aZ (o5 l) l g).l (ll z L nm rm a aZ (o5 l) l g).g (ll z L nm rm a aZ (o5 l) l g).over done):=by
 have Gy:=ag3 (fZ l) (Lw hn) (Lx fun k ab=>by have:=al k ab;omega) (by rw[Lu];omega);rw[ahl] at Gy;have af:=kp h.b3;have uV:=h.b3;have hp:(o5 l).length=l.length:=(Am l).length_eq;have Tj: ∀k,k∈o5 l->k<=256/\k∉g.map Prod.fst:=fun k ab=>⟨al k ((Am l).mem_iff.1 ab),a1 k ((Am l).mem_iff.1 ab)⟩
 have rE:(o5 l).Nodup:=(Am l).nodup_iff.2 hn;generalize o5 l=ip at*;generalize fq:ll z L nm rm a aZ ip l g=R at*;refine aU [3,4,9] Tryz.func82 ?_;refine df ⟨fun h=>absurd (gd h) au5,fun _=>bt.eY (de.mark 2001 9001 rfl au6) fun b=>bz [4,9] (cH [(0,ap 2001),(1,ac a),(2,ac aZ)] (tH z U L nm n rm l g false done b)) ⟨_,_,fun N=>jy (m:=9001) (b:=b) rfl rfl rfl N,rfl,?_⟩⟩;refine bz [9] (cH [(0,ap 2001),(1,ac a),(2,ac aZ),(7,x' 134 b)] (tH z U L nm n rm l g false done b)) <| ar (Fn.aV [(1001,2002),(2001,9101)] (Lq (fZ l))) <| ar (Fn.aV [(1001,2002),(2001,9101)] Gy) <| dQ [9] (X:=Nat×ay5×List (Nat×ay4)) (fun x=>ahn a aZ b (ip.map fun k:Nat=>(k:Int)) x.1) (fun x=>tH z U L nm n rm x.2.1 x.2.2 false done b) (fun x=>x.1<=ip.length/\ll z L nm rm a aZ (ip.drop x.1) x.2.1 x.2.2=R/\ ∀k,k∈ip.drop x.1->k∉x.2.2.map Prod.fst) (fun x=>ip.length - x.1) (0,l,g) ⟨ap7 _,fq,fun k ab=>(Tj k ab).2⟩ ?_ ?_
 .exact ae.sub aA aA
 rintro⟨i,gN,g2⟩ ⟨aH,aF,ab⟩;have aH:i<=ip.length:=aH;have aF:ll z L nm rm a aZ (ip.drop i) gN g2=R:=aF;have ab: ∀k,k∈ip.drop i->k∉g2.map Prod.fst:=ab;refine⟨fun H=>?_,fun H=>?_⟩
 .have H:decide ((i:Int) < (((ip.map fun k:Nat=>(k:Int)).length:Nat):Int))=true:=H;have dX:i < ip.length:=by have:=gd H;rw[aq3] at this;omega
  have Co:ip.drop i=ip[i]::ip.drop (i+1):=List.drop_eq_getElem_cons dX
  have mx:fD (α:=aa ak) (ip.map fun k:Nat=>(k:Int)) i=some ((ip[i]:Nat):Int):=by
   show(ip.map fun k:Nat=>(k:Int))[i]? =_;rw[ar0,oj dX];rfl
  have d0:=rE.sublist (List.drop_sublist i ip);rw[Co] at aF ab d0;have zy:=(aq7.1 d0).1;have O:=(Tj _ (ar3 dX)).1;generalize ip[i]=k at*;have xx:=Td h nm n rm gN g2 done k (ab k (aq0 ..)) b;have bu:=ahm (z:=z) (L:=L) (nm:=nm) (rm:=rm) (l:=gN) (g:=g2) (k:=k);have aF:(if((k*2 ^z+2 ^z:Nat):Int)<=a\/a<=((k*2 ^z:Nat):Int) - aZ then ll z L nm rm a aZ (ip.drop (i+1)) gN g2 else if(ei z L nm rm gN g2 k).e=0 then ll z L nm rm a aZ (ip.drop (i+1)) (ei z L nm rm gN g2 k).l (ei z L nm rm gN g2 k).g else⟨(ei z L nm rm gN g2 k).e,(ei z L nm rm gN g2 k).l,(ei z L nm rm gN g2 k).g,(ei z L nm rm gN g2 k).over⟩)=R:=aF;generalize ei z L nm rm gN g2 k=r at*;have mk:k*2 ^z<=256*8:=Nat.mul_le_mul O af.2
  have o4:(k:Int)*((2 ^((z:Nat):Int).toNat:Nat):Int)=((k*2 ^z:Nat):Int):=by
   show(k:Int)*((2 ^z:Nat):Int)=_;rw[Int.natCast_mul]
  have rz:(1:Int)*((2 ^((z:Nat):Int).toNat:Nat):Int)=((2 ^z:Nat):Int):=by rw[Int.one_mul];rfl
  have cx:(0:Int)<=(k:Int)/\(0:Int)<=((z:Nat):Int)/\((z:Nat):Int)<=64:=av3
  have cA:c0 ((k:Int)*((2 ^((z:Nat):Int).toNat:Nat):Int)):=by rw[o4];omega
  have cI:(0:Int)<=(1:Int)/\(0:Int)<=((z:Nat):Int)/\((z:Nat):Int)<=64:=av3
  have dF:c0 ((1:Int)*((2 ^((z:Nat):Int).toNat:Nat):Int)):=by rw[rz];omega
  have ld:c0 ((k:Int)*((2 ^((z:Nat):Int).toNat:Nat):Int)+(1:Int)*((2 ^((z:Nat):Int).toNat:Nat):Int)):=by rw[o4,rz];omega
  have sr:c0 ((k:Int)*((2 ^((z:Nat):Int).toNat:Nat):Int) - aZ):=by rw[o4];omega
  refine⟨au5,_,mx,cx,cA,cI,dF,ld,fun cC=>?_,fun cC=>?_⟩
  .have cC:=gd (show decide ((k:Int)*((2 ^((z:Nat):Int).toNat:Nat):Int)+(1:Int)*((2 ^((z:Nat):Int).toNat:Nat):Int)<=a)=true from cC);rw[o4,rz] at cC;rw[if_pos (.inl au5)] at aF;exact⟨au5,(i+1,gN,g2),⟨dX,aF,fun q aT=>ab q (ap2 _ aT)⟩,by show ip.length - (i+1) < ip.length - i;omega,ae.sub aA aA⟩
  have cC:=mu (show decide ((k:Int)*((2 ^((z:Nat):Int).toNat:Nat):Int)+(1:Int)*((2 ^((z:Nat):Int).toNat:Nat):Int)<=a)=false from cC);rw[o4,rz] at cC;refine⟨sr,fun cG=>?_,fun cG=>?_⟩
  .have cG:=gd (show decide (a<=(k:Int)*((2 ^((z:Nat):Int).toNat:Nat):Int) - aZ)=true from cG);rw[o4] at cG;rw[if_pos (.inr cG)] at aF;exact⟨au5,(i+1,gN,g2),⟨dX,aF,fun q aT=>ab q (ap2 _ aT)⟩,by show ip.length - (i+1) < ip.length - i;omega,ae.sub aA aA⟩
  have cG:=mu (show decide (a<=(k:Int)*((2 ^((z:Nat):Int).toNat:Nat):Int) - aZ)=false from cG);rw[o4] at cG;rw[if_neg (by rintro(e |e) <;>omega)] at aF;refine bz [] (cH [(0,ap 2001),(1,ac a),(2,ac aZ),(7,x' 134 b),(27,bS ak (ip.map fun k:Nat=>(k:Int))),(28,ac ((ip.map fun k:Nat=>(k:Int)).length:Nat)),(29,ac (i:Nat)),(9,ac (k:Nat))] (tH z U L nm n rm gN g2 false done b)) ⟨_,_,fun N=>ag5 rfl rfl rfl rfl xx av8 rfl N,rfl,?_⟩;refine⟨fun V=>?_,fun V=>?_⟩
  .have V:(!decide (r.e=0))=true:=V;have V: ¬r.e=0:=by simpa using V
   rw[if_neg V] at aF;subst aF;exact bg
  .have V:(!decide (r.e=0))=false:=V;have V:r.e=0:=by simpa using V
   obtain⟨fi,g3⟩:=bu V;rw[if_pos V] at aF
   exact⟨au5,(i+1,r.l,r.g),⟨dX,aF,fun q aT az=>by
    rw[g3,as3,aq8] at az;rcases az with az |az
    .exact ab q (ap2 _ aT) az
    .have az:q=k:=by simpa using az
     exact zy (az▸aT)⟩,by show ip.length - (i+1) < ip.length - i;omega,ae.sub aA ⟨rfl,rfl,rfl,rfl,congrArg (fun aC=>some (bb.cells (C6 nm z n rm aC done))) fi,rfl,rfl,rfl,trivial⟩⟩
 .have H:decide ((i:Int) < (((ip.map fun k:Nat=>(k:Int)).length:Nat):Int))=false:=H;have dX:i=ip.length:=by have:=mu H;rw[aq3] at this;omega
  subst dX;rw[List.drop_length] at aF;subst aF;exact bg
section
variable {z U:Nat} {L:List aN} {nm:ay4} {rm:Int} {l:ay5} {g:List (Nat×ay4)}
theorem ahp {d:aN} (J:dk L nm=some d) {k:Nat} (ab:k < d.im.t.length):hJ z L nm (k:Int)=pG z L nm (fk L nm) k:=by
 unfold hJ;rw[J];simp only;rw[if_pos ⟨au5,au5⟩];rfl
structure fm (z U:Nat) (L:List aN) (nm:ay4) (l:ay5) (g:List (Nat×ay4)):Prop where
 cs:cE z U L
 h7:(dk L nm).isSome=true
 lt: ∀k,k∈l->k < cO L nm
 fN:l.Nodup
 gt: ∀p,p∈g->p.1 < cO L nm/\p.2.length=16*2 ^z
 C9:(g.map Prod.fst).Nodup
 dj: ∀k,k∈l->k∉g.map Prod.fst
theorem fm.aQ (h:fm z U L nm l g):cO L nm<=256:=by
 obtain⟨d,J⟩:=as7.1 h.h7;have:=(h.cs.g4 d (cV J).1).1.eV;unfold cO;rw[J];exact this
theorem fm.lf (h:fm z U L nm l g):l.length<=256:=as9 (CU _ l h.fN h.lt) h.aQ
theorem fm.LR (h:fm z U L nm l g):g.length<=256:=by
 have:=CU (cO L nm) (g.map Prod.fst) h.C9 fun x hx=>by
  obtain⟨p,af,rfl⟩:=ar2.1 hx;exact(h.gt p af).1
 rw[aq3] at this;exact as9 this h.aQ
theorem fm.nil (h:fm z U L nm l g):fm z U L nm [] g:=⟨h.cs,h.h7,fun k ab=>(by cases ab),at0,h.gt,h.C9,fun k ab=>(by cases ab)⟩
theorem fm.pM {L':List aN} {t:ay4} (h:fm z U L nm l g) (al:kR L t L'):fm z U L' nm l g:=
 ⟨al.cs h.cs,by rw[(al.aQ nm).2];exact h.h7,fun k ab=>by rw[(al.aQ nm).1];exact h.lt k ab,h.fN,fun p af=>by rw[(al.aQ nm).1];exact h.gt p af,h.C9,h.dj⟩
theorem fm.LS (h:fm z U L nm l g) (rm:Int) {k:Nat} (ab:k∈l):fm z U L nm (ei z L nm rm l g k).l (ei z L nm rm l g k).g:=by
 unfold ei
 split
 .exact h.nil
 .obtain⟨d,J⟩:=as7.1 h.h7;have ax:cO L nm=d.im.t.length:=ax8
  have hi:=h.lt k ab;refine⟨h.cs,h.h7,fun q aT=>h.lt q (List.mem_of_mem_erase aT),h.fN.erase _,fun p af=>?_,?_,fun q aT az=>?_⟩
  .have af:p∈g++[(k,hJ z L nm (k:Int))]:=af;rcases aq8.1 af with af |af
   .exact h.gt p af
   .obtain rfl:=aq2.1 af;refine⟨hi,?_⟩;show(hJ z L nm (k:Int)).length=_;rw[ahp J au5,CE h.cs.tonf J (h.cs.cn nm).1 k]
  .show((g++[(k,hJ z L nm (k:Int))]).map Prod.fst).Nodup;rw[as3];refine List.nodup_append.2 ⟨h.C9,List.pairwise_singleton _ _,fun a ha b O=>?_⟩;have O:b=k:=by simpa using O
   rintro rfl;exact h.dj k ab (O▸ha)
  .have aT:q∈l.erase k:=aT;have az:q∈(g++[(k,hJ z L nm (k:Int))]).map Prod.fst:=az;rw[as3,aq8] at az;rcases az with az |az
   .exact h.dj q (List.mem_of_mem_erase aT) az
   .have az:q=k:=by simpa using az
    exact((h.fN.mem_erase_iff).1 aT).1 az
theorem fm.step (h:fm z U L nm l g) (rm:Int) (over done:Bool):fm z U L nm (i1 z L nm rm l g over done).l (i1 z L nm rm l g over done).g:=by
 unfold i1
 split
 .exact h
 .split
  .exact h.nil
  .rename_i a2;exact h.LS rm (Gp a2).2.1
theorem fm.LT (rm a aZ:Int): ∀(ks l:ay5) (g:List (Nat×ay4)),fm z U L nm l g->(∀k,k∈ks->k∈l)->ks.Nodup->fm z U L nm (ll z L nm rm a aZ ks l g).l (ll z L nm rm a aZ ks l g).g
 | [],l,g,h,_,_=>h
 |k::ks,l,g,h,GA,hn=>by
  unfold ll;have hn:=aq7.1 hn
  split
  .exact fm.LT rm a aZ ks l g h (fun q aT=>GA q (ap2 _ aT)) hn.2
  .have ab:=h.LS rm (GA k (aq0 ..))
   split
   .rename_i V;refine fm.LT rm a aZ ks _ _ ab (fun q aT=>?_) hn.2;have JY:=GA q (ap2 _ aT);unfold ei at V⊢
    split
    .rename_i c;rw[if_pos c] at V;exact absurd V (show¬(171:Int)=0 by decide)
    .exact(h.fN.mem_erase_iff).2 ⟨fun e=>hn.1 (e▸aT),JY⟩
   .exact ab
theorem fm.get (h:fm z U L nm l g): ∃d,dk L nm=some d:=as7.1 h.h7
theorem fm.LF (h:fm z U L nm l g) (n rm:Int) (over done:Bool):Fn Tryz.prog 292 [ap 2001] (io z U L nm n rm l g over done) [] (.cf [.one (.d (.bool (i1 z L nm rm l g over done).rv)),dw (i1 z L nm rm l g over done).e])
  (io z U L nm n rm (i1 z L nm rm l g over done).l (i1 z L nm rm l g over done).g (i1 z L nm rm l g over done).over (i1 z L nm rm l g over done).done):=
 ahb h.cs nm n rm l g over done (fun k ab=>by have:=h.lt k ab;have:=h.aQ;omega) (by have:=h.lf;omega) h.fN h.dj
def jz (z:Nat) (L:List aN) (nm:ay4) (rm a aZ:Int) (l:ay5) (g:List (Nat×ay4)) (over:Bool):Ti:=if over=true then⟨0,l,g,true⟩ else if aZ < 1 then⟨0,l,g,false⟩ else ll z L nm rm a aZ (o5 l) l g
theorem fm.ahq (h:fm z U L nm l g) (rm a aZ:Int) (over:Bool):fm z U L nm (jz z L nm rm a aZ l g over).l (jz z L nm rm a aZ l g over).g:=by
 unfold jz
 split
 .exact h
 .split
  .exact h
  .exact fm.LT rm a aZ _ l g h (fun k ab=>(Am l).mem_iff.1 ab) ((Am l).nodup_iff.2 h.fN)
theorem ahr (z U:Int) (L:List aN) (nm:ay4) (n rm:Int) (l:ay5) (g:List (Nat×ay4)) (done:Bool) (a aZ:Int) (E:aZ < 1):Fn Tryz.prog 82 [ap 2001,ac a,ac aZ] (io z U L nm n rm l g false done) [] (ac 0) (io z U L nm n rm l g false done):=by
 refine aU [] Tryz.func82 ?_;exact df ⟨fun _=>bg,fun h=>absurd (mu h) au5⟩
theorem fm.ahs (h:fm z U L nm l g) (n rm:Int) (over done:Bool) (a aZ:Int) (G:aZ<=9223372036854775807):Fn Tryz.prog 82 [ap 2001,ac a,ac aZ] (io z U L nm n rm l g over done) [] (ac (jz z L nm rm a aZ l g over).e)
  (io z U L nm n rm (jz z L nm rm a aZ l g over).l (jz z L nm rm a aZ l g over).g (jz z L nm rm a aZ l g over).over done):=by
 cases over with
 |true=>exact ahk z U L nm n rm l g done a aZ
 |false=>
  by_cases E:aZ < 1
  .have e:jz z L nm rm a aZ l g false=⟨0,l,g,false⟩:=(if_neg au6).trans (if_pos E);rw[e];exact ahr z U L nm n rm l g done a aZ E
  .have e:jz z L nm rm a aZ l g false=ll z L nm rm a aZ (o5 l) l g:=(if_neg au6).trans (if_neg E);rw[e];exact aho h.cs nm n rm l g done a aZ au5 G (fun k ab=>by have:=h.lt k ab;have:=h.aQ;omega) h.lf h.fN h.dj
theorem fm.aht (h:fm z U L nm l g) (n rm:Int) (over:Bool):Fn Tryz.prog 101 [ap 2001] (io z U L nm n rm l g over true) [] (.cf [.one (.d (.ck tI (n4 g))),.one (.d (.int .i64 n)),.one (.d (.bool true))]) (io z U L nm n rm l g over true):=
 ahc z U L nm n rm l g over h.C9 (fun p af=>by
  have E:=h.gt p af;have G:=h.aQ;have aj:=kp h.cs.b3;exact⟨au5,by rw[E.2];omega⟩) (by have:=h.LR;omega)
end
theorem ahu (l:List Int):(mS l).Pairwise fun a b=>x9 a b=true:=
 List.pairwise_mergeSort (le:=x9) (fun a b c E G=>aq1 (Int.le_trans (gd E) (gd G))) (fun a b=>by
  rcases Int.le_total a b with h |h
  .rw[show x9 a b=true from aq1 h];rfl
  .rw[show x9 b a=true from aq1 h];exact Bool.or_true _) l
theorem Tk {l m:List Int} (af:m.Perm l) (ax:m.Pairwise fun a b=>x9 a b=true):mS l=m:=
 List.Perm.eq_of_pairwise (fun a b _ _ E G=>Int.le_antisymm (gd E) (gd G)) (ahu l) ax ((C4 l).trans af.symm)
theorem ahv:o5 [0,1]=[0,1]:=by
 show(mS [(0:Int),1]).map Int.toNat=_;rw[Tk (m:=[0,1]) (List.Perm.refl _) au6];rfl
end
section
section
variable {z U:Nat} {L:List aN} {top base:ay4}
theorem ahw {j:Nat} (h:cE z U L) {d:aN} (J:dk L top=some d) (Z:j<=fk L top) (fv: ∀i,i < j->eK L (i+1) top≠base) (lM:j=fk L top\/eK L (j+1) top=base):(eD L (fk L top) top).take j=ni L top base:=by
 have b9:=(h.cn top).1;have al:=ru b9;unfold ni;refine(SO _ _ j au5 (fun i x aH hx=>?_) ?_).symm
 .rw[Gn b9 au5] at hx;injection hx with hx
  subst hx;have:=fv i aH;simp[this]
 .rcases lM with lM |lM
  .exact .inl au5
  .by_cases c:j=fk L top
   .exact .inl au5
   .exact .inr ⟨_,Gn b9 au5,by rw[lM];simp⟩
theorem ahx {j:Nat} (h:cE z U L) {d:aN} (J:dk L top=some d) (Z:j<=fk L top) (lM:eK L (j+1) top=base):n0 L top base=true:=by
 have b9:=(h.cn top).1;unfold n0;rw[J,Option.isSome_some,Bool.true_and,Bool.or_eq_true]
 by_cases c:j=fk L top
 .rw[c,Ln h b9 ⟨d,J⟩] at lM;exact .inl (aq1 lM.symm)
 .refine .inr (aq1 ?_);have:=Gn b9 (i:=j) au5;rw[lM] at this;exact List.mem_of_getElem? this
theorem ahy (h:cE z U L) {d:aN} (J:dk L top=some d) (fv: ∀i,i<=fk L top->eK L (i+1) top≠base):n0 L top base=false:=by
 have b9:=(h.cn top).1;unfold n0;rw[J,Option.isSome_some,Bool.true_and,Bool.or_eq_false_iff];constructor
 .refine ar8 fun e=>fv _ (ap0 _) ?_
  rw[Ln h b9 ⟨d,J⟩,e]
 .refine ar8 fun e=>?_
  obtain⟨i,aH,hx⟩:=List.getElem_of_mem e;have al:=ru b9;have:=Gn b9 (i:=i) au5;rw[oj aH,hx] at this;injection this with this
  exact fv i au5 this.symm
abbrev Tl (base:ay4) (a:ay4) (c:Nat):aY:=[(0,ap 1001),(2,bU base),(8,eO c),(9,bU a),(10,ac 0)]
abbrev Tm (z U:Int) (L:List aN) (c:Nat) (x:List ay4):aw:=bP z U L++[(c,.row 9 .str x)]
theorem LU (h:cE z U L) {d:aN} (J:dk L top=some d) (base:ay4):Fn Tryz.prog 97 [ap 1001,bU top,bU base] (bP z U L) [] (.cf [.one (.d (.ck .str (ni L top base))),.one (.d (.bool (n0 L top base)))]) (bP z U L):=by
 have b9:=(h.cn top).1;have iA:=(h.cn top).2;have hd:=ru b9;have iQ:=fun j Z=>Lm h b9 ⟨d,J⟩ j Z
 have lM:=Ln h b9 ⟨d,J⟩
 have tF:fy L top=(eK L 1 top,0):=by
  unfold fy;rw[show eK L 1 top=d.back by rw[zW];show(match dk L top with |none=>top |some d=>d.back)=_;rw[J],J]
 have k4: ∀j,j < fk L top->fy L (eK L (j+1) top)=(eK L (j+1+1) top,0)/\eK L (j+1) top≠[]:=fun j Z=>by
  obtain⟨e,V⟩:=iQ (j+1) Z;refine⟨?_,agf h ⟨e,V⟩⟩;unfold fy;rw[zW L (j+1),V]
 have m5: ∀j,j < fk L top->(eD L (fk L top) top).take (j+1)=(eD L (fk L top) top).take j++[eK L (j+1) top]:=fun j Z=>F4 b9 j Z
 have iT:=fun j Z fv V=>ahw (j:=j) (base:=base) h J Z fv V
 have ahz:=fun j Z V=>ahx (j:=j) (base:=base) h J Z V
 have ahA:=fun fv=>ahy (base:=base) h J fv
 have zD:=Gj h top;rw[tF] at zD;generalize ni L top base=jP at*;generalize n0 L top base=sC at*;generalize eD L (fk L top) top=hz at*;generalize fk L top=s9 at*;refine aU [3,5,7] Tryz.func97 ?_;refine ar zD <| dQ [5,7] (X:=Nat) (fun j=>Tl base (eK L (j+1) top) 5002) (fun j=>Tm z U L 5002 (hz.take j)) (fun j=>j<=s9/\ ∀i,i < j->eK L (i+1) top≠base) (fun j=>s9 - j) 0 ⟨ap7 _,fun i aH=>absurd aH (au3 i)⟩ ?_ ?_
 .exact(ae.nil 8 5002 9 .str rfl rfl).trans (ae.sub aA aA)
 rintro j ⟨Z,fv⟩;refine e5 ⟨fun E=>?_,fun E=>?_⟩
 .have E:(!decide (eK L (j+1) top=base))=true:=E;have E: ¬eK L (j+1) top=base:=ax9
  refine⟨fun G=>?_,fun G=>?_⟩
  .have G:eK L (j+1) top=[]:=gd G
   have C':j=s9:=by
    rcases Nat.lt_or_ge j s9 with bk |bk
    .exact absurd G (k4 j bk).2
    .omega
   have LV:hz.take j=jP:=iT j Z fv (.inl C')
   have vB:sC=false:=ahA fun i aH=>by
    rcases Nat.lt_or_ge i j with bk |bk
    .exact fv i bk
    .rw[show i=j by omega];exact E
   exact bz [] (bp) <| e5 ⟨_,_,_,ae.dW 5002 rfl,rfl,⟨LV,(show decide (eK L (j+1) top=base)=sC by rw[ar8 E,vB]),trivial⟩,aA,rfl⟩
  .have G: ¬eK L (j+1) top=[]:=mu G
   have C':j < s9:=by
    rcases Nat.lt_or_ge j s9 with bk |bk
    .exact bk
    .exact absurd (by rw[show j=s9 by omega];exact lM) G
   have Tn:=Gj h (eK L (j+1) top);rw[(k4 j C').1] at Tn;have m:List.length (α:=ay4) (hz.take j)+1<=4294967296:=aw5
   have e:=m5 j C';refine bz [7] (bp) ⟨m,rfl,ar Tn ⟨j+1,⟨C',fun i aH=>?_⟩,au5,?_⟩⟩
   .rcases Nat.lt_or_ge i j with bk |bk
    .exact fv i bk
    .rw[show i=j by omega];exact E
   refine ae.trans (ae.sub (K':=Tl base (eK L (j+1+1) top) 29) (B':=Tm z U L 29 (hz.take (j+1))) aA ⟨rfl,rfl,rfl,rfl,congrArg (fun aC:List ay4=>some (bb.row 9 .str aC)) e.symm,trivial⟩) ?_;exact(ae.aV 29 5002 rfl).trans (ae.sub aA aA)
 .have E:(!decide (eK L (j+1) top=base))=false:=E;have E:eK L (j+1) top=base:=ax9
  have LV:hz.take j=jP:=iT j Z fv (.inr E);have vB:sC=true:=ahz j Z E;exact bz [] (bp) <| e5 ⟨_,_,_,ae.dW 5002 rfl,rfl,⟨LV,(show decide (eK L (j+1) top=base)=sC by rw[aq1 E,vB]),trivial⟩,aA,rfl⟩
abbrev GB (top base:ay4) (over:Bool):List bC:=[.ptr 1001 0,.d (.str top),.d (.str base),.d (.bool over)]
abbrev pN (z U:Int) (L:List aN) (top base:ay4) (over:Bool):aw:=bP z U L++[(2001,.cells (GB top base over))]
def uY (L:List aN) (top base:ay4):Int:=if(dk L top).isSome=false then 140 else if n0 L top base=false\/ni L top base=[] then 1 else 0
theorem ahB (h:cE z U L) (top base:ay4) (V:uY L top base≠0):Fn Tryz.prog 58 [ap 1001,bU top,bU base] (bP z U L) [] (.cf [mG,dw (uY L top base)]) (bP z U L):=by
 unfold uY at V⊢
 cases J:dk L top with
 |none=>
  rw[if_pos (show(none:Option aN).isSome=false from rfl)];refine aU [] Tryz.func58 ?_;exact ar (aeE _ _ L top J) bg
 |some d=>
  have bG: ¬(some d).isSome=false:=by simp
  rw[J,if_neg bG] at V;rw[if_neg bG];have O:n0 L top base=false\/ni L top base=[]:=Decidable.byContradiction fun x=>V (if_neg x)
  rw[if_pos O];have lu:=LU h J base;generalize n0 L top base=sC at*;generalize ni L top base=jP at*;refine aU [] Tryz.func58 ?_;refine ar (jd _ _ L h.tohW top d J) ⟨fun _ _=>ar lu ⟨fun _=>?_,fun E=>?_⟩,fun h=>by cases h⟩
  .exact bg
  .refine⟨fun _=>?_,fun G=>?_⟩
   .exact bg
   .exfalso;have E:(!sC)=false:=E;have G:decide (((jP.length:Nat):Int)=0)=false:=G;have G:=mu G;rcases O with O |O
    .rw[O] at E;cases E
    .rw[O] at G;exact G rfl
theorem ahC (V:uY L top base=0):(∃d,dk L top=some d)/\n0 L top base=true/\ni L top base≠[]:=by
 unfold uY at V
 split at V
 .exact absurd V au6
 .rename_i E
  split at V
  .exact absurd V au6
  .rename_i G;refine⟨as7.1 (by rw[Bool.not_eq_false] at E;exact E),?_,fun e=>G (.inr e)⟩
   cases e:n0 L top base with
   |true=>rfl
   |false=>exact absurd (.inl e) G
theorem ahD (h:cE z U L) (top base:ay4) (V:uY L top base=0):Fn Tryz.prog 58 [ap 1001,bU top,bU base] (bP z U L) [2001] (.cf [.one (.ptr 2001 0),dw 0]) (pN z U L top base false):=by
 obtain⟨⟨d,J⟩,E,G⟩:=ahC V;have lu:=LU h J base;rw[E] at lu;generalize ni L top base=jP at*;refine aU [] Tryz.func58 ?_;refine ar (jd _ _ L h.tohW top d J) ⟨fun _ _=>ar lu <| df ⟨fun aj=>?_,fun _=>?_⟩,fun h=>by cases h⟩
 .exfalso;have aj:decide (((jP.length:Nat):Int)=0)=true:=aj;have aj:=gd aj;exact G (List.length_eq_zero_iff.1 au5)
 exact⟨rfl,_,_,_,(ae.aV 32 2001 rfl).trans (ae.sA 2001 (l':=GB top base false) rfl aA),rfl,aA,aA,rfl⟩
theorem ahE (z U:Int) (L:List aN) (top base:ay4) (over:Bool):Fn Tryz.prog 296 [ap 2001] (pN z U L top base over) [] (fK over) (pN z U L top base over):=by
 refine aU [] Tryz.func296 ?_;exact bg
theorem ahF (z U:Int) (L:List aN) (top base:ay4) (over:Bool):Fn Tryz.prog 295 [ap 2001] (pN z U L top base over) [] gJ (pN z U L top base true):=by
 refine aU [] Tryz.func295 ?_;exact⟨_,_,_,ae.sA 2001 (l':=GB top base true) rfl aA,rfl,trivial,aA,rfl⟩
theorem To (h:cE z U L) (top base:ay4) (over:Bool) (n:ay4) (k:Nat) {e:aN} (V:dk L n=some e):Fn Tryz.prog 300 [bU n,ac (k:Int),ap 3001] (pN z U L top base over++[(3001,.cells [.ptr 2001 0])]) [] (fK (jf L n k)) (pN z U L top base over++[(3001,.cells [.ptr 2001 0])]):=by
 have nd:=(h.g4 e (cV V).1).1.eV;have fx:=h.tohW.M (cV V).1;have ahG:jf L n k=(decide (e.im.t.length<=k)||decide ((e.im.t.getD k cD).1=0)):=by unfold jf;rw[V]
 rw[ahG];refine aU [] Tryz.func300 ?_;refine ar (jd _ _ L h.tohW n e V) <| ar (hy (mL e.im) fx rfl rfl rfl rfl) ⟨fun E=>?_,fun E=>?_⟩
 .have E:((e.im.t.length:Nat):Int)<=(k:Int):=gd E;exact eq bp rfl (show true=_ by rw[aq1 (by omega:e.im.t.length<=k)];rfl)
 .have E: ¬((e.im.t.length:Nat):Int)<=(k:Int):=mu E;refine ar (hy (zU e.im nd k au5) fx rfl rfl rfl rfl) ?_;exact eq bp rfl (show decide ((e.im.t.getD k cD).1=0)=_ by rw[ar8 (by omega: ¬e.im.t.length<=k)];rfl)
def pO (L:List aN) (top base:ay4) (over:Bool):Int×Bool:=if over=true then(0,false) else match sz L top base with
 |some k=>((k:Int),true)
 |none=>(0,false)
abbrev ahH (l:List ay4) (n k:Nat):aY:=[(1,ap 1),(5,bS .str l),(7,.c (.one (.cU 300 [.p 1 0]))),(50,ac (n:Int)),(51,ac (k:Int))]
abbrev ahI (l:List ay4) (n k i:Nat):aY:=[(1,ap 1),(5,bS .str l),(7,.c (.one (.cU 300 [.p 1 0]))),(50,ac (n:Int)),(51,ac (k:Int)),(8,ac (k:Int)),(54,bS .str l),(55,ac (l.length:Nat)),(56,ac (i:Int))]
abbrev GC (z U:Int) (L:List aN) (top base:ay4) (over:Bool):aw:=pN z U L top base over++[(1,.cells [.ptr 2001 0])]
theorem ahJ {α:Type} (p:α->Bool) {l:List α} {i:Nat} (h:i < l.length) (av:(l.take i).any p=false) (E:p l[i]=false):(l.take (i+1)).any p=false:=by
 rw[List.take_add_one,oj h,List.any_append,av];show(false||(p l[i]||false))=false;rw[E];rfl
theorem ahK (h:cE z U L) (base:ay4) (over:Bool) {d:aN} (J:dk L top=some d):Fn Tryz.prog 298 [ap 2001] (pN z U L top base over) [] (.cf [.one (.d (.int .i64 (pO L top base over).1)),.one (.d (.bool (pO L top base over).2))]) (pN z U L top base over):=by
 have lu:=LU h J base;have nd:=(h.g4 d (cV J).1).1.eV;have fx:=h.tohW.M (cV J).1;have cM:cO L top=d.im.t.length:=ax8
 have Si:(ni L top base).length<=16:=by
  have E:(ni L top base).length<=(eD L (fk L top) top).length:=(List.takeWhile_sublist _).length_le;rw[ru (h.cn top).1] at E;have:=(h.cn top).2;omega
 have iQ: ∀n,n∈ni L top base-> ∃e,dk L n=some e:=fun n hn=>(agk h J n hn).2
 have bm: ∀k,sy L top base k=(jf L top k&&(ni L top base).any fun n=> !jf L n k):=fun k=>rfl
 have ahL:over=true->pO L top base over=(0,false):=fun e=>if_pos e
 have ahM:over=false->n0 L top base=false->pO L top base over=(0,false):=fun ai ao=>by
  unfold pO sz;rw[ai,ao];rfl
 have ahN:over=false->n0 L top base=true-> ∀k,k < cO L top->sy L top base k=true->(∀j,j < k->sy L top base j=false)->pO L top base over=((k:Int),true):=fun ai ao k ab af hn=>by
  unfold pO sz;rw[ai,if_neg au6,if_pos ao,List.find?_range_eq_some.2 ⟨af,List.mem_range.2 ab,fun j Z=>by simp[hn j Z]⟩]
 have ahO:over=false->(∀k,k < cO L top->sy L top base k=false)->pO L top base over=(0,false):=fun ai hn=>by
  unfold pO;rw[ai,if_neg au6,agw hn]
 have Gr:=fun k=>To h top base over top k J
 have ahP:=fun n (hn:n∈ni L top base) k=>To h top base over n k (iQ n hn).choose_spec
 generalize pO L top base over=Tp at*;generalize n0 L top base=sC at*;generalize ni L top base=jP at*;generalize cO L top=n at*;subst cM;refine aU [5] Tryz.func298 ?_;refine⟨rfl,ar (jd _ _ L h.tohW top d J) ⟨rfl,ar lu ⟨rfl,fun ah=>?_,fun ah=>?_⟩⟩⟩
 .have e:=ahL ah;exact eq bp rfl ⟨congrArg Prod.fst e.symm,congrArg Prod.snd e.symm,trivial⟩
 have ah:over=false:=ah;refine⟨fun _ _=>⟨fun aH=>?_,fun aH=>?_⟩,fun h=>by cases h⟩
 .have aH:sC=false:=by
   have aH:(!sC)=true:=aH;simpa using aH
  have e:=ahM ah aH;exact eq bp rfl ⟨congrArg Prod.fst e.symm,congrArg Prod.snd e.symm,trivial⟩
 have aH:sC=true:=by
  have aH:(!sC)=false:=aH;simpa using aH
 refine bz [] (cH [(1,ap 1),(4,dn d.am),(5,bS .str jP)] (GC z U L top base over)) <| ar (hy (mL d.im) fx rfl rfl rfl rfl) <| dQ [16] (X:=Nat) (ahH jP d.im.t.length) (fun _=>GC z U L top base over) (fun k=>k<=d.im.t.length/\ ∀j,j < k->sy L top base j=false) (fun k=>d.im.t.length - k) 0 ⟨ap7 _,fun j Z=>absurd Z (au3 j)⟩ ?_ ?_
 .exact ae.sub aA aA
 rintro k ⟨ab,fv⟩;have ab:k<=d.im.t.length:=ab;refine⟨fun H=>?_,fun H=>?_⟩
 .have H:decide ((k:Int) < ((d.im.t.length:Nat):Int))=true:=H;have cm:k < d.im.t.length:=aw7
  refine dQ [12,16] (X:=Nat) (ahI jP d.im.t.length k) (fun _=>GC z U L top base over) (fun i=>i<=jP.length/\(jf L top k&&(jP.take i).any fun n=> !jf L n k)=false) (fun i=>jP.length - i) 0 ⟨ap7 _,Bool.and_false _⟩ ?_ ?_
  .exact ae.sub aA aA
  rintro i ⟨dX,pP⟩;have dX:i<=jP.length:=dX;refine⟨fun H=>?_,fun H=>?_⟩
  .have H:decide ((i:Int) < ((jP.length:Nat):Int))=true:=H;have wu:i < jP.length:=aw7
   have bk:=ahP _ (ar3 wu) k;have iT:=fun(a:(jP.take i).any (fun n=> !jf L n k)=false) (b:(!jf L jP[i] k)=false)=>ahJ (fun n=> !jf L n k) wu a b
   have k5:=ar3 wu;have mx:=jv (n:=i) wu;generalize jP[i]=nm at*;refine⟨au5,nm,mx,bz [16] (cH [(1,ap 1),(5,bS .str jP),(7,.c (.one (.cU 300 [.p 1 0]))),(50,ac (d.im.t.length:Nat)),(51,ac (k:Int)),(8,ac (k:Int)),(54,bS .str jP),(55,ac (jP.length:Nat)),(56,ac (i:Int)),(10,bU nm)] (GC z U L top base over)) <| ar (Fn.aV [(3001,1)] (Gr k)) ⟨fun g1=>?_,fun g1=>?_⟩⟩
   .have g1:jf L top k=true:=g1;refine ar (Fn.aV [(3001,1)] bk) ⟨fun g2=>?_,fun g2=>?_⟩
    .have g2:(!jf L nm k)=true:=g2
     have LW:sy L top base k=true:=by
      rw[bm,g1,Bool.true_and,List.any_eq_true];exact⟨nm,k5,g2⟩
     have e:=ahN ah aH k cm LW fv;exact eq bp rfl ⟨congrArg Prod.fst e.symm,congrArg Prod.snd e.symm,trivial⟩
    .have g2:(!jf L nm k)=false:=g2;rw[g1,Bool.true_and] at pP;exact⟨au5,i+1,⟨wu,by rw[g1,Bool.true_and];exact iT pP g2⟩,au5,ae.sub aA aA⟩
   .have g1:jf L top k=false:=g1;exact⟨au5,i+1,⟨wu,by rw[g1];rfl⟩,au5,ae.sub aA aA⟩
  .have H:decide ((i:Int) < ((jP.length:Nat):Int))=false:=H;have wu:i=jP.length:=aw3
   have LW:sy L top base k=false:=by
    rw[bm,<-pP,wu,aq9]
   exact⟨au5,k+1,⟨cm,fun j Z=>by
    rcases Nat.lt_or_ge j k with bk |bk
    .exact fv j bk
    .rw[show j=k by omega];exact LW⟩,au5,ae.sub aA aA⟩
 .have H:decide ((k:Int) < ((d.im.t.length:Nat):Int))=false:=H;have fe:k=d.im.t.length:=aw3
  have e:=ahO ah fun j Z=>fv j au5
  exact eq bp rfl ⟨congrArg Prod.fst e.symm,congrArg Prod.snd e.symm,trivial⟩
theorem ahQ (h:cE z U L) (base:ay4) (over:Bool) {d:aN} (J:dk L top=some d):Fn Tryz.prog 297 [ap 2001] (pN z U L top base over) [] (.cf [.one (.d (.bool (iH z L top base over).done)),dw (iH z L top base over).e]) (pN z U (iH z L top base over).L top base (iH z L top base over).over):=by
 have sD:=ahK h base over J;have nd:=(h.g4 d (cV J).1).1.eV;have fx:=h.tohW.M (cV J).1;have lu:d.im.z=z:=(h.g4 d (cV J).1).2.1;have uV:=h.b3;have af:=kp h.b3
 cases over with
 |true=>
  have e:iH z L top base true=⟨false,160,L,true⟩:=rfl;rw[e];refine aU [] Tryz.func297 ?_;exact ar (jd _ _ L h.tohW top d J) ⟨rfl,e5 bg⟩
 |false=>
  have bG:iH z L top base false=match sz L top base with
   |some k=>⟨false,(hI z L top ((k*2 ^z:Nat):Int) (hJ z L top (k:Int))).e,(hI z L top ((k*2 ^z:Nat):Int) (hJ z L top (k:Int))).L,false⟩
   |none=>⟨decide ((kv L top base).e=0),(kv L top base).e,(kv L top base).L,decide ((kv L top base).e=0)⟩:=by
   unfold iH;rw[J];rfl
  cases hn:sz L top base with
  |some k=>
   rw[hn] at bG;have bG:iH z L top base false=⟨false,(hI z L top ((k*2 ^z:Nat):Int) (hJ z L top (k:Int))).e,(hI z L top ((k*2 ^z:Nat):Int) (hJ z L top (k:Int))).L,false⟩:=bG;rw[bG]
   have H:pO L top base false=((k:Int),true):=by
    unfold pO;rw[hn];rfl
   rw[H] at sD
   have ab:k < d.im.t.length:=by
    have:=(agv hn).2.1;unfold cO at this;rw[J] at this;exact this
   have Tq:(k:Int)*((2 ^((d.im.z:Nat):Int).toNat:Nat):Int)=((k*2 ^z:Nat):Int):=by
    rw[lu];show(k:Int)*((2 ^z:Nat):Int)=_;rw[Int.natCast_mul]
   have dJ:=Ll h top (k:Int)
   have b6:(hJ z L top (k:Int)).length<=1000000000:=by
    have:hJ z L top (k:Int)=pG z L top (fk L top) k:=by
     unfold hJ;rw[J];simp only;rw[if_pos ⟨au5,au5⟩];rfl
    rw[this,CE h.tonf J (h.cn top).1 k];omega
   have Gt:=Lk h top ((k*2 ^z:Nat):Int) (hJ z L top (k:Int)) b6;rw[<-Tq] at Gt⊢;generalize hJ z L top (k:Int)=x at*;generalize hI z L top ((k:Int)*((2 ^((d.im.z:Nat):Int).toNat:Nat):Int)) x=apd at*;have m1:(0:Int)<=(k:Int)/\(0:Int)<=((d.im.z:Nat):Int)/\((d.im.z:Nat):Int)<=64:=av3
   have mk:k*2 ^z<=256*8:=Nat.mul_le_mul au5 af.2;have m2:c0 ((k:Int)*((2 ^((d.im.z:Nat):Int).toNat:Nat):Int)):=by rw[Tq];omega
   refine aU [6] Tryz.func297 ?_;exact ar (jd _ _ L h.tohW top d J) ⟨rfl,df ⟨fun _ _=>ar sD ⟨fun _=>bz [] (cH [(0,ap 2001),(4,dn d.am),(5,ac (k:Int))] (pN z U L top base false)) <| ar (hy (uT d.im) fx rfl rfl rfl rfl) ⟨m1,m2,ar dJ <| ar Gt ⟨rfl,bg⟩⟩,fun h=>absurd (show true=false from h) au6⟩,fun h=>by cases h⟩⟩
  |none=>
   rw[hn] at bG;have bG:iH z L top base false=⟨decide ((kv L top base).e=0),(kv L top base).e,(kv L top base).L,decide ((kv L top base).e=0)⟩:=bG;rw[bG]
   have H:pO L top base false=(0,false):=by
    unfold pO;rw[hn];rfl
   rw[H] at sD;have yb:=age h top base;generalize kv L top base=ape at*;refine aU [7] Tryz.func297 ?_;exact ar (jd _ _ L h.tohW top d J) ⟨rfl,df ⟨fun _ _=>ar sD <| df <| bz [] (cH [(0,ap 2001)] (pN z U L top base false)) <| ar yb ⟨rfl,bg⟩,fun h=>by cases h⟩⟩
end
end
section
section
variable {P:Program} {ids:ay5} {K:aY} {B:aw}
theorem ahR {o:Oper} {T:TypeId} {x v:Operand} {c i off:Nat} {e:TypeId} {u:bx} {xs:List (aa u)} {y y':aa u} {GD:D} {c7:TypeInfo} (ah:o.op= .store T x v) (aH:P.info? T=some c7) (aR:c7.size=1) (hx:a6 K x= .c (.one (.f2 c (aQ u) i off)))
  (ay:a6 K v= .c (.one (.d GD))) (da:ag B c=some (.row e u xs)) (aB:fD xs i=some y) (Ca:off < aQ u) (nb:oy u y') (H: ∀j,j < aQ u->fC u y' j=if j=off then GD else fC u y j)
  (E: ∀{I:Nat->Prop} {w:World} {aC:Value},gF I w GD aC->aC.cells=List.toArray [aC]/\aC.oneCell'=true) (N:Nat):
  bB P N ids o K B .undef ⟨[c],[],[(c,some (.row e u (xs.set i y')))]⟩:=by
 have m1:x∈o.op.operands:=av2
 have m2:v∈o.op.operands:=av2
 have wv:i < xs.length:=A6 aB;refine bB.hP da fun K' B' g1 C ρ F a w aq au f3=>?_
 obtain⟨bh,jH,cs,du,jI⟩:=aq.holds c _ f3;have IV:=au.f2 ((g1 x m1).trans hx);have ao:gF (bZ C B' F w) w GD (a.eval v):=au.ev ((g1 v m2).trans ay);obtain⟨hB,iB⟩:=E ao;obtain⟨ox,du⟩:=du;rcases du with⟨_,av⟩ |⟨g,cap,c9,oG,_,a1,xd,az,cM,cq⟩
 .omega
 .have y9:g=(ρ c).bj:=jH g (by rw[oG];rfl);subst y9
  have Tr:i*aQ u+off < xs.length*aQ u:=by
   have:=Nat.mul_le_mul_right (aQ u) wv;rw[Nat.succ_mul] at this;omega
  have apf:xs.length*aQ u<=cap*aQ u:=Nat.mul_le_mul_right _ xd;have ui:w.heap[(ρ c).bj]? =some (.cells (List.toArray c9.toList) e (0,0)):=by simpa using a1
  have k2:i*aQ u+off+ [a.eval v].length<=c9.toList.length:=av9
  have uj:=Bi (P:=P) (ev:=a.eval) (w:=w) ah IV hB aH aR ui k2 (by simpa using iB);refine⟨_,uj,EE ((bh _).2 (by rw[oG];rfl)),fun I V=>?_⟩;have oH:=setRow_heap w (ρ c).bj c9 (List.take (i*aQ u+off) c9.toList++[a.eval v]++List.drop (i*aQ u+off+ [a.eval v].length) c9.toList).toArray e (0,0) a1
  have gO:(List.take (i*aQ u+off) c9.toList++[a.eval v]++List.drop (i*aQ u+off+ [a.eval v].length) c9.toList)=c9.toList.set (i*aQ u+off) (a.eval v):=by
   rw[List.set_eq_take_append_cons_drop,if_pos av9];simp
  rw[gO] at oH;refine⟨bh,jH,cs.set (i*aQ u+off) (a.eval v),⟨by simp[ox],.inr ⟨(ρ c).bj,cap,_,by rw[oG];simp,ap7 _,by rw[gO];exact oH,by simpa using xd,az,by simp[cM],?_⟩⟩,fun j aC aR=>?_⟩
  .rw[<-cq];simp[List.take_set]
  .by_cases kP:i=j
   .subst kP;rw[List.getElem?_set_self wv] at aR;injection aR with aR
    subst aR;have J:=jI i y aB;refine co.mk u y' _ nb fun q aT=>?_
    rw[H q aT]
    by_cases BU:q=off
    .rw[if_pos BU];subst BU;exact⟨a.eval v,by rw[List.getElem?_set_self au5],gF.mono V _ _ ao⟩
    .rw[if_neg BU];obtain⟨x,hx,pp⟩:=co.cell u y _ q J aT;exact⟨x,by rw[List.getElem?_set_ne au5];exact hx,gF.mono V _ _ pp⟩
   .rw[List.getElem?_set_ne kP] at aR;have J:=jI j aC aR;refine co.mk u aC _ (co.wf u aC _ J) fun q aT=>?_
    obtain⟨x,hx,pp⟩:=co.cell u aC _ q J aT;refine⟨x,?_,gF.mono V _ _ pp⟩;rw[List.getElem?_set_ne ?_]
    .exact hx
    .intro e;have E:(i*aQ u+off)/aQ u=i:=by rw[Nat.mul_comm,Nat.mul_add_div au5,Nat.div_eq_of_lt Ca,Nat.add_zero]
     have G:(j*aQ u+q)/aQ u=j:=by rw[Nat.mul_comm,Nat.mul_add_div au5,Nat.div_eq_of_lt aT,Nat.add_zero]
     rw[e,G] at E;exact kP E.symm
end
theorem ahS {I:Nat->Prop} {w:World} {n:Int} {aC:Value} (h:gF I w (.int .i64 n) aC):aC.cells=List.toArray [aC]/\aC.oneCell'=true:=by
 have h:aC= .int .i64 n:=h;subst h;exact⟨rfl,rfl⟩
theorem ahT:(Tryz.prog.info? 3).map (·.size)=some 1:=by kernel_rfl
abbrev hK:bx:=.bQ ak (.bQ ak ak)
abbrev dM:=Int×Int×Int
abbrev ahU (x:dM):List bC:=[.d (.int .i64 x.1),.d (.int .i64 x.2.1),.d (.int .i64 x.2.2)]
def gT (l:List dM):Int:=match l.getLast? with
 |none=>0
 |some x=>x.1+x.2.1
def md (l:List dM) (n k:Int):List dM:=if n < 1 then l else match l.getLast? with
 |some x=>if x.2.2=k then l.set (l.length - 1) (x.1,x.2.1+n,x.2.2) else l++[(gT l,n,k)]
 |none=>l++[(gT l,n,k)]
theorem An {α:Type} {l:List α} {x:α} (h:l.getLast? =some x):0 < l.length/\fD l (l.length - 1)=some x:=by
 rw[List.getLast?_eq_getElem?] at h;exact⟨by have:=(ap5.1 h).1;omega,h⟩
theorem LX {α:Type} {l:List α} (h:l.getLast? =none):l=[]:=av4
theorem ahV (l:List dM) (O: ∀x,l.getLast? =some x-> -4611686018427387904<=x.1/\x.1<=4611686018427387903/\ -4611686018427387904<=x.2.1/\x.2.1<=4611686018427387903) (al:l.length<=4294967296):
  Fn Tryz.prog 240 [eO 1001] [(1001,.row 271 hK l)] [] (ac (gT l)) [(1001,.row 271 hK l)]:=by
 refine aU [] Tryz.func240 ?_;refine⟨fun h=>?_,fun h=>?_⟩
 .have h:((l.length:Nat):Int)=0:=gd h;have av:l=[]:=List.length_eq_zero_iff.1 au5;subst av;exact bg
 .have h: ¬((l.length:Nat):Int)=0:=mu h
  cases hx:l.getLast? with
  |none=>rw[LX hx] at h;exact absurd rfl h
  |some x=>
   have O:=O x hx;obtain⟨av,a1⟩:=An hx;have e:(((l.length:Nat):Int) - 1).toNat=l.length - 1:=av3
   have m:c0 (((l.length:Nat):Int) - 1):=av3
   have m2:(0:Int)<=((l.length:Nat):Int) - 1/\(((l.length:Nat):Int) - 1).toNat < l.length:=av3
   have m3:c0 (x.1+x.2.1):=av3
   have rk:fD l (((l.length:Nat):Int) - 1).toNat=some x:=by rw[e];exact a1
   refine⟨m,⟨m2.1,au5⟩,x,rk,m,⟨m2.1,au5⟩,x,rk,m3,rfl,?_⟩;exact eq bp rfl (show x.1+x.2.1=gT l by unfold gT;rw[hx])
theorem Ts (l:List dM) (n k:Int) (O: ∀x,l.getLast? =some x-> -4611686018427387904<=x.1/\x.1<=4611686018427387903/\ -4611686018427387904<=x.2.1/\x.2.1<=4611686018427387903) (hn:n<=4611686018427387903) (al:l.length<=1000000000):
  Fn Tryz.prog 210 [eO 1001,ac n,ac k] [(1001,.row 271 hK l)] [1002] (eO 1002) [(1002,.row 271 hK (md l n k))]:=by
 obtain⟨ii,ahW,ahX⟩:=j5 ahT;have lM:=ahV l O au5;refine aU [] Tryz.func210 ?_;refine⟨fun h=>?_,fun h=>?_⟩
 .have h:n < 1:=gd h;have e:md l n k=l:=if_pos h;exact⟨_,_,_,ae.aV 1001 1002 rfl,rfl,rfl,⟨congrArg (fun aC:List dM=>some (bb.row 271 hK aC)) e.symm,trivial⟩,rfl⟩
 have h: ¬n < 1:=mu h;have m:c0 (((l.length:Nat):Int) - 1):=av3
 refine⟨m,?_⟩
 cases hx:l.getLast? with
 |none=>
  have av:=LX hx;subst av;refine⟨fun G=>absurd G au6,fun _=>ar lM ⟨(show(0+1:Nat)<=4294967296 from by decide),rfl,?_⟩⟩;have e:md [] n k=[(gT [],n,k)]:=by unfold md;rw[if_neg h];rfl
  exact⟨_,_,_,ae.aV 42 1002 rfl,rfl,rfl,⟨congrArg (fun aC:List dM=>some (bb.row 271 hK aC)) e.symm,trivial⟩,rfl⟩
 |some x=>
  have O:=O x hx;obtain⟨av,a1⟩:=An hx;have e:(((l.length:Nat):Int) - 1).toNat=l.length - 1:=av3
  have rk:fD l (((l.length:Nat):Int) - 1).toNat=some x:=by rw[e];exact a1
  have m2:(0:Int)<=((l.length:Nat):Int) - 1/\((l.length:Nat):Int) - 1 < l.length:=av3
  refine⟨fun _=>?_,fun G=>?_⟩
  .refine⟨m2,x,rk,fun ab=>?_,fun ab=>?_⟩
   .have ab:x.2.2=k:=gd ab;have m3:c0 (x.2.1+n):=av3
    refine⟨m2,x,rk,m3,m2,_,_,fun N=>ahR (u:=hK) (y:=x) (y':=((x.1,x.2.1+n,x.2.2):dM)) (off:=1) rfl ahW ahX rfl rfl rfl rk au6 ⟨trivial,trivial,trivial⟩ (fun j Z=>?_) ahS N,rfl,?_⟩
    .match j,Z with
     |0,_=>rfl
     |1,_=>rfl
     |2,_=>rfl
    have ao:md l n k=l.set (((l.length:Nat):Int) - 1).toNat (x.1,x.2.1+n,x.2.2):=by
     unfold md;rw[if_neg h,hx,e];show(if x.2.2=k then _ else _)=_;rw[if_pos ab]
    exact⟨_,_,_,ae.aV 1001 1002 rfl,rfl,rfl,⟨congrArg (fun aC:List dM=>some (bb.row 271 hK aC)) ao.symm,trivial⟩,rfl⟩
   .have ab: ¬x.2.2=k:=mu ab;refine ar lM ?_;have jb:List.length (α:=dM) l+1<=4294967296:=av3
    refine⟨jb,rfl,?_⟩
    have ao:md l n k=l++[(gT l,n,k)]:=by
     unfold md;rw[if_neg h,hx];show(if x.2.2=k then _ else _)=_;rw[if_neg ab]
    exact⟨_,_,_,ae.aV 42 1002 rfl,rfl,rfl,⟨congrArg (fun aC:List dM=>some (bb.row 271 hK aC)) ao.symm,trivial⟩,rfl⟩
  .have G: ¬((l.length:Nat):Int) - 1≥0:=mu G;omega
def nl (ks:List Int):List dM:=ks.foldl (fun l k=>md l 1 k) []
structure yc (ks:List Int) (l:List dM):Prop where
 Da:gT l=(ks.length:Int)
 GE: ∀x,x∈l->0<=x.1/\1<=x.2.1/\x.1+x.2.1<=(ks.length:Int)/\ ∀k:Nat,x.1<=(k:Int)->(k:Int) < x.1+x.2.1->ks[k]? =some x.2.2
 len:l.length<=ks.length
theorem ahY (l:List dM) (x:dM):gT (l++[x])=x.1+x.2.1:=by
 unfold gT;rw[List.getLast?_concat]
theorem yc.add {ks:List Int} {l:List dM} (h:yc ks l) (k:Int):yc (ks++[k]) (md l 1 k):=by
 have mD: ∀x,x∈l->0<=x.1/\1<=x.2.1/\x.1+x.2.1<=((ks++[k]).length:Int)/\ ∀j:Nat,x.1<=(j:Int)->(j:Int) < x.1+x.2.1->(ks++[k])[j]? =some x.2.2:=fun x hx=>by
  obtain⟨E,G,aj,aX⟩:=h.GE x hx;refine⟨E,G,by rw[ap1];simp;omega,fun j eI fj=>?_⟩;rw[ar7 au5];exact aX j eI fj
 have oH:yc (ks++[k]) (l++[(gT l,1,k)]):=by
  refine⟨?_,fun x hx=>?_,by simp;exact h.len⟩
  .rw[ahY,h.Da,ap1];simp
  .rcases aq8.1 hx with hx |hx
   .exact mD x hx
   .rw[aq2] at hx;subst hx;refine⟨by show 0<=gT l;rw[h.Da];omega,(show(1:Int)<=1 from by decide),by show gT l+1<=_;rw[h.Da,ap1];simp,fun j eI fj=>?_⟩;have eI:gT l<=(j:Int):=eI;have fj:(j:Int) < gT l+1:=fj;rw[h.Da] at eI fj;have:j=ks.length:=av3
    subst this;rw[ar9 (ap0 _)];simp
 unfold md;rw[if_neg au6]
 cases hx:l.getLast? with
 |none=>exact oH
 |some x=>
  simp only
  split
  .rename_i ab;obtain⟨av,a1⟩:=An hx;have GF:x∈l:=List.mem_of_getElem? a1;have lM:x.1+x.2.1=(ks.length:Int):=by have:=h.Da;unfold gT at this;rw[hx] at this;exact this
   obtain⟨E,G,aj,aX⟩:=h.GE x GF;refine⟨?_,fun y aB=>?_,by rw[List.length_set,ap1];have:=h.len;omega⟩
   .unfold gT;rw[List.getLast?_eq_getElem?,List.length_set,List.getElem?_set_self au5];show x.1+(x.2.1+1)=_;rw[ap1];simp;omega
   .rcases List.mem_or_eq_of_mem_set aB with aB |rfl
    .exact mD y aB
    .refine⟨E,by show 1<=x.2.1+1;omega,by show x.1+(x.2.1+1)<=_;rw[ap1];simp;omega,fun j eI fj=>?_⟩;have eI:x.1<=(j:Int):=eI;have fj:(j:Int) < x.1+(x.2.1+1):=fj;show(ks++[k])[j]? =some x.2.2
     by_cases Z:(j:Int) < x.1+x.2.1
     .rw[ar7 au5];exact aX j eI Z
     .have:j=ks.length:=av3
      subst this;rw[ar9 (ap0 _),ab];simp
  .exact oH
theorem Tt (ks:List Int) (k:Int):nl (ks++[k])=md (nl ks) 1 k:=by
 unfold nl;rw[at9];rfl
theorem Tu (ks:List Int):yc ks (nl ks):=by
 have key: ∀n,n<=ks.length->yc (ks.take n) (nl (ks.take n)):=fun n=>by
  induction n with
  |zero=>intro _;exact⟨rfl,(fun _ h=>by cases h),ap0 _⟩
  |succ n br=>
   intro hn;rw[List.take_add_one,oj au5];show yc (ks.take n++[ks[n]]) (nl (ks.take n++[ks[n]]));rw[Tt];exact(br au5).add _
 have:=key ks.length (ap0 _)
 rwa[aq9] at this
abbrev ahZ (ks:List Int) (j:Nat):aY:=[(3,eO 5002),(9,bS ak ks),(10,ac (ks.length:Nat)),(11,ac (j:Nat))]
theorem ah0 (ks:List Int) (ab:ks.length<=65536):Fn Tryz.prog 190 [bS ak ks] [] [] (bS hK (nl ks)) []:=by
 refine aU [] Tryz.func190 ?_;refine⟨fun h=>?_,fun _=>?_⟩
 .exfalso;have h:(65536:Int) < ((ks.length:Nat):Int):=gd h;omega
 refine dQ [] (X:=Nat) (ahZ ks) (fun j=>[(5002,.row 271 hK (nl (ks.take j)))]) (fun j=>j<=ks.length) (fun j=>ks.length - j) 0 (ap7 _) ?_ ?_
 .exact(ae.nil 3 5002 271 hK rfl rfl).trans (ae.sub aA aA)
 intro j Z;refine⟨fun H=>?_,fun H=>?_⟩
 .have H:decide ((j:Int) < ((ks.length:Nat):Int))=true:=H;have eI:j < ks.length:=aw7
  have bu:=Tu (ks.take j);have bw:(ks.take j).length=j:=aw5
  have sD:nl (ks.take (j+1))=md (nl (ks.take j)) 1 ks[j]:=by
   rw[List.take_add_one,oj eI];exact Tt _ _
  refine⟨au5,ks[j],jv (n:=j) eI,?_⟩;refine ar (Fn.aV [(1001,5002)] (Ts (nl (ks.take j)) 1 ks[j] (fun x hx=>?_) au6 (by have:=bu.len;omega))) ?_
  .have:=bu.GE x (List.mem_of_getElem? (An hx).2);omega
  exact⟨au5,j+1,eI,au5,ae.trans (ae.sub (K':=[(3,eO 1002),(9,bS ak ks),(10,ac (ks.length:Nat)),(11,ac ((j+1:Nat):Int))]) (B':=[(1002,.row 271 hK (nl (ks.take (j+1))))]) aA ⟨congrArg (fun aC:List dM=>some (bb.row 271 hK aC)) sD.symm,trivial⟩) ((ae.aV 1002 5002 rfl).trans (ae.sub aA aA))⟩
 .have H:decide ((j:Int) < ((ks.length:Nat):Int))=false:=H;have fj:j=ks.length:=aw3
  subst fj;exact⟨_,_,_,ae.dW 5002 rfl,rfl,(show nl (ks.take ks.length)=nl ks by rw[aq9]),trivial,rfl⟩
section
variable {z U:Nat} {L:List aN}
end
end
section
def me:Int->List dM->Bool
 |_,[]=>true
 |n,x::l=>if x.1=n/\1<=x.2.1/\x.2.1<=65536 - n then me (n+x.2.1) l else false
theorem ah1 (n:Int) (x:dM) (l:List dM):me n (x::l)=if x.1=n/\1<=x.2.1/\x.2.1<=65536 - n then me (n+x.2.1) l else false:=rfl
theorem Ao: ∀{l:List dM} {n:Int} {x:dM},me n l=true->0<=n->l.getLast? =some x->0<=x.1/\1<=x.2.1/\x.1+x.2.1<=65536
 | [],_,_,_,_,h=>by cases h
 |y::l,n,x,h,hn,hx=>by
  unfold me at h
  split at h
  .rename_i H
   cases l with
   |nil=>
    simp at hx;subst hx;omega
   |cons aC l=>
    rw[List.getLast?_cons_cons] at hx;exact Ao h au5 hx
  .cases h
theorem LY: ∀{l:List dM} {n:Int},me n l=true->0<=n-> ∀x,x∈l->n<=x.1/\1<=x.2.1/\x.1+x.2.1<=65536
 | [],_,_,_,x,hx=>by cases hx
 |y::l,n,h,hn,x,hx=>by
  unfold me at h
  split at h
  .rename_i H;rcases ap3.1 hx with rfl |hx
   .omega
   .have:=LY h au5 x hx;omega
  .cases h
abbrev ah2 (l:List dM) (n:Int) (i:Nat):aY:=[(3,ac n),(6,bS hK l),(7,ac (l.length:Nat)),(8,ac (i:Nat))]
theorem LZ (l:List dM) (al:l.length<=1000000000) (ft: ∀x,x∈l-> -4611686018427387904<=x.2.1/\x.2.1<=4611686018427387903):Fn Tryz.prog 239 [bS hK l] [] [] (fK (me 0 l)) []:=by
 refine aU [] Tryz.func239 ?_;refine dQ [] (X:=Int×Nat) (fun x=>ah2 l x.1 x.2) (fun _=>[]) (fun x=>x.2<=l.length/\(0<=x.1/\x.1<=65536)/\me x.1 (l.drop x.2)=me 0 l) (fun x=>l.length - x.2) (0,0) ⟨ap7 _,⟨Int.le_refl 0,au5⟩,rfl⟩ ?_ ?_
 .exact ae.sub aA trivial
 rintro⟨n,i⟩ ⟨aH,hn,aF⟩;have aH:i<=l.length:=aH;have hn:0<=n/\n<=65536:=hn;have aF:me n (l.drop i)=me 0 l:=aF;refine⟨fun H=>?_,fun H=>?_⟩
 .have H:decide ((i:Int) < ((l.length:Nat):Int))=true:=H;have dX:i < l.length:=aw7
  have a1:=jv (n:=i) dX;have J:l.drop i=l[i]::l.drop (i+1):=List.drop_eq_getElem_cons dX;have hx:=ft _ (ar3 dX);rw[J] at aF;generalize l[i]=x at*;rw[ah1] at aF;have m1:(0:Int)<=(i:Int):=av3
  refine⟨m1,x,a1,rfl,fun E=>?_,fun E=>?_⟩
  .have E:(!decide (x.1=n))=true:=E;have E: ¬x.1=n:=ax9
   rw[if_neg (fun h=>E h.1)] at aF;exact eq bp rfl aF
  have E:(!decide (x.1=n))=false:=E;have E:x.1=n:=ax9
  refine⟨fun G=>?_,fun G=>?_⟩
  .have G:x.2.1 < 1:=gd G;rw[if_neg (fun h=>by omega)] at aF;exact eq bp rfl aF
  have G: ¬x.2.1 < 1:=mu G;have m2:c0 (65536 - n):=av3
  refine⟨m2,fun aj=>?_,fun aj=>?_⟩
  .have aj:65536 - n < x.2.1:=gd aj;rw[if_neg (fun h=>by omega)] at aF;exact eq bp rfl aF
  have aj: ¬65536 - n < x.2.1:=mu aj;rw[if_pos ⟨E,au5,au5⟩] at aF;have m3:c0 (n+x.2.1):=av3
  have jb:c0 ((i:Int)+1):=av3
  refine⟨m3,jb,?_⟩;exact⟨(n+x.2.1,i+1),⟨dX,(by show 0<=n+x.2.1/\n+x.2.1<=65536;omega),aF⟩,(by show l.length - (i+1) < l.length - i;omega),ae.sub aA trivial⟩
 .have H:decide ((i:Int) < ((l.length:Nat):Int))=false:=H;have pP:i=l.length:=aw3
  subst pP;rw[List.drop_length] at aF;exact eq bp rfl aF
theorem L0 (l:List dM) (O: ∀x,l.getLast? =some x-> -4611686018427387904<=x.1/\x.1<=4611686018427387903/\ -4611686018427387904<=x.2.1/\x.2.1<=4611686018427387903) (al:l.length<=4294967296):
  Fn Tryz.prog 240 [bS hK l] [] [] (ac (gT l)) []:=by
 refine aU [] Tryz.func240 ?_;refine⟨fun h=>?_,fun h=>?_⟩
 .have h:((l.length:Nat):Int)=0:=gd h;have av:l=[]:=List.length_eq_zero_iff.1 au5;subst av;exact bg
 .have h: ¬((l.length:Nat):Int)=0:=mu h
  cases hx:l.getLast? with
  |none=>rw[LX hx] at h;exact absurd rfl h
  |some x=>
   have O:=O x hx;obtain⟨av,a1⟩:=An hx;have e:(((l.length:Nat):Int) - 1).toNat=l.length - 1:=av3
   have m:c0 (((l.length:Nat):Int) - 1):=av3
   have m2:(0:Int)<=((l.length:Nat):Int) - 1:=av3
   have m3:c0 (x.1+x.2.1):=av3
   have rk:fD l (((l.length:Nat):Int) - 1).toNat=some x:=by rw[e];exact a1
   refine⟨m,m2,x,rk,m,m2,x,rk,m3,eB au8,?_⟩;exact eq bp rfl (show x.1+x.2.1=gT l by unfold gT;rw[hx])
def GG (l:List dM):Int:=if me 0 l=true then gT l else 0
theorem ah3 (l:List dM) (al:l.length<=1000000000) (ft: ∀x,x∈l-> -4611686018427387904<=x.2.1/\x.2.1<=4611686018427387903):Fn Tryz.prog 209 [bS hK l] [] [] (ac (GG l)) []:=by
 have aF:=LZ l al ft;unfold GG
 cases H:me 0 l with
 |false=>
  rw[H] at aF;refine aU [] Tryz.func209 ?_;exact ar aF <| e5 bg
 |true=>
  rw[H] at aF;have V:=L0 l (fun x hx=>by have:=Ao H (Int.le_refl 0) hx;omega) au5;refine aU [] Tryz.func209 ?_;exact ar aF <| df <| ar V bg
def yd (fr bK:Int) (out:List dM) (x:dM):List dM:=md out (min (x.1+x.2.1) (fr+bK) - max x.1 fr) x.2.2
def Ap (l:List dM) (fr bK:Int):Bool:=me 0 l&&(decide (1<=bK)&&(decide (0<=fr)&&(decide (bK<=gT l)&&decide (fr<=gT l - bK))))
def uZ (l:List dM) (fr bK:Int):List dM:=if Ap l fr bK=true then l.foldl (yd fr bK) [] else[]
theorem ah4 {l:List dM} {n k B:Int} (h: ∀x,l.getLast? =some x->0<=x.1/\0<=x.2.1/\x.1+x.2.1<=B) (da:0<=B) {C:Int} (eE:B+n<=C) (apg:B<=C): ∀x,(md l n k).getLast? =some x->0<=x.1/\0<=x.2.1/\x.1+x.2.1<=C:=by
 intro x hx;unfold md at hx
 split at hx
 .have:=h x hx;omega
 rename_i hn
 have lM:0<=gT l/\gT l<=B:=by
  unfold gT
  split
  .omega
  .rename_i y aB;have:=h y aB;omega
 split at hx
 .rename_i y aB;have aph:=h y aB
  split at hx
  .obtain⟨av,a1⟩:=An aB;rw[List.getLast?_eq_getElem?,List.length_set,List.getElem?_set_self au5] at hx;injection hx with hx
   subst hx;show 0<=y.1/\0<=y.2.1+n/\y.1+(y.2.1+n)<=C;omega
  .rw[List.getLast?_append] at hx;simp at hx;subst hx;show 0<=gT l/\0<=n/\gT l+n<=C;omega
 .rw[List.getLast?_append] at hx;simp at hx;subst hx;show 0<=gT l/\0<=n/\gT l+n<=C;omega
theorem ah5 (l:List dM) (n k:Int):(md l n k).length<=l.length+1:=by
 unfold md
 split
 .omega
 split
 .split
  .rw[List.length_set];omega
  .rw[ap1];exact ap0 _
 .rw[ap1];exact ap0 _
abbrev ah6 (l:List dM) (fr bK:Int) (i:Nat):aY:=[(1,ac fr),(2,ac bK),(7,eO 5002),(37,bS hK l),(38,ac (l.length:Nat)),(39,ac (i:Nat))]
abbrev ah7 (l:List dM) (fr bK:Int) (i:Nat):aY:=[(1,ac fr),(2,ac bK),(7,eO 1002),(37,bS hK l),(38,ac (l.length:Nat)),(39,ac (i:Nat))]
abbrev ah8 (out:List dM):aw:=[(5002,.row 271 hK out)]
abbrev Tv (out:List dM):aw:=[(1002,.row 271 hK out)]
def rF (l:List dM) (fr bK:Int) (i:Nat):List dM:=(l.take i).foldl (yd fr bK) []
theorem Tw {l:List dM} {fr bK:Int} {i:Nat} (h:i < l.length):rF l fr bK (i+1)=md (rF l fr bK i) (min (l[i].1+l[i].2.1) (fr+bK) - max l[i].1 fr) l[i].2.2:=by
 unfold rF;rw[List.take_add_one,oj h];show((l.take i)++[l[i]]).foldl _ _=_;rw[at9];rfl
theorem Tx (l:List dM) (fr bK:Int) (i:Nat):(rF l fr bK i).length<=i:=by
 unfold rF
 have: ∀(m:List dM) (out:List dM),(m.foldl (yd fr bK) out).length<=out.length+m.length:=by
  intro m
  induction m with
  |nil=>intro out;exact ap0 _
  |cons x m br=>
   intro out;have E:=br (yd fr bK out x);have G:=ah5 out (min (x.1+x.2.1) (fr+bK) - max x.1 fr) x.2.2;show(m.foldl (yd fr bK) (yd fr bK out x)).length<=out.length+(m.length+1);have aj:(yd fr bK out x).length<=out.length+1:=G;omega
 have h:=this (l.take i) [];have G:(l.take i).length<=i:=aw5
 have aj:([]:List dM).length=0:=rfl;omega
theorem Ty {l:List dM} {fr bK:Int} (aF:me 0 l=true) (uI:0<=fr) (ah9:0<=bK): ∀i,i<=l.length-> ∀x,(rF l fr bK i).getLast? =some x->0<=x.1/\0<=x.2.1/\x.1+x.2.1<=65536*(i:Int)
 |0,_,x,hx=>by cases hx
 |i+1,aH,x,hx=>by
  have dX:i < l.length:=av3
  rw[Tw dX] at hx;have V:=LY aF (Int.le_refl 0) _ (ar3 dX);exact ah4 (Ty aF uI ah9 i au5) au5 au5 au5 x hx
theorem ah' (l:List dM) (fr bK:Int) (al:l.length<=1000000000) (ft: ∀x,x∈l-> -4611686018427387904<=x.2.1/\x.2.1<=4611686018427387903) (h:Ap l fr bK=false):Fn Tryz.prog 208 [bS hK l,ac fr,ac bK] [] [] (kJ .dD) []:=by
 have aF:=LZ l al ft;have V:me 0 l=true->_:=fun H=>L0 l (fun x hx=>by have:=Ao H (Int.le_refl 0) hx;omega) au5
 have L1:me 0 l=true->0<=gT l/\gT l<=65536:=by
  intro H;unfold gT
  split
  .omega
  .rename_i y aB;have:=Ao H (Int.le_refl 0) aB;omega
 unfold Ap at h
 cases H:me 0 l with
 |false=>
  rw[H] at aF;refine aU [] Tryz.func208 ?_;exact ar aF <| e5 bg
 |true=>
  rw[H] at aF h;have V:=V H;have L1:=L1 H;generalize gT l=e at*;refine aU [] Tryz.func208 ?_;refine ar aF <| df ⟨fun E=>?_,fun E=>?_⟩
  .exact bg
  have E: ¬bK < 1:=mu E;refine⟨fun G=>?_,fun G=>?_⟩
  .exact bg
  have G: ¬fr < 0:=mu G;refine ar V ⟨fun aj=>?_,fun aj=>?_⟩
  .exact bg
  have aj: ¬e < bK:=mu aj;refine ar V ?_;have m1:c0 (e - bK):=av3
  refine⟨m1,fun aX=>?_,fun aX=>?_⟩
  .exact bg
  have aX: ¬e - bK < fr:=mu aX;rw[aq1 (show 1<=bK by omega),aq1 (show 0<=fr by omega),aq1 (show bK<=e by omega),aq1 (show fr<=e - bK by omega)] at h
  cases h
theorem aia (l:List dM) (fr bK:Int) (al:l.length<=1000000) (ft: ∀x,x∈l-> -4611686018427387904<=x.2.1/\x.2.1<=4611686018427387903) (h:Ap l fr bK=true):Fn Tryz.prog 208 [bS hK l,ac fr,ac bK] [] [1002] (eO 1002) (Tv (uZ l fr bK)):=by
 have aF:=LZ l au5 ft
 have aib:uZ l fr bK=rF l fr bK l.length:=by
  unfold uZ rF;rw[if_pos h,aq9]
 rw[aib];unfold Ap at h;simp only[vj,ar5] at h;obtain⟨H,E,G,aj,aX⟩:=h;rw[H] at aF;have V:=L0 l (fun x hx=>by have:=Ao H (Int.le_refl 0) hx;omega) au5
 have L1:0<=gT l/\gT l<=65536:=by
  unfold gT
  split
  .omega
  .rename_i y aB;have:=Ao H (Int.le_refl 0) aB;omega
 have Db:=Ty H G (show 0<=bK by omega);have aic:=LY H (Int.le_refl 0);have b6:=Tx l fr bK;generalize gT l=e at*;have m1:c0 (e - bK):=av3
 have m2:c0 (fr+bK):=av3
 refine aU [] Tryz.func208 ?_;refine ar aF <| df ⟨fun h=>absurd (gd h) au5,fun _=>⟨fun h=>absurd (gd h) au5,fun _=>ar V ⟨fun h=>absurd (gd h) au5,fun _=>ar V ⟨m1,fun h=>absurd (gd h) au5,fun _=>dQ [] (X:=Nat) (fun i=>ah6 l fr bK i) (fun i=>ah8 (rF l fr bK i)) (fun i=>i<=l.length) (fun i=>l.length - i) 0 (ap7 _) ?_ ?_⟩⟩⟩⟩
 .exact(ae.nil 7 5002 271 hK rfl rfl).trans (ae.sub aA aA)
 intro i aH;have aH:i<=l.length:=aH;have Db:=Db i aH;have b6:=b6 i;refine⟨fun H=>?_,fun H=>?_⟩
 .have H:decide ((i:Int) < ((l.length:Nat):Int))=true:=H;have dX:i < l.length:=aw7
  have a1:=jv (n:=i) dX;have hx:=aic _ (ar3 dX);have sD:=Tw (fr:=fr) (bK:=bK) dX;generalize l[i]=x at*;have dY:(0:Int)<=(i:Int):=av3
  have cS:c0 (x.1+x.2.1):=av3
  have dG:c0 (min (x.1+x.2.1) (fr+bK) - max x.1 fr):=av3
  have dL:c0 ((i:Int)+1):=av3
  have ku:min (x.1+x.2.1) (fr+bK) - max x.1 fr<=4611686018427387903:=av3
  have ha:=Ts (rF l fr bK i) (min (x.1+x.2.1) (fr+bK) - max x.1 fr) x.2.2 (fun y aB=>by have:=Db y aB;omega) ku au5;rw[<-sD] at ha;refine⟨dY,x,a1,rfl,cS,m2,eB au8,dG,ar (Fn.aV [(1001,5002)] ha) ?_⟩;exact⟨dL,i+1,dX,by show l.length - (i+1) < l.length - i;omega,ae.trans (cH (ah7 l fr bK (i+1)) (Tv (rF l fr bK (i+1)))) ((ae.aV 1002 5002 rfl).trans (ae.sub aA aA))⟩
 .have H:decide ((i:Int) < ((l.length:Nat):Int))=false:=H;have pP:i=l.length:=aw3
  subst pP;exact⟨_,_,_,ae.aV 5002 1002 rfl,rfl,rfl,aA,rfl⟩
theorem aid (l:List dM) (fr bK:Int) (al:l.length<=1000000) (ft: ∀x,x∈l-> -4611686018427387904<=x.2.1/\x.2.1<=4611686018427387903):Fn Tryz.prog 208 [bS hK l,ac fr,ac bK] [] [] (bS hK (uZ l fr bK)) []:=by
 cases h:Ap l fr bK with
 |false=>
  have e:uZ l fr bK=[]:=by unfold uZ;rw[h];rfl
  rw[e];exact(ah' l fr bK au5 ft h).res rfl
 |true=>exact Fn.dW (aO:=[]) (aia l fr bK al ft h) rfl rfl
def h9 (l:List dM):List dM:=uZ l 0 (GG l)
theorem aie (l:List dM) (al:l.length<=1000000) (ft: ∀x,x∈l-> -4611686018427387904<=x.2.1/\x.2.1<=4611686018427387903):Fn Tryz.prog 189 [bS hK l] [] [] (bS hK (h9 l)) []:=by
 have E:=ah3 l au5 ft;have G:=aid l 0 (GG l) al ft;refine aU [] Tryz.func189 ?_;exact ar E <| ar G bg
end
section
theorem Tz {ρ:Go.Shelf.Ren} (L:SlLaysW.n5 Tryz.prog ρ) (fT:jl Tryz.prog (ρ.f 5)=true) {aI aK:bx} (es:List (aa aI×aa aK)):
  Fn Tryz.prog (ρ.f 5) [.c (.one (.mp 1001))] [(1001,.map aI aK es)] [2001] (.c (.one (.mp 2001))) [(1001,.map aI aK es),(2001,.map aI aK es)]:=by
 refine⟨fT,fun ρ F I w bW ba cX bh ep b6 dt=>?_⟩
 match bW,b6 with
 | [v],_=>
  obtain rfl:v= .map (some (ρ 1001).bj):=dt 0 _ v rfl rfl;obtain⟨tr,bT,bV,O,az,da⟩:=cX 1001 _ rfl;refine(AnyW.maps_Clone L _ _ _ w O).mono ?_;rintro e w' ⟨rfl,rfl⟩;have gD:Below w.heap.size w (w.alloc (.map (List.toArray bT) bV)):=(Below.refl _ _).alloc (ap0 _) _;have aW:ce I w I (w.alloc (.map (List.toArray bT) bV)):=fun b fP=>⟨fP,gD.block b (ba b fP)⟩
  have bw:=k1 O;refine⟨_,c5 ρ 2001 ⟨w.heap.size,none,0,0⟩,c5 F 2001 (fun b=>b=w.heap.size),rfl,cK.mo gD,fun c H=>dd _ _ (fun e=>H (by simp[e])),I,aW,fun b fP=>⟨Nat.lt_of_lt_of_le (ba b fP) gD.size,.inl fP⟩,?_,?_,?_,?_⟩
  .intro c ch H;rw[ca] at H
   split at H
   .rename_i dP;subst dP;injection H with H;subst H
    rw[dd _ _ au6,dd _ _ au6];exact⟨tr,bT,bV,(gD.block _ bw).trans O,az.mono aW,da⟩
   .rw[ca] at H
    split at H
    .rename_i dP;subst dP;injection H with H;subst H
     rw[c6,c6];exact⟨fun b=>Iff.rfl,bT,bV,heap_alloc_new w _,az.mono aW,da⟩
    .simp[ag] at H
  .intro c ch H b pQ;rw[ca] at H
   split at H
   .rename_i dP;subst dP;rw[dd _ _ au6] at pQ;have:=bh 1001 _ rfl b pQ;exact⟨Nat.lt_of_lt_of_le this.1 gD.size,this.2,.inl ⟨1001,_,rfl,pQ⟩⟩
   .rw[ca] at H
    split at H
    .rename_i dP;subst dP;rw[c6] at pQ;subst pQ;exact⟨au7,fun fP=>by have:=ba _ fP;omega,.inr (ap0 _)⟩
    .simp[ag] at H
  .intro c bX ch ch' b H cF a2 gQ he
   have key: ∀c ch,ag [(1001,bb.map aI aK es),(2001,bb.map aI aK es)] c=some ch->c=1001\/c=2001:=fun c ch H=>by
    rw[ca] at H
    split at H
    .rename_i h;exact .inl h.symm
    .rw[ca] at H
     split at H
     .rename_i h;exact .inr h.symm
     .simp[ag] at H
   rcases key c ch H with rfl |rfl <;>rcases key bX ch' cF with rfl |rfl
   .exact a2 rfl
   .rw[dd _ _ au6] at gQ;rw[c6] at he;have:=(bh 1001 _ rfl b gQ).1;omega
   .rw[dd _ _ au6] at he;rw[c6] at gQ;have:=(bh 1001 _ rfl b he).1;omega
   .exact a2 rfl
  .show Value.map (some w.heap.size)=Value.map (some (c5 ρ 2001 _ 2001).bj);rw[c6]
end
section
def mf (s g:Int):Int:=(s+g - 1)/g
theorem ye {s g:Int} (ax:0<=s/\s<=4096) (a1:1<=g/\g<=64):0<=mf s g/\mf s g<=4160:=by
 unfold mf;have dG:(0:Int)<=(s+g - 1)/g:=au4 au5 au5;have dL:(s+g - 1)/g<=s+g - 1:=Int.ediv_le_self _ au5;omega
theorem GH (s g:Int) (es:List (aa ak×aa ak)) (ax:0<=s/\s<=4096) (a1:1<=g/\g<=64):Fn Tryz.prog 165 [ap 1001] (il s g es) [] (ac (mf s g)) (il s g es):=by
 have kN:=ye ax a1;unfold mf at kN⊢;have dF:c0 (s+g):=av3
 have ld:c0 (s+g - 1):=av3
 have sr:c0 ((s+g - 1)/g):=av3
 have n6:(0:Int)<=s+g - 1/\0 < g:=av3
 refine aU [] Tryz.func165 ?_;exact⟨dF,ld,n6,sr,eB au8,bg⟩
def u0 (es:List (aa ak×aa ak)) (f:Int):Nat->List (aa ak×aa ak)
 |0=>es
 |n+1=>gH (aI:=ak) (aK:=ak) (u0 es f n) (f+(n:Int))
theorem aif (s g:Int) (es:List (aa ak×aa ak)) (k:Int):Fn Tryz.prog 187 [ac k,ap 3001] (rD s g es) [] gJ (rD s g (gH (aI:=ak) (aK:=ak) es k)):=by
 refine aU [] Tryz.func187 ?_;exact bg
abbrev aig (d5 k:Int):aY:=[(4,ac d5),(5,.c (.one (.cU 187 [.p 3001 0]))),(13,ac k)]
theorem aih (s g:Int) (es:List (aa ak×aa ak)) (fr bK f1 d5:Int) (E:0<=bK) (G:0<=fr) (aj:bK<=s) (aX:fr<=s - bK) (ax:s<=4096) (bH:0<=f1) (fF:d5<=1000000):Fn Tryz.prog 137 [ap 1001,ac fr,ac bK,ac f1,ac d5,.c (.one (.cU 187 [.p 3001 0]))] (rD s g es) [] (ac 0) (rD s g (u0 es f1 (d5 - f1).toNat)):=by
 have m1:c0 (s - bK):=av3
 refine aU [] Tryz.func137 ?_;refine⟨fun h=>absurd (gd h) au5,fun _=>⟨fun h=>absurd (gd h) au5,fun _=>⟨fun h=>absurd (gd h) au5,fun _=>⟨m1,fun h=>absurd (gd h) au5,fun _=>dQ [6] (X:=Nat) (fun j=>aig d5 (f1+(j:Int))) (fun j=>rD s g (u0 es f1 j)) (fun j=>j<=(d5 - f1).toNat) (fun j=>(d5 - f1).toNat - j) 0 (ap7 _) ?_ ?_⟩⟩⟩⟩
 .exact ae.sub ⟨rfl,rfl,(show f1=f1+((0:Nat):Int) by omega),trivial⟩ aA
 intro j Z;have Z:j<=(d5 - f1).toNat:=Z;refine⟨fun H=>?_,fun H=>?_⟩
 .have H:decide (f1+(j:Int) < d5)=true:=H;have H:=gd H;exact bz [] (bp) <| ar (aif s g (u0 es f1 j) (f1+(j:Int))) ⟨au5,j+1,au5,au5,ae.sub ⟨rfl,rfl,(show f1+(j:Int)+1=f1+((j+1:Nat):Int) by omega),trivial⟩ aA⟩
 .have H:decide (f1+(j:Int) < d5)=false:=H;have H:=mu H;have fj:j=(d5 - f1).toNat:=av3
  subst fj;exact bg
def Dc (s g:Int) (es:List (aa ak×aa ak)):List (aa ak×aa ak):=u0 es 0 (mf s g).toNat
abbrev aii (s d5:Int):aY:=[(1,ac 0),(2,ac s),(3,ap 3),(7,ac d5)]
theorem aij (s g:Int) (es:List (aa ak×aa ak)) (ax:0<=s/\s<=4096) (a1:1<=g/\g<=64):Fn Tryz.prog 155 [ap 1001,ac 0,ac s] (il s g es) [] (ac 0) (il s g (Dc s g es)):=by
 have kN:=ye ax a1;have nB:=GH s g es ax a1;have dY:(0:Int)<=(0+s)/g:=au4 au5 au5;have cS:(0+s)/g<=0+s:=Int.ediv_le_self _ au5;have cI:c0 (0+s):=av3
 have dF:(0:Int)<=0+s/\0 < g:=av3
 have ld:c0 ((0+s)/g):=av3
 have sr:c0 (0+g):=av3
 have n5:c0 (0+g - 1):=av3
 have n6:(0:Int)<=0+g - 1/\0 < g:=av3
 have bG:(0+g - 1)/g=0:=Int.ediv_eq_zero_of_lt au5 au5;have n7:c0 ((0+g - 1)/g):=av3
 have V:=aih s g es 0 s 0 (mf s g) ax.1 (Int.le_refl 0) (Int.le_refl s) au5 ax.2 (Int.le_refl 0) au5;have aT:(mf s g - 0).toNat=(mf s g).toNat:=by rw[Int.sub_zero]
 rw[aT] at V;unfold Dc;generalize mf s g=d5 at*;refine aU [4] Tryz.func155 ?_;refine⟨rfl,cI,dF,ld,cI,?_⟩;exact⟨fun _=>ar nB <| bz [] (cH (aii s d5) (C3 s g es)) ⟨sr,n5,n6,n7,ar (Fn.arg (args:=[ap 1001,ac 0,ac s,ac ((0+g - 1)/g),ac d5,.c (.one (.cU 187 [.p 3001 0]))]) V ⟨rfl,rfl,rfl,bG,rfl,rfl,trivial⟩ |> Fn.aV [(3001,3)]) ⟨eB au8,bg⟩⟩,fun h=>absurd (show decide (0+s=s)=false from h) (by rw[Int.zero_add];simp)⟩
def n9 (g:Int) (es:List (aa ak×aa ak)) (n:Nat):List Int:=(List.range n).map fun k=>if mR g es k=true then 1 else 0
theorem aik (g:Int) (es:List (aa ak×aa ak)) (n:Nat):n9 g es (n+1)=n9 g es n++[if mR g es n=true then 1 else 0]:=by
 unfold n9;rw[List.range_succ,as3];rfl
theorem L2 (g:Int) (es:List (aa ak×aa ak)) (n:Nat):(n9 g es n).length=n:=by
 unfold n9;rw[aq3,List.length_range]
def qt (s g:Int) (es:List (aa ak×aa ak)):List dM:=nl (n9 g es s.toNat)
abbrev ail (s:Int) (j:Nat):aY:=[(0,ap 1001),(3,eO 5002),(9,ac s),(10,ac (j:Nat))]
abbrev TA (s:Int) (j:Nat):aY:=[(0,ap 1001),(3,eO 19),(9,ac s),(10,ac (j:Nat))]
abbrev aim (s g:Int) (es:List (aa ak×aa ak)) (x:List Int):aw:=il s g es++[(5002,.row 3 ak x)]
abbrev TB (s g:Int) (es:List (aa ak×aa ak)) (x:List Int):aw:=il s g es++[(19,.row 3 ak x)]
theorem ain (s g:Int) (es:List (aa ak×aa ak)) (ax:0<=s/\s<=4096) (a1:1<=g):Fn Tryz.prog 157 [ap 1001] (il s g es) [] (bS hK (qt s g es)) (il s g es):=by
 have aio:=ah0 (n9 g es s.toNat) (by rw[L2];omega);unfold qt;refine aU [] Tryz.func157 ?_;refine dQ [] (X:=Nat) (fun j=>ail s j) (fun j=>aim s g es (n9 g es j)) (fun j=>j<=s.toNat) (fun j=>s.toNat - j) 0 (ap7 _) ?_ ?_
 .exact(ae.nil 3 5002 3 ak rfl rfl).trans (ae.sub aA aA)
 intro j Z;have Z:j<=s.toNat:=Z;have r5:=aik g es j;have wm:=L2 g es j;refine⟨fun H=>?_,fun H=>?_⟩
 .have H:decide ((j:Int) < s)=true:=H;have eI:(j:Int) < s:=gd H;have aH:=S8 s g es j a1 eI ax.2;have m:List.length (α:=Int) (n9 g es j)+1<=4294967296:=av3
  have m2:c0 ((j:Int)+1):=av3
  generalize n9 g es j=ks at*;generalize mR g es j=b at*;refine ar aH ⟨fun O=>?_,fun O=>?_⟩
  .have O:b=true:=O;subst O;have r5:n9 g es (j+1)=ks++[1]:=r5;exact⟨m,rfl,m2,j+1,(by show j+1<=s.toNat;omega),(by show s.toNat - (j+1) < s.toNat - j;omega),ae.trans (ae.sub (K':=TA s (j+1)) (B':=TB s g es (n9 g es (j+1))) aA ⟨rfl,rfl,congrArg (fun aC:List Int=>some (bb.row 3 ak aC)) r5.symm,trivial⟩) <| (ae.aV 19 5002 rfl).trans (ae.sub aA aA)⟩
  .have O:b=false:=O;subst O;have r5:n9 g es (j+1)=ks++[0]:=r5;exact⟨m,rfl,m2,j+1,(by show j+1<=s.toNat;omega),(by show s.toNat - (j+1) < s.toNat - j;omega),ae.trans (ae.sub (K':=TA s (j+1)) (B':=TB s g es (n9 g es (j+1))) aA ⟨rfl,rfl,congrArg (fun aC:List Int=>some (bb.row 3 ak aC)) r5.symm,trivial⟩) <| (ae.aV 19 5002 rfl).trans (ae.sub aA aA)⟩
 .have H:decide ((j:Int) < s)=false:=H;have fj:j=s.toNat:=aw3
  subst fj;exact ar (Fn.own (d:=5002) (e:=3) (u:=ak) (xs:=n9 g es s.toNat) (args:=[eO 5002]) aio rfl) bg
theorem TC (es:List (aa ak×aa ak)):Fn Tryz.prog 146 [.c (.one (.mp 1001))] [(1001,.map ak ak es)] [2001] (.c (.one (.mp 2001))) [(1001,.map ak ak es),(2001,.map ak ak es)]:=
 Tz acK au8 es
theorem aip (s g:Int) (es:List (aa ak×aa ak)):Fn Tryz.prog 94 [ap 1001] (il s g es) [2001,2002] (ap 2001) (il s g es++[(2001,.cells [.d (.int .i64 s),.d (.int .i64 g),.mp 2002]),(2002,.map ak ak es)]):=by
 refine aU [] Tryz.func94 ?_;exact ar (Fn.aV [(1001,1002),(2001,2002)] (TC es)) ⟨rfl,eB au8,_,_,_,ae.aV 17 2001 rfl,rfl,rfl,aA,rfl⟩
abbrev L3 (l:List dM) (k:Int):aw:=[(2001,.cells [.d (.ck hK l)]),(2002,.cells [.d (.int .i64 k)])]
abbrev L4 (l:List dM) (k:Int) (o:bf):aw:=[(2001,.cells [.d (.ck hK l)]),(2002,.cells [.d (.int .i64 k)]),(1001,.aG o)]
abbrev TD (y:Nat) (m:List dM) (i:Nat):aY:=[(0,Cu y),(2,ap 2002),(7,bS hK m),(8,ac (m.length:Nat)),(9,ac (i:Nat))]
theorem aiq (l:List dM) (k:Int):Fn Tryz.prog 156 [bS hK l,ac k] [] [2001,2002] (.c (.one (.cU 188 [.p 2001 0,.p 2002 0]))) (L3 l k):=by
 refine aU [] Tryz.func156 ?_;exact⟨rfl,rfl,_,_,_,(ae.aV 2 2001 rfl).trans (ae.aV 3 2002 rfl),rfl,rfl,aA,rfl⟩
theorem air (y:Nat) (l:List dM) (k:Int) (al:l.length<=1000000) (ft: ∀x,x∈l-> -4611686018427387904<=x.2.1/\x.2.1<=4611686018427387903) {X:Type} (fV:X->bf) (xs:Nat->X)
  (aB: ∀i (h:i < (h9 l).length),(h9 l)[i].2.2=k->xw Tryz.prog y [ac (h9 l)[i].1,ac (h9 l)[i].2.1] [(1001,.aG (fV (xs i)))] (fun _:Unit=>qV true) (fun _=>[(1001,.aG (fV (xs (i+1))))]))
  (a2: ∀i (h:i < (h9 l).length),¬(h9 l)[i].2.2=k->xs (i+1)=xs i) (eJ:(h9 l).length<=1000000):
  Fn Tryz.prog 188 [Cu y,ap 2001,ap 2002] (L4 l k (fV (xs 0))) [] (.cf []) [(1001,.aG (fV (xs (h9 l).length)))]:=by
 have hn:=aie l al ft;generalize h9 l=m at*;refine aU [3] Tryz.func188 ?_;refine ar hn <| dQ [3] (X:=Nat) (fun i=>TD y m i) (fun i=>L4 l k (fV (xs i))) (fun i=>i<=m.length) (fun i=>m.length - i) 0 (ap7 _) ?_ ?_
 .exact ae.sub aA aA
 intro i aH;have aH:i<=m.length:=aH;refine⟨fun H=>?_,fun H=>?_⟩
 .have H:decide ((i:Int) < ((m.length:Nat):Int))=true:=H;have dX:i < m.length:=aw7
  have a1:=jv (n:=i) dX;have aB:=aB i dX;have a2:=a2 i dX;generalize m[i]=x at*;have dY:(0:Int)<=(i:Int):=av3
  have cS:c0 ((i:Int)+1):=av3
  refine⟨dY,x,a1,rfl,bt.le (cH ((5,ap 5)::TD y m i) ((5,.cells (ahU x))::L4 l k (fV (xs i)))) <| bt.iC eX au8 ⟨fun ab=>?_,fun ab=>?_⟩⟩
  .have ab:x.2.2=k:=gd ab;refine⟨Unit,_,_,_,aB ab,aA,fun _=>rfl,fun _=>?_⟩;exact⟨cS,i+1,dX,(by show m.length - (i+1) < m.length - i;omega),ae.sub aA aA⟩
  .have ab: ¬x.2.2=k:=mu ab;have a2:=a2 ab;exact⟨cS,i+1,dX,(by show m.length - (i+1) < m.length - i;omega),ae.sub aA ⟨rfl,rfl,congrArg (fun aC=>some (bb.aG (fV aC))) a2.symm,trivial⟩⟩
 .have H:decide ((i:Int) < ((m.length:Nat):Int))=false:=H;have pP:i=m.length:=aw3
  subst pP;exact bg
theorem ais {ks:List Int} (ab:ks.length<=65536):(nl ks).length<=65536/\ ∀x,x∈nl ks-> -4611686018427387904<=x.2.1/\x.2.1<=4611686018427387903:=by
 have h:=Tu ks;refine⟨by have:=h.len;omega,fun x hx=>?_⟩;have:=h.GE x hx;omega
theorem ait (l:List dM) (fr bK:Int):(uZ l fr bK).length<=l.length:=by
 unfold uZ
 split
 .have:=Tx l fr bK l.length;unfold rF at this
  rwa[aq9] at this
 .exact ap7 _
def ww (s g:Int) (es:List (aa ak×aa ak)) (x:dM):List (aa ak×aa ak):=if x.2.2=1 then nk s g es x.1 x.2.1 else es
def nn (s g:Int) (es:List (aa ak×aa ak)) (m:List dM) (i:Nat):List (aa ak×aa ak):=(m.take i).foldl (ww s g) es
theorem TE (s g:Int) (es:List (aa ak×aa ak)) {m:List dM} {i:Nat} (h:i < m.length):nn s g es m (i+1)=ww s g (nn s g es m i) m[i]:=by
 unfold nn;rw[List.take_add_one,oj h];show((m.take i)++[m[i]]).foldl _ _=_;rw[at9];rfl
def wx (s g:Int) (es:List (aa ak×aa ak)) (row:List dM):List (aa ak×aa ak):=nn s g es (h9 row) (h9 row).length
abbrev GI (s g:Int) (es:List (aa ak×aa ak)) (bD g2:Int) (ea:List (aa ak×aa ak)):aw:=[(1001,.cells (LH s g)),(1002,.map ak ak es),(3001,.cells [.d (.int .i64 bD),.d (.int .i64 g2),.mp 3002]),(3002,.map ak ak ea)]
abbrev TF (s g:Int) (es:List (aa ak×aa ak)) (bD g2:Int) (ea:List (aa ak×aa ak)):aw:=[(1001,.cells (LH s g)),(1002,.map ak ak es),(2,.cells [.ptr 1001 0]),(3001,.cells [.d (.int .i64 bD),.d (.int .i64 g2),.mp 3002]),(3002,.map ak ak ea)]
theorem aiu (s g:Int) (es:List (aa ak×aa ak)) (bD g2:Int) (ea:List (aa ak×aa ak)) (ax:0<=s/\s<=4096) (a1:1<=g/\g<=64) (f':0<=bD/\bD<=4096) (sE:1<=g2/\g2<=64) (aiv:bD=s):Fn Tryz.prog 104 [ap 1001,ap 3001] (GI s g es bD g2 ea) [] (ac 0) (GI s g (wx s g es (qt bD g2 ea)) bD g2 ea):=by
 have fX:=ain bD g2 ea f' sE.1;have ft:=ais (ks:=n9 g2 ea bD.toNat) (by rw[L2];omega);have ft:(qt bD g2 ea).length<=65536/\ ∀x,x∈qt bD g2 ea->_:=ft;have eJ:(h9 (qt bD g2 ea)).length<=(qt bD g2 ea).length:=ait _ _ _;unfold wx;generalize qt bD g2 ea=rw at*;refine aU [] Tryz.func104 ?_;refine⟨rfl,eB au8,fun H=>absurd (show(!decide (bD=s))=true from H) (by simp[aiv]),fun _=>ar (Fn.aV [(1001,3001),(1002,3002)] fX) <| ar (aiq rw 1) <| bt.le (cH [(22,.c (.one (.cU 188 [.p 2001 0,.p 2002 0]))),(2,ap 2)] (L3 rw 1++TF s g es bD g2 ea)) <| bt.range eX [] (pl:=[23,24]) rfl au8 au8 au8 au8 [1001,1002,2,3001,3002] _ [(2,ap 2)] (L3 rw 1) (fun e:List (aa ak×aa ak)=>TF s g e bD g2 ea) 1001 es (nn s g es (h9 rw) (h9 rw).length) (fun e aE b5=> ∃(i:Nat) (h:i < (h9 rw).length),(h9 rw)[i].2.2=1/\e=nn s g es (h9 rw) i/\aE=[ac (h9 rw)[i].1,ac (h9 rw)[i].2.1]/\b5=nn s g es (h9 rw) (i+1)) rfl av8 rfl rfl ?_ ?_ ?_⟩
 .rintro e aE b5 ⟨i,aH,ab,rfl,rfl,rfl⟩;have r5:=TE s g es aH;have gO:=LK s g (nn s g es (h9 rw) i) (h9 rw)[i].1 (h9 rw)[i].2.1 ax a1;have r5:nn s g es (h9 rw) (i+1)=nk s g (nn s g es (h9 rw) i) (h9 rw)[i].1 (h9 rw)[i].2.1:=by rw[r5];unfold ww;rw[if_pos ab]
  generalize(h9 rw)[i]=x at*;generalize nn s g es (h9 rw) i=ai at*;generalize nn s g es (h9 rw) (i+1)=ao at*;subst r5;exact⟨rfl,rfl,rfl,ar gO ⟨rfl,ae.sub trivial aA⟩⟩
 .intro y fV rr aB;exact air y rw 1 au5 ft.2 fV (fun i=>nn s g es (h9 rw) i) (fun i aH ab=>aB _ _ _ ⟨i,aH,ab,rfl,rfl,rfl⟩) (fun i aH ab=>by rw[TE s g es aH];unfold ww;rw[if_neg ab]) au5
 .exact bg
end
section
abbrev L5 (aK:bx):=Nat×(aa ak×aa aK)
def aiw {aK:bx} (p:L5 aK):Int:=p.2.1
def gone {aK:bx} (n:Int) (bF:ay5) (l:List (L5 aK)):List (L5 aK):=l.filter fun p=> !(bF.contains p.1&&decide (n<=aiw p))
theorem TG {es:List (aa ak×aa ak)} (h:eZ es) (f:Int): ∀n,eZ (sB es f n)
 |0=>h
 |n+1=>eZ.put rb (TG h f n)
theorem L6 {s g:Int} {es:List (aa ak×aa ak)} (h:eZ es) (fr bK:Int):eZ (nk s g es fr bK):=by
 unfold nk
 split
 .exact TG h _ _
 .exact h
theorem GJ {es:List (aa ak×aa ak)} (h:eZ es) (f:Int): ∀n,eZ (u0 es f n)
 |0=>h
 |n+1=>eZ.k7 (GJ h f n)
theorem TH {s g:Int} {es:List (aa ak×aa ak)} (h:eZ es) (m:List dM) (i:Nat):eZ (nn s g es m i):=by
 unfold nn;generalize m.take i=l
 induction l generalizing es with
 |nil=>exact h
 |cons x l br=>
  refine br (es:=ww s g es x) ?_;unfold ww
  split
  .exact L6 h _ _
  .exact h
end
end Go.Proofs.YthnboghbhgapcaaGreat
