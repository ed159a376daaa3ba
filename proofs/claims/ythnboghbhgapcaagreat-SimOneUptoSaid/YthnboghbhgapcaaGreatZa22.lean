/-
A part of the proof of this claim: lemmas, with no condition beyond what each says.
-/
import Derived.Test.YthnboghbhgapcaaGreatZa21
set_option linter.unusedVariables false
set_option linter.unusedSimpArgs false
set_option maxRecDepth 10000
namespace Go.Proofs.YthnboghbhgapcaaGreat
open Go.RowKit Go.Proofs
section
theorem aoq (z U:Int) (h:kq z 0 U=false):Fn Tryz.prog 17 [ae z,ae U] [] [] (.ce [mF,dw 1]) []:=by
 refine aW [] Tryz.func17 rfl rfl rfl rfl ?_;refine au (RM z 0 U h) ?_;refine eO ?_;exact aT aH rfl ac trivial rfl
theorem aor (b s r:Int) (h:kq b s r=false):Fn Tryz.prog 5 [ae b,ae s,ae r] [] [] (.ce [mF,dw 1]) []:=by
 by_cases E:kq b 0 r=true
 .have aA:=E;simp only[kq,vj,ar5] at aA;obtain⟨⟨_,NX,r5⟩,gQ,hc⟩:=aA;obtain⟨z,rfl⟩:=Int.eq_ofNat_of_zero_le gQ;obtain⟨U,rfl⟩:=Int.eq_ofNat_of_zero_le NX;have eD:cE z U []:=cE.nil au5 au5
  have V:(h7 z U [] fo s [] (0,0)).e=1:=by
   unfold h7;rw[if_pos (by rw[h];rfl)]
  have hn:=RR z U au5 au5;have ha:=Nx eD fo s [] au6;rw[V] at ha;refine aW [2] Tryz.func5 rfl rfl rfl rfl ?_;refine au hn ?_;refine bz [] (af.close 1001 (bP z U []) (o:=DG z U []) ac rfl fun I F x p h=>h) ?_;refine da ?_;refine au ha ?_;refine eO ?_;exact aT aH rfl ac trivial rfl
 .have hn:=aoq b r (at4.2 E);refine aW [] Tryz.func5 rfl rfl rfl rfl ?_;refine au hn ?_;refine eO ?_;exact aT aH rfl ac trivial rfl
theorem NY (x:ka):lU (cm x)+(cm x).ks.length+1<=fF ic x:=by
 have E:=WR (cm x).b;have G:=WT (cm x).ks;have e:fF ic x=1+(1+(1+(fF (.b7 .u8) (cm x).b+((1+(cm x).nm.length)+((1+(cm x).fm.length)+fF (.b7 lP) (cm x).ks))))):=rfl;have ap:lU (cm x)=(cm x).b.length+(cm x).nm.length+(cm x).fm.length+((cm x).ks.map lT).sum:=rfl;rw[e,E,G,ap];omega
theorem W': ∀l:List ka,l.length+(l.map fun x=>lU (cm x)).sum<=fF (.b7 ic) l/\ ∀x∈l,fF ic x<=fF (.b7 ic) l
 | []=>⟨ap7 _,fun x h=>(by cases h)⟩
 |o::l=>by
  obtain⟨E,G⟩:=W' l;have e:fF (.b7 ic) (o::l)=1+(fF ic o+(List.map (fF ic) l).sum):=rfl;have ap:fF (.b7 ic) l=1+(List.map (fF ic) l).sum:=rfl;have bm:=NY o;refine⟨?_,fun x hx=>?_⟩
  .rw[e,as4,aq4,List.sum_cons];omega
  .rcases ap3.1 hx with rfl |hx
   .rw[e];omega
   .have:=G x hx;rw[e];omega
structure pW (l:List ka):Prop where
 len:l.length<=1048576
 sum:(l.map fun x=>lU (cm x)).sum<=1048576
 ks: ∀o,o∈l->(cm o).ks.length<=1048576
 l: ∀o,o∈l->(cm o).l<=9223372036854775807
theorem pW.of {l:List ka} (h:fF (.b7 ic) l<=1048576) (aq: ∀o,o∈l->(cm o).l<=9223372036854775807):pW l:=by
 obtain⟨E,G⟩:=W' l;refine⟨au5,au5,fun o ai=>?_,aq⟩;have:=G o ai;have:=NY o;omega
theorem pW.one {x:ka} (h:fF ic x<=1048576) (aq:(cm x).l<=9223372036854775807):pW [x]:=by
 have:=NY x;refine⟨by show 1<=1048576;decide,?_,fun o ai=>?_,fun o ai=>?_⟩
 .show lU (cm x)+0<=_;omega
 .obtain rfl:=aq0.1 ai;omega
 .obtain rfl:=aq0.1 ai;exact aq
theorem pW.rH {l:List ka} (h:pW l) (x y aB:Int):Fn Tryz.prog 6 [NU x y aB,bS ic l] [] [] (fI (rP y l)) []:=
 an2 x y aB l (by have:=h.len;omega) (by have:=h.sum;omega) fun o ai=>by have:=h.ks o ai;omega
theorem pW.Xa {l:List ka} (h:pW l) {y:Int} (hf:rP y l=true) {x:ka} (hx:x∈l):tN (cm x):=by
 obtain⟨E,G,al⟩:=an5 hf hx;exact⟨au5,au5,h.l x hx,by have:=h.ks x hx;omega,fun k ab=>by have:=al k ab;omega⟩
theorem pW.step {l:List ka} (h:pW l) {x:ka} (hx:x∈l):Fn Tryz.prog 9 [hX (cm x)] [] [] (hX (cm x)) []:=anZ (cm x) (by have:=h.ks x hx;omega)
theorem aos (j:jU):0<=tL j/\tL j<=3:=by cases j <;>(constructor <;>simp[tL])
theorem aot {j:jU} (h:tL j≠0):ny j=false:=by
 cases j with
 |no=>exact absurd rfl h
 |_=>rfl
theorem hv.Ac {w w':cj} {s:dB} {e:Int} (ab:s.kd=3\/(5<=s.kd/\s.kd<=7)) (aa:ny w.bQ=false) (h:hv w s e w'):e=143/\w'=w:=by
 have HU:w.bQ≠ .no:=fun h=>by rw[h] at aa;cases aa
 cases h with
 |busy h aa=>exact⟨rfl,rfl⟩
 |over h aa aF=>exact absurd aa HU
 |merge h aa aF=>exact absurd aa HU
 |pull h aa aF=>exact absurd aa HU
 |push h aa aF=>exact absurd aa HU
 |_=>omega
abbrev HV (w:cj):ay:=lS w.z w.U w.L w.es w.M w.bc w.db w.lb (tL w.bQ) (qJ w.b w.bQ) (wH w.b w.bQ) (wI w.b w.bQ) w.bH
theorem HW (w:cj):Fn Tryz.prog 10 [ao 1401] (HV w) [] (ae (tL w.bQ)) (HV w):=Ns
theorem NZ (w:cj):Fn Tryz.prog 11 [ao 1401] (HV w) [] (bV w.bc) (HV w):=Wh
theorem Xb {o:ka} (h:q6 ic o):(cm o).l<=9223372036854775807:=by
 have G:(Lit.int .i64 (cm o).l).wf=true:=h.2.2.1;have al:(decide (IntKind.i64.min<=(cm o).l)&&decide ((cm o).l<=IntKind.i64.max))=true:=G;simp only[vj] at al;exact gd al.2
theorem aou {l:List ka} (h:q6 (.b7 ic) l): ∀o,o∈l->(cm o).l<=9223372036854775807:=fun o ai=>Xb (h o ai)
end
section
abbrev aov (l:List ka) (k:Nat):a1:=[(1,bS ic l),(3,ao 3),(5,ao 5),(7,ao 1401),(44,bS ic l),(45,ae (l.length:Nat)),(46,ae (k:Nat))]
abbrev DQ (x y aB:Int) (s:dB) (w:cj):ay:=cN w++[(3,.cells (HS x y aB)),(5,.cells (HC s))]
set_option maxHeartbeats 2000000 in
theorem aow (x y aB:Int) (l:List ka) (s:ka) (aq:pW l) (ax:pW [s]):Fn Tryz.prog 3 [NU x y aB,bS ic l,hX (cm s)] [] [] (fI true) []:=by
 have ha:=aop;have hf:=aq.rH x y aB;have HX:=ax.rH x y aB;have mI:=aq.len
 cases aA:kq x y aB with
 |false=>
  have hn:=aor x y aB aA;refine aW [] Tryz.func3 rfl rfl rfl rfl ?_;refine⟨rfl,rfl,au hn ?_⟩;refine eO ?_;refine au ha ?_;exact aT aH rfl rfl trivial rfl
 |true=>
  have vX:=aA;simp only[kq,vj,ar5] at vX;obtain⟨⟨_,NX,r5⟩,gQ,hc⟩:=vX;obtain⟨z,rfl⟩:=Int.eq_ofNat_of_zero_le gQ;obtain⟨U,rfl⟩:=Int.eq_ofNat_of_zero_le NX;have hn:=WQ z U y (by simp only[kq,vj,ar5];omega) aA;refine aW [1,2,7,12,15] Tryz.func3 rfl rfl rfl rfl ?_;refine⟨rfl,rfl,bt.h3 eN au8 ?_⟩;refine iE hn fun q=>?_
  obtain⟨p,eD⟩:=q;refine bt.eY (df.mark 4001 4009 rfl au6) fun db=>?_
  refine bt.le (af.trans (af.vh 1401 3 4001 4009 db rfl rfl rfl) (af.trans (af.vi 4001 4009 db rfl rfl) (af.trans (af.q8 1101 rfl) (af.put 1101 4001 au6 rfl rfl)))) ?_;refine bt.eY (df.mark 3001 3009 rfl au6) fun lb=>?_
  refine bt.le (af.trans (af.vh 1401 5 3001 3009 lb rfl rfl rfl) (af.trans (af.vi 3001 3009 lb rfl rfl) (af.trans (af.q8 1301 rfl) (af.put 1301 3001 au6 rfl rfl)))) ?_;refine bt.le (af.trans (af.vf 1401 8 rfl rfl) (af.trans (af.vf 1401 9 rfl rfl) (af.trans (af.vf 1401 16 rfl rfl) (af.trans (af.q8 1601 rfl) (af.V9 1501 1001 rfl au6))))) ?_;have aw:=W2 aA eD db lb
  cases bj:rP y l with
  |false=>
   rw[bj] at hf;refine bz [] (cG [(1,bS ic l),(3,ao 3),(5,ao 5),(7,ao 1401),(8,ae 0)] (DQ z y U (cm s) (f2 z U y p db lb))) ?_;refine da ?_;refine au hf ?_;refine eO ?_;refine au ha ?_;exact aT aH rfl rfl trivial rfl
  |true=>
   rw[bj] at hf
   cases iV:rP y [s] with
   |false=>
    rw[iV] at HX;refine bz [] (cG [(1,bS ic l),(3,ao 3),(5,ao 5),(7,ao 1401),(8,ae 0)] (DQ z y U (cm s) (f2 z U y p db lb))) ?_;refine da ?_;refine au hf ?_;refine da ?_;refine au HX ?_;refine eO ?_;refine au ha ?_;exact aT aH rfl rfl trivial rfl
   |true=>
    rw[iV] at HX;refine bz [7,12,15] (cG [(1,bS ic l),(3,ao 3),(5,ao 5),(7,ao 1401),(8,ae 0)] (DQ z y U (cm s) (f2 z U y p db lb))) ?_;refine da ?_;refine au hf ?_;refine da ?_;refine au HX ?_;refine da ?_;refine dX [7,12,15] (X:=Nat×cj) (fun g=>aov l g.1) (fun g=>DQ z y U (cm s) g.2) (fun g=>g.1<=l.length/\fO g.2) (fun g=>l.length - g.1) (0,f2 z U y p db lb) ⟨ap7 _,aw⟩ ?_ ?_
    .exact af.sub ac ac
    rintro⟨k,w⟩ ⟨ab,aE⟩;have ab:k<=l.length:=ab;have aE:fO w:=aE;refine⟨fun h=>?_,fun h=>?_⟩
    .have cn:k < l.length:=by
      have h:decide ((k:Int) < (l.length:Int))=true:=h;simpa using h
     refine⟨au5,l[k],jv (n:=k) cn,?_⟩;have k4:=ar3 cn;generalize l[k]=o at k4;have eu:=aq.step k4;have HY:=HR w aE (cm o) (aq.Xa bj k4);refine⟨rfl,bt.h3 eN au8 ?_⟩;refine iE eu.x fun _=>?_
     refine iE HY fun g=>?_
     obtain⟨⟨e,w'⟩,aF⟩:=g;have aox:fO w':=aE.step aF;have kQ:=aos w'.bQ;refine au (HW w') ?_;refine⟨fun h=>absurd (gd h) au5,fun _=>?_⟩;refine⟨fun h=>absurd (gd h) au5,fun _=>?_⟩;refine⟨au5,(k+1,w'),⟨by show k+1<=l.length;omega,aox⟩,by show l.length - (k+1) < l.length - k;omega,af.sub ac ac⟩
    .have JM:=ax.step (aq0.2 rfl);have HY:=HR w aE (cm s) (ax.Xa iV (aq0.2 rfl));refine bz [15] (cG [(1,bS ic l),(3,ao 3),(5,ao 5),(7,ao 1401)] (DQ z y U (cm s) w)) ?_;refine au (HW w) ?_;refine au (NZ w) ?_;refine⟨fun _=>?_,fun aa=>?_⟩
     .refine au ha ?_;exact aT aH rfl rfl trivial rfl
     .have e4:=aot (mu aa);refine⟨fun cB=>?_,fun cB=>?_⟩
      .have cB:(!decide ((cm s).kd=3))=true:=cB;have cB:(cm s).kd≠3:=by simpa using cB
       refine⟨fun cL=>?_,fun cL=>?_⟩
       .refine au ha ?_;exact aT aH rfl rfl trivial rfl
       .have cL: ¬(cm s).kd < 5:=mu cL;refine⟨fun gP=>?_,fun gP=>?_⟩
        .refine au ha ?_;exact aT aH rfl rfl trivial rfl
        .have gP: ¬7 < (cm s).kd:=mu gP;refine bt.h3 eN au8 ?_;refine iE ha.x fun _=>?_
         refine eO ?_;refine iE JM.x fun _=>?_
         refine iE HY fun g=>?_
         obtain⟨⟨e,w'⟩,aF⟩:=g;obtain⟨V,hw⟩:=aF.Ac au5 e4;have V:e=143:=V;have hw:w'=w:=hw;subst V hw;refine⟨fun _=>?_,fun h=>absurd (show decide ((143:Int)=143)=false from h) au6⟩;refine iE ((HW w').x) fun _=>?_
         refine⟨fun _=>?_,fun h=>absurd h au7⟩;refine iE ((NZ w').x) fun _=>?_
         exact aT aH rfl (show decide (w'.bc=w'.bc)=true by simp) trivial rfl
      .have cB:(!decide ((cm s).kd=3))=false:=cB;have cB:(cm s).kd=3:=by simpa using cB
       refine bt.h3 eN au8 ?_;refine iE ha.x fun _=>?_
       refine eO ?_;refine iE JM.x fun _=>?_
       refine iE HY fun g=>?_
       obtain⟨⟨e,w'⟩,aF⟩:=g;obtain⟨V,hw⟩:=aF.Ac au5 e4;have V:e=143:=V;have hw:w'=w:=hw;subst V hw;refine⟨fun _=>?_,fun h=>absurd (show decide ((143:Int)=143)=false from h) au6⟩;refine iE ((HW w').x) fun _=>?_
       refine⟨fun _=>?_,fun h=>absurd h au7⟩;refine iE ((NZ w').x) fun _=>?_
       exact aT aH rfl (show decide (w'.bc=w'.bc)=true by simp) trivial rfl
end
end Go.Proofs.YthnboghbhgapcaaGreat
