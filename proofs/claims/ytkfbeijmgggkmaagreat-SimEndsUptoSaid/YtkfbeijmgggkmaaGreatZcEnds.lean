/-
A part of the proof of this claim: lemmas, with no condition beyond what each says.
-/
import Derived.Test.YtkfbeijmgggkmaaGreatZc22
set_option linter.unusedVariables false
set_option linter.unusedSimpArgs false
set_option maxRecDepth 10000
set_option maxHeartbeats 4000000
namespace Go.Proofs.YtkfbeijmgggkmaaGreat
open Go.RowKit Go.Proofs
section
def mK (w:bT):Nat:=match w.bD with
 | .c7 _ _ l _=>l.length
 | .pl top base _=>((List.range (cl w.L top)).filter (l2 w.L top base)).length
 | .pu _ _ _ l _ _ _=>l.length
 | .no=>0
theorem apB {w:bT} (aq:dP w):mK w<=cl w.L w.aQ:=by
 have hS:=aq.bD;unfold mK
 cases V:w.bD with
 |no=>exact aq9 _
 |c7 top base l over=>
  rw[V] at hS;obtain⟨rfl,_,a2⟩:=hS;exact a2.len.1
 |pl top base over=>
  rw[V] at hS;obtain⟨rfl,_⟩:=hS;have:=List.length_filter_le (l2 w.L w.aQ base) (List.range (cl w.L w.aQ));rw[List.length_range] at this;exact this
 |pu nm n rm l g over done=>
  rw[V] at hS;obtain⟨rfl,_,_,_,bl⟩:=hS;exact AV _ l bl.gF bl.lt
theorem Yf {p i5:Nat->Bool} {k:Nat} (ae:p k=true) (aP:i5 k=false) (h: ∀j,j≠k->i5 j=p j): ∀n,((List.range n).filter i5).length+(if k < n then 1 else 0)=((List.range n).filter p).length
 |0=>rfl
 |n+1=>by
  have bu:=Yf ae aP h n;rw[Hf,Hf,aq5,aq5]
  by_cases c:n=k
  .subst c;rw[if_neg (Nat.lt_irrefl _)] at bu;rw[ae,aP,if_pos (Nat.lt_succ_self _),if_neg aw1,if_pos rfl];show _+0+1=_+1;omega
  .rw[h n c]
   have e:(if k < n+1 then 1 else 0)=if k < n then 1 else 0:=by
    by_cases cG:k < n
    .rw[if_pos cG,if_pos aw0]
    .rw[if_neg cG,if_neg aw0]
   rw[e];omega
theorem apC {w w':bT} (aq:dP w) {s:dA} (Z:s.kd=8) (aC:fy w s 0 w'):w'.bD= .no\/mK w'+1<=mK w:=by
 obtain⟨d,H⟩:=at5.1 aq.kd;have hS:=aq.bD;rcases aC.Ey Z with⟨_,h,_⟩ |⟨top,base,l,V,U,hw⟩ |⟨top,base,V,U,hw⟩ |⟨nm,n,rm,l,g,V,ax⟩
 .exact absurd h aw1
 .by_cases a6:l=[]
  .subst a6;rw[ah2] at hw;rw[hw];exact .inl rfl
  .have af:gh w.z w.L top base l false=⟨false,(l3 w.z w.L top base (dE l)).e,(l3 w.z w.L top base (dE l)).L,if(l3 w.z w.L top base (dE l)).e=0 then l.erase (dE l) else l,false⟩:=by
    unfold gh;rw[if_neg aw1,if_neg a6]
   rw[af] at U hw;have U:0=(l3 w.z w.L top base (dE l)).e:=U;rw[if_pos U.symm] at hw;refine .inr ?_;have E:mK w=l.length:=by unfold mK;rw[V]
   have G:mK w'=(l.erase (dE l)).length:=by rw[hw];rfl
   have aw:=(yt a6).2.1;rw[E,G,List.length_erase_of_mem aw];have:=List.length_pos_of_mem aw;omega
 .rw[V] at hS;obtain⟨rfl,_⟩:=hS
  cases ae:rZ w.L w.aQ base with
  |none=>
   have af:hU w.z w.L w.aQ base false=⟨decide ((jc w.L w.aQ base).e=0),(jc w.L w.aQ base).e,(jc w.L w.aQ base).L,decide ((jc w.L w.aQ base).e=0)⟩:=by
    unfold hU;rw[if_neg (by rw[aq.kd];decide),ae]
   rw[af] at U hw;have U:0=(jc w.L w.aQ base).e:=U;rw[if_pos (ar6 U.symm)] at hw;rw[hw];exact .inl rfl
  |some k=>
   have af:hU w.z w.L w.aQ base false=⟨false,(eU w.z w.L w.aQ ((k*2 ^w.z:Nat):Int) (e8 w.z w.L w.aQ (k:Int))).e,(eU w.z w.L w.aQ ((k*2 ^w.z:Nat):Int) (e8 w.z w.L w.aQ (k:Int))).L,false⟩:=by
    unfold hU;rw[if_neg (by rw[aq.kd];decide),ae]
   rw[af] at U hw;have U:0=(eU w.z w.L w.aQ ((k*2 ^w.z:Nat):Int) (e8 w.z w.L w.aQ (k:Int))).e:=U;obtain⟨O,b',fc,_⟩:=TX ae;have aR:cl w.L w.aQ=d.im.t.length:=ay5
   obtain⟨L',E,_,⟨cT,dn,_,f1,_⟩,_,_,aW,bG,_⟩:=ahy (base:=base) aq.cs H aw0 U.symm
   have pP:cl L' w.aQ=d.im.t.length:=by
    rw[<-f1];unfold cl;rw[dn]
   rw[E] at hw;have ao:mK w=((List.range (cl w.L w.aQ)).filter (l2 w.L w.aQ base)).length:=by unfold mK;rw[V]
   have bm:mK w'=((List.range (cl L' w.aQ)).filter (l2 L' w.aQ base)).length:=by rw[hw];rfl
   have:=Yf fc bG aW (cl w.L w.aQ);rw[if_pos b'] at this;rw[ao,bm,pP,<-aR];exact .inr aw0
 .rcases ax with⟨_,t,_,rfl⟩ |⟨a6,U,rfl⟩
  .exact .inl rfl
  .by_cases aY:rm<=((g.length:Nat):Int)
   .have af:ek w.z w.L nm rm l g (dE l)=⟨171,[],g,true⟩:=if_pos aY;rw[af] at U;exact absurd U (show¬(0:Int)=171 by decide)
   .have af:ek w.z w.L nm rm l g (dE l)=⟨0,l.erase (dE l),g++[(dE l,e8 w.z w.L nm (dE l:Int))],false⟩:=if_neg aY;rw[af];have E:mK w=l.length:=by unfold mK;rw[V]
    have aw:=(yt a6).2.1;refine .inr ?_;rw[E];show(l.erase (dE l)).length+1<=l.length;rw[List.length_erase_of_mem aw];have:=List.length_pos_of_mem aw;omega
end
section
abbrev apD (l:List ih) (k:Nat):aX:=[(1,bv en l),(2,ah 2),(5,ah 1401),(32,bv en l),(33,ac (l.length:Nat)),(34,ac (k:Nat))]
abbrev ED (x y aB:Int) (w:bT):ay:=cO w++[(2,.cells (zd x y aB))]
abbrev apE (l:List ih) (n i:Nat):aX:=[(1,bv en l),(2,ah 2),(5,ah 1401),(45,ac (((n:Nat):Int)+1)),(46,ac (i:Nat))]
theorem apF (x y aB:Int) (l:List ih) (ap:lf l):Fn Tryz.prog 5 [BA x y aB,bv en l] [] [] (fk true) []:=by
 have ha:=IU;have hf:=ap.q4 x y aB;have lq:=ap.len
 cases aw:h7 x y aB with
 |false=>
  have hn:=IV x y aB aw;refine aT [] Tryz.func5 ?_;exact⟨rfl,ak hn <| d7 <| ak ha bc⟩
 |true=>
  have nv:=aw;simp only[h7,vj,as1] at nv;obtain⟨⟨⟨uV,Cu⟩,vO,n3⟩,gb,gU⟩:=nv;obtain⟨z,rfl⟩:=Int.eq_ofNat_of_zero_le gb;obtain⟨R,rfl⟩:=Int.eq_ofNat_of_zero_le vO;obtain⟨n,rfl⟩:=Int.eq_ofNat_of_zero_le uV;have kn:((n:Nat):Int)*((2 ^((z:Nat):Int).toNat:Nat):Int)=((n*2 ^z:Nat):Int):=az0
  have t8:n*2 ^z<=2048:=by
   have gJ:2 ^z<=2 ^3:=Nat.pow_le_pow_right aw1 aw0;have aw:n*2 ^z<=256*8:=Nat.mul_le_mul aw0 gJ;omega
  have hn:=Ex z R n (by simp only[h7,vj,as1];omega) aw;refine aT [1,2,7,9,13] Tryz.func5 ?_;refine⟨rfl,bk.gz ee aw3 <| hp hn fun q=>?_⟩;obtain⟨p,ef⟩:=q;refine bk.eH (c5.mark 4001 4009 rfl aw1) fun db=>?_
  refine bk.le (ab.trans (ab.pC 1401 3 4001 4009 db rfl rfl rfl) (ab.trans (ab.pD 4001 4009 db rfl rfl) (ab.trans (ab.ll 1101 rfl) (ab.put 1101 4001 aw1 rfl rfl)))) <| bk.eH (c5.mark 3001 3009 rfl aw1) fun lb=>bk.le (ab.trans (ab.pC 1401 5 3001 3009 lb rfl rfl rfl) (ab.trans (ab.pD 3001 3009 lb rfl rfl) (ab.trans (ab.ll 1301 rfl) (ab.put 1301 3001 aw1 rfl rfl)))) <| bk.le (ab.trans (ab.nh 1401 8 rfl rfl) (ab.trans (ab.nh 1401 9 rfl rfl) (ab.trans (ab.nh 1401 16 rfl rfl) (ab.trans (ab.ll 1601 rfl) (ab.Ei 1501 1001 rfl aw1))))) ?_
  have av:=Ez aw ef db lb;have zg:=IS aw p
  cases bd:pF n l with
  |false=>
   rw[bd] at hf;exact br [] (cw [(1,bv en l),(2,ah 2),(5,ah 1401),(6,ac 0)] (ED z n R (e' z R n p db lb))) <| cX <| ak hf <| d7 <| ak ha bc
  |true=>
   rw[bd] at hf;refine br [7,9,13] (cw [(1,bv en l),(2,ah 2),(5,ah 1401),(6,ac 0)] (ED z n R (e' z R n p db lb))) <| cX <| ak hf <| cX ?_;refine dG [7,9,13] (X:=Nat×bT) (fun g=>apD l g.1) (fun g=>ED z n R g.2) (fun g=>g.1<=l.length/\dP g.2/\g.2.z=z/\cl g.2.L g.2.aQ=n) (fun g=>l.length - g.1) (0,e' z R n p db lb) ⟨aq9 _,av,rfl,by show cl (qj z R n p) e1=n;rw[zg];omega⟩ ?_ ?_
   .exact ab.sub az az
   rintro⟨k,w⟩ ⟨Z,aq,lO,cu⟩;have Z:k<=l.length:=Z;have aq:dP w:=aq;have lO:w.z=z:=lO;have cu:cl w.L w.aQ=n:=cu;refine⟨fun h=>?_,fun h=>?_⟩
   .have b':k < l.length:=by
     have h:decide ((k:Int) < (l.length:Int))=true:=h;simpa using h
    refine⟨aw0,l[k],iR (n:=k) b',?_⟩;have h4:=as3 b';generalize l[k]=o at h4;have d':=ap.step h4;have vP:=zb w aq (ct o) (ap.EB bd h4);refine⟨rfl,bk.gz ee aw3 <| hp d'.x fun _=>hp vP fun g=>?_⟩;obtain⟨⟨e,w'⟩,aC⟩:=g;have pH:dP w':=aq.step aC;have rh:md w w':=fy.dZ aq aC;refine⟨aw0,(k+1,w'),⟨by show k+1<=l.length;omega,pH,rh.bi.trans lO,rh.aS.trans cu⟩,by show l.length - (k+1) < l.length - k;omega,ab.sub az az⟩
   .show bk _ _ _ _ _ _ _;refine br [13] (cw [(1,bv en l),(2,ah 2),(5,ah 1401)] (ED z n R w)) ⟨aw0,?_⟩;refine dG [13] (X:=Nat×bT) (fun g=>apE l n g.1) (fun g=>ED z n R g.2) (fun g=>g.1<=n+1/\dP g.2/\cl g.2.L g.2.aQ=n/\(g.2.bD= .no\/mK g.2+g.1<=n)) (fun g=>n+1 - g.1) (0,w) ⟨aq9 _,aq,cu,.inr (by have:=apB aq;show mK w+0<=n;omega)⟩ ?_ ?_
    .exact ab.sub az az
    rintro⟨i,w⟩ ⟨aG,aq,cu,cH⟩;have aG:i<=n+1:=aG;have aq:dP w:=aq;have cu:cl w.L w.aQ=n:=cu;have cH:w.bD= .no\/mK w+i<=n:=cH;have gJ:=zf w aq IT (pE.of aw1 aw1 aw1 rfl) rfl rfl;refine⟨fun h=>?_,fun h=>?_⟩
    .have dJ:i < n+1:=by
      have h:decide ((i:Int) < ((n:Nat):Int)+1)=true:=h;have:=gd h;omega
     refine ak (BB w) ⟨fun _=>?_,fun V=>?_⟩
     .exact ak ha bc
     refine bk.gz ee aw3 ?_;refine hp gJ fun g=>?_
     obtain⟨⟨e,w'⟩,aC⟩:=g;have pH:dP w':=aq.step aC;have rh:md w w':=fy.dZ aq aC;refine⟨fun _=>?_,fun U=>?_⟩
     .exact ak ha bc
     have U:(!decide (e=0))=false:=U;have U:e=0:=by simpa using U
     subst U;have V:rb w.bD≠0:=mu V;have cH:mK w+i<=n:=cH.resolve_left fun h=>V (by rw[h];rfl)
     have NW:w'.bD= .no\/mK w'+(i+1)<=n:=(apC aq rfl aC).imp id fun h=>by
      have h:mK w'+1<=mK w:=h;omega
     refine⟨aw0,(i+1,w'),⟨by show i+1<=n+1;omega,pH,rh.aS.trans cu,NW⟩,by show n+1 - (i+1) < n+1 - i;omega,ab.sub az az⟩
    .have ox:i=n+1:=by
      have h:decide ((i:Int) < ((n:Nat):Int)+1)=false:=h;have:=mu h;omega
     have V:w.bD= .no:=cH.resolve_right aw0;refine ak ha <| d7 <| ak (BB w) ?_;exact ej bq rfl (show decide (rb w.bD=0)=true by rw[V];rfl)
end
end Go.Proofs.YtkfbeijmgggkmaaGreat
