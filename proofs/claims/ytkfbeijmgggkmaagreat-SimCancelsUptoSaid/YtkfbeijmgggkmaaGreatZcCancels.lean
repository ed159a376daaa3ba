/-
A part of the proof of this claim: lemmas, with no condition beyond what each says.
-/
import Derived.Test.YtkfbeijmgggkmaaGreatZc22
set_option linter.unusedVariables false
set_option linter.unusedSimpArgs false
set_option maxRecDepth 10000
set_option maxHeartbeats 4000000
namespace Go.Proofs.YtkfbeijmgggkmaaGreat
open Go.RowKit Go.Proofs
abbrev apG (l:List ih) (k:Nat):aX:=[(1,bv en l),(2,ah 2),(5,ah 1401),(40,bv en l),(41,ac (l.length:Nat)),(42,ac (k:Nat))]
abbrev BD (x y aB:Int) (w:bT):ay:=cO w++[(2,.cells (zd x y aB))]
theorem apH (x y aB:Int) (l:List ih) (ap:lf l):Fn Tryz.prog 8 [BA x y aB,bv en l] [] [] (fk true) []:=by
 have ha:=IU;have hf:=ap.q4 x y aB;have lq:=ap.len
 cases aw:h7 x y aB with
 |false=>
  have hn:=IV x y aB aw;refine aT [] Tryz.func8 ?_;exact⟨rfl,ak hn <| d7 <| ak ha bc⟩
 |true=>
  have nv:=aw;simp only[h7,vj,as1] at nv;obtain⟨⟨⟨uV,Cu⟩,vO,n3⟩,gb,gU⟩:=nv;obtain⟨z,rfl⟩:=Int.eq_ofNat_of_zero_le gb;obtain⟨R,rfl⟩:=Int.eq_ofNat_of_zero_le vO;obtain⟨n,rfl⟩:=Int.eq_ofNat_of_zero_le uV;have kn:((n:Nat):Int)*((2 ^((z:Nat):Int).toNat:Nat):Int)=((n*2 ^z:Nat):Int):=az0
  have t8:n*2 ^z<=2048:=by
   have gJ:2 ^z<=2 ^3:=Nat.pow_le_pow_right aw1 aw0;have aw:n*2 ^z<=256*8:=Nat.mul_le_mul aw0 gJ;omega
  have hn:=Ex z R n (by simp only[h7,vj,as1];omega) aw;refine aT [1,2,7,9,11,12,13] Tryz.func8 ?_;refine⟨rfl,bk.gz ee aw3 <| hp hn fun q=>?_⟩;obtain⟨p,ef⟩:=q;refine bk.eH (c5.mark 4001 4009 rfl aw1) fun db=>?_
  refine bk.le (ab.trans (ab.pC 1401 3 4001 4009 db rfl rfl rfl) (ab.trans (ab.pD 4001 4009 db rfl rfl) (ab.trans (ab.ll 1101 rfl) (ab.put 1101 4001 aw1 rfl rfl)))) <| bk.eH (c5.mark 3001 3009 rfl aw1) fun lb=>bk.le (ab.trans (ab.pC 1401 5 3001 3009 lb rfl rfl rfl) (ab.trans (ab.pD 3001 3009 lb rfl rfl) (ab.trans (ab.ll 1301 rfl) (ab.put 1301 3001 aw1 rfl rfl)))) <| bk.le (ab.trans (ab.nh 1401 8 rfl rfl) (ab.trans (ab.nh 1401 9 rfl rfl) (ab.trans (ab.nh 1401 16 rfl rfl) (ab.trans (ab.ll 1601 rfl) (ab.Ei 1501 1001 rfl aw1))))) ?_
  have av:=Ez aw ef db lb;have zg:=IS aw p
  cases bd:pF n l with
  |false=>
   rw[bd] at hf;exact br [] (cw [(1,bv en l),(2,ah 2),(5,ah 1401),(6,ac 0)] (BD z n R (e' z R n p db lb))) <| cX <| ak hf <| d7 <| ak ha bc
  |true=>
   rw[bd] at hf;refine br [7,9,11,12,13] (cw [(1,bv en l),(2,ah 2),(5,ah 1401),(6,ac 0)] (BD z n R (e' z R n p db lb))) <| cX <| ak hf <| cX ?_;refine dG [7,9,11,12,13] (X:=Nat×bT) (fun g=>apG l g.1) (fun g=>BD z n R g.2) (fun g=>g.1<=l.length/\dP g.2/\g.2.z=z/\cl g.2.L g.2.aQ=n) (fun g=>l.length - g.1) (0,e' z R n p db lb) ⟨aq9 _,av,rfl,by show cl (qj z R n p) e1=n;rw[zg];omega⟩ ?_ ?_
   .exact ab.sub az az
   rintro⟨k,w⟩ ⟨Z,aq,lO,cu⟩;have Z:k<=l.length:=Z;have aq:dP w:=aq;have lO:w.z=z:=lO;have cu:cl w.L w.aQ=n:=cu;refine⟨fun h=>?_,fun h=>?_⟩
   .have b':k < l.length:=by
     have h:decide ((k:Int) < (l.length:Int))=true:=h;simpa using h
    refine⟨aw0,l[k],iR (n:=k) b',?_⟩;have h4:=as3 b';generalize l[k]=o at h4;have d':=ap.step h4;have vP:=zb w aq (ct o) (ap.EB bd h4);refine⟨rfl,bk.gz ee aw3 <| hp d'.x fun _=>hp vP fun g=>?_⟩;obtain⟨⟨e,w'⟩,aC⟩:=g;have pH:dP w':=aq.step aC;have rh:md w w':=fy.dZ aq aC;refine⟨aw0,(k+1,w'),⟨by show k+1<=l.length;omega,pH,rh.bi.trans lO,rh.aS.trans cu⟩,by show l.length - (k+1) < l.length - k;omega,ab.sub az az⟩
   .have rs:=zf w aq Ye (pE.of aw1 aw1 aw1 rfl) rfl rfl;have tq:=EC w aq.cs 0 (((n:Nat):Int)*((2 ^((z:Nat):Int).toNat:Nat):Int));have n3:Fn Tryz.prog 14 [ah 1401,ac 0,ac (((n:Nat):Int)*((2 ^((z:Nat):Int).toNat:Nat):Int))] (sk {w with bD:=.no}) [] (.cb [.one (.d (.cf .u8 (ou w.z w.L w.aQ 0 (((n:Nat):Int)*((2 ^((z:Nat):Int).toNat:Nat):Int))).1)),dp (ou w.z w.L w.aQ 0 (((n:Nat):Int)*((2 ^((z:Nat):Int).toNat:Nat):Int))).2]) (sk {w with bD:=.no}):=EC {w with bD:=.no} aq.cs 0 _;have fZ:=Bu aq.q.tolE w.lb;have ud:Fn Tryz.prog 25 [c8 w.db,.c (.one (.d (.lit true)))] [(1101,.aF (.bw [(w.db,ni w.ds)]))] [] (bv .u8 (mE true w.ds)) [(1101,.aF (.bw [(w.db,ni w.ds)]))]:=Fn.arg (apz aq.ds w.db true) az;refine br [11,12,13] (cw [(1,bv en l),(2,ah 2),(5,ah 1401)] (BD z n R w)) ⟨⟨aw0,aw0,aw0⟩,?_⟩;refine⟨⟨by rw[kn];omega,by rw[kn];omega⟩,ak tq <| ak (BC w) <| ak fZ <| ak (IW w) <| ak ud ⟨eM aw3,?_⟩⟩;generalize(ou w.z w.L w.aQ 0 (((n:Nat):Int)*((2 ^((z:Nat):Int).toNat:Nat):Int)))=rd at*;refine br [12,13] (cw [(1,bv en l),(2,ah 2),(5,ah 1401),(9,bv .u8 rd.1),(11,bQ (iu w.Q)),(12,bQ (mE true w.ds))] (BD z n R w)) <| ak (BB w) <| bk.gz ee aw3 <| hp rs fun g=>?_
    obtain⟨⟨q6,kb⟩,tq⟩:=g
    have zo:kb={w with bD:=.no}/\(decide (q6=0)=decide (0 < rb w.bD)):=by
     rcases tq.Yd rfl with⟨h,G,e⟩ |⟨h,G,e⟩
     .have e:kb=w:=e;have G:q6=1:=G;rw[e,G,h];refine⟨?_,rfl⟩;rw[<-h]
     .have G:q6=0:=G;rw[G];refine⟨e,?_⟩
      cases V:w.bD with
      |no=>rw[V] at h;cases h
      |_=>rfl
    obtain⟨zo,aZ⟩:=zo;subst zo;refine br [] (cw [(1,bv en l),(2,ah 2),(5,ah 1401),(9,bv .u8 rd.1),(11,bQ (iu w.Q)),(12,bQ (mE true w.ds)),(13,ac (rb w.bD)),(14,ac q6)] (BD z n R {w with bD:=.no})) ⟨⟨aw0,aw0,aw0⟩,?_⟩;refine⟨⟨by rw[kn];omega,by rw[kn];omega⟩,ak n3 <| ak ha <| d7 ?_⟩;refine⟨fun _=>?_,fun h=>absurd h (by rw[aZ];simp)⟩;refine ak (BB {w with bD:=.no}) ⟨fun _=>⟨fun _=>?_,fun h=>absurd h aw2⟩,fun h=>absurd h (by simp[rb])⟩;refine ak (BC {w with bD:=.no}) <| ak fZ ⟨fun _=>?_,fun h=>absurd h aw2⟩;exact ak (IW {w with bD:=.no}) <| ak ud <| ej bq rfl (show decide (mE true w.ds=mE true w.ds)=true by simp)
end Go.Proofs.YtkfbeijmgggkmaaGreat
