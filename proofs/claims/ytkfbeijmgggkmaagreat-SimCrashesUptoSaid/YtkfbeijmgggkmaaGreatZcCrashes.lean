/-
A part of the proof of this claim: lemmas, with no condition beyond what each says.
-/
import Derived.Test.YtkfbeijmgggkmaaGreatZc22
set_option linter.unusedVariables false
set_option linter.unusedSimpArgs false
set_option maxRecDepth 10000
set_option maxHeartbeats 4000000
namespace Go.Proofs.YtkfbeijmgggkmaaGreat
open Go.RowKit Go.Proofs
abbrev apI (ks:List j') (l:List ih) (k:Nat):aX:=[(1,bv en l),(2,bv ie ks),(3,ah 3),(7,ah 1401),(52,bv en l),(53,ac (l.length:Nat)),(54,ac (k:Nat))]
abbrev xk (x y aB:Int) (w:bT):ay:=cO w++[(3,.cells (zd x y aB))]
abbrev xl (k:Int) (ks:List j'):ih:=(k,((0:Int),((0:Int),(([]:aA0),(([]:aA0),(([]:aA0),ks))))))
theorem lf.hG {ks:List j'} (h:eY (.b4 ie) ks<=1048576):lf [xl 0 ks]:=by
 rw[O2] at h;have e:ld (ct (xl 0 ks))=0+0+0+(ks.map lJ).sum:=rfl;refine⟨by show 1<=1048576;decide,by show ld (ct (xl 0 ks))+0<=_;omega,fun o ag=>?_,fun o ag=>?_⟩
 .obtain rfl:=ar5.1 ag;show ks.length<=_;omega
 .obtain rfl:=ar5.1 ag;show(0:Int)<=_;omega
abbrev apJ (ks:List j') (l:List ih) (F Q:aA0) (ns:List aA0) (i:Nat):aX:=[(1,bv en l),(2,bv ie ks),(3,ah 3),(7,ah 1401),(11,bv .u8 F),(13,bQ Q),(14,ac 0),(15,bv .u8 F),(16,ac 0),(94,bv .str ns),(95,ac (ns.length:Nat)),(96,ac (i:Nat))]
theorem apK (x y aB:Int) (l:List ih) (ks:List j') (ap:lf l) (ax:lf [xl 0 ks]):Fn Tryz.prog 7 [BA x y aB,bv en l,bv ie ks] [] [] (fk true) []:=by
 have ha:=IU;have hf:=ap.q4 x y aB;have lq:=ap.len;have IY:=ax.q4 x y aB
 cases aw:h7 x y aB with
 |false=>
  have hn:=IV x y aB aw;refine aT [] Tryz.func7 ?_;exact⟨rfl,ak hn <| d7 <| ak ha bc⟩
 |true=>
  have nv:=aw;simp only[h7,vj,as1] at nv;obtain⟨⟨⟨uV,Cu⟩,vO,n3⟩,gb,gU⟩:=nv;obtain⟨z,rfl⟩:=Int.eq_ofNat_of_zero_le gb;obtain⟨R,rfl⟩:=Int.eq_ofNat_of_zero_le vO;obtain⟨n,rfl⟩:=Int.eq_ofNat_of_zero_le uV;have kn:((n:Nat):Int)*((2 ^((z:Nat):Int).toNat:Nat):Int)=((n*2 ^z:Nat):Int):=az0
  have t8:n*2 ^z<=2048:=by
   have gJ:2 ^z<=2 ^3:=Nat.pow_le_pow_right aw1 aw0;have aw:n*2 ^z<=256*8:=Nat.mul_le_mul aw0 gJ;omega
  have hn:=Ex z R n (by simp only[h7,vj,as1];omega) aw;refine aT [1,2,7,9,11,12,13] Tryz.func7 ?_;refine⟨rfl,bk.gz ee aw3 <| hp hn fun q=>?_⟩;obtain⟨p,ef⟩:=q;refine bk.eH (c5.mark 4001 4009 rfl aw1) fun db=>?_
  refine bk.le (ab.trans (ab.pC 1401 3 4001 4009 db rfl rfl rfl) (ab.trans (ab.pD 4001 4009 db rfl rfl) (ab.trans (ab.ll 1101 rfl) (ab.put 1101 4001 aw1 rfl rfl)))) <| bk.eH (c5.mark 3001 3009 rfl aw1) fun lb=>bk.le (ab.trans (ab.pC 1401 5 3001 3009 lb rfl rfl rfl) (ab.trans (ab.pD 3001 3009 lb rfl rfl) (ab.trans (ab.ll 1301 rfl) (ab.put 1301 3001 aw1 rfl rfl)))) <| bk.le (ab.trans (ab.nh 1401 8 rfl rfl) (ab.trans (ab.nh 1401 9 rfl rfl) (ab.trans (ab.nh 1401 16 rfl rfl) (ab.trans (ab.ll 1601 rfl) (ab.Ei 1501 1001 rfl aw1))))) ?_
  have av:=Ez aw ef db lb;have zg:=IS aw p
  cases bd:pF n l with
  |false=>
   rw[bd] at hf;exact br [] (cw [(1,bv en l),(2,bv ie ks),(3,ah 3),(7,ah 1401),(8,ac 0)] (xk z n R (e' z R n p db lb))) <| cX <| ak hf <| d7 <| ak ha bc
  |true=>
   rw[bd] at hf
   cases i6:pF n [xl 0 ks] with
   |false=>
    rw[i6] at IY;exact br [] (cw [(1,bv en l),(2,bv ie ks),(3,ah 3),(7,ah 1401),(8,ac 0)] (xk z n R (e' z R n p db lb))) <| cX <| ak hf <| cX <| ak IY <| d7 <| ak ha bc
   |true=>
    rw[i6] at IY;refine br [7,9,11,12,13] (cw [(1,bv en l),(2,bv ie ks),(3,ah 3),(7,ah 1401),(8,ac 0)] (xk z n R (e' z R n p db lb))) <| cX <| ak hf <| cX <| ak IY <| cX ?_;refine dG [7,9,11,12,13] (X:=Nat×bT) (fun g=>apI ks l g.1) (fun g=>xk z n R g.2) (fun g=>g.1<=l.length/\dP g.2/\g.2.z=z/\cl g.2.L g.2.aQ=n) (fun g=>l.length - g.1) (0,e' z R n p db lb) ⟨aq9 _,av,rfl,by show cl (qj z R n p) e1=n;rw[zg];omega⟩ ?_ ?_
    .exact ab.sub az az
    rintro⟨k,w⟩ ⟨Z,aq,lO,cu⟩;have Z:k<=l.length:=Z;have aq:dP w:=aq;have lO:w.z=z:=lO;have cu:cl w.L w.aQ=n:=cu;refine⟨fun h=>?_,fun h=>?_⟩
    .have b':k < l.length:=by
      have h:decide ((k:Int) < (l.length:Int))=true:=h;simpa using h
     refine⟨aw0,l[k],iR (n:=k) b',?_⟩;have h4:=as3 b';generalize l[k]=o at h4;have d':=ap.step h4;have vP:=zb w aq (ct o) (ap.EB bd h4);refine⟨rfl,bk.gz ee aw3 <| hp d'.x fun _=>hp vP fun g=>?_⟩;obtain⟨⟨e,w'⟩,aC⟩:=g;have pH:dP w':=aq.step aC;have rh:md w w':=fy.dZ aq aC;refine⟨aw0,(k+1,w'),⟨by show k+1<=l.length;omega,pH,rh.bi.trans lO,rh.aS.trans cu⟩,by show l.length - (k+1) < l.length - k;omega,ab.sub az az⟩
    .have wA:=ax.EB i6 (ar5.2 rfl);have vP:=zb w aq (ct (xl 10 ks)) ⟨wA.b,wA.nm,wA.l,wA.ks,wA.XH⟩;have d':Fn Tryz.prog 13 [.c (.agg [.d (.int .i64 10),.d (.int .i64 0),.d (.int .i64 0),.dH,.d (.str []),.d (.str []),.d (.cf ie ks)])] [] [] (ig (ct (xl 10 ks))) []:=Fn.arg (XY (ct (xl 10 ks)) wA.ks) ⟨az,trivial⟩
     have aP: ∀{v:bT},dP v->v.z=z->cl v.L v.aQ=n->ou v.z v.L v.aQ 0 (((n:Nat):Int)*((2 ^((z:Nat):Int).toNat:Nat):Int))=(pG v,0):=fun aA E G=>by
      rw[kn,<-E,<-G];exact Yc aA
     have kH:=EC w aq.cs 0 (((n:Nat):Int)*((2 ^((z:Nat):Int).toNat:Nat):Int));rw[aP aq lO cu] at kH;have fZ:=Bu aq.q.tolE w.lb;refine br [11,12,13] (cw [(1,bv en l),(2,bv ie ks),(3,ah 3),(7,ah 1401)] (xk z n R w)) ⟨⟨aw0,aw0,aw0⟩,?_⟩;refine⟨⟨by rw[kn];omega,by rw[kn];omega⟩,ak kH <| ak (BC w) <| ak fZ <| bk.gz ee aw3 <| hp d'.x fun _=>hp vP fun g=>?_⟩;obtain⟨⟨q6,kb⟩,tq⟩:=g;obtain⟨O8,t,zo⟩:=tq.apy rfl;have tr:dP kb:=aq.step tq;have EE:md w kb:=fy.dZ aq tq;have O8:q6=0:=O8;have zo:kb=oP w t:=zo;subst O8 zo
     have su: ∀nm x,c1 t.2.2.1 nm=some x->x.us=false:=fun nm x hx=>by
      obtain⟨bJ,_,E⟩:=XP t.2.2.2.2 (jR hx).1;exact congrArg (fun p:yQ=>p.2.2.1) E
     have Yg:Fn Tryz.prog 14 [ah 1401,ac 0,ac (((n:Nat):Int)*((2 ^((z:Nat):Int).toNat:Nat):Int))] (sk (oP w t)) [] (.cb [.one (.d (.cf .u8 (pG w))),dp 0]) (sk (oP w t)):=by
      have:=EC (oP w t) tr.cs 0 (((n:Nat):Int)*((2 ^((z:Nat):Int).toNat:Nat):Int));rw[aP tr (EE.bi.trans lO) (EE.aS.trans cu)] at this;exact this
     have NN:=apA tr.ds t.1;have lL:=fun nm x (hx:c1 t.2.2.1 nm=some x)=>IG tr.ds t.1 hx
     have ve:(gm t.2.2.1).length<=8:=by
      rw[HC];exact tr.ds.len
     generalize pG w=F at kH Yg;refine br [13] (cw [(1,bv en l),(2,bv ie ks),(3,ah 3),(7,ah 1401),(11,bv .u8 F),(13,bQ (iu w.Q)),(14,ac 0)] (xk z n R (oP w t))) ⟨⟨aw0,aw0,aw0⟩,?_⟩;refine⟨⟨by rw[kn];omega,by rw[kn];omega⟩,ak Yg <| br [] (cw [(1,bv en l),(2,bv ie ks),(3,ah 3),(7,ah 1401),(11,bv .u8 F),(13,bQ (iu w.Q)),(14,ac 0),(15,bv .u8 F),(16,ac 0)] (xk z n R (oP w t))) <| ak (IW (oP w t)) <| ak NN <| dG [] (X:=Nat) (fun i=>apJ ks l F (iu w.Q) (gm t.2.2.1) i) (fun _=>xk z n R (oP w t)) (fun i=>i<=(gm t.2.2.1).length) (fun i=>(gm t.2.2.1).length - i) 0 (aq9 _) ?_ ?_⟩
     .exact ab.sub az az
     intro i aG;refine⟨fun h=>?_,fun h=>?_⟩
     .have dJ:i < (gm t.2.2.1).length:=by
       have h:decide ((i:Int) < ((gm t.2.2.1).length:Int))=true:=h;simpa using h
      obtain⟨x,hx⟩:=D3 (as3 dJ);have a8:=su _ x hx;have aY:=lL _ x hx;refine⟨aw0,(gm t.2.2.1)[i],iR (n:=i) dJ,?_⟩;generalize(gm t.2.2.1)[i]=nm at aY;refine ak (IW (oP w t)) <| ak aY ⟨rfl,cX ⟨fun h=>absurd h (by simp[a8]),fun _=>?_⟩⟩;exact⟨aw0,i+1,by show i+1<=_;omega,by show(gm t.2.2.1).length - (i+1) < (gm t.2.2.1).length - i;omega,ab.sub az az⟩
     .exact ak ha <| d7 <| d7 <| d7 ⟨fun _=>ak (BC (oP w t)) <| ak (Bu tr.q.tolE t.2.1) ⟨fun _=>ak (BB (oP w t)) <| ej bq rfl (show decide (rb (.no:km)=0)=true by simp[rb]),fun h=>absurd h aw2⟩,fun h=>absurd h aw2⟩
end Go.Proofs.YtkfbeijmgggkmaaGreat
