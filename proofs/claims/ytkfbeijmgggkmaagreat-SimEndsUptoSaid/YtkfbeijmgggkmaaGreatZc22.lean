/-
A part of the proof of this claim: lemmas, with no condition beyond what each says.
-/
import Derived.Test.YtkfbeijmgggkmaaGreatZc21
set_option linter.unusedVariables false
set_option linter.unusedSimpArgs false
set_option maxRecDepth 10000
set_option maxHeartbeats 4000000
namespace Go.Proofs.YtkfbeijmgggkmaaGreat
open Go.RowKit Go.Proofs
section
structure md (w w':bT):Prop where
 bi:w'.z=w.z
 m4:w'.R=w.R
 aS:cl w'.L w'.aQ=cl w.L w.aQ
theorem md.refl (w:bT):md w w:=⟨rfl,rfl,rfl⟩
theorem md.zc (w:bT) (a a1:Int) (r:pm) (ap:pn w.L w.aQ r.L):md w (iK w a a1 r):=by
 unfold iK
 split
 .exact⟨rfl,rfl,(ap.aS w.aQ).1⟩
 .exact⟨rfl,rfl,(ap.aS w.aQ).1⟩
theorem md.xi {w w':bT} {Q:List bR} {e:Int} (h:vK w Q e w'):md w w':=by
 rw[Et h];exact⟨rfl,rfl,rfl⟩
theorem fy.dZ {w w':bT} (aq:dP w) {s:dA} {e:Int} (aC:fy w s e w'):md w w':=by
 cases aC with
 |write h=>exact md.zc w _ _ _ (AT aq.cs _ _ _)
 |zero h=>exact md.zc w _ _ _ (G7 aq.cs _ _ _)
 |OW h aw=>exact md.zc w _ _ _ (AU aq.cs _ _ _)
 |over h V aC=>
  obtain⟨p,ef,U,⟨av,rfl⟩ |⟨av,rfl⟩⟩:=aC
  .obtain⟨b0,_,ca⟩:=IQ.1 (U.symm.trans av);refine⟨rfl,rfl,?_⟩;show cl (ib w.z w.R w.L s.nm ((eJ w:Nat):Int) w.aQ p).L s.nm=_;rw[ca];have H:=Ds (L:=w.L) (nm:=s.nm) (back:=w.aQ) (ad:=p.1) (am:=p.2) (im:=hI w.z ((eJ w:Nat):Int).toNat w.R) s.nm;rw[b0,if_pos rfl] at H;unfold cl;rw[H];exact at1
  .rw[IQ.2 (fun h=>av (U.trans h))];exact md.refl w
 |merge h V aC=>obtain⟨_,⟨_,b,rfl⟩ |⟨_,rfl⟩⟩:=aC <;>exact⟨rfl,rfl,rfl⟩
 |pull h V aC=>obtain⟨_,⟨_,b,rfl⟩ |⟨_,rfl⟩⟩:=aC <;>exact⟨rfl,rfl,rfl⟩
 |push h V aC=>
  rcases aC with⟨_,_,rfl⟩ |⟨hn,⟨_,⟨_,_,rfl⟩ |⟨_,_,b,rfl⟩⟩ |⟨_,_,_,rfl⟩ |⟨_,x,hx,⟨_,_,rfl⟩ |⟨_,⟨_,_,rfl⟩ |⟨_,_,b,kP,rfl⟩⟩⟩⟩ <;>exact⟨rfl,rfl,rfl⟩
 | @IN h top base l V=>
  obtain⟨t,ap⟩:=XN aq.cs top base l false;exact⟨rfl,rfl,(ap.aS w.aQ).1⟩
 | @iOz h top base V=>exact⟨rfl,rfl,((XM aq.cs top base false).2 w.aQ).1⟩
 | @IP h nm n rm l g V e w' aC=>
  rcases aC with⟨rfl,t,aC,rfl⟩ |⟨ap,rfl,rfl⟩ <;>exact⟨rfl,rfl,rfl⟩
 |drop h aC=>
  rcases aC with⟨_,_,rfl⟩ |⟨_,J⟩
  .exact md.refl _
  .exact md.xi J
 |_=>exact⟨rfl,rfl,rfl⟩
end
section
theorem apq {z R:Nat} {L:List aM} (ef:cr z R L) {nm:aA0} {bO:aM} (av:dk L nm=some bO) (a n j:Nat) (V:j < n):ic (k1 z L nm (c' L nm) a n) j=nD z L nm (c' L nm) (a+j):=by
 have bZ:=fun m=>Df ef.tonC av (ef.cg nm).1 a m
 induction n with
 |zero=>omega
 |succ n bu=>
  have e:k1 z L nm (c' L nm) a (n+1)=k1 z L nm (c' L nm) a n++nD z L nm (c' L nm) (a+n):=rfl;rw[e];unfold ic
  by_cases apr:j < n
  .rw[List.take_append_of_le_length (by rw[bZ];omega)];exact bu apr
  .have:j=n:=aw8
   subst this;have E:=bZ (j+1);rw[e,aq5,bZ] at E;rw[List.take_of_length_le (by rw[aq5,bZ];omega),show j*16=(k1 z L nm (c' L nm) a j).length by rw[bZ];omega,List.drop_left]
theorem aps {x y:aA0} {n:Nat} (hx:x.length=16*n) (aD:y.length=16*n) (h: ∀j,j < n->ic x j=ic y j):x=y:=by
 apply List.ext_getElem?;intro i
 by_cases aG:i < 16*n
 .have E:=congrArg (fun aB:aA0=>aB[i % 16]?) (h (i/16) aw0);simp only[sX] at E;rw[if_pos (Nat.mod_lt _ aw1),if_pos (Nat.mod_lt _ aw1),show i/16*16+i % 16=i by omega] at E;exact E
 .rw[au9 aw0,au9 aw0]
theorem apt (X:aA0) (off n:Nat) {ys:aA0} (h:ys.length<=n):laid X off n ys=laid X off ys.length ys:=by
 unfold laid;rw[List.take_of_length_le h,as2]
theorem apu {X ys:aA0} {off:Nat} (h:off+ys.length<=X.length):(laid X off ys.length ys).length=X.length:=by
 unfold laid;rw[as2,aq5,aq5,ar3,au3];omega
theorem apv {X ys:aA0} {f m:Nat} (sY:16*f+16*m<=X.length) (aD:ys.length=16*m) (j:Nat):ic (laid X (16*f) ys.length ys) j=if f<=j/\j < f+m then ic ys (j - f) else ic X j:=by
 apply List.ext_getElem?;intro i;rw[sX];have ap:=fun aB=>TG (X:=X) (off:=16*f) (n:=ys.length) (ys:=ys) aw0 rfl aB
 by_cases aG:i < 16
 .rw[if_pos aG,ap]
  by_cases eD:f<=j/\j < f+m
  .rw[if_pos eD,if_neg aw0,if_pos aw0,sX,if_pos aG]
   congr 1
   omega
  .rw[if_neg eD,sX,if_pos aG]
   by_cases E:j*16+i < 16*f
   .rw[if_pos E]
   .rw[if_neg E,if_neg aw0]
 .rw[if_neg aG]
  split
  .rw[sX,if_neg aG]
  .rw[sX,if_neg aG]
end
section
section
variable {z R:Nat} {L aq2:List aM}
end
abbrev pG (w:bT):aA0:=sZ w.z w.L w.aQ
theorem apw {w:bT} (aq:dP w):(pG w).length=16*(cl w.L w.aQ*2 ^w.z):=by
 obtain⟨d,H⟩:=at5.1 aq.kd;unfold pG sZ cl;rw[H];exact Df aq.cs.tonC H (aq.cs.cg _).1 0 _
theorem apx {w:bT} (aq:dP w) {j:Nat} (V:j < cl w.L w.aQ*2 ^w.z):ic (pG w) j=ME w.z w.L w.aQ j:=by
 obtain⟨d,H⟩:=at5.1 aq.kd;unfold pG sZ ME;unfold cl at V;rw[H] at V⊢;have:=apq aq.cs H 0 _ j V;rw[Nat.zero_add] at this;exact this
theorem Yc {w:bT} (aq:dP w):ou w.z w.L w.aQ 0 ((cl w.L w.aQ*2 ^w.z:Nat):Int)=(pG w,0):=by
 obtain⟨d,H⟩:=at5.1 aq.kd;have aR:cl w.L w.aQ=d.im.t.length:=ay5
 rw[ag9 aq.cs H (by rw[TF aq.cs H,aR];exact aq4 _)];unfold pG sZ;rw[H,aR]
end
section
theorem fy.Yd {w w':bT} {s:dA} {e:Int} (Z:s.kd=9) (h:fy w s e w'):(w.bD= .no/\e=1/\w'=w)\/(oL w.bD=false/\e=0/\w'={w with bD:=.no}):=by
 cases h with
 |OX h V=>exact .inl ⟨V,rfl,rfl⟩
 |OY h V=>exact .inr ⟨V,rfl,rfl⟩
 |_=>omega
theorem fy.apy {w w':bT} {s:dA} {e:Int} (Z:s.kd=10) (h:fy w s e w'):e=0/\ ∃t:Ev w.ds,w'=oP w t:=by
 cases h with
 |k7 h t=>exact⟨rfl,t,rfl⟩
 |_=>omega
theorem apz {l:List bf} (h:dO l) (db:Nat) (c:Bool):Fn Tryz.prog 25 [c8 db,fk c] [(1101,.aF (.bw [(db,ni l)]))] [] (bv .u8 (mE c l)) [(1101,.aF (.bw [(db,ni l)]))]:=
 Fn.lW [1002,1003,1004] 1101 (NM h c)
theorem apA {l:List bf} (h:dO l) (db:Nat):Fn Tryz.prog 23 [c8 db] [(1101,.aF (.bw [(db,ni l)]))] [] (bv .str (gm l)) [(1101,.aF (.bw [(db,ni l)]))]:=
 Fn.lW [1002,1003,1004] 1101 (UI h)
abbrev Ye:dA:=⟨9,0,0,[],[],[],[]⟩
end
end Go.Proofs.YtkfbeijmgggkmaaGreat
