/-
Part 17 of the proof that stands in YteoamepgonpdlaaGreatPbRow, with what it needs from the parts ahead; the parts of this text: Qn, Pq, Ib, Pj, Lt, Qs, Iu, Qo, Lv16, Lu16.
-/
import Derived.Laws.StructEq
import Derived.Test.YteoamepgonpdlaaGreatPb16
namespace Go.Proofs.YteoamepgonpdlaaGreat
set_option linter.unusedVariables false
set_option linter.unusedSimpArgs false
set_option maxRecDepth 10000
open Go.RowKit Go.Proofs
section
variable {n bits room:Nat} {L gl:List aH} {l l':List bJ}
theorem cV.loop (h:cV n bits room L l) (bG:bV bits room L) {nm cP:List UInt8} {e:bJ} (he:cI l nm=some e) (wW: ∃d,dk L cP=some d) (aB:nm=cP∨nm∈cH L (cm L cP) cP): ∀f,lS (jv l nm (iX (b7 e) cP (bB e))) f nm=f:=by
 have dn:=h.Jq bG he (e':=iX (b7 e) cP (bB e)) (show b7 e=nm from x5 he)
 have bf:cP≠[]:=zR bG wW
 obtain⟨bW,_⟩:=bG.dep cP
 obtain⟨fu,yY,O9⟩: ∃fu,fu≤cm L cP∧en L fu cP=nm:=by
  rcases aB with q |q
  ·exact⟨0,Nat.zero_le _,q.symm⟩
  ·obtain⟨i,ay,e⟩:=List.getElem_of_mem q
   rw[mD bW] at ay
   have:=B1 bW ay
   rw[List.getElem?_eq_getElem (by rw[mD bW];exact ay),e] at this
   injection this with this
   exact⟨i+1,ay,this.symm⟩
 have key: ∀f x,(∃j,j≤fu∧en L j cP=x)→lS (jv l nm (iX (b7 e) cP (bB e))) f x=f:=fun f=>by
  induction f with
  |zero=>intro x _;rfl
  |succ f aY=>
   rintro x ⟨j,ak,rN⟩
   by_cases q:x=nm
   ·have av:g6 (jv l nm (iX (b7 e) cP (bB e))) x=some cP:=by
     unfold g6
     rw[dn,if_pos q]
     exact if_neg bf
    rw[lS,av]
    simp only
    rw[aY cP ⟨0,Nat.zero_le _,rfl⟩]
   ·have abz:j < fu:=by
     rcases Nat.lt_or_ge j fu with w |w
     ·exact w
     ·exfalso
      have:j=fu:=by omega
      subst this
      exact q (rN.symm.trans O9)
    obtain⟨d1,oN⟩:=BQ bG bW wW j (by omega)
    have ZG:=oN
    rw[rN] at oN
    obtain⟨ai,g1,g2,_⟩:=h.get oN
    have r4:en L (j+1) cP=d1.back:=by rw[xG,ZG]
    have gP:=BQ bG bW wW (j+1) (by omega)
    rw[r4] at gP
    have ag:d1.back≠[]:=zR bG gP
    have av:g6 (jv l nm (iX (b7 e) cP (bB e))) x=some d1.back:=by
     unfold g6
     rw[dn,if_neg q,g1]
     simp only
     rw[if_neg (fun w=>ag (g2.symm.trans w)),g2]
    rw[lS,av]
    simp only
    rw[aY d1.back ⟨j+1,by omega,r4⟩]
 exact fun f=>key f nm ⟨fu,Nat.le_refl _,O9⟩
theorem cV.Pa (h:cV n bits room L l) (bG:bV bits room L) (nm cP:List UInt8):(uH l nm cP).2=(gx L nm cP).e∧cV n bits room (gx L nm cP).L (uH l nm cP).1∧ ∀e,e∈(uH l nm cP).1→ ∃bt,bt∈l∧bB e=bB bt:=by
 have dr:=BI bG nm cP
 obtain⟨w8,rE⟩:=h.oE (x:=cP)
 unfold gx at dr⊢
 unfold uH
 rcases h.both nm with⟨ai,aq⟩ |⟨d,e,ai,aq,bk,cX⟩
 ·rw[aq,if_pos (.inl (by rw[ai];rfl))]
  exact⟨rfl,h,fun e he=>⟨e,he,rfl⟩⟩
 rw[aq]
 simp only
 by_cases bp:cP≠[]∧cc l cP < 0
 ·rw[if_pos bp,if_pos (.inr (by rw[decide_eq_false bp.1,rE.1 bp.2];rfl))]
  exact⟨rfl,h,fun e he=>⟨e,he,rfl⟩⟩
 have au:(decide (cP=[])||(dk L cP).isSome)=true:=by
  by_cases q:cP=[]
  ·rw[decide_eq_true q];rfl
  ·cases w:dk L cP with
   |none=>exact absurd ⟨q,rE.2 w⟩ bp
   |some v=>rw[Option.isSome_some,Bool.or_true]
 have g1: ¬((dk L nm).isSome=false∨(decide (cP=[])||(dk L cP).isSome)=false):=by
  rw[ai,au]
  rintro(q |q) <;>cases q
 rw[if_neg bp]
 rw[if_neg g1] at dr⊢
 have dn:=h.Jq bG aq (e':=iX (b7 e) cP (bB e)) (show b7 e=nm from x5 aq)
 by_cases bq:nm=cP∨nm∈cH L (cm L cP) cP
 ·have wW: ∃v,dk L cP=some v:=by
   rcases bq with q |q
   ·rw[←q];exact⟨d,ai⟩
   ·obtain⟨bW,_⟩:=bG.dep cP
    cases w:dk L cP with
    |some v=>exact⟨v,rfl⟩
    |none=>
     exfalso
     have:cm L cP=0:=BC bW (.gone w)
     rw[this] at q
     cases q
  rw[if_pos bq,if_pos (show jL _ nm=99 from h.loop bG aq wW bq 99)]
  exact⟨rfl,h,fun e he=>⟨e,he,rfl⟩⟩
 rw[if_neg bq] at dr⊢
 have oN:nm≠cP:=fun q=>bq (.inl q)
 have jk:nm∉cH L (cm L cP) cP:=fun q=>bq (.inr q)
 have dg: ∀y,dk (dS L nm cP) y=if y=nm then some {d with back:=cP} else dk L y:=fun y=>by
  rw[nV]
  by_cases q:y=nm
  ·rw[if_pos q,q,ai]
   show some (fc nm cP d)=_
   unfold fc
   rw[if_pos (cT ai).2]
  ·rw[if_neg q]
   cases w:dk L y with
   |none=>rfl
   |some v=>
    show some (fc nm cP v)=_
    rw[vQ (by rw[(cT w).2];exact q)]
 have ZH:tu (dS L nm cP) (jv l nm (iX (b7 e) cP (bB e))):=fun y=>by
  rw[dn,dg]
  by_cases q:y=nm
  ·rw[if_pos q,if_pos q];rfl
  ·rw[if_neg q,if_neg q];exact h.tv y
 have Ju: ∀x,jL (jv l nm (iX (b7 e) cP (bB e))) x=cm (dS L nm cP) x:=fun x=>by
  obtain⟨cx,cM⟩:=bG.Ek oN jk x
  exact ZH.l7 cx 99 (by omega)
 have c9:(jv l nm (iX (b7 e) cP (bB e))).all (fun x=>decide (jL (jv l nm (iX (b7 e) cP (bB e))) (b7 x)≤8))=true↔ ∀x∈ic L,cm (dS L nm cP) x≤8:=by
  rw[List.all_eq_true]
  constructor
  ·intro w x hx
   rw[←h.nm,←Jp aq (e':=iX (b7 e) cP (bB e)) (show b7 e=nm from x5 aq)] at hx
   obtain⟨v,hv,rfl⟩:=List.mem_map.1 hx
   have:=of_decide_eq_true (w v hv)
   rw[Ju] at this
   exact this
  ·intro w v hv
   have hx:b7 v∈ic L:=by
    rw[←h.nm,←Jp aq (e':=iX (b7 e) cP (bB e)) (show b7 e=nm from x5 aq)]
    exact List.mem_map.2 ⟨v,hv,rfl⟩
   exact decide_eq_true (by rw[Ju];exact w _ hx)
 rw[if_neg (show¬jL _ nm=99 by rw[Ju];have:=(bG.Ek oN jk nm).2;omega)]
 by_cases b8: ∀x∈ic L,cm (dS L nm cP) x≤8
 ·rw[if_pos b8] at dr⊢
  rw[if_pos (c9.2 b8)]
  refine⟨rfl,h.st bG dr ai aq (show b7 e=nm from x5 aq) dg rfl cX,fun v hv=>?_⟩
  rcases O6 hv with hv |hv
  ·exact⟨v,hv,rfl⟩
  ·exact⟨e,tj aq,by rw[hv]⟩
 ·rw[if_neg b8] at dr⊢
  rw[if_neg (fun q=>b8 (c9.1 q))]
  exact⟨rfl,h,fun e he=>⟨e,he,rfl⟩⟩
theorem ZI (bG:bV bits room L) {x:List UInt8} {d:aH} (hd:dk L x=some d) (a b N:Nat) (dn:a+b≤N):fK bits L x (cm L x) a b=((fK bits L x (cm L x) 0 N).take (16*(a+b))).drop (16*a):=by
 obtain⟨bW,_⟩:=bG.dep x
 have hlen:=fun j=>D3 bG.tom8 hd bW 0 j
 have app: ∀j,fK bits L x (cm L x) 0 (a+j)=fK bits L x (cm L x) 0 a++fK bits L x (cm L x) a j:=fun j=>by
  induction j with
  |zero=>show _=_++[];rw[List.append_nil];rfl
  |succ j aY=>
   show fK bits L x (cm L x) 0 (a+j)++s5 bits L x (cm L x) (0+(a+j))=_++(fK bits L x (cm L x) a j++s5 bits L x (cm L x) (a+j))
   rw[aY,List.append_assoc,Nat.zero_add]
 have yt: ∀j,(fK bits L x (cm L x) 0 (a+b+j)).take (16*(a+b))=fK bits L x (cm L x) 0 (a+b):=fun j=>by
  induction j with
  |zero=>rw[←hlen (a+b)];exact List.take_length
  |succ j aY=>
   rw[show a+b+(j+1)=(a+b+j)+1 by omega,fK,List.take_append_of_le_length (by rw[hlen];omega),aY]
 have:=yt (N - (a+b))
 rw[show a+b+(N - (a+b))=N by omega] at this
 rw[this,app b,←hlen a,List.drop_left]
theorem cV.sc (h:cV n bits room L l) (bG:bV bits room L) (nm:List UInt8) (q:kB) (bh:ew q=0∨ew q=1∨ew q=2∨ew q=3) (hd: ∀e,e∈l→(cU (bB e)).length+256≤100000):
  (tq n l nm q).x=(pH bits L nm q).x∧(tq n l nm q).e=(pH bits L nm q).e∧cV n bits room (pH bits L nm q).L (tq n l nm q).l∧ ∀e,e∈(tq n l nm q).l→ ∃bt,bt∈l∧(cU (bB e)).length≤(cU (bB bt)).length+256:=by
 have dr:=Yy bG nm q
 unfold tq
 rcases h.both nm with⟨ai,aq⟩ |⟨d,e,ai,aq,bk,cX⟩
 ·rw[aq]
  simp only
  have hx:(pH bits L nm q).x=[]∧(pH bits L nm q).e=140∧(pH bits L nm q).L=L:=by
   unfold pH
   rcases bh with c |c |c |c
   ·rw[if_pos c];unfold s7;rw[ai];exact⟨rfl,rfl,rfl⟩
   ·rw[if_neg (by omega),if_pos c];unfold iV;rw[ai];exact⟨rfl,rfl,rfl⟩
   ·rw[if_neg (by omega),if_neg (by omega),if_pos c];unfold rX;rw[ai];exact⟨rfl,rfl,rfl⟩
   ·rw[if_neg (by omega),if_neg (by omega),if_neg (by omega),if_pos c];unfold rY;rw[ai];exact⟨rfl,rfl,rfl⟩
  rw[hx.1,hx.2.1,hx.2.2]
  exact⟨rfl,rfl,h,fun e he=>⟨e,he,by omega⟩⟩
 rw[aq]
 simp only
 have Pb:=hd e (tj aq)
 have cQ:=cX.ok.jr
 have B2:=fun a b=>cX.Zf a b
 have s8:cV n bits room L (jv l nm (iX (b7 e) (er e) (bB e))):=h.st bG bG ai aq (d':=d) (e':=iX (b7 e) (er e) (bB e)) (show b7 e=nm from x5 aq) (fun y=>by
  by_cases w:y=nm
  ·rw[if_pos w,w,ai]
  ·rw[if_neg w]) bk cX
 have jY: ∀m',(cU m').length≤(cU (bB e)).length+256→ ∀v,v∈jv l nm (iX (b7 e) (er e) m')→ ∃bt,bt∈l∧(cU (bB v)).length≤(cU (bB bt)).length+256:=fun m' hm v hv=>by
  rcases O6 hv with hv |hv
  ·exact⟨v,hv,by omega⟩
  ·exact⟨e,tj aq,by rw[hv];exact hm⟩
 have j7: ∀B3 m',bV bits room (lim L nm B3 none)→dZ n B3 m'→cV n bits room (lim L nm B3 none) (jv l nm (iX (b7 e) (er e) m')):=fun B3 m' hc hr=>h.st bG hc ai aq (d':={d with im:=B3,cF:=none}) (show b7 e=nm from x5 aq) (fun y=>by
  by_cases w:y=nm
  ·rw[if_pos w,w,BB ai]
  ·rw[if_neg w,Ix w]) bk hr
 have uA: ∀c,c < d.im.t.length→eV (bB e) c=0→(lU n l nm (aL (bB e)).length)[c]? =some (mG bits L nm (cm L nm) c)∧(mG bits L nm (cm L nm) c).length=16*n:=fun c hc au=>by
  refine⟨?_,by rw[Y8 bG ai,h.gj]⟩
  unfold lU
  rw[List.getElem?_map,List.getElem?_range (by rw[cX.len];exact hc),Option.map_some,h.jr bG ⟨d,ai⟩ c,YY ai]
  rintro⟨_,w⟩
  rw[←cX.eu c hc] at w
  exact w au
 have Pc: ∀a b bs b9 zero k,k≤256→(cU (iW n a b bs b9 zero (bB e) k)).length≤(cU (bB e)).length+256:=fun a b bs b9 zero k au=>by
  have:=zF n a b bs b9 zero (bB e) k
  omega
 unfold pH at dr⊢
 by_cases cy:ew q=0
 ·rw[if_pos cy,if_pos cy]
  unfold s7
  rw[ai]
  simp only
  rw[B2]
  by_cases w:fQ n (aL (bB e)).length (dc q) (dX q)=0
  ·rw[if_pos w,if_pos w]
   obtain⟨bQ,cn,eT⟩:=uB w
   refine⟨?_,rfl,h,fun e he=>⟨e,he,by omega⟩⟩
   have ha:=h.al bG ⟨d,ai⟩ (aL (bB e)).length
   rw[ZI bG ai (dc q).toNat (dX q).toNat (n*(aL (bB e)).length) (by omega),ha]
   show((qU n l nm (aL (bB e)).length).take (16*(dc q+dX q)).toNat).drop (16*dc q).toNat=_
   rw[show(16*(dc q+dX q)).toNat=16*((dc q).toNat+(dX q).toNat) by omega,show(16*dc q).toNat=16*(dc q).toNat by omega]
  ·rw[if_neg w,if_neg w]
   exact⟨rfl,rfl,h,fun e he=>⟨e,he,by omega⟩⟩
 rw[if_neg cy]
 rw[if_neg cy] at dr⊢
 by_cases bp:ew q=1
 ·rw[if_pos bp] at dr⊢
  have tP:uF n (bB e) q (lU n l nm (aL (bB e)).length)=uC n (bB e) (dc q) (fe q) (lU n l nm (aL (bB e)).length) false:=if_pos bp
  rw[tP]
  unfold uC
  unfold iV at dr⊢
  rw[ai] at dr⊢
  simp only at dr⊢
  rw[B2] at dr⊢
  by_cases cx:(fe q).length % 16≠0
  ·rw[if_pos cx,if_pos cx]
   exact⟨rfl,rfl,s8,jY (bB e) (Nat.le_add_right _ _)⟩
  rw[if_neg cx] at dr⊢
  rw[if_neg cx]
  by_cases cM:fQ n (aL (bB e)).length (dc q) ((fe q).length/16:Nat)=0
  ·rw[if_neg (fun g=>g cM)] at dr⊢
   rw[if_pos cM]
   have Pd:=cM
   rw[←B2] at Pd
   have oM:=rZ Pd
   have c9:(dc q).toNat+(fe q).length/16≤eO d.im:=by
    have:=uB cM
    rw[cX.all]
    omega
   have eC:(fe q).length=16*((fe q).length/16):=by omega
   have dD:=cX.Zg (a:=(dc q).toNat) (l:=(fe q).length/16) c9
   rw[cX.free,dD]
   unfold HI Br at*
   by_cases w3:fP d.im (dc q).toNat ((fe q).length/16) (b5 (wid d.im) (dc q).toNat ((fe q).length/16))≤zeros d.im.l
   ·have fV: ¬((zeros d.im.l:Nat):Int) < ((fP d.im (dc q).toNat ((fe q).length/16) (b5 (wid d.im) (dc q).toNat ((fe q).length/16)):Nat):Int):=by omega
    rw[if_neg fV]
    rw[if_pos w3,if_pos w3] at dr
    rw[if_pos w3,if_pos w3]
    exact⟨rfl,rfl,j7 _ _ dr (cX.wr eC c9 uA Pb w3),jY _ (Pc _ _ _ _ _ _ cQ)⟩
   ·have fV:((zeros d.im.l:Nat):Int) < ((fP d.im (dc q).toNat ((fe q).length/16) (b5 (wid d.im) (dc q).toNat ((fe q).length/16)):Nat):Int):=by omega
    rw[if_pos fV]
    rw[if_neg w3,if_neg w3] at dr
    rw[if_neg w3,if_neg w3]
    refine⟨rfl,rfl,j7 _ _ dr cX,jY (bB e) (Nat.le_add_right _ _)⟩
  ·rw[if_pos cM]
   rw[if_neg cM]
   exact⟨rfl,rfl,s8,jY (bB e) (Nat.le_add_right _ _)⟩
 rw[if_neg bp] at dr⊢
 by_cases bq:ew q=2
 ·rw[if_pos bq] at dr⊢
  have tP:uF n (bB e) q (lU n l nm (aL (bB e)).length)=if fQ n (aL (bB e)).length (dc q) (dX q)=0 then uC n (bB e) (dc q) (List.replicate (16*dX q).toNat 0) (lU n l nm (aL (bB e)).length) true else(bB e,fQ n (aL (bB e)).length (dc q) (dX q)):=(if_neg bp).trans (if_pos bq)
  rw[tP]
  unfold rX at dr⊢
  rw[ai] at dr⊢
  simp only at dr⊢
  rw[B2] at dr⊢
  by_cases cM:fQ n (aL (bB e)).length (dc q) (dX q)=0
  ·rw[if_neg (fun g=>g cM)] at dr⊢
   rw[if_pos cM]
   obtain⟨bQ,cn,eT⟩:=uB cM
   have c9:(dc q).toNat+(dX q).toNat≤eO d.im:=by rw[cX.all];omega
   have B4:(16*dX q).toNat=16*(dX q).toNat:=by omega
   unfold uC
   rw[B4,List.length_replicate,if_neg (by omega),show 16*(dX q).toNat/16=(dX q).toNat by omega,show(((dX q).toNat:Nat):Int)=dX q by omega,if_pos cM]
   have dD:=cX.Zi (a:=(dc q).toNat) (l:=(dX q).toNat) c9
   rw[cX.free,dD]
   unfold HM Bt at*
   by_cases w3:fA d.im (dc q).toNat (dX q).toNat (b5 (wid d.im) (dc q).toNat (dX q).toNat)≤zeros d.im.l
   ·have fV: ¬((zeros d.im.l:Nat):Int) < ((fA d.im (dc q).toNat (dX q).toNat (b5 (wid d.im) (dc q).toNat (dX q).toNat):Nat):Int):=by omega
    rw[if_neg fV]
    rw[if_pos w3,if_pos w3] at dr
    rw[if_pos w3,if_pos w3]
    exact⟨rfl,rfl,j7 _ _ dr (cX.Zk c9 uA Pb w3),jY _ (Pc _ _ _ _ _ _ cQ)⟩
   ·have fV:((zeros d.im.l:Nat):Int) < ((fA d.im (dc q).toNat (dX q).toNat (b5 (wid d.im) (dc q).toNat (dX q).toNat):Nat):Int):=by omega
    rw[if_pos fV]
    rw[if_neg w3,if_neg w3] at dr
    rw[if_neg w3,if_neg w3]
    refine⟨rfl,rfl,j7 _ _ dr cX,jY (bB e) (Nat.le_add_right _ _)⟩
  ·rw[if_pos cM]
   rw[if_neg cM]
   exact⟨rfl,rfl,s8,jY (bB e) (Nat.le_add_right _ _)⟩
 rw[if_neg bq] at dr⊢
 have b8:ew q=3:=by omega
 rw[if_pos b8] at dr⊢
 have tP:uF n (bB e) q (lU n l nm (aL (bB e)).length)=zE n (bB e) (dc q) (dX q):=(if_neg bp).trans (if_neg bq)
 rw[tP]
 unfold zE
 unfold rY at dr⊢
 rw[ai] at dr⊢
 simp only at dr⊢
 rw[B2] at dr⊢
 by_cases cM:fQ n (aL (bB e)).length (dc q) (dX q)=0
 ·rw[if_neg (fun g=>g cM)] at dr⊢
  rw[if_pos cM]
  obtain⟨bQ,cn,eT⟩:=uB cM
  have c9:(dc q).toNat+(dX q).toNat≤eO d.im:=by rw[cX.all];omega
  refine⟨rfl,rfl,j7 _ _ dr (cX.ds c9),jY _ ?_⟩
  have: ∀k,cU (jJ n (dc q).toNat (dX q).toNat (bB e) k)=cU (bB e):=fun k=>by
   induction k with
   |zero=>rfl
   |succ k aY=>
    unfold jJ
    split
    ·exact aY
    ·exact aY
  rw[this]
  omega
 ·rw[if_pos cM]
  rw[if_neg cM]
  exact⟨rfl,rfl,s8,jY (bB e) (Nat.le_add_right _ _)⟩
theorem cV.step (h:cV n bits room L l) (bG:bV bits room L) (o:fC) (p:Nat×Nat) (dr:bV bits room (vZ bits room L o p).L) (hd: ∀e,e∈l→(cU (bB e)).length+256≤100000):
  (ji n bits room l o).x=(vZ bits room L o p).x∧(ji n bits room l o).e=(vZ bits room L o p).e∧cV n bits room (vZ bits room L o p).L (ji n bits room l o).l∧ ∀e,e∈(ji n bits room l o).l→ ∃k,(cU (bB e)).length≤k+256∧(k=0∨ ∃bt,bt∈l∧k=(cU (bB bt)).length):=by
 have same: ∀e,e∈l→ ∃k,(cU (bB e)).length≤k+256∧(k=0∨ ∃bt,bt∈l∧k=(cU (bB bt)).length):=fun e he=>⟨_,Nat.le_add_right _ _,.inr ⟨e,he,rfl⟩⟩
 unfold vZ at dr⊢
 unfold ji
 by_cases cy:fX o=0
 ·rw[if_pos cy] at dr⊢
  rw[if_pos cy]
  obtain⟨g1,g2,bL⟩:=h.add bG (ck o) (jM o) (eF o) p dr
  refine⟨rfl,g1,g2,fun e he=>?_⟩
  rcases bL e he with w |w
  ·exact same e w
  ·exact⟨0,by rw[w];exact Nat.zero_le _,.inl rfl⟩
 rw[if_neg cy]
 rw[if_neg cy] at dr⊢
 by_cases bp:fX o=1
 ·rw[if_pos bp] at dr⊢
  rw[if_pos bp]
  obtain⟨g1,g2,bL,gU⟩:=h.BS bG (ck o)
  exact⟨g1,g2,bL,fun e he=>same e (gU e he)⟩
 rw[if_neg bp]
 rw[if_neg bp] at dr⊢
 by_cases bq:fX o=2
 ·rw[if_pos bq] at dr⊢
  rw[if_pos bq]
  obtain⟨g1,g2,bL⟩:=h.Pa bG (ck o) (eF o)
  refine⟨rfl,g1,g2,fun e he=>?_⟩
  obtain⟨bt,cx,cM⟩:=bL e he
  exact⟨_,by rw[cM];exact Nat.le_add_right _ _,.inr ⟨bt,cx,rfl⟩⟩
 rw[if_neg bq]
 rw[if_neg bq] at dr⊢
 by_cases b8:fX o=3
 ·rw[if_pos b8] at dr⊢
  by_cases fB:0≤ew (cN o)∧ew (cN o)≤3
  ·rw[if_pos ⟨b8,fB⟩]
   obtain⟨g1,g2,bL,gU⟩:=h.sc bG (ck o) (cN o) (by omega) hd
   refine⟨g1,g2,bL,fun e he=>?_⟩
   obtain⟨bt,cx,cM⟩:=gU e he
   exact⟨_,cM,.inr ⟨bt,cx,rfl⟩⟩
  ·rw[if_neg (fun w=>fB w.2)]
   have e:pH bits L (ck o) (cN o)=⟨[],0,L⟩:=by
    unfold pH
    rw[if_neg (by omega),if_neg (by omega),if_neg (by omega),if_neg (by omega)]
   rw[e]
   exact⟨rfl,rfl,h,same⟩
 ·rw[if_neg b8,if_neg (fun w=>b8 w.1)]
  exact⟨rfl,rfl,h,same⟩
end
end Go.Proofs.YteoamepgonpdlaaGreat
namespace Go.Proofs.YteoamepgonpdlaaGreat
set_option linter.unusedVariables false
set_option linter.unusedSimpArgs false
set_option maxRecDepth 10000
open Go.RowKit Go.Proofs
section
variable {bits room:Nat} {L:List aH} {top base:List UInt8}
theorem ZJ {B5 kt:Nat} (bW:dK L base B5) (cu:dK L top kt) (bH:base=[]∨B5 < kt) (aa:top≠base) (af:top∉cH L B5 base) {n:List UInt8} {j:Nat} (h:dK L n j): ∃i,i≤j∧dK (dS L top base) n i:=by
 have xE:dK (dS L top base) base B5:=NY bW (Ne.symm aa) af
 have vO: ∀d,dk L top=some d→ ∀{j},dK L top j→ ∃i,i≤j∧dK (dS L top base) top i:=fun d hd j ak=>by
  have e:dk (dS L top base) top=some (fc top base d):=by rw[nV,hd];rfl
  have rV:=II (back:=base) (cT hd).2
  have rN:=BC ak cu
  by_cases ag:base=[]
  ·exact⟨0,Nat.zero_le _,.base e (by rw[rV];exact ag)⟩
  ·exact⟨B5+1,by have:=bH.resolve_left ag;omega,.step e (by rw[rV];exact ag) (by rw[rV];exact xE)⟩
 induction h with
 |gone h=>exact⟨0,Nat.zero_le _,.gone (by rw[nV,h];rfl)⟩
 | @base n d g1 g2=>
  have e:=(cT g1).2
  by_cases c:n=top
  ·subst c
   exact vO d g1 (.base g1 g2)
  ·exact⟨0,Nat.zero_le _,.base (d:=d) (by rw[nV,g1];show some (fc top base d)=_;rw[vQ (by rw[e];exact c)]) g2⟩
 | @step n d j g1 g2 bL aY=>
  have e:=(cT g1).2
  by_cases c:n=top
  ·subst c
   exact vO d g1 (.step g1 g2 bL)
  ·obtain⟨i,ay,hd⟩:=aY
   exact⟨i+1,by omega,.step (d:=d) (by rw[nV,g1];show some (fc top base d)=_;rw[vQ (by rw[e];exact c)]) g2 hd⟩
theorem ZK (h:bV bits room L):dk L []=none:=by
 cases x:dk L [] with
 |none=>rfl
 |some y=>exact absurd rfl (zR h ⟨y,x⟩)
theorem Pe (h:bV bits room L) {d:aH} (hd:dk L top=some d) (ay:iZ L top base=true):gx L top base=⟨0,dS L top base⟩:=by
 obtain⟨g1,g2,bL⟩:=ZE h hd ay
 have cu:=(h.dep top).1
 have bW:=(h.dep base).1
 have bH:base=[]∨cm L base < cm L top:=by
  by_cases e:base=[]
  ·exact .inl e
  ·rw[if_neg e] at bL
   exact .inr (by omega)
 have aa:top≠base:=fun e=>by
  rcases bH with ag |ag
  ·exact zR h ⟨d,hd⟩ (e.trans ag)
  ·rw[e] at ag
   omega
 have af:top∉cH L (cm L base) base:=fun hm=>by
  rcases bH with ag |ag
  ·rw[ag,show cm L []=0 from zy (.gone (ZK h)) (by omega)] at hm
   cases hm
  ·obtain⟨j,ak,aA⟩:=NG bW top hm
   have:=BC aA cu
   omega
 unfold gx
 rw[if_neg,if_neg,if_pos]
 ·intro n hn
  obtain⟨i,ay,BG⟩:=ZJ bW cu bH aa af (h.dep n).1
  have:=(h.dep n).2
  rw[zy BG (by omega)]
  omega
 ·exact fun x=>x.elim aa af
 ·rintro(x |x)
  ·rw[hd] at x;cases x
  ·rw[Bool.or_eq_false_iff] at x
   rcases g2 with e |⟨e,he⟩
   ·exact(of_decide_eq_false x.1) e
   ·rw[he] at x;cases x.2
theorem Pf {k:Nat} (h:lW L top base=some k):iZ L top base=true∧k < lp L top∧pI L top base k=true∧ ∀j,j < k→pI L top base j=false:=by
 unfold lW at h
 split at h
 ·rename_i ag
  obtain⟨g1,g2,bL⟩:=List.find?_range_eq_some.1 h
  exact⟨ag,List.mem_range.1 g2,g1,fun j ak=>by simpa using bL j ak⟩
 ·cases h
theorem ZL (h: ∀k,k < lp L top→pI L top base k=false):lW L top base=none:=by
 unfold lW
 split
 ·exact List.find?_range_eq_none.2 fun k au=>by simp[h k au]
 ·rfl
end
end Go.Proofs.YteoamepgonpdlaaGreat
namespace Go.Proofs.YteoamepgonpdlaaGreat
set_option linter.unusedVariables false
set_option linter.unusedSimpArgs false
set_option maxRecDepth 10000
open Go.RowKit Go.Proofs
theorem ah.Jv {ids:List Nat} {K:aQ} {B:aG} (c:Nat) {l l':List bx} (hc:ax B c=some (.cells l)) (aB:Cr l l'):ah ids K B K ((c,.cells l')::B):=by
 rintro N C a w ⟨hn,hd,ρ,F,az,hS⟩
 obtain⟨bT,bA⟩:=az.jV (w':=w) (ch:=.cells l') hc (Fr.refl _ _) fun I bC=>by
  obtain⟨aa,vs,T,af,aA⟩:=az.holds c _ hc
  exact⟨aa,vs,T,af,F7 aB (bZ.mono bC _ _ (fun _ _=>rfl) aA)⟩
 exact⟨hn,hd,ρ,F,bT,hS.mono bA fun _ _ _=>rfl⟩
theorem Pg (s:bz):Fn Tryz.prog 65 [aI 1001] (dh s) [] (aD (s.bits:Nat)) (dh s):=by
 refine Fn.of aj [] _ _ _ _ _ Tryz.func65 rfl rfl (by kernel_rfl) (by kernel_rfl) rfl (aK aj) rfl ?_
 exact⟨_,_,_,ah.refl _ _,rfl,rfl,⟨rfl,rfl,rfl,rfl,trivial⟩,rfl⟩
end Go.Proofs.YteoamepgonpdlaaGreat
namespace Go.Proofs.YteoamepgonpdlaaGreat
set_option linter.unusedVariables false
set_option linter.unusedSimpArgs false
set_option maxRecDepth 10000
open Go.RowKit Go.Proofs
section
variable {bits room:Nat} {L:List aH} {top base:List UInt8}
theorem ZM {j:Nat} (h:bV bits room L) {d:aH} (hd:dk L top=some d) (ak:j≤cm L top) (eS: ∀i,i < j→en L (i+1) top≠base) (pE:j=cm L top∨en L (j+1) top=base):(cH L (cm L top) top).take j=gy L top base:=by
 have bW:=(h.dep top).1
 have aB:=mD bW
 unfold gy
 refine(O8 _ _ j (by omega) (fun i x ay hx=>?_) ?_).symm
 ·rw[B1 bW (by omega)] at hx
  injection hx with hx
  subst hx
  have:=eS i ay
  simp[this]
 ·rcases pE with pE |pE
  ·exact .inl (by omega)
  ·by_cases c:j=cm L top
   ·exact .inl (by omega)
   ·exact .inr ⟨_,B1 bW (by omega),by rw[pE];simp⟩
theorem ZN {j:Nat} (h:bV bits room L) {d:aH} (hd:dk L top=some d) (ak:j≤cm L top) (pE:en L (j+1) top=base):iZ L top base=true:=by
 have bW:=(h.dep top).1
 unfold iZ
 rw[hd,Option.isSome_some,Bool.true_and,Bool.or_eq_true]
 by_cases c:j=cm L top
 ·rw[c,Ji h bW ⟨d,hd⟩] at pE
  exact .inl (decide_eq_true pE.symm)
 ·refine .inr (decide_eq_true ?_)
  have:=B1 bW (i:=j) (by omega)
  rw[pE] at this
  exact List.mem_of_getElem? this
theorem ZO (h:bV bits room L) {d:aH} (hd:dk L top=some d) (eS: ∀i,i≤cm L top→en L (i+1) top≠base):iZ L top base=false:=by
 have bW:=(h.dep top).1
 unfold iZ
 rw[hd,Option.isSome_some,Bool.true_and,Bool.or_eq_false_iff]
 constructor
 ·refine decide_eq_false fun e=>eS _ (Nat.le_refl _) ?_
  rw[Ji h bW ⟨d,hd⟩,e]
 ·refine decide_eq_false fun e=>?_
  obtain⟨i,ay,hx⟩:=List.getElem_of_mem e
  have aB:=mD bW
  have:=B1 bW (i:=i) (by omega)
  rw[List.getElem?_eq_getElem ay,hx] at this
  injection this with this
  exact eS i (by omega) this.symm
@[reducible] def Ph (base:List UInt8) (a:List UInt8) (c:Nat):aQ:=[(0,aI 1001),(2,bN base),(8,iL c),(9,bN a),(10,aD 0)]
@[reducible] def Pj (bits room:Int) (L:List aH) (c:Nat) (x:List (List UInt8)):aG:=bP bits room L++[(c,.row 9 .str x)]
set_option maxHeartbeats 1000000 in
theorem Jw (h:bV bits room L) {d:aH} (hd:dk L top=some d) (base:List UInt8):Fn Tryz.prog 72 [aI 1001,bN top,bN base] (bP bits room L) [] (.c8 [.one (.d (.cW .str (gy L top base))),.one (.d (.bool (iZ L top base)))]) (bP bits room L):=by
 have bW:=(h.dep top).1
 have j6:=(h.dep top).2
 have eC:=mD bW
 have gP:=fun j ak=>BQ h bW ⟨d,hd⟩ j ak
 have pE:=Ji h bW ⟨d,hd⟩
 have Ir:vN L top=(en L 1 top,0):=by
  unfold vN
  rw[show en L 1 top=d.back by rw[xG];show(match dk L top with |none=>top |some d=>d.back)=_;rw[hd],hd]
 have tQ: ∀j,j < cm L top→vN L (en L (j+1) top)=(en L (j+1+1) top,0)∧en L (j+1) top≠[]:=fun j ak=>by
  obtain⟨e,he⟩:=gP (j+1) ak
  refine⟨?_,zR h ⟨e,he⟩⟩
  unfold vN
  rw[xG L (j+1),he]
 have wM: ∀j,j < cm L top→(cH L (cm L top) top).take (j+1)=(cH L (cm L top) top).take j++[en L (j+1) top]:=fun j ak=>D1 bW j ak
 have m7:=fun j ak eS he=>ZM (j:=j) (base:=base) h hd ak eS he
 have ZP:=fun j ak he=>ZN (j:=j) (base:=base) h hd ak he
 have ZQ:=fun eS=>ZO (base:=base) h hd eS
 have mC:=IF h top
 rw[Ir] at mC
 generalize gy L top base=rl at*
 generalize iZ L top base=mO at*
 generalize cH L (cm L top) top=B6 at*
 generalize cm L top=dd at*
 refine Fn.of aj [3,5,7] _ _ _ _ _ Tryz.func72 rfl rfl (by kernel_rfl) (by kernel_rfl) rfl (aK aj) rfl ?_
 refine⟨_,_,_,_,mC,⟨rfl,rfl,rfl,rfl,trivial⟩,rfl,?_⟩
 show aE _ _ _ _ _ _ _
 refine aE.loop aj (aK aj) [5,7] (by kernel_rfl) (X:=Nat) (fun j=>Ph base (en L (j+1) top) 5002) (fun j=>Pj bits room L 5002 (B6.take j)) (fun j=>j≤dd∧ ∀i,i < j→en L (i+1) top≠base) (fun j=>dd - j) 0 ⟨Nat.zero_le _,fun i ay=>absurd ay (Nat.not_lt_zero i)⟩ ?_ ?_
 ·exact(ah.nil 8 5002 9 .str rfl rfl).trans (ah.sub ⟨rfl,rfl,rfl,rfl,rfl,trivial⟩ ⟨rfl,rfl,rfl,rfl,rfl,trivial⟩)
 rintro j ⟨ak,eS⟩
 refine⟨fun _=>?_,fun h=>absurd h (by decide)⟩
 refine⟨fun aa=>?_,fun aa=>?_⟩
 ·have aa:(!decide (en L (j+1) top=base))=true:=aa
  have aa: ¬en L (j+1) top=base:=by simpa using aa
  refine⟨fun af=>?_,fun af=>?_⟩
  ·have af:en L (j+1) top=[]:=of_decide_eq_true af
   have B7:j=dd:=by
    rcases Nat.lt_or_ge j dd with bM |bM
    ·exact absurd af (tQ j bM).2
    ·omega
   have B4:B6.take j=rl:=m7 j ak eS (.inl B7)
   have sr:mO=false:=ZQ fun i ay=>by
    rcases Nat.lt_or_ge i j with bM |bM
    ·exact eS i bM
    ·rw[show i=j by omega]
     exact aa
   show aE _ _ _ _ _ _ _
   refine aE.go aj (aK aj) [] (by kernel_rfl) (ah.refl _ _) ?_
   refine⟨fun _=>?_,fun h=>absurd h (by decide)⟩
   exact⟨_,_,_,ah.dV 5002 rfl,rfl,⟨B4,(show decide (en L (j+1) top=base)=mO by rw[decide_eq_false aa,sr]),trivial⟩,⟨rfl,rfl,rfl,rfl,trivial⟩,rfl⟩
  ·have af: ¬en L (j+1) top=[]:=of_decide_eq_false af
   have B7:j < dd:=by
    rcases Nat.lt_or_ge j dd with bM |bM
    ·exact bM
    ·exact absurd (by rw[show j=dd by omega];exact pE) af
   have Pk:=IF h (en L (j+1) top)
   rw[(tQ j B7).1] at Pk
   have m:List.length (α:=List UInt8) (B6.take j)+1≤4294967296:=by rw[List.length_take];omega
   have e:=wM j B7
   show aE _ _ _ _ _ _ _
   refine aE.go aj (aK aj) [7] (by kernel_rfl) (ah.refl _ _) ?_
   refine⟨m,rfl,?_⟩
   refine⟨_,_,_,_,Pk,⟨rfl,rfl,rfl,rfl,trivial⟩,rfl,?_⟩
   refine⟨j+1,⟨B7,fun i ay=>?_⟩,by omega,?_⟩
   ·rcases Nat.lt_or_ge i j with bM |bM
    ·exact eS i bM
    ·rw[show i=j by omega]
     exact aa
   refine ah.trans (ah.sub (K':=Ph base (en L (j+1+1) top) 29) (B':=Pj bits room L 29 (B6.take (j+1))) ⟨rfl,rfl,rfl,rfl,rfl,trivial⟩ ⟨rfl,rfl,rfl,rfl,congrArg (fun z:List (List UInt8)=>some (bF.row 9 .str z)) e.symm,trivial⟩) ?_
   exact(ah.ren 29 5002 rfl).trans (ah.sub ⟨rfl,rfl,rfl,rfl,rfl,trivial⟩ ⟨rfl,rfl,rfl,rfl,rfl,trivial⟩)
 ·have aa:(!decide (en L (j+1) top=base))=false:=aa
  have aa:en L (j+1) top=base:=by simpa using aa
  have B4:B6.take j=rl:=m7 j ak eS (.inr aa)
  have sr:mO=true:=ZP j ak aa
  show aE _ _ _ _ _ _ _
  refine aE.go aj (aK aj) [] (by kernel_rfl) (ah.refl _ _) ?_
  refine⟨fun _=>?_,fun h=>absurd h (by decide)⟩
  exact⟨_,_,_,ah.dV 5002 rfl,rfl,⟨B4,(show decide (en L (j+1) top=base)=mO by rw[decide_eq_true aa,sr]),trivial⟩,⟨rfl,rfl,rfl,rfl,trivial⟩,rfl⟩
@[reducible] def Jx (top base:List UInt8) (over:Bool):List bx:=[.ptr 1001 0,.d (.str top),.d (.str base),.d (.bool over)]
@[reducible] def kD (bits room:Int) (L:List aH) (top base:List UInt8) (over:Bool):aG:=bP bits room L++[(2001,.cells (Jx top base over))]
def r6 (L:List aH) (top base:List UInt8):Int:=if(dk L top).isSome=false then 140 else if iZ L top base=false∨gy L top base=[] then 1 else 0
theorem ZR (h:bV bits room L) (top base:List UInt8) (he:r6 L top base≠0):Fn Tryz.prog 20 [aI 1001,bN top,bN base] (bP bits room L) [] (.c8 [yX,fO (r6 L top base)]) (bP bits room L):=by
 unfold r6 at he⊢
 cases hd:dk L top with
 |none=>
  rw[if_pos (show(none:Option aH).isSome=false from rfl)]
  refine Fn.of aj [] _ _ _ _ _ Tryz.func20 rfl rfl (by kernel_rfl) (by kernel_rfl) rfl (aK aj) rfl ?_
  refine⟨_,_,_,_,M6 _ _ L top hd,⟨rfl,rfl,rfl,rfl,trivial⟩,rfl,?_⟩
  exact⟨_,_,_,ah.refl _ _,rfl,⟨rfl,rfl,trivial⟩,⟨rfl,rfl,rfl,rfl,trivial⟩,rfl⟩
 |some d=>
  have bt: ¬(some d).isSome=false:=by simp
  rw[hd,if_neg bt] at he
  rw[if_neg bt]
  have ag:iZ L top base=false∨gy L top base=[]:=Decidable.byContradiction fun x=>he (if_neg x)
  rw[if_pos ag]
  have qt:=Jw h hd base
  generalize iZ L top base=mO at*
  generalize gy L top base=rl at*
  refine Fn.of aj [] _ _ _ _ _ Tryz.func20 rfl rfl (by kernel_rfl) (by kernel_rfl) rfl (aK aj) rfl ?_
  refine⟨_,_,_,_,vH _ _ L h.togF top d hd,⟨rfl,rfl,rfl,rfl,trivial⟩,rfl,?_⟩
  refine⟨fun _ _=>?_,fun h=>by cases h⟩
  refine⟨_,_,_,_,qt,⟨rfl,rfl,rfl,rfl,trivial⟩,rfl,?_⟩
  refine⟨fun _=>?_,fun aa=>?_⟩
  ·exact⟨_,_,_,ah.refl _ _,rfl,⟨rfl,rfl,trivial⟩,⟨rfl,rfl,rfl,rfl,trivial⟩,rfl⟩
  ·refine⟨fun _=>?_,fun af=>?_⟩
   ·exact⟨_,_,_,ah.refl _ _,rfl,⟨rfl,rfl,trivial⟩,⟨rfl,rfl,rfl,rfl,trivial⟩,rfl⟩
   ·exfalso
    have aa:(!mO)=false:=aa
    have af:decide (((rl.length:Nat):Int)=0)=false:=af
    have af:=of_decide_eq_false af
    rcases ag with ag |ag
    ·rw[ag] at aa;cases aa
    ·rw[ag] at af;exact af rfl
theorem Pm (he:r6 L top base=0):(∃d,dk L top=some d)∧iZ L top base=true∧gy L top base≠[]:=by
 unfold r6 at he
 split at he
 ·exact absurd he (by decide)
 ·rename_i aa
  split at he
  ·exact absurd he (by decide)
  ·rename_i af
   refine⟨Option.isSome_iff_exists.1 (by rw[Bool.not_eq_false] at aa;exact aa),?_,fun e=>af (.inr e)⟩
   cases e:iZ L top base with
   |true=>rfl
   |false=>exact absurd (.inl e) af
theorem Pn (h:bV bits room L) (top base:List UInt8) (he:r6 L top base=0):Fn Tryz.prog 20 [aI 1001,bN top,bN base] (bP bits room L) [2001] (.c8 [.one (.ptr 2001 0),fO 0]) (kD bits room L top base false):=by
 obtain⟨⟨d,hd⟩,aa,af⟩:=Pm he
 have qt:=Jw h hd base
 rw[aa] at qt
 generalize gy L top base=rl at*
 refine Fn.of aj [] _ _ _ _ _ Tryz.func20 rfl rfl (by kernel_rfl) (by kernel_rfl) rfl (aK aj) rfl ?_
 refine⟨_,_,_,_,vH _ _ L h.togF top d hd,⟨rfl,rfl,rfl,rfl,trivial⟩,rfl,?_⟩
 refine⟨fun _ _=>?_,fun h=>by cases h⟩
 refine⟨_,_,_,_,qt,⟨rfl,rfl,rfl,rfl,trivial⟩,rfl,?_⟩
 refine⟨fun h=>absurd h (by decide),fun _=>?_⟩
 refine⟨fun aA=>?_,fun _=>?_⟩
 ·exfalso
  have aA:decide (((rl.length:Nat):Int)=0)=true:=aA
  have aA:=of_decide_eq_true aA
  exact af (List.length_eq_zero_iff.1 (by omega))
 refine⟨rfl,?_⟩
 exact⟨_,_,_,(ah.ren 32 2001 rfl).trans (ah.Jv 2001 (l':=Jx top base false) rfl ⟨rfl,rfl,rfl,rfl,trivial⟩),rfl,⟨rfl,rfl,trivial⟩,⟨rfl,rfl,rfl,rfl,rfl,trivial⟩,rfl⟩
theorem Po (bits room:Int) (L:List aH) (top base:List UInt8) (over:Bool):Fn Tryz.prog 27 [aI 2001] (kD bits room L top base over) [] (g9 over) (kD bits room L top base over):=by
 refine Fn.of aj [] _ _ _ _ _ Tryz.func27 rfl rfl (by kernel_rfl) (by kernel_rfl) rfl (aK aj) rfl ?_
 exact⟨_,_,_,ah.refl _ _,rfl,rfl,⟨rfl,rfl,rfl,rfl,rfl,trivial⟩,rfl⟩
theorem ZS (bits room:Int) (L:List aH) (top base:List UInt8) (over:Bool):Fn Tryz.prog 24 [aI 2001] (kD bits room L top base over) [] sM (kD bits room L top base true):=by
 refine Fn.of aj [] _ _ _ _ _ Tryz.func24 rfl rfl (by kernel_rfl) (by kernel_rfl) rfl (aK aj) rfl ?_
 exact⟨_,_,_,ah.Jv 2001 (l':=Jx top base true) rfl ⟨rfl,rfl,rfl,rfl,trivial⟩,rfl,trivial,⟨rfl,rfl,rfl,rfl,rfl,trivial⟩,rfl⟩
theorem Pp (h:bV bits room L) (top base:List UInt8) (over:Bool) (n:List UInt8) (k:Nat) {e:aH} (he:dk L n=some e):Fn Tryz.prog 75 [bN n,aD (k:Int),aI 3001] (kD bits room L top base over++[(3001,.cells [.ptr 2001 0])]) [] (g9 (jN L n k)) (kD bits room L top base over++[(3001,.cells [.ptr 2001 0])]):=by
 have o3:=(h.iU e (cT he).1).1.tl
 have gG:=h.togF.M (cT he).1
 have ZT:jN L n k=(decide (e.im.t.length≤k)||decide ((e.im.t.getD k s0).1=0)):=by unfold jN;rw[he]
 rw[ZT]
 refine Fn.of aj [] _ _ _ _ _ Tryz.func75 rfl rfl (by kernel_rfl) (by kernel_rfl) rfl (aK aj) rfl ?_
 refine⟨_,_,_,_,vH _ _ L h.togF n e he,⟨rfl,rfl,rfl,rfl,trivial⟩,rfl,?_⟩
 refine⟨_,_,_,_,o5 (vv e.im) gG rfl rfl rfl rfl,⟨rfl,trivial⟩,rfl,?_⟩
 refine⟨fun aa=>?_,fun aa=>?_⟩
 ·have aa:((e.im.t.length:Nat):Int)≤(k:Int):=of_decide_eq_true aa
  exact⟨_,_,_,ah.refl _ _,rfl,(show true=_ by rw[decide_eq_true (by omega:e.im.t.length≤k)];rfl),⟨rfl,rfl,rfl,rfl,rfl,rfl,trivial⟩,rfl⟩
 ·have aa: ¬((e.im.t.length:Nat):Int)≤(k:Int):=of_decide_eq_false aa
  refine⟨_,_,_,_,o5 (DI e.im o3 k (by omega)) gG rfl rfl rfl rfl,⟨rfl,trivial⟩,rfl,?_⟩
  exact⟨_,_,_,ah.refl _ _,rfl,(show decide ((e.im.t.getD k s0).1=0)=_ by rw[decide_eq_false (by omega: ¬e.im.t.length≤k)];rfl),⟨rfl,rfl,rfl,rfl,rfl,rfl,trivial⟩,rfl⟩
def mP (L:List aH) (top base:List UInt8) (over:Bool):Int×Bool:=if over=true then(0,false) else match lW L top base with
 |some k=>((k:Int),true)
 |none=>(0,false)
@[reducible] def ZU (l:List (List UInt8)) (n k:Nat):aQ:=[(1,aI 1),(5,cJ .str l),(7,.c (.one (.eH 75 [.p 1 0]))),(50,aD (n:Int)),(51,aD (k:Int))]
@[reducible] def ZV (l:List (List UInt8)) (n k i:Nat):aQ:=[(1,aI 1),(5,cJ .str l),(7,.c (.one (.eH 75 [.p 1 0]))),(50,aD (n:Int)),(51,aD (k:Int)),(8,aD (k:Int)),(54,cJ .str l),(55,aD (l.length:Nat)),(56,aD (i:Int))]
@[reducible] def EG (bits room:Int) (L:List aH) (top base:List UInt8) (over:Bool):aG:=kD bits room L top base over++[(1,.cells [.ptr 2001 0])]
theorem ZW {α:Type} (p:α→Bool) {l:List α} {i:Nat} (h:i < l.length) (aC:(l.take i).any p=false) (aa:p l[i]=false):(l.take (i+1)).any p=false:=by
 rw[List.take_add_one,List.getElem?_eq_getElem h,List.any_append,aC]
 show(false||(p l[i]||false))=false
 rw[aa]
 rfl
set_option maxHeartbeats 1000000 in
theorem Jy (h:bV bits room L) (base:List UInt8) (over:Bool) {d:aH} (hd:dk L top=some d):Fn Tryz.prog 25 [aI 2001] (kD bits room L top base over) [] (.c8 [.one (.d (.int .i64 (mP L top base over).1)),.one (.d (.bool (mP L top base over).2))]) (kD bits room L top base over):=by
 have qt:=Jw h hd base
 have o3:=(h.iU d (cT hd).1).1.tl
 have gG:=h.togF.M (cT hd).1
 have ek:lp L top=d.im.t.length:=by unfold lp;rw[hd]
 have Nt:(gy L top base).length≤16:=by
  have aa:(gy L top base).length≤(cH L (cm L top) top).length:=(List.takeWhile_sublist _).length_le
  rw[mD (h.dep top).1] at aa
  have:=(h.dep top).2
  omega
 have gP: ∀n,n∈gy L top base→ ∃e,dk L n=some e:=fun n hn=>(ZF h hd n hn).2
 have aX: ∀k,pI L top base k=(jN L top k&&(gy L top base).any fun n=> !jN L n k):=fun k=>rfl
 have Jf:over=true→mP L top base over=(0,false):=fun e=>if_pos e
 have ZX:over=false→iZ L top base=false→mP L top base over=(0,false):=fun ai aq=>by
  unfold mP lW
  rw[ai,aq]
  rfl
 have lV:over=false→iZ L top base=true→ ∀k,k < lp L top→pI L top base k=true→(∀j,j < k→pI L top base j=false)→mP L top base over=((k:Int),true):=fun ai aq k au hp hn=>by
  unfold mP lW
  rw[ai,if_neg (by decide),if_pos aq,List.find?_range_eq_some.2 ⟨hp,List.mem_range.2 au,fun j ak=>by simp[hn j ak]⟩]
 have qW:over=false→(∀k,k < lp L top→pI L top base k=false)→mP L top base over=(0,false):=fun ai hn=>by
  unfold mP
  rw[ai,if_neg (by decide),ZL hn]
 have ZY:=fun k=>Pp h top base over top k hd
 have ZZ:=fun n (hn:n∈gy L top base) k=>Pp h top base over n k (gP n hn).choose_spec
 generalize mP L top base over=YV at*
 generalize iZ L top base=mO at*
 generalize gy L top base=rl at*
 generalize lp L top=n at*
 subst ek
 refine Fn.of aj [5] _ _ _ _ _ Tryz.func25 rfl rfl (by kernel_rfl) (by kernel_rfl) rfl (aK aj) rfl ?_
 refine⟨rfl,?_⟩
 refine⟨_,_,_,_,vH _ _ L h.togF top d hd,⟨rfl,rfl,rfl,rfl,trivial⟩,rfl,?_⟩
 refine⟨rfl,?_⟩
 refine⟨_,_,_,_,qt,⟨rfl,rfl,rfl,rfl,trivial⟩,rfl,?_⟩
 refine⟨rfl,?_⟩
 refine⟨fun av=>?_,fun av=>?_⟩
 ·have e:=Jf av
  exact⟨_,_,_,ah.refl _ _,rfl,⟨congrArg Prod.fst e.symm,congrArg Prod.snd e.symm,trivial⟩,⟨rfl,rfl,rfl,rfl,rfl,trivial⟩,rfl⟩
 have av:over=false:=av
 refine⟨fun _ _=>?_,fun h=>by cases h⟩
 refine⟨fun ay=>?_,fun ay=>?_⟩
 ·have ay:mO=false:=by
   have ay:(!mO)=true:=ay
   simpa using ay
  have e:=ZX av ay
  exact⟨_,_,_,ah.refl _ _,rfl,⟨congrArg Prod.fst e.symm,congrArg Prod.snd e.symm,trivial⟩,⟨rfl,rfl,rfl,rfl,rfl,trivial⟩,rfl⟩
 have ay:mO=true:=by
  have ay:(!mO)=false:=ay
  simpa using ay
 show aE _ _ _ _ _ _ _
 refine aE.go aj (aK aj) [] (by kernel_rfl) (ah.sub (K':=[(1,aI 1),(4,mY d.am),(5,cJ .str rl)]) (B':=EG bits room L top base over) ⟨rfl,rfl,rfl,trivial⟩ ⟨rfl,rfl,rfl,rfl,rfl,rfl,trivial⟩) ?_
 refine⟨_,_,_,_,o5 (vv d.im) gG rfl rfl rfl rfl,⟨rfl,trivial⟩,rfl,?_⟩
 show aE _ _ _ _ _ _ _
 refine aE.loop aj (aK aj) [16] (by kernel_rfl) (X:=Nat) (ZU rl d.im.t.length) (fun _=>EG bits room L top base over) (fun k=>k≤d.im.t.length∧ ∀j,j < k→pI L top base j=false) (fun k=>d.im.t.length - k) 0 ⟨Nat.zero_le _,fun j ak=>absurd ak (Nat.not_lt_zero j)⟩ ?_ ?_
 ·exact ah.sub ⟨rfl,rfl,rfl,rfl,rfl,trivial⟩ ⟨rfl,rfl,rfl,rfl,rfl,rfl,trivial⟩
 rintro k ⟨au,eS⟩
 have au:k≤d.im.t.length:=au
 refine⟨fun hc=>?_,fun hc=>?_⟩
 ·have hc:decide ((k:Int) < ((d.im.t.length:Nat):Int))=true:=hc
  have bU:k < d.im.t.length:=by have:=of_decide_eq_true hc;omega
  show aE _ _ _ _ _ _ _
  refine aE.loop aj (aK aj) [12,16] (by kernel_rfl) (X:=Nat) (ZV rl d.im.t.length k) (fun _=>EG bits room L top base over) (fun i=>i≤rl.length∧(jN L top k&&(rl.take i).any fun n=> !jN L n k)=false) (fun i=>rl.length - i) 0 ⟨Nat.zero_le _,Bool.and_false _⟩ ?_ ?_
  ·exact ah.sub ⟨rfl,rfl,rfl,rfl,rfl,rfl,rfl,rfl,rfl,trivial⟩ ⟨rfl,rfl,rfl,rfl,rfl,rfl,trivial⟩
  rintro i ⟨pX,nc⟩
  have pX:i≤rl.length:=pX
  refine⟨fun hc=>?_,fun hc=>?_⟩
  ·have hc:decide ((i:Int) < ((rl.length:Nat):Int))=true:=hc
   have td:i < rl.length:=by have:=of_decide_eq_true hc;omega
   have bM:=ZZ _ (List.getElem_mem td) k
   have m7:=fun(a:(rl.take i).any (fun n=> !jN L n k)=false) (b:(!jN L rl[i] k)=false)=>ZW (fun n=> !jN L n k) td a b
   have jY:=List.getElem_mem td
   have eP:=eY (n:=i) td
   generalize rl[i]=nm at*
   refine⟨by omega,nm,eP,?_⟩
   show aE _ _ _ _ _ _ _
   refine aE.go aj (aK aj) [16] (by kernel_rfl) (ah.sub (K':=[(1,aI 1),(5,cJ .str rl),(7,.c (.one (.eH 75 [.p 1 0]))),(50,aD (d.im.t.length:Nat)),(51,aD (k:Int)),(8,aD (k:Int)),(54,cJ .str rl),(55,aD (rl.length:Nat)),(56,aD (i:Int)),(10,bN nm)]) (B':=EG bits room L top base over) ⟨rfl,rfl,rfl,rfl,rfl,rfl,rfl,rfl,rfl,rfl,trivial⟩ ⟨rfl,rfl,rfl,rfl,rfl,rfl,trivial⟩) ?_
   refine⟨_,_,_,_,Fn.ren [(3001,1)] (ZY k),⟨rfl,rfl,rfl,rfl,rfl,rfl,trivial⟩,rfl,?_⟩
   refine⟨fun g1=>?_,fun g1=>?_⟩
   ·have g1:jN L top k=true:=g1
    refine⟨_,_,_,_,Fn.ren [(3001,1)] bM,⟨rfl,rfl,rfl,rfl,rfl,rfl,trivial⟩,rfl,?_⟩
    refine⟨fun g2=>?_,fun g2=>?_⟩
    ·have g2:(!jN L nm k)=true:=g2
     have Jz:pI L top base k=true:=by
      rw[aX,g1,Bool.true_and,List.any_eq_true]
      exact⟨nm,jY,g2⟩
     have e:=lV av ay k bU Jz eS
     exact⟨_,_,_,ah.refl _ _,rfl,⟨congrArg Prod.fst e.symm,congrArg Prod.snd e.symm,trivial⟩,⟨rfl,rfl,rfl,rfl,rfl,trivial⟩,rfl⟩
    ·have g2:(!jN L nm k)=false:=g2
     rw[g1,Bool.true_and] at nc
     exact⟨by omega,i+1,⟨td,by rw[g1,Bool.true_and];exact m7 nc g2⟩,by omega,ah.sub ⟨rfl,rfl,rfl,rfl,rfl,rfl,rfl,rfl,rfl,trivial⟩ ⟨rfl,rfl,rfl,rfl,rfl,rfl,trivial⟩⟩
   ·have g1:jN L top k=false:=g1
    exact⟨by omega,i+1,⟨td,by rw[g1];rfl⟩,by omega,ah.sub ⟨rfl,rfl,rfl,rfl,rfl,rfl,rfl,rfl,rfl,trivial⟩ ⟨rfl,rfl,rfl,rfl,rfl,rfl,trivial⟩⟩
  ·have hc:decide ((i:Int) < ((rl.length:Nat):Int))=false:=hc
   have td:i=rl.length:=by have:=of_decide_eq_false hc;omega
   have Jz:pI L top base k=false:=by
    rw[aX,←nc,td,List.take_length]
   exact⟨by omega,k+1,⟨bU,fun j ak=>by
    rcases Nat.lt_or_ge j k with bM |bM
    ·exact eS j bM
    ·rw[show j=k by omega]
     exact Jz⟩,by omega,ah.sub ⟨rfl,rfl,rfl,rfl,rfl,trivial⟩ ⟨rfl,rfl,rfl,rfl,rfl,rfl,trivial⟩⟩
 ·have hc:decide ((k:Int) < ((d.im.t.length:Nat):Int))=false:=hc
  have e8:k=d.im.t.length:=by have:=of_decide_eq_false hc;omega
  have e:=qW av fun j ak=>eS j (by omega)
  exact⟨_,_,_,ah.refl _ _,rfl,⟨congrArg Prod.fst e.symm,congrArg Prod.snd e.symm,trivial⟩,⟨rfl,rfl,rfl,rfl,rfl,trivial⟩,rfl⟩
theorem EH (h:bV bits room L) (base:List UInt8) (over:Bool) {d:aH} (hd:dk L top=some d):Fn Tryz.prog 23 [aI 2001] (kD bits room L top base over) [] (.c8 [.one (.d (.bool (jO bits L top base over).done)),fO (jO bits L top base over).e]) (kD bits room (jO bits L top base over).L top base (jO bits L top base over).over):=by
 have r4:=Jy h base over hd
 have o3:=(h.iU d (cT hd).1).1.tl
 have gG:=h.togF.M (cT hd).1
 have qt:d.im.bits=bits:=(h.iU d (cT hd).1).2.1
 have Z0:=h.eT
 have hp:=mA h.eT
 cases over with
 |true=>
  have e:jO bits L top base true=⟨false,160,L,true⟩:=rfl
  rw[e]
  refine Fn.of aj [] _ _ _ _ _ Tryz.func23 rfl rfl (by kernel_rfl) (by kernel_rfl) rfl (aK aj) rfl ?_
  refine⟨_,_,_,_,vH _ _ L h.togF top d hd,⟨rfl,rfl,rfl,rfl,trivial⟩,rfl,?_⟩
  refine⟨rfl,?_⟩
  refine⟨fun _=>?_,fun h=>absurd h (by decide)⟩
  exact⟨_,_,_,ah.refl _ _,rfl,⟨rfl,rfl,trivial⟩,⟨rfl,rfl,rfl,rfl,rfl,trivial⟩,rfl⟩
 |false=>
  have bt:jO bits L top base false=match lW L top base with
   |some k=>⟨false,(iV bits L top ((k*2 ^bits:Nat):Int) (k9 bits L top (k:Int))).e,(iV bits L top ((k*2 ^bits:Nat):Int) (k9 bits L top (k:Int))).L,false⟩
   |none=>⟨decide ((gx L top base).e=0),(gx L top base).e,(gx L top base).L,decide ((gx L top base).e=0)⟩:=by
   unfold jO
   rw[hd]
   rfl
  cases hn:lW L top base with
  |some k=>
   rw[hn] at bt
   have bt:jO bits L top base false=⟨false,(iV bits L top ((k*2 ^bits:Nat):Int) (k9 bits L top (k:Int))).e,(iV bits L top ((k*2 ^bits:Nat):Int) (k9 bits L top (k:Int))).L,false⟩:=bt
   rw[bt]
   have hc:mP L top base false=((k:Int),true):=by
    unfold mP
    rw[hn]
    rfl
   rw[hc] at r4
   have au:k < d.im.t.length:=by
    have:=(Pf hn).2.1
    unfold lp at this
    rw[hd] at this
    exact this
   have B8:(k:Int)*((2 ^((d.im.bits:Nat):Int).toNat:Nat):Int)=((k*2 ^bits:Nat):Int):=by
    rw[qt]
    show(k:Int)*((2 ^bits:Nat):Int)=_
    rw[Int.natCast_mul]
   have cQ:=X5 h top (k:Int)
   have hlen:(k9 bits L top (k:Int)).length≤1000000000:=by
    have:k9 bits L top (k:Int)=m9 bits L top (cm L top) k:=by
     unfold k9
     rw[hd]
     simp only
     rw[if_pos ⟨by omega,by omega⟩]
     rfl
    rw[this,Ib h.tom8 hd (h.dep top).1 k]
    omega
   have Pq:=IE h top ((k*2 ^bits:Nat):Int) (k9 bits L top (k:Int)) hlen
   rw[←B8] at Pq⊢
   generalize k9 bits L top (k:Int)=x at*
   generalize iV bits L top ((k:Int)*((2 ^((d.im.bits:Nat):Int).toNat:Nat):Int)) x=abA at*
   have bw:(0:Int)≤(k:Int)∧(0:Int)≤((d.im.bits:Nat):Int)∧((d.im.bits:Nat):Int)≤64:=by omega
   have mk:k*2 ^bits≤256*8:=Nat.mul_le_mul (by omega) hp.2
   have bX:(-9223372036854775808:Int)≤(k:Int)*((2 ^((d.im.bits:Nat):Int).toNat:Nat):Int)∧(k:Int)*((2 ^((d.im.bits:Nat):Int).toNat:Nat):Int)≤9223372036854775807:=by rw[B8];omega
   refine Fn.of aj [6] _ _ _ _ _ Tryz.func23 rfl rfl (by kernel_rfl) (by kernel_rfl) rfl (aK aj) rfl ?_
   refine⟨_,_,_,_,vH _ _ L h.togF top d hd,⟨rfl,rfl,rfl,rfl,trivial⟩,rfl,?_⟩
   refine⟨rfl,?_⟩
   refine⟨fun h=>absurd h (by decide),fun _=>?_⟩
   refine⟨fun _ _=>?_,fun h=>by cases h⟩
   refine⟨_,_,_,_,r4,⟨rfl,rfl,rfl,rfl,rfl,trivial⟩,rfl,?_⟩
   refine⟨fun _=>?_,fun h=>absurd (show true=false from h) (by decide)⟩
   show aE _ _ _ _ _ _ _
   refine aE.go aj (aK aj) [] (by kernel_rfl) (ah.sub (K':=[(0,aI 2001),(4,mY d.am),(5,aD (k:Int))]) (B':=kD bits room L top base false) ⟨rfl,rfl,rfl,trivial⟩ ⟨rfl,rfl,rfl,rfl,rfl,trivial⟩) ?_
   refine⟨_,_,_,_,o5 (Pg d.im) gG rfl rfl rfl rfl,⟨rfl,trivial⟩,rfl,?_⟩
   refine⟨bw,bX,?_⟩
   refine⟨_,_,_,_,cQ,⟨rfl,rfl,rfl,rfl,trivial⟩,rfl,?_⟩
   refine⟨_,_,_,_,Pq,⟨rfl,rfl,rfl,rfl,trivial⟩,rfl,?_⟩
   refine⟨rfl,?_⟩
   exact⟨_,_,_,ah.refl _ _,rfl,⟨rfl,rfl,trivial⟩,⟨rfl,rfl,rfl,rfl,rfl,trivial⟩,rfl⟩
  |none=>
   rw[hn] at bt
   have bt:jO bits L top base false=⟨decide ((gx L top base).e=0),(gx L top base).e,(gx L top base).L,decide ((gx L top base).e=0)⟩:=bt
   rw[bt]
   have hc:mP L top base false=(0,false):=by
    unfold mP
    rw[hn]
    rfl
   rw[hc] at r4
   have Z1:=N0 h top base
   generalize gx L top base=Pa at*
   refine Fn.of aj [7] _ _ _ _ _ Tryz.func23 rfl rfl (by kernel_rfl) (by kernel_rfl) rfl (aK aj) rfl ?_
   refine⟨_,_,_,_,vH _ _ L h.togF top d hd,⟨rfl,rfl,rfl,rfl,trivial⟩,rfl,?_⟩
   refine⟨rfl,?_⟩
   refine⟨fun h=>absurd h (by decide),fun _=>?_⟩
   refine⟨fun _ _=>?_,fun h=>by cases h⟩
   refine⟨_,_,_,_,r4,⟨rfl,rfl,rfl,rfl,rfl,trivial⟩,rfl,?_⟩
   refine⟨fun h=>absurd h (by decide),fun _=>?_⟩
   show aE _ _ _ _ _ _ _
   refine aE.go aj (aK aj) [] (by kernel_rfl) (ah.sub (K':=[(0,aI 2001)]) (B':=kD bits room L top base false) ⟨rfl,trivial⟩ ⟨rfl,rfl,rfl,rfl,rfl,trivial⟩) ?_
   refine⟨_,_,_,_,Z1,⟨rfl,rfl,rfl,rfl,trivial⟩,rfl,?_⟩
   refine⟨rfl,?_⟩
   exact⟨_,_,_,ah.refl _ _,rfl,⟨rfl,rfl,trivial⟩,⟨rfl,rfl,rfl,rfl,rfl,trivial⟩,rfl⟩
end
end Go.Proofs.YteoamepgonpdlaaGreat
namespace Go.Proofs.YteoamepgonpdlaaGreat
set_option linter.unusedVariables false
set_option linter.unusedSimpArgs false
set_option maxRecDepth 10000
open Go.RowKit Go.Proofs
def we (bits:Nat) (L:List aH) (nm:List UInt8) (q:kB):jq:=
 if ew q=1 then iV bits L nm (dc q) (fe q) else if ew q=2 then rX bits L nm (dc q) (dX q) else if ew q=3 then rY L nm (dc q) (dX q) else⟨0,L⟩
def jw (bits room:Nat) (L:List aH) (o:fC) (p:Nat×Nat):jq:=
 if fX o=0 then mH bits room L (ck o) (jM o) (eF o) p else if fX o=1 then r0 L (ck o) else if fX o=2 then gx L (ck o) (eF o) else if fX o=3 then we bits L (ck o) (cN o) else⟨0,L⟩
section
variable {bits room:Nat} {L:List aH}
theorem Z2 (h:bV bits room L) (nm:List UInt8) (q:kB):bV bits room (we bits L nm q).L:=by
 unfold we
 split
 ·exact zA h _ _ _
 ·split
  ·exact NT h _ _ _
  ·split
   ·exact NU h _ _ _
   ·exact h
theorem Z3 (h:bV bits room L) (nm:List UInt8) (q:kB):zS L nm (we bits L nm q).L:=by
 unfold we
 split
 ·exact OS h _ _ _
 ·split
  ·exact Y3 h _ _ _
  ·split
   ·exact Y4 h _ _ _
   ·exact .inl rfl
theorem Z4 (h:bV bits room L) {o:fC} (au:fX o≠0) (p:Nat×Nat):bV bits room (jw bits room L o p).L:=by
 unfold jw
 rw[if_neg au]
 split
 ·exact NX h _
 ·split
  ·exact BI h _ _
  ·split
   ·exact Z2 h _ _
   ·exact h
def EI (L:List aH):Prop:= ∀d,d∈L→d.im.t.length≤12
theorem EI.nil:EI []:=fun d h=>by cases h
theorem EI.aM (h:EI L) (n:List UInt8):lp L n≤12:=by
 unfold lp
 cases e:dk L n with
 |none=>exact Nat.zero_le _
 |some d=>exact h d (cT e).1
theorem zS.aM {gl:List aH} {t:List UInt8} (aB:zS L t gl) (n:List UInt8):lp gl n=lp L n∧(dk gl n).isSome=(dk L n).isSome:=by
 rcases aB with rfl |⟨d,im,aC,hs,rfl⟩
 ·exact⟨rfl,rfl⟩
 ·exact ZD L aC hs
end
@[reducible] def kQ:U:=.pr c7 OC
abbrev jP:=Int×kB
@[reducible] def Pr (o:jP):Int:=o.1
@[reducible] def gR (o:jP):kB:=o.2
@[reducible] def Z5 (o:jP):List bx:=.d (.int .i64 (Pr o))::OD (gR o)
def nj (o:jP):Nat:=(fe (gR o)).length
def qj (l:List jP) (k:Nat):Nat:=((l.take k).map nj).sum
theorem Pt (l:List jP) (k:Nat):qj l k≤(l.map nj).sum:=by
 unfold qj
 rw[List.map_take]
 exact I9 _ _
theorem Z6 (l:List jP) {k:Nat} (h:k < l.length):qj l (k+1)=qj l k+nj l[k]:=by
 unfold qj
 rw[List.take_add_one,List.getElem?_eq_getElem h,List.map_append,List.sum_append]
 rfl
theorem Z7 {l:List jP} {o:jP} (h:o∈l):nj o≤(l.map nj).sum:=by
 induction l with
 |nil=>cases h
 |cons x l aY=>
  rw[List.map_cons,List.sum_cons]
  rcases List.mem_cons.1 h with rfl |h
  ·omega
  ·have:=aY h
   omega
def r7 (l:List fC) (m:List jP):Bool:=(l.all fun o=> !vY o)&&(decide (l.length+m.length≤60)&&decide ((l.map lT).sum+(m.map nj).sum≤6000))
theorem Z8 {l:List fC} {m:List jP} {k:Nat} (au:k < l.length) (ag:vY l[k]=true):r7 l m=false:=by
 unfold r7
 rw[show(l.all fun o=> !vY o)=false from Bool.eq_false_iff.2 fun h=>by
  have:=List.all_eq_true.1 h _ (List.getElem_mem au)
  rw[ag] at this
  cases this]
 rfl
theorem Z9 {l:List fC} {m:List jP} (h:r7 l m=true):l.length+m.length≤60∧(∀o,o∈l→lT o≤6000∧vY o=false)∧ ∀o,o∈m→nj o≤6000:=by
 unfold r7 at h
 simp only[Bool.and_eq_true] at h
 have af:=of_decide_eq_true h.2.2
 refine⟨of_decide_eq_true h.2.1,fun o av=>⟨Nat.le_trans (Yx av) (by omega),?_⟩,fun o av=>Nat.le_trans (Z7 av) (by omega)⟩
 have:=List.all_eq_true.1 h.1 o av
 simpa using this
theorem aaa (o:jP):fM kQ o=6+nj o+(zM (gR o)).length:=by
 have aa:=Jb (fe (gR o))
 have e:fM kQ o=1+(1+(1+(1+(fM (.sl .u8) (fe (gR o))+(1+(zM (gR o)).length))))):=rfl
 rw[e,aa]
 unfold nj
 omega
theorem Pu: ∀l:List jP,1+l.length+(l.map nj).sum≤fM (.sl kQ) l
 | []=>Nat.le_refl _
 |o::l=>by
  have aa:=Pu l
  have aq:fM (.sl kQ) l=1+(List.map (fM kQ) l).sum:=rfl
  have bk:=aaa o
  show 1+(l.length+1)+(nj o+(l.map nj).sum)≤1+(fM kQ o+(List.map (fM kQ) l).sum)
  omega
end Go.Proofs.YteoamepgonpdlaaGreat
namespace Go.Proofs.YteoamepgonpdlaaGreat
set_option linter.unusedVariables false
set_option linter.unusedSimpArgs false
open Go.RowKit Go.Proofs
section
variable {n bits room:Nat} {L:List aH} {l:List bJ}
theorem tu.aab (h:tu L l) (base:List UInt8) {x:List UInt8} {k:Nat} (bW:dK L x k): ∀f,k≤f→kC l base f x=if base∈cH L k x then((cH L k x).takeWhile fun n=> !decide (n=base)).length+1 else 0:=by
 induction bW with
 | @gone nm aC=>
  intro f _
  have e:g6 l nm=none:=by
   rcases h.get nm with⟨_,e⟩ |⟨d,e,ai,_⟩
   ·unfold g6;rw[e]
   ·rw[aC] at ai;cases ai
  rw[if_neg (by unfold cH;exact List.not_mem_nil)]
  cases f with
  |zero=>rfl
  |succ f=>unfold kC;rw[e]
 | @base nm d aC ag=>
  intro f _
  have e:g6 l nm=none:=by
   rcases h.get nm with⟨ai,_⟩ |⟨d2,e,ai,aq,bk⟩
   ·rw[aC] at ai;cases ai
   ·rw[aC] at ai
    injection ai with ai
    subst ai
    unfold g6
    rw[aq]
    exact if_pos (bk.trans ag)
  rw[if_neg (by unfold cH;exact List.not_mem_nil)]
  cases f with
  |zero=>rfl
  |succ f=>unfold kC;rw[e]
 | @step nm d k aC ag bW aY=>
  intro f hf
  obtain⟨g,rfl⟩: ∃g,f=g+1:=⟨f - 1,by omega⟩
  have e:g6 l nm=some d.back:=by
   rcases h.get nm with⟨ai,_⟩ |⟨d2,e,ai,aq,bk⟩
   ·rw[aC] at ai;cases ai
   ·rw[aC] at ai
    injection ai with ai
    subst ai
    unfold g6
    rw[aq]
    simp only
    rw[bk]
    exact if_neg ag
  have eC:cH L (k+1) nm=d.back::cH L k d.back:=by rw[cH,aC]
  unfold kC
  rw[e,eC]
  simp only
  by_cases hx:d.back=base
  ·rw[if_pos hx,if_pos (by rw[hx];exact List.mem_cons_self ..),List.takeWhile_cons,decide_eq_true hx]
   rfl
  ·rw[if_neg hx,aY g (by omega),List.takeWhile_cons,decide_eq_false hx]
   by_cases hm:base∈cH L k d.back
   ·rw[if_pos hm,if_pos (List.mem_cons_of_mem _ hm)]
    rfl
   ·rw[if_neg hm,if_neg (fun w=>by
     rcases List.mem_cons.1 w with w |w
     ·exact hx w.symm
     ·exact hm w)]
theorem cV.Pv (h:cV n bits room L l) (bG:bV bits room L) {top:List UInt8} {d:aH} (hd:dk L top=some d) (base:List UInt8):qi l top base=if iZ L top base=true then(gy L top base).length+1 else 0:=by
 have aa:=bG.dep top
 unfold qi iZ
 rw[hd,Option.isSome_some,Bool.true_and]
 by_cases ag:base=[]
 ·subst ag
  rw[if_pos rfl,decide_eq_true rfl,Bool.true_or,if_pos rfl,h.l7 bG]
  have c9:gy L top []=cH L (cm L top) top:=by
   unfold gy
   have hp: ∀x,x∈cH L (cm L top) top→(fun n=> !decide (n=([]:List UInt8))) x=true:=fun x hx=>by
    obtain⟨e,he⟩:=Bw bG.tom8 aa.1 x hx
    have:=bG.ne e (cT he).1
    rw[(cT he).2] at this
    show(!decide (x=[]))=true
    rw[decide_eq_false this]
    rfl
   have:=List.takeWhile_append_of_pos (l₂:=[]) hp
   simpa using this
  rw[c9,mD aa.1]
 ·rw[if_neg ag,decide_eq_false ag,Bool.false_or,h.tv.aab base aa.1 20 (by omega)]
  unfold gy
  by_cases hm:base∈cH L (cm L top) top
  ·rw[if_pos hm,decide_eq_true hm,if_pos rfl]
  ·rw[if_neg hm,decide_eq_false hm,if_neg (by decide)]
theorem Pw (c:Nat): ∀(ns:List (List UInt8)) (i:Nat),(eZ bits L c ns i).2=0∨i < (eZ bits L c ns i).2
 | [],i=>.inl rfl
 |n::ns,i=>by
  unfold eZ
  split
  ·exact .inl rfl
  ·split
   ·exact .inr (Nat.lt_succ_self i)
   ·rcases Pw c ns (i+1) with h |h
    ·exact .inl h
    ·exact .inr (by omega)
theorem JA {d:aH} {x:List UInt8} (hd:dk L x=some d) (c:Nat):(c < d.im.t.length∧(d.im.t.getD c s0).1≠0)↔jN L x c=false:=by
 unfold jN
 rw[hd]
 simp only[Bool.or_eq_false_iff,decide_eq_false_iff_not]
 omega
theorem Px (c:Nat) (B:List (List UInt8)): ∀(A:List (List UInt8)) (i:Nat),(∀x,x∈A→ ∃d,dk L x=some d)→(A.any fun x=> !jN L x c)=true→i < (eZ bits L c (A++B) i).2∧(eZ bits L c (A++B) i).2≤i+A.length
 | [],i,_,h=>by cases h
 |x::A,i,au,h=>by
  obtain⟨d,hd⟩:=au x (List.mem_cons_self ..)
  have bM:=JA hd c
  show i < (eZ bits L c (x::(A++B)) i).2∧(eZ bits L c (x::(A++B)) i).2≤i+(A.length+1)
  unfold eZ
  rw[hd]
  simp only
  by_cases e:jN L x c=false
  ·rw[if_pos (bM.2 e)]
   exact⟨Nat.lt_succ_self i,by show i+1≤i+(A.length+1);omega⟩
  ·rw[if_neg (fun w=>e (bM.1 w))]
   rw[List.any_cons] at h
   have e:jN L x c=true:=by cases q:jN L x c with |true=>rfl |false=>exact absurd q e
   rw[e] at h
   obtain⟨g1,g2⟩:=Px c B A (i+1) (fun y aF=>au y (List.mem_cons_of_mem _ aF)) h
   omega
theorem Py (c:Nat) (B:List (List UInt8)): ∀(A:List (List UInt8)) (i:Nat),(∀x,x∈A→ ∃d,dk L x=some d)→(A.any fun x=> !jN L x c)=false→(eZ bits L c (A++B) i).2=(eZ bits L c B (i+A.length)).2
 | [],i,_,h=>rfl
 |x::A,i,au,h=>by
  obtain⟨d,hd⟩:=au x (List.mem_cons_self ..)
  have bM:=JA hd c
  rw[List.any_cons,Bool.or_eq_false_iff] at h
  show(eZ bits L c (x::(A++B)) i).2=(eZ bits L c B (i+(A.length+1))).2
  unfold eZ
  rw[hd]
  simp only
  rw[if_neg (fun w=>by
   have:=bM.1 w
   rw[this] at h
   exact absurd h.1 (by decide)),Py c B A (i+1) (fun y aF=>au y (List.mem_cons_of_mem _ aF)) h.2,show i+1+A.length=i+(A.length+1) by omega]
  cases B <;>rfl
theorem cV.qn (h:cV n bits room L l) (bG:bV bits room L) {top:List UInt8} {d:aH} (hd:dk L top=some d) (base:List UInt8):uI l top base=lW L top base:=by
 obtain⟨e,g1,g2,bL⟩:=h.get hd
 have gP:=Bw bG.tom8 (bG.dep top).1
 have Pz:=h.Pv bG hd base
 have aX: ∀k,iZ L top base=true→qV l top base k=pI L top base k:=fun k ag=>by
  unfold qV pI
  rw[h.O4 bG ⟨d,hd⟩ k,Pz,if_pos ag]
  have ua:cH L (cm L top) top=gy L top base++(cH L (cm L top) top).dropWhile fun n=> !decide (n=base):=(List.takeWhile_append_dropWhile ..).symm
  generalize(cH L (cm L top) top).dropWhile (fun n=> !decide (n=base))=rest at ua
  have e8: ∀x,x∈gy L top base→ ∃d,dk L x=some d:=fun x hx=>gP x (by rw[ua];exact List.mem_append_left _ hx)
  have bM:=JA hd k
  have ha:vW bits L top k=if k < d.im.t.length∧(d.im.t.getD k s0).1≠0 then 0+1 else(eZ bits L k (gy L top base++rest) (0+1)).2:=by
   unfold vW
   rw[ua]
   show(match dk L top with
    |none=>([],0)
    |some d=>if k < d.im.t.length∧(d.im.t.getD k s0).1≠0 then(dR d.im k none,0+1) else eZ bits L k (gy L top base++rest) (0+1)).2=_
   rw[hd]
   simp only
   split <;>rfl
  cases q:jN L top k with
  |false=>
   rw[if_pos (bM.2 q)] at ha
   rw[ha,Bool.false_and]
   rfl
  |true=>
   rw[if_neg (fun w=>by have:=bM.1 w;rw[q] at this;cases this)] at ha
   rw[ha,Bool.true_and]
   cases a:(gy L top base).any fun x=> !jN L x k with
   |true=>
    obtain⟨cx,cM⟩:=Px (bits:=bits) k rest (gy L top base) (0+1) e8 a
    rw[Bool.and_eq_true]
    exact⟨decide_eq_true (by omega),decide_eq_true (by omega)⟩
   |false=>
    have cx:=Py (bits:=bits) k rest (gy L top base) (0+1) e8 a
    have cM:=Pw (bits:=bits) (L:=L) k rest (0+1+(gy L top base).length)
    rw[Bool.and_eq_false_iff]
    rcases cM with cM |cM
    ·left
     exact decide_eq_false (by omega)
    ·right
     exact decide_eq_false (by omega)
 unfold uI lW
 rw[g1]
 simp only
 have ek:lp L top=(aL (bB e)).length:=by unfold lp;rw[hd];exact bL.len.symm
 cases ag:iZ L top base with
 |true=>
  rw[if_pos rfl,ek,show qV l top base=pI L top base from funext fun k=>aX k ag]
 |false=>
  rw[if_neg (by decide),List.find?_eq_none.2 fun x _=>?_]
  unfold qV
  rw[Pz,ag,if_neg (by decide)]
  simp only[Bool.and_eq_true,decide_eq_true_eq]
  omega
theorem cV.aac (h:cV n bits room L l) (bG:bV bits room L) {top:List UInt8} {d:aH} (hd:dk L top=some d) (base:List UInt8) (over:Bool):r5 l top base over=mP L top base over:=by
 unfold r5 mP
 rw[h.qn bG hd]
 rfl
theorem cV.aad (h:cV n bits room L l) (bG:bV bits room L) (top base:List UInt8):zP l top base=r6 L top base:=by
 unfold zP r6
 cases hd:dk L top with
 |none=>rw[if_pos (h.oE.2.2 hd)];rfl
 |some d=>
  have aa: ¬cc l top < 0:=fun w=>by have:=h.oE.2.1 w;rw[hd] at this;cases this
  rw[if_neg aa,h.Pv bG hd base,show(if(some d).isSome=false then(140:Int) else if iZ L top base=false∨gy L top base=[] then 1 else 0)=(if iZ L top base=false∨gy L top base=[] then 1 else 0) from if_neg (fun w=>by cases w)]
  cases ag:iZ L top base with
  |false=>exact(if_pos (show(if false=true then(gy L top base).length+1 else 0) < 2 from Nat.zero_lt_succ 1)).trans (if_pos (Or.inl rfl)).symm
  |true=>
   rw[if_pos rfl]
   by_cases aB:gy L top base=[]
   ·rw[aB,if_pos (by decide),if_pos (.inr rfl)]
   ·rw[if_neg (by have:=List.length_pos_iff.2 aB;omega),if_neg (fun w=>by rcases w with w |w;cases w;exact aB w)]
theorem aae (o:fC) (p:Nat×Nat):(vZ bits room L o p).L=(jw bits room L o p).L∧((fX o=3→ew (cN o)≠0)→(vZ bits room L o p).e=(jw bits room L o p).e):=by
 unfold vZ jw pH we
 by_cases cy:fX o=0
 ·rw[if_pos cy,if_pos cy];exact⟨rfl,fun _=>rfl⟩
 rw[if_neg cy,if_neg cy]
 by_cases bp:fX o=1
 ·rw[if_pos bp,if_pos bp];exact⟨rfl,fun _=>rfl⟩
 rw[if_neg bp,if_neg bp]
 by_cases bq:fX o=2
 ·rw[if_pos bq,if_pos bq];exact⟨rfl,fun _=>rfl⟩
 rw[if_neg bq,if_neg bq]
 by_cases b8:fX o=3
 ·rw[if_pos b8,if_pos b8]
  by_cases d0:ew (cN o)=0
  ·rw[if_pos d0,if_neg (by omega),if_neg (by omega),if_neg (by omega)]
   exact⟨rfl,fun w=>absurd d0 (w b8)⟩
  rw[if_neg d0]
  by_cases d1:ew (cN o)=1
  ·rw[if_pos d1,if_pos d1];exact⟨rfl,fun _=>rfl⟩
  rw[if_neg d1,if_neg d1]
  by_cases d2:ew (cN o)=2
  ·rw[if_pos d2,if_pos d2];exact⟨rfl,fun _=>rfl⟩
  rw[if_neg d2,if_neg d2]
  by_cases d3:ew (cN o)=3
  ·rw[if_pos d3,if_pos d3];exact⟨rfl,fun _=>rfl⟩
  ·rw[if_neg d3,if_neg d3];exact⟨rfl,fun _=>rfl⟩
 ·rw[if_neg b8,if_neg b8];exact⟨rfl,fun _=>rfl⟩
def qY (l:List bJ) (N:Nat):Prop:= ∀e,e∈l→(cU (bB e)).length≤N
theorem cV.go (h:cV n bits room L l) (bG:bV bits room L) (o:fC) (p:Nat×Nat) (dr:bV bits room (jw bits room L o p).L) {N:Nat} (hd:qY l N) (dn:N+256≤100000):
  ((fX o=3→ew (cN o)≠0)→(ji n bits room l o).e=(jw bits room L o p).e)∧cV n bits room (jw bits room L o p).L (ji n bits room l o).l∧qY (ji n bits room l o).l (N+256):=by
 obtain⟨cK,c5⟩:=aae (bits:=bits) (room:=room) (L:=L) o p
 rw[←cK] at dr⊢
 obtain⟨g1,g2,bL,gU⟩:=h.step bG o p dr fun e he=>by have:=hd e he;omega
 refine⟨fun w=>g2.trans (c5 w),bL,fun e he=>?_⟩
 obtain⟨k,cx,cM⟩:=gU e he
 rcases cM with cM |⟨bt,cM,w3⟩
 ·omega
 ·have:=hd bt cM
  omega
theorem cV.ps (h:cV n bits room L l) (bG:bV bits room L) {top:List UInt8} {d:aH} (hd:dk L top=some d) (base:List UInt8) (over:Bool) {N:Nat} (bW:qY l N) (dn:N+256≤100000):
  (qX n bits room l top base over).is=(jO bits L top base over).done∧(qX n bits room l top base over).e=(jO bits L top base over).e∧(qX n bits room l top base over).over=(jO bits L top base over).over∧
  cV n bits room (jO bits L top base over).L (qX n bits room l top base over).l∧qY (qX n bits room l top base over).l (N+256):=by
 unfold qX jO
 rw[hd,h.qn bG hd]
 cases over with
 |true=>exact⟨rfl,rfl,rfl,h,fun e he=>Nat.le_trans (bW e he) (Nat.le_add_right _ _)⟩
 |false=>
  rw[if_neg (by decide),if_neg (fun w=>by cases w)]
  cases hn:lW L top base with
  |some k=>
   have au:=(Pf hn).2.1
   unfold lp at au
   rw[hd] at au
   have au:k < d.im.t.length:=au
   have cQ:k9 bits L top (k:Int)=mL n l top k:=by
    unfold k9
    rw[hd]
    simp only
    rw[if_pos ⟨by omega,by omega⟩,h.jr bG ⟨d,hd⟩ k,Int.toNat_natCast]
   have ha:(k:Int)*(n:Nat)=((k*2 ^bits:Nat):Int):=by rw[h.gj,Int.natCast_mul]
   have pW:jw bits room L (zQ n l top k) (0,0)=iV bits L top ((k*2 ^bits:Nat):Int) (k9 bits L top (k:Int)):=by
    show iV bits L top ((k:Int)*(n:Nat)) (mL n l top k)=_
    rw[ha,cQ]
   obtain⟨g1,g2,bL⟩:=h.go bG (zQ n l top k) (0,0) (by rw[pW];exact zA bG _ _ _) bW dn
   rw[pW] at g1 g2
   exact⟨rfl,g1 (fun _ w=>absurd (show(1:Int)=0 from w) (by decide)),rfl,g2,bL⟩
  |none=>
   have pW:jw bits room L (x2 top base) (0,0)=gx L top base:=rfl
   obtain⟨g1,g2,bL⟩:=h.go bG (x2 top base) (0,0) (by rw[pW];exact BI bG _ _) bW dn
   rw[pW] at g1 g2
   have g1:=g1 (fun w=>absurd (show(2:Int)=3 from w) (by decide))
   exact⟨by show decide _=decide _;rw[g1],g1,by show decide _=decide _;rw[g1],g2,bL⟩
end
end Go.Proofs.YteoamepgonpdlaaGreat
namespace Go.Proofs.YteoamepgonpdlaaGreat
set_option linter.unusedVariables false
set_option linter.unusedSimpArgs false
open Go.RowKit
def B9:List Nat→List Nat→List Nat
 | [],r=>r
 |x::l,r=>match r.contains x with
  |true=>B9 l r
  |false=>B9 l (x::r)
theorem JB {a:Nat}: ∀{l r:List Nat},a∈B9 l r→a∈l∨a∈r
 | [],r,h=>.inr h
 |x::l,r,h=>by
  unfold B9 at h
  split at h
  ·rcases JB h with h |h
   ·exact .inl (List.mem_cons_of_mem _ h)
   ·exact .inr h
  ·rcases JB h with h |h
   ·exact .inl (List.mem_cons_of_mem _ h)
   ·rcases List.mem_cons.1 h with rfl |h
    ·exact .inl (List.mem_cons_self ..)
    ·exact .inr h
def JC (acc:List (List Nat)):List Nat→List Nat
 | []=>[]
 |d::l=>B9 (d::acc.getD d []) (JC acc l)
theorem PA {acc:List (List Nat)} {a:Nat}: ∀{l:List Nat},a∈JC acc l→a∈l∨ ∃d∈l,a∈acc.getD d []
 | [],h=>by cases h
 |d::l,h=>by
  rcases JB h with h |h
  ·rcases List.mem_cons.1 h with rfl |h
   ·exact .inl (List.mem_cons_self ..)
   ·exact .inr ⟨d,List.mem_cons_self ..,h⟩
  ·rcases PA h with h |⟨e,he,h⟩
   ·exact .inl (List.mem_cons_of_mem _ h)
   ·exact .inr ⟨e,List.mem_cons_of_mem _ he,h⟩
def EJ:List Oper→List (List Nat)→List (List Nat)
 | [],acc=>acc
 |o::l,acc=>EJ l (acc++[JC acc (pN o)])
theorem PB: ∀(l:List Oper) (acc Ca:List (List Nat)),acc.length=Ca.length→(∀j a,a∈acc.getD j []→a∈Ca.getD j [])→ ∀j a,a∈(EJ l acc).getD j []→a∈(yj l Ca).getD j []
 | [],acc,Ca,_,h=>h
 |o::l,acc,Ca,aB,h=>by
  unfold EJ yj
  refine PB l _ _ (by simp[aB]) ?_
  intro j a ha
  rw[List.getD_eq_getElem?_getD] at ha⊢
  rcases Nat.lt_trichotomy j acc.length with bH |heq |tN
  ·rw[List.getElem?_append_left bH,←List.getD_eq_getElem?_getD] at ha
   rw[List.getElem?_append_left (aB▸bH),←List.getD_eq_getElem?_getD]
   exact h j a ha
  ·subst heq
   rw[List.getElem?_append_right (Nat.le_refl _)] at ha
   rw[List.getElem?_append_right (Nat.le_of_eq aB.symm)]
   simp only[Nat.sub_self,List.getElem?_cons_zero,Option.getD_some] at ha
   simp only[aB,Nat.sub_self,List.getElem?_cons_zero,Option.getD_some,List.mem_append,List.mem_flatMap]
   rcases PA ha with ha |⟨d,hd,ha⟩
   ·exact .inl ha
   ·exact .inr ⟨d,hd,h d a ha⟩
  ·rw[List.getElem?_eq_none (by simp;omega)] at ha
   simp at ha
theorem PC {all:List Oper} {an PD:List (List Nat)} (h: ∀j a,a∈an.getD j []→a∈PD.getD j []): ∀l:List (Oper×kn×Nat),tM all an l=true→tM all PD l=true
 | [],_=>rfl
 |(o,n,i)::l,hp=>by
  simp only[tM,Bool.and_eq_true] at hp⊢
  refine⟨List.all_eq_true.2 fun x hx=>?_,PC h l hp.2⟩
  have:=List.all_eq_true.1 hp.1 x hx
  obtain⟨p,m,j⟩:=x
  simp only[Bool.or_eq_true,Bool.and_eq_true,List.contains_iff_mem] at this⊢
  exact this.imp (fun g=>⟨h _ _ g.1,g.2⟩) id
def PE (K:aQ) (B:aG) (ops:List Oper) (log:List kn):Bool:=
 let es:=log.reverse
 (ops.zipIdx.all fun(o,i)=>(pN o).all fun d=>Nat.blt d i)&&(es.all fun n=>n.e.bu.all fun c=>tI c K&&mS c B)&&tM ops (EJ ops []) ((ops.zip es).zipIdx.map fun((o,n),i)=>(o,n,i))
theorem aaf {K:aQ} {B:aG} {ops:List Oper} {log:List kn} (h:PE K B ops log=true):indep K B ops log=true:=by
 simp only[PE,Bool.and_eq_true] at h
 simp only[indep,Bool.and_eq_true]
 exact⟨h.1,PC (PB ops [] [] rfl fun _ _ h=>h) _ h.2⟩
end Go.Proofs.YteoamepgonpdlaaGreat
namespace Go.Proofs.YteoamepgonpdlaaGreat
set_option linter.unusedVariables false
set_option linter.unusedSimpArgs false
set_option maxRecDepth 10000
open Go.RowKit Go.Proofs
theorem aag {P:Program} {ids:List Nat} {K:aQ} {B:aG} {o:Oper} {T gB:TypeId} {x y:Operand} {lx ly:List bx} {m D:Nat} (av:o.op= .binOp .neq T x y gB) (bl:P.eqGuardType P.depth T=false) (au:P.keyTypeAt m T=true) (hm:m≤10000)
  (hx:aU K x= .c (.agg lx)) (aF:aU K y= .c (.agg ly)) (gh:(xm lx&&xm ly)=true) (G0:(Value.agg (List.toArray (kf lx))).formed P T=true) (G1:(Value.agg (List.toArray (kf ly))).formed P T=true)
  (G2:P.keyLits D T (kf lx)=some (gY lx)) (G3:P.keyLits D T (kf ly)=some (gY ly)) {r:Bool} (hr:r=true↔gY lx=gY ly) (N:Nat):bI P N ids o K B (.c (.one (.d (.bool (!r))))) ⟨[],[],[]⟩:=by
 have bw:x∈o.op.operands:=by rw[av];simp[Op.operands]
 have bX:y∈o.op.operands:=by rw[av];simp[Op.operands]
 simp only[Bool.and_eq_true] at gh
 refine bI.val fun K' B' g1 g2 C ρ F a w az hS=>?_
 obtain⟨vs,ai,aa⟩:=hS.ev ((g1 x bw).trans hx)
 obtain⟨us,aq,af⟩:=hS.ev ((g1 y bX).trans aF)
 have aa:=A9 gh.1 aa
 have af:=A9 gh.2 af
 subst aa af
 obtain⟨q,bh,qs⟩:=run_equalIn_deep (P:=P) (10000 - m) m T au w D D (.agg (List.toArray (kf lx))) (.agg (List.toArray (kf ly))) (gY lx) (gY ly) G0 G1 (by simpa[Value.cells] using G2) (by simpa[Value.cells] using G3)
 rw[show 10000 - m+m=10000 by omega] at bh
 have G4:q=r:=by
  cases q <;>cases r
  ·rfl
  ·exact absurd (qs.2 (hr.1 rfl)) (by simp)
  ·exact absurd (hr.2 (qs.1 rfl)) (by simp)
  ·rfl
 subst G4
 refine⟨.bool (!q),?_,rfl⟩
 simp only[execOp,av,ai,aq,Sem.run_bind,run_eqGuard_agg w .neq T x y _ _ bl,Result.andThen_ok,run_neq_struct,bh,Sem.run_pure]
@[reducible] def pJ (n:Int):Prop:= -9223372036854775808≤n∧n≤9223372036854775807
theorem JD (d:Nat) {n:Int} (h:pJ n):Tryz.prog.keyLits (d+1) 3 [.int .i64 n]=some [.int .i64 n]:=by
 unfold Program.keyLits
 simp only[Tryz.underlying3]
 have hw:(Lit.int .i64 n).wf=true:=by
  simp only[Lit.wf,Bool.and_eq_true,decide_eq_true_eq]
  have aa:IntKind.min .i64= -9223372036854775808:=by decide
  have af:IntKind.max .i64=9223372036854775807:=by decide
  rw[aa,af]
  exact h
 simp[hw]
theorem aah (d:Nat) {x:gQ} (aa:pJ x.1) (af:pJ x.2.1) (aA:pJ x.2.2):Tryz.prog.keyLits (d+2) 114 (kf [.d (.int .i64 x.1),.d (.int .i64 x.2.1),.d (.int .i64 x.2.2)])=some (gY [.d (.int .i64 x.1),.d (.int .i64 x.2.1),.d (.int .i64 x.2.2)]):=by
 have bp:Tryz.prog.cellsOf 114=3:=by kernel_rfl
 have bq:Tryz.prog.cellsOf 3=1:=by kernel_rfl
 have cE:=JD d aa
 have ey:=JD d af
 have fo:=JD d aA
 unfold Program.keyLits
 simp only[Tryz.underlying114,bp]
 simp[kf,Dr,bq,cE,ey,fo,gY,xl]
theorem aai (l:List gQ) (aB:l.length≤100000) (dU: ∀x,x∈l→pJ x.1∧pJ x.2.1∧pJ x.2.2):Fn Tryz.prog 30 [cJ iY l,cJ iY l] [] [] (g9 true) []:=by
 refine Fn.of aj [] _ _ _ _ _ Tryz.func30 rfl rfl (by kernel_rfl) (by kernel_rfl) rfl (aK aj) rfl ?_
 refine⟨fun h=>absurd (show(!decide (((l.length:Nat):Int)=((l.length:Nat):Int)))=true from h) (by simp),fun _=>?_⟩
 show aE _ _ _ _ _ _ _
 refine aE.loop aj (aK aj) [] (by kernel_rfl) (X:=Nat) (fun i=>[(0,cJ iY l),(1,cJ iY l),(5,aD (i:Nat))]) (fun _=>[]) (fun i=>i≤l.length) (fun i=>l.length - i) 0 (Nat.zero_le _) ?_ ?_
 ·exact ah.sub ⟨rfl,rfl,rfl,trivial⟩ trivial
 intro i ay
 have ay:i≤l.length:=ay
 refine⟨fun h=>?_,fun h=>?_⟩
 ·have pX:i < l.length:=by
   have h:decide (((i:Nat):Int) < ((l.length:Nat):Int))=true:=h
   have:=of_decide_eq_true h
   omega
  have bl:ff l i=some l[i]:=List.getElem?_eq_getElem pX
  have hm:=dU _ (List.getElem_mem pX)
  generalize l[i]=x at*
  have au:=aah 3 hm.1 hm.2.1 hm.2.2
  have bw:(0:Int)≤((i:Nat):Int):=by omega
  have bX: -9223372036854775808≤((i:Nat):Int)+1∧((i:Nat):Int)+1≤9223372036854775807:=by omega
  refine⟨bw,x,bl,bw,x,bl,?_⟩
  refine⟨_,_,fun N=>aag (m:=5) (D:=5) (r:=true) (lx:=[.d (.int .i64 x.1),.d (.int .i64 x.2.1),.d (.int .i64 x.2.2)]) (ly:=[.d (.int .i64 x.1),.d (.int .i64 x.2.1),.d (.int .i64 x.2.2)]) rfl (by kernel_rfl) (by kernel_rfl) (by decide) rfl rfl rfl (by rfl) (by rfl) au au ⟨fun _=>rfl,fun _=>rfl⟩ N,rfl,?_⟩
  refine⟨rfl,?_⟩
  refine⟨fun h=>absurd h (by decide),fun _=>?_⟩
  exact⟨bX,i+1,pX,by show l.length - (i+1) < l.length - i;omega,ah.sub ⟨rfl,rfl,rfl,trivial⟩ trivial⟩
 ·exact⟨_,_,_,ah.refl _ _,rfl,rfl,trivial,rfl⟩
theorem aaj {ks:List Int} (au:ks.length≤1000) (ag: ∀k,k∈ks→pJ k): ∀x,x∈ig ks→pJ x.1∧pJ x.2.1∧pJ x.2.2:=fun x hx=>by
 obtain⟨aa,af,aA,bE⟩:=(I3 ks).each x hx
 have ec:=bE x.1.toNat (by omega) (by omega)
 have j5:=ag _ (List.mem_of_getElem? ec)
 refine⟨?_,?_,j5⟩
 ·unfold pJ;omega
 ·unfold pJ;omega
section
variable {n bits room:Nat} {L:List aH} {l:List bJ}
end
end Go.Proofs.YteoamepgonpdlaaGreat
namespace Go.Proofs.YteoamepgonpdlaaGreat
set_option linter.unusedVariables false
set_option linter.unusedSimpArgs false
set_option maxRecDepth 10000
open Go.RowKit Go.Proofs
@[reducible] def aak (l:List fC) (m:List jP) (k:Nat):aQ:=[(0,cJ oF l),(1,cJ kQ m),(5,aD (mM l k:Nat)),(10,cJ oF l),(11,aD (l.length:Nat)),(12,aD (k:Nat))]
@[reducible] def aal (l:List fC) (m:List jP) (k:Nat):aQ:=[(0,cJ oF l),(1,cJ kQ m),(5,aD ((mM l l.length+qj m k:Nat):Int)),(39,cJ kQ m),(40,aD (m.length:Nat)),(41,aD (k:Nat))]
theorem aam (l:List fC) (m:List jP) (aB:l.length≤1073741824) (cl:(l.map lT).sum≤1073741824) (rq:m.length≤1073741824) (Jl:(m.map nj).sum≤1073741824):Fn Tryz.prog 17 [cJ oF l,cJ kQ m] [] [] (g9 (r7 l m)) []:=by
 refine Fn.of aj [] _ _ _ _ _ Tryz.func17 rfl rfl (by kernel_rfl) (by kernel_rfl) rfl (aK aj) rfl ?_
 show aE _ _ _ _ _ _ _
 refine aE.loop aj (aK aj) [] (by kernel_rfl) (X:=Nat) (aak l m) (fun _=>[]) (fun k=>k≤l.length∧Ey l k) (fun k=>l.length - k) 0 ⟨Nat.zero_le _,fun i o ay=>by omega⟩ ?_ ?_
 ·exact ah.sub ⟨rfl,rfl,rfl,rfl,rfl,rfl,trivial⟩ trivial
 rintro k ⟨au,bl⟩
 have abB:=OE l k
 refine⟨fun hc=>?_,fun hc=>?_⟩
 ·have hc:decide ((k:Int) < ((l.length:Nat):Int))=true:=hc
  have bU:k < l.length:=by have:=of_decide_eq_true hc;omega
  have abC:=OE l (k+1)
  have hs:=Yw l bU
  have x6:vY l[k]=(decide (12 < jM l[k])&&decide (jM l[k]≤256)):=rfl
  have EK:lT l[k]=(fe (cN l[k])).length+(ck l[k]).length+(eF l[k]).length:=rfl
  have eP:=eY (n:=k) bU
  have za:=fun ag=>bl.succ bU ag
  have aan:=fun ag=>Z8 (m:=m) bU ag
  generalize hx:l[k]=o at*
  have bw:(-9223372036854775808:Int)≤(((fe (cN o)).length:Nat):Int)+(((ck o).length:Nat):Int)∧(((fe (cN o)).length:Nat):Int)+(((ck o).length:Nat):Int)≤9223372036854775807:=by omega
  have bX:(-9223372036854775808:Int)≤(((fe (cN o)).length:Nat):Int)+(((ck o).length:Nat):Int)+(((eF o).length:Nat):Int)∧(((fe (cN o)).length:Nat):Int)+(((ck o).length:Nat):Int)+(((eF o).length:Nat):Int)≤9223372036854775807:=by omega
  have fT:(-9223372036854775808:Int)≤((mM l k:Nat):Int)+((((fe (cN o)).length:Nat):Int)+(((ck o).length:Nat):Int)+(((eF o).length:Nat):Int))∧((mM l k:Nat):Int)+((((fe (cN o)).length:Nat):Int)+(((ck o).length:Nat):Int)+(((eF o).length:Nat):Int))≤9223372036854775807:=by omega
  have bk:((mM l k:Nat):Int)+((((fe (cN o)).length:Nat):Int)+(((ck o).length:Nat):Int)+(((eF o).length:Nat):Int))=((mM l (k+1):Nat):Int):=by omega
  refine⟨by omega,o,eP,?_⟩
  refine⟨rfl,bw,bX,fT,?_⟩
  refine⟨fun tA=>?_,fun tA=>?_⟩
  ·have tA:decide (12 < jM o)=true:=tA
   refine⟨fun uK=>?_,fun uK=>?_⟩
   ·have uK:decide (jM o≤256)=true:=uK
    exact⟨_,_,_,ah.refl _ _,rfl,(aan (by rw[x6,tA,uK];rfl)).symm,trivial,rfl⟩
   ·have uK:decide (jM o≤256)=false:=uK
    exact⟨by omega,k+1,⟨bU,za (by rw[x6,tA,uK];rfl)⟩,by omega,ah.sub ⟨rfl,rfl,bk,rfl,rfl,rfl,trivial⟩ trivial⟩
  ·have tA:decide (12 < jM o)=false:=tA
   exact⟨by omega,k+1,⟨bU,za (by rw[x6,tA];rfl)⟩,by omega,ah.sub ⟨rfl,rfl,bk,rfl,rfl,rfl,trivial⟩ trivial⟩
 ·have hc:decide ((k:Int) < ((l.length:Nat):Int))=false:=hc
  have e8:k=l.length:=by have:=of_decide_eq_false hc;omega
  subst e8
  have c9:(l.all fun o=> !vY o)=true:=List.all_eq_true.2 fun o av=>by
   obtain⟨i,ay,rfl⟩:=List.getElem_of_mem av
   rw[bl i _ ay (List.getElem?_eq_getElem ay)]
   rfl
  have EK:mM l l.length=(l.map lT).sum:=by unfold mM;rw[List.take_length]
  show aE _ _ _ _ _ _ _
  refine aE.loop aj (aK aj) [] (by kernel_rfl) (X:=Nat) (aal l m) (fun _=>[]) (fun j=>j≤m.length) (fun j=>m.length - j) 0 (Nat.zero_le _) ?_ ?_
  ·exact ah.sub ⟨rfl,rfl,rfl,rfl,rfl,rfl,trivial⟩ trivial
  intro j ak
  have ju:=Pt m j
  refine⟨fun hc=>?_,fun hc=>?_⟩
  ·have hc:decide ((j:Int) < ((m.length:Nat):Int))=true:=hc
   have JE:j < m.length:=by have:=of_decide_eq_true hc;omega
   have fJ:=Pt m (j+1)
   have hs:=Z6 m JE
   have abD:nj m[j]=(fe (gR m[j])).length:=rfl
   have eP:=eY (n:=j) JE
   generalize hx:m[j]=o at*
   have fT:(-9223372036854775808:Int)≤((mM l l.length+qj m j:Nat):Int)+(((fe (gR o)).length:Nat):Int)∧((mM l l.length+qj m j:Nat):Int)+(((fe (gR o)).length:Nat):Int)≤9223372036854775807:=by omega
   have bk:((mM l l.length+qj m j:Nat):Int)+(((fe (gR o)).length:Nat):Int)=((mM l l.length+qj m (j+1):Nat):Int):=by omega
   refine⟨by omega,o,eP,?_⟩
   refine⟨rfl,fT,?_⟩
   exact⟨by omega,j+1,JE,by omega,ah.sub ⟨rfl,rfl,bk,rfl,rfl,rfl,trivial⟩ trivial⟩
  ·have hc:decide ((j:Int) < ((m.length:Nat):Int))=false:=hc
   have fJ:j=m.length:=by have:=of_decide_eq_false hc;omega
   subst fJ
   have PF:qj m m.length=(m.map nj).sum:=by unfold qj;rw[List.take_length]
   have kK:(-9223372036854775808:Int)≤((l.length:Nat):Int)+((m.length:Nat):Int)∧((l.length:Nat):Int)+((m.length:Nat):Int)≤9223372036854775807:=by omega
   refine⟨kK,?_⟩
   refine⟨fun bp=>?_,fun bp=>?_⟩
   ·have bp:decide (((l.length:Nat):Int)+((m.length:Nat):Int)≤60)=true:=bp
    have bp:decide (l.length+m.length≤60)=true:=decide_eq_true (by have:=of_decide_eq_true bp;omega)
    refine⟨_,_,_,ah.refl _ _,rfl,(show decide (((mM l l.length+qj m m.length:Nat):Int)≤6000)=r7 l m from ?_),trivial,rfl⟩
    rw[r7,c9,bp,EK,PF,Bool.eq_iff_iff]
    simp
    omega
   ·have bp:decide (((l.length:Nat):Int)+((m.length:Nat):Int)≤60)=false:=bp
    have bp:decide (l.length+m.length≤60)=false:=decide_eq_false (by have:=of_decide_eq_false bp;omega)
    refine⟨_,_,_,ah.refl _ _,rfl,(show false=r7 l m from ?_),trivial,rfl⟩
    rw[r7,c9,bp]
    rfl
theorem PG {bits room:Nat} {L:List aH} (h:bV bits room L) (o:fC) (ag:lT o≤1000000):
  hM Tryz.prog 19 [aI 1001,BP o] (bP bits room L) [] (X:={p:Nat×Nat//bV bits room (jw bits room L o p).L}) (fun p=>aD (jw bits room L o p.1).e) (fun p=>bP bits room (jw bits room L o p.1).L):=by
 have EK:lT o=(fe (cN o)).length+(ck o).length+(eF o).length:=rfl
 have xS:(ck o).length≤4294967296:=by omega
 refine hM.of aj [3] _ _ _ _ _ Tryz.func19 rfl rfl (by kernel_rfl) (by kernel_rfl) rfl (aK aj) rfl ?_
 refine⟨rfl,?_⟩
 refine⟨fun cy=>?_,fun cy=>?_⟩
 ·have cy:fX o=0:=of_decide_eq_true cy
  have bA: ∀p,jw bits room L o p=mH bits room L (ck o) (jM o) (eF o) p:=fun p=>if_pos cy
  show aE _ _ _ _ _ _ _
  refine aE.sJ aj (by kernel_rfl) ?_
  refine⟨_,_,_,fun g=>_,fun g=>_,Ej h (ck o) (jM o) (eF o) xS,⟨rfl,rfl,rfl,rfl,trivial⟩,rfl,fun _=>rfl,fun g=>?_⟩
  have cL:=congrArg jq.L (bA g.1)
  exact⟨⟨g.1,by rw[bA];exact g.2⟩,_,_,_,ah.refl _ _,rfl,congrArg jq.e (bA g.1).symm,⟨rfl,congrArg (fun l=>some (bF.map .str .aW (cq l))) cL.symm,congrArg (fun l=>some (bF.obj (.cO (iT l)))) cL.symm,congrArg (fun l=>some (bF.obj (.cO (fW l)))) cL.symm,trivial⟩,rfl⟩
 have cy:fX o≠0:=of_decide_eq_false cy
 have g0:bV bits room (jw bits room L o (0,0)).L:=Z4 h cy (0,0)
 refine⟨fun bp=>?_,fun bp=>?_⟩
 ·have bp:fX o=1:=of_decide_eq_true bp
  have bA:jw bits room L o (0,0)=r0 L (ck o):=(if_neg cy).trans (if_pos bp)
  have cL:=congrArg jq.L bA
  refine⟨_,_,_,_,Xs h (ck o),⟨rfl,rfl,rfl,rfl,trivial⟩,rfl,?_⟩
  exact⟨⟨_,g0⟩,_,_,_,ah.refl _ _,rfl,congrArg jq.e bA.symm,⟨rfl,congrArg (fun l=>some (bF.map .str .aW (cq l))) cL.symm,congrArg (fun l=>some (bF.obj (.cO (iT l)))) cL.symm,congrArg (fun l=>some (bF.obj (.cO (fW l)))) cL.symm,trivial⟩,rfl⟩
 have bp:fX o≠1:=of_decide_eq_false bp
 refine⟨fun bq=>?_,fun bq=>?_⟩
 ·have bq:fX o=2:=of_decide_eq_true bq
  have bA:jw bits room L o (0,0)=gx L (ck o) (eF o):=(if_neg cy).trans ((if_neg bp).trans (if_pos bq))
  have cL:=congrArg jq.L bA
  refine⟨_,_,_,_,N0 h (ck o) (eF o),⟨rfl,rfl,rfl,rfl,trivial⟩,rfl,?_⟩
  exact⟨⟨_,g0⟩,_,_,_,ah.refl _ _,rfl,congrArg jq.e bA.symm,⟨rfl,congrArg (fun l=>some (bF.map .str .aW (cq l))) cL.symm,congrArg (fun l=>some (bF.obj (.cO (iT l)))) cL.symm,congrArg (fun l=>some (bF.obj (.cO (fW l)))) cL.symm,trivial⟩,rfl⟩
 have bq:fX o≠2:=of_decide_eq_false bq
 refine⟨fun b8=>?_,fun b8=>?_⟩
 ·have b8:fX o=3:=of_decide_eq_true b8
  have tX:jw bits room L o (0,0)=we bits L (ck o) (cN o):=(if_neg cy).trans ((if_neg bp).trans ((if_neg bq).trans (if_pos b8)))
  refine⟨fun d1=>?_,fun d1=>?_⟩
  ·have d1:ew (cN o)=1:=of_decide_eq_true d1
   have bA:=tX.trans (if_pos d1)
   have cL:=congrArg jq.L bA
   refine⟨_,_,_,_,IE h (ck o) (dc (cN o)) (fe (cN o)) (by omega),⟨rfl,rfl,rfl,rfl,trivial⟩,rfl,?_⟩
   exact⟨⟨_,g0⟩,_,_,_,ah.refl _ _,rfl,congrArg jq.e bA.symm,⟨rfl,congrArg (fun l=>some (bF.map .str .aW (cq l))) cL.symm,congrArg (fun l=>some (bF.obj (.cO (iT l)))) cL.symm,congrArg (fun l=>some (bF.obj (.cO (fW l)))) cL.symm,trivial⟩,rfl⟩
  have d1:ew (cN o)≠1:=of_decide_eq_false d1
  refine⟨fun d2=>?_,fun d2=>?_⟩
  ·have d2:ew (cN o)=2:=of_decide_eq_true d2
   have bA:=tX.trans ((if_neg d1).trans (if_pos d2))
   have cL:=congrArg jq.L bA
   refine⟨_,_,_,_,Xm h (ck o) (dc (cN o)) (dX (cN o)),⟨rfl,rfl,rfl,rfl,trivial⟩,rfl,?_⟩
   exact⟨⟨_,g0⟩,_,_,_,ah.refl _ _,rfl,congrArg jq.e bA.symm,⟨rfl,congrArg (fun l=>some (bF.map .str .aW (cq l))) cL.symm,congrArg (fun l=>some (bF.obj (.cO (iT l)))) cL.symm,congrArg (fun l=>some (bF.obj (.cO (fW l)))) cL.symm,trivial⟩,rfl⟩
  have d2:ew (cN o)≠2:=of_decide_eq_false d2
  refine⟨fun d3=>?_,fun d3=>?_⟩
  ·have d3:ew (cN o)=3:=of_decide_eq_true d3
   have bA:=tX.trans ((if_neg d1).trans ((if_neg d2).trans (if_pos d3)))
   have cL:=congrArg jq.L bA
   refine⟨_,_,_,_,Xn h (ck o) (dc (cN o)) (dX (cN o)),⟨rfl,rfl,rfl,rfl,trivial⟩,rfl,?_⟩
   exact⟨⟨_,g0⟩,_,_,_,ah.refl _ _,rfl,congrArg jq.e bA.symm,⟨rfl,congrArg (fun l=>some (bF.map .str .aW (cq l))) cL.symm,congrArg (fun l=>some (bF.obj (.cO (iT l)))) cL.symm,congrArg (fun l=>some (bF.obj (.cO (fW l)))) cL.symm,trivial⟩,rfl⟩
  have d3:ew (cN o)≠3:=of_decide_eq_false d3
  have bA:=tX.trans ((if_neg d1).trans ((if_neg d2).trans (if_neg d3)))
  have cL:=congrArg jq.L bA
  exact⟨⟨_,g0⟩,_,_,_,ah.refl _ _,rfl,congrArg jq.e bA.symm,⟨rfl,congrArg (fun l=>some (bF.map .str .aW (cq l))) cL.symm,congrArg (fun l=>some (bF.obj (.cO (iT l)))) cL.symm,congrArg (fun l=>some (bF.obj (.cO (fW l)))) cL.symm,trivial⟩,rfl⟩
 have b8:fX o≠3:=of_decide_eq_false b8
 have bA:jw bits room L o (0,0)=⟨0,L⟩:=(if_neg cy).trans ((if_neg bp).trans ((if_neg bq).trans (if_neg b8)))
 have cL:=congrArg jq.L bA
 exact⟨⟨_,g0⟩,_,_,_,ah.refl _ _,rfl,congrArg jq.e bA.symm,⟨rfl,congrArg (fun l=>some (bF.map .str .aW (cq l))) cL.symm,congrArg (fun l=>some (bF.obj (.cO (iT l)))) cL.symm,congrArg (fun l=>some (bF.obj (.cO (fW l)))) cL.symm,trivial⟩,rfl⟩
theorem aao {bits room:Nat} {L:List aH} (h:bV bits room L) (nm:List UInt8):Fn Tryz.prog 28 [aI 1001,bN nm] (bP bits room L) [] (bN (EF bits L nm)) (bP bits room L):=by
 unfold EF
 cases hd:dk L nm with
 |none=>
  simp only
  refine Fn.of aj [] _ _ _ _ _ Tryz.func28 rfl rfl (by kernel_rfl) (by kernel_rfl) rfl (aK aj) rfl ?_
  refine⟨_,_,_,_,M6 _ _ L nm hd,⟨rfl,rfl,rfl,rfl,trivial⟩,rfl,?_⟩
  exact⟨_,_,_,ah.refl _ _,rfl,rfl,⟨rfl,rfl,rfl,rfl,trivial⟩,rfl⟩
 |some d=>
  obtain⟨aT,qt,_⟩:=h.iU d (cT hd).1
  have gG:=h.togF.M (cT hd).1
  have o3:=aT.tl
  have Z0:=h.eT
  have hp:=mA h.eT
  have B8:((d.im.t.length:Nat):Int)*((2 ^((d.im.bits:Nat):Int).toNat:Nat):Int)=((d.im.t.length*2 ^bits:Nat):Int):=by
   rw[qt]
   show((d.im.t.length:Nat):Int)*((2 ^bits:Nat):Int)=_
   rw[Int.natCast_mul]
  have mk:d.im.t.length*2 ^bits≤256*8:=Nat.mul_le_mul o3 hp.2
  have bw:(0:Int)≤((d.im.t.length:Nat):Int)∧(0:Int)≤((d.im.bits:Nat):Int)∧((d.im.bits:Nat):Int)≤64:=by omega
  have bX:(-9223372036854775808:Int)≤((d.im.t.length:Nat):Int)*((2 ^((d.im.bits:Nat):Int).toNat:Nat):Int)∧((d.im.t.length:Nat):Int)*((2 ^((d.im.bits:Nat):Int).toNat:Nat):Int)≤9223372036854775807:=by rw[B8];omega
  have x7:=NW h nm 0 ((d.im.t.length*2 ^bits:Nat):Int)
  rw[Y1 h hd (n:=d.im.t.length*2 ^bits) (by rw[Y2 h hd];exact Nat.le_refl _),←B8] at x7
  simp only
  generalize fK bits L nm (cm L nm) 0 (d.im.t.length*2 ^bits)=x at*
  refine Fn.of aj [] _ _ _ _ _ Tryz.func28 rfl rfl (by kernel_rfl) (by kernel_rfl) rfl (aK aj) rfl ?_
  refine⟨_,_,_,_,vH _ _ L h.togF nm d hd,⟨rfl,rfl,rfl,rfl,trivial⟩,rfl,?_⟩
  refine⟨fun _ _=>?_,fun h=>by cases h⟩
  refine⟨_,_,_,_,o5 (vv d.im) gG rfl rfl rfl rfl,⟨rfl,trivial⟩,rfl,?_⟩
  refine⟨_,_,_,_,o5 (Pg d.im) gG rfl rfl rfl rfl,⟨rfl,trivial⟩,rfl,?_⟩
  refine⟨bw,bX,?_⟩
  refine⟨_,_,_,_,x7,⟨rfl,rfl,rfl,rfl,trivial⟩,rfl,?_⟩
  exact⟨_,_,_,ah.refl _ _,rfl,rfl,⟨rfl,rfl,rfl,rfl,trivial⟩,rfl⟩
end Go.Proofs.YteoamepgonpdlaaGreat
namespace Go.Proofs.YteoamepgonpdlaaGreat
set_option linter.unusedVariables false
set_option linter.unusedSimpArgs false
set_option maxRecDepth 10000
open Go.RowKit Go.Proofs
theorem PI {bits room:Nat} {L:List aH} {top base:List UInt8} {d:aH} (hd:dk L top=some d) {k:Nat} (hn:lW L top base=some k):jO bits L top base false=⟨false,(iV bits L top ((k*2 ^bits:Nat):Int) (k9 bits L top (k:Int))).e,(iV bits L top ((k*2 ^bits:Nat):Int) (k9 bits L top (k:Int))).L,false⟩:=by
 unfold jO
 rw[hd,hn]
 rfl
theorem PJ {bits room:Nat} {L:List aH} {top base:List UInt8} {d:aH} (hd:dk L top=some d) (hn:lW L top base=none):jO bits L top base false=⟨decide ((gx L top base).e=0),(gx L top base).e,(gx L top base).L,decide ((gx L top base).e=0)⟩:=by
 unfold jO
 rw[hd,hn]
 rfl
theorem aap {bits room:Nat} {L:List aH} {top base:List UInt8} (h:bV bits room L) {d:aH} (hd:dk L top=some d) (ay:iZ L top base=true) (hn:lW L top base=none):jO bits L top base false=⟨true,0,dS L top base,true⟩:=by
 rw[PJ (room:=room) hd hn,Pe h hd ay]
 rfl
def uL:List UInt8:=120::List.replicate 15 0
def JF (p:Nat×Nat):List aH:=(mH 0 20 [] [97] 4 [] p).L
def JG (p q:Nat×Nat):List aH:=(mH 0 20 (JF p) [98] 4 [97] q).L
def zY (p q r:Nat×Nat):List aH:=(mH 0 20 (JG p q) [99] 4 [98] r).L
def qZ (p q r:Nat×Nat):List aH:=(iV 0 (zY p q r) [98] 1 uL).L
def wg (p q r:Nat×Nat):List aH:=(iV 0 (qZ p q r) [99] ((1*2 ^0:Nat):Int) (k9 0 (qZ p q r) [99] ((1:Nat):Int))).L
def uM (p q r:Nat×Nat):List aH:=dS (wg p q r) [99] [97]
theorem aaq (p q r:Nat×Nat):r6 (qZ p q r) [99] [97]=0:=by kernel_rfl
theorem aar (p q r:Nat×Nat):(dk (qZ p q r) [99]).isSome=true:=by kernel_rfl
theorem aas (p q r:Nat×Nat):(dk (wg p q r) [99]).isSome=true:=by kernel_rfl
theorem PK (p q r:Nat×Nat):lW (qZ p q r) [99] [97]=some 1:=by kernel_rfl
theorem aat (p q r:Nat×Nat):(iV 0 (qZ p q r) [99] ((1*2 ^0:Nat):Int) (k9 0 (qZ p q r) [99] ((1:Nat):Int))).e=0:=by kernel_rfl
theorem aau (p q r:Nat×Nat):lW (wg p q r) [99] [97]=none:=by kernel_rfl
theorem PL (p q r:Nat×Nat):iZ (wg p q r) [99] [97]=true:=by kernel_rfl
theorem aav (p q r:Nat×Nat):(dk (uM p q r) [99]).isSome=true:=by kernel_rfl
theorem aaw (p q r:Nat×Nat):s7 0 (uM p q r) [99] 1 1=(uL,0):=by kernel_rfl
theorem aax (p q r:Nat×Nat):vN (uM p q r) [99]=([97],0):=by kernel_rfl
@[reducible] def EL:aQ:=[(1,aI 1001),(3,cJ .u8 uL)]
set_option maxHeartbeats 1000000 in
theorem JH:Fn Tryz.prog 18 [] [] [] (g9 true) []:=by
 have cy:bV 0 20 []:=bV.nil (by decide) (by decide)
 refine Fn.of aj [6,7,8,9,13,19] _ _ _ _ _ Tryz.func18 rfl rfl (by kernel_rfl) (by kernel_rfl) rfl (aK aj) rfl ?_
 refine⟨_,_,_,_,Nd 0 20 (by decide) (by decide),trivial,rfl,?_⟩
 refine⟨fun h=>absurd h (by decide),fun _=>?_⟩
 refine⟨⟨rfl,by decide,by decide⟩,rfl,?_⟩
 refine⟨⟨by decide,by decide⟩,⟨⟨by decide,by decide⟩,by decide⟩,?_⟩
 show aE _ _ _ _ _ _ _
 refine aE.le (ah.dV 28 rfl) ?_
 refine aE.le (ah.sub (K':=EL) (B':=bP 0 20 []) ⟨rfl,rfl,trivial⟩ ⟨rfl,rfl,rfl,rfl,trivial⟩) ?_
 refine aE.sJ aj (by kernel_rfl) ?_
 refine⟨_,_,_,fun g=>_,fun g=>_,Ej cy [97] 4 [] (by decide),⟨rfl,rfl,rfl,rfl,trivial⟩,rfl,fun _=>rfl,fun p=>?_⟩
 obtain⟨p,bp⟩:=p
 have bp:bV 0 20 (JF p):=bp
 show aE _ _ _ _ _ _ _
 refine aE.le (ah.sub (K':=EL) (B':=bP 0 20 (JF p)) ⟨rfl,rfl,trivial⟩ ⟨rfl,rfl,rfl,rfl,trivial⟩) ?_
 refine aE.sJ aj (by kernel_rfl) ?_
 refine⟨_,_,_,fun g=>_,fun g=>_,Ej bp [98] 4 [97] (by decide),⟨rfl,rfl,rfl,rfl,trivial⟩,rfl,fun _=>rfl,fun q=>?_⟩
 obtain⟨q,bq⟩:=q
 have bq:bV 0 20 (JG p q):=bq
 show aE _ _ _ _ _ _ _
 refine aE.le (ah.sub (K':=EL) (B':=bP 0 20 (JG p q)) ⟨rfl,rfl,trivial⟩ ⟨rfl,rfl,rfl,rfl,trivial⟩) ?_
 refine aE.sJ aj (by kernel_rfl) ?_
 refine⟨_,_,_,fun g=>_,fun g=>_,Ej bq [99] 4 [98] (by decide),⟨rfl,rfl,rfl,rfl,trivial⟩,rfl,fun _=>rfl,fun r=>?_⟩
 obtain⟨r,b8⟩:=r
 have b8:bV 0 20 (zY p q r):=b8
 have fB:bV 0 20 (qZ p q r):=zA b8 _ _ _
 have gp:bV 0 20 (wg p q r):=zA fB _ _ _
 obtain⟨d4,JI⟩:=Option.isSome_iff_exists.1 (aar p q r)
 obtain⟨d5,JJ⟩:=Option.isSome_iff_exists.1 (aas p q r)
 obtain⟨d6,aay⟩:=Option.isSome_iff_exists.1 (aav p q r)
 have ld:bV 0 20 (uM p q r):=by
  have:=BI gp [99] [97]
  rwa[Pe gp JJ (PL p q r)] at this
 have hw:=IE b8 [98] 1 uL (by decide)
 have cX:(iV 0 (zY p q r) [98] 1 uL).L=qZ p q r:=rfl
 rw[cX] at hw
 generalize(iV 0 (zY p q r) [98] 1 uL).e=fV at hw
 have ag:=Pn fB [99] [97] (aaq p q r)
 have hn:=Jy fB [97] false JI
 rw[show mP (qZ p q r) [99] [97] false=(1,true) by unfold mP;rw[PK];rfl] at hn
 have sP:=EH fB [97] false JI
 have eR:jO 0 (qZ p q r) [99] [97] false=⟨false,0,wg p q r,false⟩:=by
  rw[PI (room:=20) JI (PK p q r),aat]
  rfl
 rw[eR] at sP
 have e6:=EH gp [97] false JJ
 have gW:jO 0 (wg p q r) [99] [97] false=⟨true,0,uM p q r,true⟩:=aap gp JJ (PL p q r) (aau p q r)
 rw[gW] at e6
 have Dq:=EH ld [97] true aay
 rw[show jO 0 (uM p q r) [99] [97] true=⟨false,160,uM p q r,true⟩ from rfl] at Dq
 have hr:=NW ld [99] 1 1
 rw[aaw] at hr
 have au:=IF ld [99]
 rw[aax] at au
 have av:=Po ((0:Nat):Int) ((20:Nat):Int) (uM p q r) [99] [97] true
 show aE _ _ _ _ _ _ _
 refine aE.le (ah.sub (K':=EL) (B':=bP 0 20 (zY p q r)) ⟨rfl,rfl,trivial⟩ ⟨rfl,rfl,rfl,rfl,trivial⟩) ?_
 clear cX eR gW
 generalize zY p q r=aaz at*
 generalize qZ p q r=aaA at*
 generalize wg p q r=abE at*
 generalize uM p q r=aaB at*
 refine aE.go aj (aK aj) [13,19] (by kernel_rfl) (ah.refl _ _) ?_
 refine⟨_,_,_,_,hw,⟨rfl,rfl,rfl,rfl,trivial⟩,rfl,?_⟩
 refine⟨_,_,_,_,ag,⟨rfl,rfl,rfl,rfl,trivial⟩,rfl,?_⟩
 refine⟨fun h=>absurd h (by decide),fun _=>?_⟩
 show aE _ _ _ _ _ _ _
 refine aE.go aj (aK aj) [19] (by kernel_rfl) (ah.sub (K':=[(1,aI 1001),(3,cJ .u8 uL),(4,aI 2001)]) (B':=kD 0 20 aaA [99] [97] false) ⟨rfl,rfl,rfl,trivial⟩ ⟨rfl,rfl,rfl,rfl,rfl,trivial⟩) ?_
 refine⟨_,_,_,_,hn,⟨rfl,rfl,rfl,rfl,rfl,trivial⟩,rfl,?_⟩
 refine⟨_,_,_,_,sP,⟨rfl,rfl,rfl,rfl,rfl,trivial⟩,rfl,?_⟩
 refine⟨_,_,_,_,e6,⟨rfl,rfl,rfl,rfl,rfl,trivial⟩,rfl,?_⟩
 refine⟨_,_,_,_,Dq,⟨rfl,rfl,rfl,rfl,rfl,trivial⟩,rfl,?_⟩
 refine⟨_,_,_,_,hr,⟨rfl,rfl,rfl,rfl,trivial⟩,rfl,?_⟩
 refine⟨_,_,_,_,au,⟨rfl,rfl,rfl,rfl,trivial⟩,rfl,?_⟩
 show aE _ _ _ _ _ _ _
 refine aE.go aj (aK aj) [] (by kernel_rfl) (ah.sub (K':=[(3,cJ .u8 uL),(4,aI 2001),(6,aD 1),(7,g9 true),(8,g9 false),(9,aD 0),(10,g9 true),(11,aD 0),(13,aD 160),(14,cJ .u8 uL),(16,bN [97])]) (B':=kD 0 20 aaB [99] [97] true) ⟨rfl,rfl,rfl,rfl,rfl,rfl,rfl,rfl,rfl,rfl,rfl,trivial⟩ ⟨rfl,rfl,rfl,rfl,rfl,trivial⟩) ?_
 refine⟨fun _=>?_,fun h=>absurd h (by decide)⟩
 refine⟨fun _=>?_,fun h=>absurd h (by decide)⟩
 refine⟨fun _=>?_,fun h=>absurd h (by decide)⟩
 refine⟨fun _=>?_,fun h=>absurd h (by decide)⟩
 refine⟨fun _=>?_,fun h=>absurd h (by decide)⟩
 refine⟨fun _=>?_,fun h=>absurd h (by decide)⟩
 refine⟨fun _=>?_,fun h=>absurd h (by decide)⟩
 refine⟨fun _=>?_,fun h=>absurd h (by decide)⟩
 refine⟨fun _=>?_,fun h=>absurd h (by decide)⟩
 refine⟨_,_,_,_,av,⟨rfl,rfl,rfl,rfl,rfl,trivial⟩,rfl,?_⟩
 exact⟨_,_,_,ah.refl _ _,rfl,rfl,trivial,rfl⟩
end Go.Proofs.YteoamepgonpdlaaGreat
