/-
Part 17 of the proof that stands in YteoamepgonpdlaaGreatPcRow, with what it needs from the parts ahead; the parts of this text: Qm, Pp, Qn, Lt, Ki.
-/
import Derived.Test.YteoamepgonpdlaaGreatPc16
set_option linter.unusedVariables false
set_option linter.unusedSimpArgs false
set_option maxRecDepth 10000
namespace Go.Proofs.YteoamepgonpdlaaGreat
open Go.RowKit Go.Proofs
theorem Fe {l:List bK} {y:List UInt8}:y∈l.map (fun e=>b5 e)↔ ∃e,cw l y=some e:=by
 induction l with
 |nil=>
      constructor
      ·intro h;cases h
      ·rintro⟨e,h⟩;cases h
 |cons p l aZ=>
  rw[List.map_cons,List.mem_cons,cw]
  by_cases e:b5 p=y
  ·rw[if_pos e]
   exact⟨fun _=>⟨p,rfl⟩,fun _=>.inl e.symm⟩
  ·rw[if_neg e,←aZ]
   constructor
   ·rintro(h |h)
    ·exact absurd h.symm e
    ·exact h
   ·exact .inr
theorem Cz (a b:List bK) (y:List UInt8):cw (a++b) y=(cw a y).or (cw b y):=by
 induction a with
 |nil=>rfl
 |cons p a aZ=>
  rw[List.cons_append,cw,cw,aZ]
  by_cases e:b5 p=y
  ·rw[if_pos e,if_pos e];rfl
  ·rw[if_neg e,if_neg e]
section
variable {n bits room:Nat} {L eE:List aK} {l l':List bK}
theorem cZ.of (af:n=2 ^bits) (bJ:bX bits room eE) (hr:(l'.map (fun e=>b5 e)).Pairwise (· < ·))
  (aF: ∀y,(dk eE y=none∧cw l' y=none)∨ ∃d e,dk eE y=some d∧cw l' y=some e∧c8 e=d.back∧ej n d.im (bn e)):cZ n bits room eE l' where
 eO:=af
 nm:=PZ hr (J8 bJ.jA) fun y=>by
  rw[Fe,aat]
  rcases aF y with⟨aj,ak⟩ |⟨d,e,aj,ak,_⟩
  ·rw[aj,ak]
   exact⟨fun⟨_,h⟩=>(by cases h),fun⟨_,h⟩=>(by cases h)⟩
  ·rw[aj,ak]
   exact⟨fun _=>⟨d,rfl⟩,fun _=>⟨e,rfl⟩⟩
 nK:=fun y=>by
  rcases aF y with⟨aj,ak⟩ |⟨d,e,aj,ak,bf,_⟩
  ·rw[aj,ak];rfl
  ·rw[aj,ak];exact congrArg some bf
 rR:=fun y d e hd he=>by
  rcases aF y with⟨aj,ak⟩ |⟨d2,ak,bf,cF,_,eY⟩
  ·rw[hd] at aj;cases aj
  ·rw[hd] at bf
   rw[he] at cF
   injection bf with bf
   injection cF with cF
   subst bf cF
   exact eY
theorem cZ.Ff (h:cZ n bits room L l) (bJ:bX bits room L):(l.map (fun e=>b5 e)).Pairwise (· < ·):=by
 rw[h.nm];exact J8 bJ.jA
theorem cZ.both (h:cZ n bits room L l) (y:List UInt8):(dk L y=none∧cw l y=none)∨ ∃d e,dk L y=some d∧cw l y=some e∧c8 e=d.back∧ej n d.im (bn e):=by
 rcases h.nK.get y with e |⟨d,e,aj,ak,bf⟩
 ·exact .inl e
 ·exact .inr ⟨d,e,aj,ak,bf,h.rR y d e aj ak⟩
theorem cZ.qJ (h:cZ n bits room L l) {x:List UInt8}:(0≤bY l x↔(dk L x).isSome=true)∧(bY l x < 0↔dk L x=none):=by
 rcases h.both x with⟨aj,ak⟩ |⟨d,e,aj,ak,_⟩
 ·rw[Pe ak,aj]
  exact⟨⟨fun h=>absurd h (by decide),fun h=>by cases h⟩,fun _=>rfl,fun _=>by decide⟩
 ·obtain⟨i,_,bf,_⟩:=oE ak
  rw[bf,aj]
  exact⟨⟨fun _=>rfl,fun _=>by omega⟩,fun h=>by omega,fun h=>by cases h⟩
theorem J9 {x:List UInt8} {e e':bK} (he:cw l x=some e) (hn:b5 e'=x):(jK l x e').map (fun e=>b5 e)=l.map (fun e=>b5 e):=by
 obtain⟨i,aD,aj,ak,bf⟩:=oE he
 unfold jK
 rw[aj,Int.toNat_natCast,List.map_set]
 apply List.ext_getElem?
 intro j
 by_cases q:i=j
 ·subst q
  rw[List.getElem?_set_self (by rw[List.length_map];exact aD),List.getElem?_map,List.getElem?_eq_getElem aD,Option.map_some,ak,hn,bf]
 ·rw[List.getElem?_set_ne q]
theorem P3: ∀{l:List bK} {i:Nat} (aD:i < l.length) {e':bK} (y:List UInt8),b5 e'=b5 l[i]→(l.map (fun e=>b5 e)).Nodup→cw (l.set i e') y=if y=b5 l[i] then some e' else cw l y
 | [],i,aD,_,_,_,_=>absurd aD (Nat.not_lt_zero _)
 |p::l,0,_,e',y,hn,_=>by
  show cw (e'::l) y=if y=b5 p then some e' else cw (p::l) y
  have hn:b5 e'=b5 p:=hn
  rw[cw,cw,hn]
  by_cases q:b5 p=y
  ·rw[if_pos q,if_pos q.symm]
  ·rw[if_neg q,if_neg (Ne.symm q),if_neg q]
 |p::l,i+1,aD,e',y,hn,hd=>by
  have aD:i < l.length:=Nat.lt_of_succ_lt_succ aD
  obtain⟨d1,d2⟩:=List.nodup_cons.1 hd
  have aZ:=P3 aD (e':=e') y hn d2
  show cw (p::l.set i e') y=if y=b5 l[i] then some e' else cw (p::l) y
  rw[cw,cw,aZ]
  by_cases q:b5 p=y
  ·rw[if_pos q,if_pos q]
   by_cases cR:y=b5 l[i]
   ·exfalso
    exact d1 (List.mem_map.2 ⟨l[i],List.getElem_mem aD,(q.trans cR).symm⟩)
   ·rw[if_neg cR]
  ·rw[if_neg q,if_neg q]
theorem cZ.nodup (h:cZ n bits room L l) (bJ:bX bits room L):(l.map (fun e=>b5 e)).Nodup:=(h.Ff bJ).imp fun bF e=>by subst e;exact List.lt_irrefl _ bF
theorem cZ.J' (h:cZ n bits room L l) (bJ:bX bits room L) {x:List UInt8} {e e':bK} (he:cw l x=some e) (hn:b5 e'=x) (y:List UInt8):cw (jK l x e') y=if y=x then some e' else cw l y:=by
 obtain⟨i,aD,aj,ak,bf⟩:=oE he
 unfold jK
 rw[aj,Int.toNat_natCast,P3 aD y (by rw[ak,bf,hn]) (h.nodup bJ),ak,bf]
theorem cZ.st (h:cZ n bits room L l) (bJ:bX bits room L) (dB:bX bits room eE) {x:List UInt8} {d d':aK} {e e':bK} (hd:dk L x=some d) (he:cw l x=some e) (hn:b5 e'=x) (aq: ∀y,dk eE y=if y=x then some d' else dk L y) (ag:c8 e'=d'.back) (aD:ej n d'.im (bn e')):cZ n bits room eE (jK l x e'):=by
 refine cZ.of h.eO dB (by rw[J9 he hn];exact h.Ff bJ) fun y=>?_
 rw[h.J' bJ he hn,aq]
 by_cases q:y=x
 ·rw[if_pos q,if_pos q]
  exact .inr ⟨d',e',rfl,rfl,ag,aD⟩
 ·rw[if_neg q,if_neg q]
  exact h.both y
theorem P4 {x:List UInt8} {e' ak:bK} (h:ak∈jK l x e'):ak∈l∨ak=e':=List.mem_or_eq_of_mem_set h
theorem Ka (l:List bK) (d:bK): ∃j,j≤l.length∧wL l d=l.take j++[d]++l.drop j∧(∀(i:Nat) (aD:i < l.length),i < j→ ¬b5 d < b5 l[i])∧(∀(au:j < l.length),b5 d < b5 l[j]):=by
 have key: ∀k,k≤l.length→((eH l d k).2=false∧(eH l d k).1=l.take k∧ ∀(i:Nat) (aD:i < l.length),i < k→ ¬b5 d < b5 l[i])∨
   ((eH l d k).2=true∧ ∃(j:Nat) (au:j < l.length),j < k∧(eH l d k).1=l.take j++[d]++(l.take k).drop j∧(∀(i:Nat) (aD:i < l.length),i < j→ ¬b5 d < b5 l[i])∧b5 d < b5 l[j]):=fun k=>by
  induction k with
  |zero=>intro _;exact .inl ⟨rfl,rfl,fun i _ h=>absurd h (Nat.not_lt_zero _)⟩
  |succ k aZ=>
   intro aq
   have bP:k < l.length:=aq
   have e:eH l d (k+1)=if(eH l d k).2=false∧b5 d < b5 l[k] then((eH l d k).1++[d]++[l[k]],true) else((eH l d k).1++[l[k]],(eH l d k).2):=by
    rw[eH,List.getElem?_eq_getElem bP]
   rcases aZ (by omega) with⟨i1,i2,i3⟩ |⟨i1,j,au,i2,i3,i4,i5⟩
   ·by_cases q:b5 d < b5 l[k]
    ·rw[if_pos ⟨i1,q⟩] at e
     right
     rw[e]
     refine⟨rfl,k,bP,Nat.lt_succ_self _,?_,i3,q⟩
     show(eH l d k).1++[d]++[l[k]]=_
     rw[i2,List.take_succ_eq_append_getElem bP,List.drop_append_of_le_length (by rw[List.length_take];omega),List.drop_of_length_le (by rw[List.length_take];omega)]
     rfl
    ·rw[if_neg (fun w=>q w.2)] at e
     left
     rw[e]
     refine⟨i1,?_,fun i aD ue=>?_⟩
     ·show(eH l d k).1++[l[k]]=_
      rw[i2,List.take_succ_eq_append_getElem bP]
     ·rcases Nat.lt_or_ge i k with h |h
      ·exact i3 i aD h
      ·have:i=k:=by omega
       subst this
       exact q
   ·rw[if_neg (fun w=>absurd (i1.symm.trans w.1) (by decide))] at e
    right
    rw[e]
    refine⟨i1,j,au,by omega,?_,i4,i5⟩
    show(eH l d k).1++[l[k]]=_
    rw[i3,List.take_succ_eq_append_getElem bP,List.drop_append_of_le_length (by rw[List.length_take];omega),List.append_assoc]
 unfold wL
 rcases key _ (Nat.le_refl _) with⟨i1,i2,i3⟩ |⟨i1,j,au,_,i3,i4,i5⟩
 ·rw[if_neg (by rw[i1];decide),i2]
  exact⟨l.length,Nat.le_refl _,by rw[List.drop_length,List.append_nil],i3,fun h=>absurd h (Nat.lt_irrefl _)⟩
 ·rw[if_pos i1,i3]
  refine⟨j,Nat.le_of_lt au,by rw[List.take_length],i4,fun _=>i5⟩
theorem aav {a b:List UInt8} (h: ¬a < b) (bg:b≠a):b < a:=by
 rcases List.le_iff_lt_or_eq.1 (List.not_lt.1 h) with h |h
 ·exact h
 ·exact absurd h bg
theorem aaw {l:List bK} {d:bK} (hr:(l.map (fun e=>b5 e)).Pairwise (· < ·)) (hn:cw l (b5 d)=none):((wL l d).map (fun e=>b5 e)).Pairwise (· < ·):=by
 obtain⟨j,au,e,aa,af⟩:=Ka l d
 have bg: ∀e,e∈l→b5 e≠b5 d:=fun e he q=>by
  obtain⟨w,hw⟩:=Fe.1 (List.mem_map.2 ⟨e,he,q⟩)
  rw[hn] at hw
  cases hw
 rw[e,List.map_append,List.map_append]
 have hs:l.take j++l.drop j=l:=List.take_append_drop ..
 have uF:=hr
 rw[←hs,List.map_append,List.pairwise_append] at uF
 obtain⟨r1,r2,gv⟩:=uF
 have before: ∀a,a∈(l.take j).map (fun e=>b5 e)→a < b5 d:=fun a ha=>by
  obtain⟨w,hw,rfl⟩:=List.mem_map.1 ha
  obtain⟨i,aD,rfl⟩:=List.getElem_of_mem hw
  rw[List.length_take] at aD
  have jH:i < l.length:=by omega
  have wB:(l.take j)[i]'(by rw[List.length_take];omega)=l[i]:=List.getElem_take
  rw[wB]
  exact aav (aa i jH (by omega)) (bg _ (List.getElem_mem jH))
 have after: ∀b,b∈(l.drop j).map (fun e=>b5 e)→b5 d < b:=fun b ag=>by
  obtain⟨w,hw,rfl⟩:=List.mem_map.1 ag
  have oK:j < l.length:=by
   rcases Nat.lt_or_ge j l.length with h |h
   ·exact h
   ·rw[List.drop_of_length_le h] at hw;cases hw
  rw[List.drop_eq_getElem_cons oK] at hw r2
  rcases List.mem_cons.1 hw with q |q
  ·rw[q];exact af oK
  ·rw[List.map_cons] at r2
   exact List.lt_trans (af oK) ((List.pairwise_cons.1 r2).1 _ (List.mem_map.2 ⟨w,q,rfl⟩))
 rw[List.pairwise_append,List.pairwise_append]
 refine⟨⟨r1,List.pairwise_singleton _ _,fun a ha b ag=>?_⟩,r2,fun a ha b ag=>?_⟩
 ·rw[List.map_cons,List.map_nil,List.mem_singleton] at ag
  rw[ag];exact before a ha
 ·rcases List.mem_append.1 ha with ha |ha
  ·exact gv a ha b ag
  ·rw[List.map_cons,List.map_nil,List.mem_singleton] at ha
   rw[ha];exact after b ag
theorem aax {l:List bK} {d:bK} (hn:cw l (b5 d)=none) (y:List UInt8):cw (wL l d) y=if y=b5 d then some d else cw l y:=by
 obtain⟨j,_,e,_,_⟩:=Ka l d
 have hs:l.take j++l.drop j=l:=List.take_append_drop ..
 have aB: ∀z,cw l z=(cw (l.take j) z).or (cw (l.drop j) z):=fun z=>by rw[←Cz,hs]
 rw[e,Cz,Cz,aB y]
 show((cw (l.take j) y).or (if b5 d=y then some d else none)).or (cw (l.drop j) y)=_
 by_cases q:y=b5 d
 ·subst q
  rw[aB] at hn
  rw[if_pos rfl,if_pos rfl]
  cases aj:cw (l.take j) (b5 d) with
  |none=>rfl
  |some w=>rw[aj] at hn;cases hn
 ·rw[if_neg q,if_neg (Ne.symm q)]
  cases cw (l.take j) y <;>rfl
theorem ej.new {bits size room:Int} (h:jf bits size room=true):ej (2 ^bits.toNat) (iz bits.toNat size.toNat room.toNat) (oD bits size room):=by
 obtain⟨⟨cj,cu⟩,⟨a3,a4⟩,a5,g5⟩:=EO h
 have aA:=YN h
 have e:oD bits size room=oB ((2 ^bits.toNat:Nat):Int) room (List.replicate size.toNat (ij 0 0)) [] []:=by unfold oD;rw[h]
 rw[e] at aA⊢
 have BP: ∀c,ez (oB ((2 ^bits.toNat:Nat):Int) room (List.replicate size.toNat (ij 0 0)) [] []) c=0:=fun c=>by
  unfold ez
  show dV ((List.replicate size.toNat (ij 0 0)).getD c (ij 0 0))=0
  rw[List.getD_eq_getElem?_getD,List.getElem?_replicate]
  split <;>rfl
 refine⟨NT (by omega) (by omega) (by omega),aA,rfl,?_,?_,fun c hc=>?_,fun c hc aq=>?_,fun c d hc hd aq _ _=>?_⟩
 ·show(List.replicate _ _).length=(List.replicate _ _).length
  rw[List.length_replicate,List.length_replicate]
 ·show room=((List.replicate room.toNat (0:Int)).length:Nat)
  rw[List.length_replicate]
  omega
 ·rw[BP]
  show(0:Int)=((List.replicate size.toNat s0).getD c s0).1
  rw[List.getD_eq_getElem?_getD,List.getElem?_replicate]
  split <;>rfl
 ·rw[BP] at aq;exact absurd aq (by decide)
 ·rw[BP] at aq;exact absurd aq (by decide)
theorem aay {d e:bK} (h:e∈wL l d):e∈l∨e=d:=by
 obtain⟨j,_,q,_,_⟩:=Ka l d
 rw[q] at h
 rcases List.mem_append.1 h with h |h
 ·rcases List.mem_append.1 h with h |h
  ·exact .inl (List.mem_of_mem_take h)
  ·exact .inr (List.mem_singleton.1 h)
 ·exact .inl (List.mem_of_mem_drop h)
theorem cZ.add (h:cZ n bits room L l) (bJ:bX bits room L) (nm:List UInt8) (size:Int) (cO:List UInt8) (p:Nat×Nat) (dB:bX bits room (nH bits room L nm size cO p).L):
  (vA bits room l nm size cO).2=(nH bits room L nm size cO p).e∧cZ n bits room (nH bits room L nm size cO p).L (vA bits room l nm size cO).1∧ ∀e,e∈(vA bits room l nm size cO).1→e∈l∨cS (bn e)=[]:=by
 obtain⟨aaz,aaA⟩:=h.qJ (x:=nm)
 obtain⟨xM,sq⟩:=h.qJ (x:=cO)
 unfold nH at dB⊢
 unfold vA
 by_cases aW:jf bits size room=false
 ·rw[if_pos aW,if_pos (by rw[aW,Bool.and_false])]
  exact⟨rfl,h,fun e he=>.inl he⟩
 have Kb:jf bits size room=true:=by simpa using aW
 rw[if_neg aW]
 by_cases aX:iL nm=false
 ·rw[if_pos aX,if_pos (by rw[aX,Bool.false_and])]
  exact⟨rfl,h,fun e he=>.inl he⟩
 have aaB:iL nm=true:=by simpa using aX
 rw[if_neg aX]
 have aaC: ¬(iL nm&&jf bits size room)=false:=by rw[Kb,aaB];decide
 rw[if_neg aaC] at dB⊢
 by_cases bT:0≤bY l nm
 ·rw[if_pos bT,if_pos (.inl (aaz.1 bT))]
  exact⟨rfl,h,fun e he=>.inl he⟩
 rw[if_neg bT]
 have bL:dk L nm=none:=aaA.1 (by omega)
 by_cases gl:16≤l.length
 ·rw[if_pos gl,if_pos (.inr (by rw[←h.len];exact gl))]
  exact⟨rfl,h,fun e he=>.inl he⟩
 rw[if_neg gl]
 have aaD: ¬((dk L nm).isSome=true∨16≤L.length):=by
  rw[bL,←h.len]
  rintro(q |q)
  ·cases q
  ·exact gl q
 rw[if_neg aaD] at dB⊢
 by_cases hU:cO≠[]∧bY l cO < 0
 ·rw[if_pos hU,if_pos (by rw[decide_eq_false hU.1,sq.1 hU.2];rfl)]
  exact⟨rfl,h,fun e he=>.inl he⟩
 rw[if_neg hU]
 have uR: ¬(decide (cO=[])||(dk L cO).isSome)=false:=fun q=>by
  simp only[Bool.or_eq_false_iff,decide_eq_false_iff_not] at q
  refine hU ⟨q.1,sq.2 ?_⟩
  cases e:dk L cO with
  |none=>rfl
  |some d=>rw[e] at q;cases q.2
 rw[if_neg uR] at dB⊢
 rw[h.nr bJ cO]
 by_cases oG:cO≠[]∧8≤c7 L cO
 ·rw[if_pos oG,if_pos ⟨oG.1,by omega⟩]
  exact⟨rfl,h,fun e he=>.inl he⟩
 rw[if_neg oG]
 have aaE: ¬(cO≠[]∧8 < c7 L cO+1):=fun q=>oG ⟨q.1,by omega⟩
 rw[if_neg aaE] at dB⊢
 have gn:cw l (b5 (jl nm cO (oD bits size room)))=none:=h.no bL
 refine⟨rfl,cZ.of h.eO dB (aaw (h.Ff bJ) gn) fun y=>?_,fun e he=>?_⟩
 ·rw[aax gn,Jn]
  show(_∧(if y=nm then _ else _)=none)∨_
  by_cases q:y=nm
  ·subst q
   right
   refine⟨_,_,by rw[bL,if_pos rfl];rfl,if_pos rfl,rfl,?_⟩
   have:=ej.new Kb
   rw[Int.toNat_natCast,Int.toNat_natCast,←h.eO] at this
   exact this
  ·rw[if_neg (Ne.symm q)]
   have bx:(dk L y).or none=dk L y:=by cases dk L y <;>rfl
   rw[bx]
   rcases h.both y with⟨aj,ak⟩ |⟨d,e,aj,ak,bf,cF⟩
   ·exact .inl ⟨aj,by rw[if_neg q];exact ak⟩
   ·exact .inr ⟨d,e,aj,by rw[if_neg q];exact ak,bf,cF⟩
 ·rcases aay he with he |he
  ·exact .inl he
  ·right
   subst he
   show cS (oD bits size room)=[]
   unfold oD
   rw[Kb]
theorem P5 {nm:List UInt8}: ∀{L:List aK},(L.map (·.nm)).Nodup→dk (jX L nm) nm=none
 | [],_=>rfl
 |d::L,h=>by
  obtain⟨aa,af⟩:=List.nodup_cons.1 h
  unfold jX
  by_cases e:d.nm=nm
  ·rw[if_pos e]
   cases w:dk L nm with
   |none=>rfl
   |some v=>
    exfalso
    obtain⟨g1,g2⟩:=cA w
    exact aa (List.mem_map.2 ⟨v,g1,g2.trans e.symm⟩)
  ·rw[if_neg e,oA,if_neg e]
   exact P5 af
theorem cZ.Cs (h:cZ n bits room L l) (bJ:bX bits room L) (nm:List UInt8):(yA l nm).x=[]∧(yA l nm).e=(sN L nm).e∧cZ n bits room (sN L nm).L (yA l nm).l∧ ∀e,e∈(yA l nm).l→e∈l:=by
 have dB:=OP bJ nm
 have uA:=h.us bJ nm
 unfold sN at dB⊢
 unfold yA
 rcases h.both nm with⟨aj,ak⟩ |⟨d,e,aj,ak,bf,cF⟩
 ·rw[aj,ak]
  exact⟨rfl,rfl,h,fun e he=>he⟩
 rw[aj] at dB⊢
 rw[ak]
 simp only at dB⊢
 rw[uA]
 by_cases c:jE L nm=[]
 ·rw[if_pos c] at dB⊢
  rw[if_neg (by rw[c];decide)]
  obtain⟨i,aD,i1,i2,i3⟩:=oE ak
  have aaF:(bY l nm).toNat=i:=by rw[i1];exact Int.toNat_natCast i
  refine⟨rfl,rfl,?_,fun w hw=>?_⟩
  ·show cZ n bits room (jX L nm) (l.take (bY l nm).toNat++l.drop ((bY l nm).toNat+1))
   rw[aaF]
   have hr:=h.Ff bJ
   have hs:l.take i++(l[i]::l.drop (i+1))=l:=by rw[←List.drop_eq_getElem_cons aD];exact List.take_append_drop ..
   have aB: ∀z,cw l z=(cw (l.take i) z).or (if nm=z then some l[i] else cw (l.drop (i+1)) z):=fun z=>by
    have:cw l z=cw (l.take i++(l[i]::l.drop (i+1))) z:=by rw[hs]
    rw[this,Cz,cw,i2,i3]
   have Ix:((l.take i++l.drop (i+1)).map (fun e=>b5 e)).Pairwise (· < ·):=by
    have ja:(l.take i++l.drop (i+1)).Sublist (l.take i++(l[i]::l.drop (i+1))):=List.Sublist.append_left (List.sublist_cons_self ..) _
    rw[hs] at ja
    exact hr.sublist (ja.map _)
   refine cZ.of h.eO dB Ix fun y=>?_
   rw[Cz]
   by_cases q:y=nm
   ·subst q
    left
    refine⟨P5 bJ.jA,?_⟩
    have dJ:=h.nodup bJ
    rw[←hs,List.map_append,List.map_cons] at dJ
    have tq:cw (l.take i) y=none:=by
     cases w:cw (l.take i) y with
     |none=>rfl
     |some v=>
      exfalso
      have hm:=Fe.2 ⟨v,w⟩
      exact(List.nodup_append.1 dJ).2.2 _ hm _ (by rw[i2,i3];exact List.mem_cons_self ..) rfl
    have iR:cw (l.drop (i+1)) y=none:=by
     cases w:cw (l.drop (i+1)) y with
     |none=>rfl
     |some v=>
      exfalso
      have hm:=Fe.2 ⟨v,w⟩
      have:=(List.nodup_cons.1 (List.nodup_append.1 dJ).2.1).1
      rw[i2,i3] at this
      exact this hm
    rw[tq,iR]
    rfl
   ·rw[Ca q]
    have:=aB y
    rw[if_neg (Ne.symm q)] at this
    rw[←this]
    exact h.both y
  ·rcases List.mem_append.1 hw with hw |hw
   ·exact List.mem_of_mem_take hw
   ·exact List.mem_of_mem_drop hw
 ·rw[if_neg c] at dB⊢
  have:0 < (jE L nm).length:=List.length_pos_iff.2 c
  rw[if_pos this]
  exact⟨rfl,rfl,h,fun e he=>he⟩
end
end Go.Proofs.YteoamepgonpdlaaGreat
namespace Go.Proofs.YteoamepgonpdlaaGreat
open Go.RowKit Go.Proofs
theorem Kc: ∀(n:Nat) (l:List Nat),l.Nodup→(∀x,x∈l→x < n)→l.length≤n
 |0,[],_,_=>Nat.le_refl _
 |0,x::l,_,h=>absurd (h x (List.mem_cons_self ..)) (Nat.not_lt_zero x)
 |n+1,l,hn,h=>by
  have aa:(l.erase n).Nodup:=hn.erase n
  have af:=Kc n (l.erase n) aa fun x hx=>by
   have s9:=(hn.mem_erase_iff).1 hx
   have:=h x s9.2
   have:=s9.1
   omega
  have ay:l.length≤(l.erase n).length+1:=by
   rw[List.length_erase]
   split <;>omega
  omega
theorem P6 {α β:Type} {f:α→β}: ∀{l:List α},(∀x,x∈l→ ∀y,y∈l→f x=f y→x=y)→l.Nodup→(l.map f).Nodup
 | [],_,_=>List.nodup_nil
 |a::l,aD,hn=>by
  obtain⟨ee,eO⟩:=List.nodup_cons.1 hn
  rw[List.map_cons]
  refine List.nodup_cons.2 ⟨fun hm=>?_,P6 (fun x hx y aF=>aD x (List.mem_cons_of_mem _ hx) y (List.mem_cons_of_mem _ aF)) eO⟩
  obtain⟨y,aF,e⟩:=List.mem_map.1 hm
  have:=aD y (List.mem_cons_of_mem _ aF) a (List.mem_cons_self ..) e
  exact ee (this▸aF)
section
variable {bits room:Nat} {L:List aK} {nm:List UInt8}
theorem aaG {a:Int} {bs:List UInt8} (h:bX bits room L) (he:(jh bits L nm a bs).e≠0):(jh bits L nm a bs).L=L:=by
 unfold jh at he⊢
 cases aE:dk L nm with
 |none=>rfl
 |some d=>
  rw[aE] at he
  simp only at he⊢
  split at he
  ·rename_i aa;rw[if_pos aa]
  ·rename_i aa
   rw[if_neg aa]
   split at he
   ·rename_i af;rw[if_pos af]
   ·rename_i af
    rw[if_neg af]
    have he:BV d.im a.toNat (bs.length/16)≠0:=he
    unfold BV at he
    split at he
    ·exact absurd rfl he
    ·rename_i ay
     show lim L nm (ya d.im a.toNat (bs.length/16) bs _) none=L
     unfold ya
     rw[if_neg ay,Ae h.jA aE (h.tT d (cA aE).1)]
theorem aaH {a l:Int} (h:bX bits room L) (he:(ji bits L nm a l).e≠0):(ji bits L nm a l).L=L:=by
 unfold ji at he⊢
 cases aE:dk L nm with
 |none=>rfl
 |some d=>
  rw[aE] at he
  simp only at he⊢
  split at he
  ·rename_i af;rw[if_pos af]
  ·rename_i af
   rw[if_neg af]
   have he:yb d.im a.toNat l.toNat≠0:=he
   unfold yb at he
   split at he
   ·exact absurd rfl he
   ·rename_i ay
    show lim L nm (ve d.im a.toNat l.toNat _) none=L
    unfold ve
    rw[if_neg ay,Ae h.jA aE (h.tT d (cA aE).1)]
end
theorem aaI {L:List aK} {nm:List UInt8} {k:Nat} (h:ew L nm k) {i:Nat} (aD:i < k):(ef L k nm)[i]? =some (gL L (i+1) nm):=by
 have aa:=IM h i aD
 have af:=sJ h
 rw[List.take_add_one] at aa
 have ay:=List.append_cancel_left aa
 rw[List.getElem?_eq_getElem (by omega)] at ay⊢
 injection ay with ay
 rw[ay]
def rS (L:List aK) (n:List UInt8) (k:Nat):Bool:=match dk L n with
 |none=>true
 |some d=>decide (d.im.t.length≤k)||decide ((d.im.t.getD k s0).1=0)
def eo (L:List aK) (nm:List UInt8):Nat:=match dk L nm with
 |none=>0
 |some d=>d.im.t.length
def Fg (bits:Nat) (L:List aK) (nm:List UInt8):List UInt8:=match dk L nm with
 |none=>[]
 |some d=>fS bits L nm (c7 L nm) 0 (d.im.t.length*2 ^bits)
section
variable {bits room:Nat} {L:List aK} {nm:List UInt8}
theorem aaJ (L:List aK) {t n:List UInt8} {d:aK} {im:bE} (hd:dk L t=some d) (hs:ju d.im im):eo (lim L t im none) n=eo L n∧(dk (lim L t im none) n).isSome=(dk L n).isSome:=by
 by_cases e:n=t
 ·subst e
  unfold eo
  rw[B6 hd,hd]
  exact⟨hs.tl,rfl⟩
 ·unfold eo
  rw[Jf e]
  exact⟨rfl,rfl⟩
end
section
variable {bits room:Nat} {L:List aK} {top base:List UInt8}
end
end Go.Proofs.YteoamepgonpdlaaGreat
namespace Go.Proofs.YteoamepgonpdlaaGreat
open Go.RowKit Go.Proofs
section
variable {n bits room:Nat} {L eE:List aK} {l l':List bK}
theorem cZ.loop (h:cZ n bits room L l) (bJ:bX bits room L) {nm cO:List UInt8} {e:bK} (he:cw l nm=some e) (xG: ∃d,dk L cO=some d) (aB:nm=cO∨nm∈ef L (c7 L cO) cO): ∀f,nI (jK l nm (jl (b5 e) cO (bn e))) f nm=f:=by
 have c4:=h.J' bJ he (e':=jl (b5 e) cO (bn e)) (show b5 e=nm from yE he)
 have bg:cO≠[]:=PC bJ xG
 obtain⟨cq,_⟩:=bJ.dep cO
 obtain⟨fD,zA,P7⟩: ∃fD,fD≤c7 L cO∧gL L fD cO=nm:=by
  rcases aB with q |q
  ·exact⟨0,Nat.zero_le _,q.symm⟩
  ·obtain⟨i,aD,e⟩:=List.getElem_of_mem q
   rw[sJ cq] at aD
   have:=aaI cq aD
   rw[List.getElem?_eq_getElem (by rw[sJ cq];exact aD),e] at this
   injection this with this
   exact⟨i+1,aD,this.symm⟩
 have key: ∀f x,(∃j,j≤fD∧gL L j cO=x)→nI (jK l nm (jl (b5 e) cO (bn e))) f x=f:=fun f=>by
  induction f with
  |zero=>intro x _;rfl
  |succ f aZ=>
   rintro x ⟨j,au,tN⟩
   by_cases q:x=nm
   ·have az:m6 (jK l nm (jl (b5 e) cO (bn e))) x=some cO:=by
     unfold m6
     rw[c4,if_pos q]
     exact if_neg bg
    rw[nI,az]
    simp only
    rw[aZ cO ⟨0,Nat.zero_le _,rfl⟩]
   ·have adm:j < fD:=by
     rcases Nat.lt_or_ge j fD with w |w
     ·exact w
     ·exfalso
      have:j=fD:=by omega
      subst this
      exact q (tN.symm.trans P7)
    obtain⟨d1,pM⟩:=JW bJ cq xG j (by omega)
    have aaK:=pM
    rw[tN] at pM
    obtain⟨aj,g1,g2,_⟩:=h.get pM
    have E0:gL L (j+1) cO=d1.back:=by rw[Eu,aaK]
    have iA:=JW bJ cq xG (j+1) (by omega)
    rw[E0] at iA
    have ag:d1.back≠[]:=PC bJ iA
    have az:m6 (jK l nm (jl (b5 e) cO (bn e))) x=some d1.back:=by
     unfold m6
     rw[c4,if_neg q,g1]
     simp only
     rw[if_neg (fun w=>ag (g2.symm.trans w)),g2]
    rw[nI,az]
    simp only
    rw[aZ d1.back ⟨j+1,by omega,E0⟩]
 exact fun f=>key f nm ⟨fD,Nat.le_refl _,P7⟩
theorem cZ.aaL (h:cZ n bits room L l) (bJ:bX bits room L) (nm cO:List UInt8):(vB l nm cO).2=(qa L nm cO).e∧cZ n bits room (qa L nm cO).L (vB l nm cO).1∧ ∀e,e∈(vB l nm cO).1→ ∃bx,bx∈l∧bn e=bn bx:=by
 have dB:=OS bJ nm cO
 obtain⟨xM,sq⟩:=h.qJ (x:=cO)
 unfold qa at dB⊢
 unfold vB
 rcases h.both nm with⟨aj,ak⟩ |⟨d,e,aj,ak,bf,cF⟩
 ·rw[ak,if_pos (.inl (by rw[aj];rfl))]
  exact⟨rfl,h,fun e he=>⟨e,he,rfl⟩⟩
 rw[ak]
 simp only
 by_cases aW:cO≠[]∧bY l cO < 0
 ·rw[if_pos aW,if_pos (.inr (by rw[decide_eq_false aW.1,sq.1 aW.2];rfl))]
  exact⟨rfl,h,fun e he=>⟨e,he,rfl⟩⟩
 have aq:(decide (cO=[])||(dk L cO).isSome)=true:=by
  by_cases q:cO=[]
  ·rw[decide_eq_true q];rfl
  ·cases w:dk L cO with
   |none=>exact absurd ⟨q,sq.2 w⟩ aW
   |some v=>rw[Option.isSome_some,Bool.or_true]
 have g1: ¬((dk L nm).isSome=false∨(decide (cO=[])||(dk L cO).isSome)=false):=by
  rw[aj,aq]
  rintro(q |q) <;>cases q
 rw[if_neg aW]
 rw[if_neg g1] at dB⊢
 have c4:=h.J' bJ ak (e':=jl (b5 e) cO (bn e)) (show b5 e=nm from yE ak)
 by_cases aX:nm=cO∨nm∈ef L (c7 L cO) cO
 ·have xG: ∃v,dk L cO=some v:=by
   rcases aX with q |q
   ·rw[←q];exact⟨d,aj⟩
   ·obtain⟨cq,_⟩:=bJ.dep cO
    cases w:dk L cO with
    |some v=>exact⟨v,rfl⟩
    |none=>
     exfalso
     have:c7 L cO=0:=Ow cq (.gone w)
     rw[this] at q
     cases q
  rw[if_pos aX,if_pos (show ld _ nm=99 from h.loop bJ ak xG aX 99)]
  exact⟨rfl,h,fun e he=>⟨e,he,rfl⟩⟩
 rw[if_neg aX] at dB⊢
 have pM:nm≠cO:=fun q=>aX (.inl q)
 have ku:nm∉ef L (c7 L cO) cO:=fun q=>aX (.inr q)
 have c9: ∀y,dk (ey L nm cO) y=if y=nm then some {d with back:=cO} else dk L y:=fun y=>by
  rw[sL]
  by_cases q:y=nm
  ·rw[if_pos q,q,aj]
   show some (fK nm cO d)=_
   unfold fK
   rw[if_pos (cA aj).2]
  ·rw[if_neg q]
   cases w:dk L y with
   |none=>rfl
   |some v=>
    show some (fK nm cO v)=_
    rw[Af (by rw[(cA w).2];exact q)]
 have aaM:wT (ey L nm cO) (jK l nm (jl (b5 e) cO (bn e))):=fun y=>by
  rw[c4,c9]
  by_cases q:y=nm
  ·rw[if_pos q,if_pos q];rfl
  ·rw[if_neg q,if_neg q];exact h.nK y
 have Ke: ∀x,ld (jK l nm (jl (b5 e) cO (bn e))) x=c7 (ey L nm cO) x:=fun x=>by
  obtain⟨b9,ck⟩:=bJ.EP pM ku x
  exact aaM.nr b9 99 (by omega)
 have dh:(jK l nm (jl (b5 e) cO (bn e))).all (fun x=>decide (ld (jK l nm (jl (b5 e) cO (bn e))) (b5 x)≤8))=true↔ ∀x∈iB L,c7 (ey L nm cO) x≤8:=by
  rw[List.all_eq_true]
  constructor
  ·intro w x hx
   rw[←h.nm,←J9 ak (e':=jl (b5 e) cO (bn e)) (show b5 e=nm from yE ak)] at hx
   obtain⟨v,hv,rfl⟩:=List.mem_map.1 hx
   have:=of_decide_eq_true (w v hv)
   rw[Ke] at this
   exact this
  ·intro w v hv
   have hx:b5 v∈iB L:=by
    rw[←h.nm,←J9 ak (e':=jl (b5 e) cO (bn e)) (show b5 e=nm from yE ak)]
    exact List.mem_map.2 ⟨v,hv,rfl⟩
   exact decide_eq_true (by rw[Ke];exact w _ hx)
 rw[if_neg (show¬ld _ nm=99 by rw[Ke];have:=(bJ.EP pM ku nm).2;omega)]
 by_cases bT: ∀x∈iB L,c7 (ey L nm cO) x≤8
 ·rw[if_pos bT] at dB⊢
  rw[if_pos (dh.2 bT)]
  refine⟨rfl,h.st bJ dB aj ak (show b5 e=nm from yE ak) c9 rfl cF,fun v hv=>?_⟩
  rcases P4 hv with hv |hv
  ·exact⟨v,hv,rfl⟩
  ·exact⟨e,tX ak,by rw[hv]⟩
 ·rw[if_neg bT] at dB⊢
  rw[if_neg (fun q=>bT (dh.1 q))]
  exact⟨rfl,h,fun e he=>⟨e,he,rfl⟩⟩
theorem aaN (bJ:bX bits room L) {x:List UInt8} {d:aK} (hd:dk L x=some d) (a b N:Nat) (c4:a+b≤N):fS bits L x (c7 L x) a b=((fS bits L x (c7 L x) 0 N).take (16*(a+b))).drop (16*a):=by
 obtain⟨cq,_⟩:=bJ.dep x
 have hlen:=fun j=>Ew bJ.tonF hd cq 0 j
 have app: ∀j,fS bits L x (c7 L x) 0 (a+j)=fS bits L x (c7 L x) 0 a++fS bits L x (c7 L x) a j:=fun j=>by
  induction j with
  |zero=>show _=_++[];rw[List.append_nil];rfl
  |succ j aZ=>
   show fS bits L x (c7 L x) 0 (a+j)++tR bits L x (c7 L x) (0+(a+j))=_++(fS bits L x (c7 L x) a j++tR bits L x (c7 L x) (a+j))
   rw[aZ,List.append_assoc,Nat.zero_add]
 have y2: ∀j,(fS bits L x (c7 L x) 0 (a+b+j)).take (16*(a+b))=fS bits L x (c7 L x) 0 (a+b):=fun j=>by
  induction j with
  |zero=>rw[←hlen (a+b)];exact List.take_length
  |succ j aZ=>
   rw[show a+b+(j+1)=(a+b+j)+1 by omega,fS,List.take_append_of_le_length (by rw[hlen];omega),aZ]
 have:=y2 (N - (a+b))
 rw[show a+b+(N - (a+b))=N by omega] at this
 rw[this,app b,←hlen a,List.drop_left]
theorem cZ.sc (h:cZ n bits room L l) (bJ:bX bits room L) (nm:List UInt8) (q:lg) (bp:dg q=0∨dg q=1∨dg q=2∨dg q=3) (hd: ∀e,e∈l→(cS (bn e)).length+256≤100000):
  (tZ n l nm q).x=(qf bits L nm q).x∧(tZ n l nm q).e=(qf bits L nm q).e∧cZ n bits room (qf bits L nm q).L (tZ n l nm q).l∧ ∀e,e∈(tZ n l nm q).l→ ∃bx,bx∈l∧(cS (bn e)).length≤(cS (bn bx)).length+256:=by
 have dB:=Zu bJ nm q
 unfold tZ
 rcases h.both nm with⟨aj,ak⟩ |⟨d,e,aj,ak,bf,cF⟩
 ·rw[ak]
  simp only
  have hx:(qf bits L nm q).x=[]∧(qf bits L nm q).e=140∧(qf bits L nm q).L=L:=by
   unfold qf
   rcases bp with c |c |c |c
   ·rw[if_pos c];unfold tU;rw[aj];exact⟨rfl,rfl,rfl⟩
   ·rw[if_neg (by omega),if_pos c];unfold jh;rw[aj];exact⟨rfl,rfl,rfl⟩
   ·rw[if_neg (by omega),if_neg (by omega),if_pos c];unfold ji;rw[aj];exact⟨rfl,rfl,rfl⟩
   ·rw[if_neg (by omega),if_neg (by omega),if_neg (by omega),if_pos c];unfold mF;rw[aj];exact⟨rfl,rfl,rfl⟩
  rw[hx.1,hx.2.1,hx.2.2]
  exact⟨rfl,rfl,h,fun e he=>⟨e,he,by omega⟩⟩
 rw[ak]
 simp only
 have P8:=hd e (tX ak)
 have cP:=cF.ok.jF
 have CA:=fun a b=>cF.aai a b
 have tV:cZ n bits room L (jK l nm (jl (b5 e) (c8 e) (bn e))):=h.st bJ bJ aj ak (d':=d) (e':=jl (b5 e) (c8 e) (bn e)) (show b5 e=nm from yE ak) (fun y=>by
  by_cases w:y=nm
  ·rw[if_pos w,w,aj]
  ·rw[if_neg w]) bf cF
 have kR: ∀m',(cS m').length≤(cS (bn e)).length+256→ ∀v,v∈jK l nm (jl (b5 e) (c8 e) m')→ ∃bx,bx∈l∧(cS (bn v)).length≤(cS (bn bx)).length+256:=fun m' hm v hv=>by
  rcases P4 hv with hv |hv
  ·exact⟨v,hv,by omega⟩
  ·exact⟨e,tX ak,by rw[hv];exact hm⟩
 have kz: ∀CB m',bX bits room (lim L nm CB none)→ej n CB m'→cZ n bits room (lim L nm CB none) (jK l nm (jl (b5 e) (c8 e) m')):=fun CB m' hc hr=>h.st bJ hc aj ak (d':={d with im:=CB,cE:=none}) (show b5 e=nm from yE ak) (fun y=>by
  by_cases w:y=nm
  ·rw[if_pos w,w,B6 aj]
  ·rw[if_neg w,Jf w]) bf hr
 have oz: ∀c,c < d.im.t.length→ez (bn e) c=0→(mI n l nm (aL (bn e)).length)[c]? =some (mE bits L nm (c7 L nm) c)∧(mE bits L nm (c7 L nm) c).length=16*n:=fun c hc aq=>by
  refine⟨?_,by rw[aab bJ aj,h.eO]⟩
  unfold mI
  rw[List.getElem?_map,List.getElem?_range (by rw[cF.len];exact hc),Option.map_some,h.jF bJ ⟨d,aj⟩ c,ZM aj]
  rintro⟨_,w⟩
  rw[←cF.cL c hc] at w
  exact w aq
 have P9: ∀a b bs b6 zero k,k≤256→(cS (jk n a b bs b6 zero (bn e) k)).length≤(cS (bn e)).length+256:=fun a b bs b6 zero k aq=>by
  have:=Ak n a b bs b6 zero (bn e) k
  omega
 unfold qf at dB⊢
 by_cases cx:dg q=0
 ·rw[if_pos cx,if_pos cx]
  unfold tU
  rw[aj]
  simp only
  rw[CA]
  by_cases w:fY n (aL (bn e)).length (cJ q) (dx q)=0
  ·rw[if_pos w,if_pos w]
   obtain⟨b1,b2,b3⟩:=vr w
   refine⟨?_,rfl,h,fun e he=>⟨e,he,by omega⟩⟩
   have ha:=h.al bJ ⟨d,aj⟩ (aL (bn e)).length
   rw[aaN bJ aj (cJ q).toNat (dx q).toNat (n*(aL (bn e)).length) (by omega),ha]
   show((rP n l nm (aL (bn e)).length).take (16*(cJ q+dx q)).toNat).drop (16*cJ q).toNat=_
   rw[show(16*(cJ q+dx q)).toNat=16*((cJ q).toNat+(dx q).toNat) by omega,show(16*cJ q).toNat=16*(cJ q).toNat by omega]
  ·rw[if_neg w,if_neg w]
   exact⟨rfl,rfl,h,fun e he=>⟨e,he,by omega⟩⟩
 rw[if_neg cx]
 rw[if_neg cx] at dB⊢
 by_cases aW:dg q=1
 ·rw[if_pos aW] at dB⊢
  have uD:vz n (bn e) q (mI n l nm (aL (bn e)).length)=vt n (bn e) (cJ q) (dX q) (mI n l nm (aL (bn e)).length) false:=if_pos aW
  rw[uD]
  unfold vt
  unfold jh at dB⊢
  rw[aj] at dB⊢
  simp only at dB⊢
  rw[CA] at dB⊢
  by_cases b9:(dX q).length % 16≠0
  ·rw[if_pos b9,if_pos b9]
   exact⟨rfl,rfl,tV,kR (bn e) (Nat.le_add_right _ _)⟩
  rw[if_neg b9] at dB⊢
  rw[if_neg b9]
  by_cases ck:fY n (aL (bn e)).length (cJ q) ((dX q).length/16:Nat)=0
  ·rw[if_neg (fun g=>g ck)] at dB⊢
   rw[if_pos ck]
   have Qa:=ck
   rw[←CA] at Qa
   have pL:=rN Qa
   have dh:(cJ q).toNat+(dX q).length/16≤eV d.im:=by
    have:=vr ck
    rw[cF.all]
    omega
   have e6:(dX q).length=16*((dX q).length/16):=by omega
   have dJ:=cF.aaj (a:=(cJ q).toNat) (l:=(dX q).length/16) dh
   rw[cF.free,dJ]
   unfold BV ya at*
   by_cases w3:fX d.im (cJ q).toNat ((dX q).length/16) (bU (wid d.im) (cJ q).toNat ((dX q).length/16))≤zeros d.im.l
   ·have e7: ¬((zeros d.im.l:Nat):Int) < ((fX d.im (cJ q).toNat ((dX q).length/16) (bU (wid d.im) (cJ q).toNat ((dX q).length/16)):Nat):Int):=by omega
    rw[if_neg e7]
    rw[if_pos w3,if_pos w3] at dB
    rw[if_pos w3,if_pos w3]
    exact⟨rfl,rfl,kz _ _ dB (cF.wr e6 dh oz P8 w3),kR _ (P9 _ _ _ _ _ _ cP)⟩
   ·have e7:((zeros d.im.l:Nat):Int) < ((fX d.im (cJ q).toNat ((dX q).length/16) (bU (wid d.im) (cJ q).toNat ((dX q).length/16)):Nat):Int):=by omega
    rw[if_pos e7]
    rw[if_neg w3,if_neg w3] at dB
    rw[if_neg w3,if_neg w3]
    refine⟨rfl,rfl,kz _ _ dB cF,kR (bn e) (Nat.le_add_right _ _)⟩
  ·rw[if_pos ck]
   rw[if_neg ck]
   exact⟨rfl,rfl,tV,kR (bn e) (Nat.le_add_right _ _)⟩
 rw[if_neg aW] at dB⊢
 by_cases aX:dg q=2
 ·rw[if_pos aX] at dB⊢
  have uD:vz n (bn e) q (mI n l nm (aL (bn e)).length)=if fY n (aL (bn e)).length (cJ q) (dx q)=0 then vt n (bn e) (cJ q) (List.replicate (16*dx q).toNat 0) (mI n l nm (aL (bn e)).length) true else(bn e,fY n (aL (bn e)).length (cJ q) (dx q)):=(if_neg aW).trans (if_pos aX)
  rw[uD]
  unfold ji at dB⊢
  rw[aj] at dB⊢
  simp only at dB⊢
  rw[CA] at dB⊢
  by_cases ck:fY n (aL (bn e)).length (cJ q) (dx q)=0
  ·rw[if_neg (fun g=>g ck)] at dB⊢
   rw[if_pos ck]
   obtain⟨b1,b2,b3⟩:=vr ck
   have dh:(cJ q).toNat+(dx q).toNat≤eV d.im:=by rw[cF.all];omega
   have aaO:(16*dx q).toNat=16*(dx q).toNat:=by omega
   unfold vt
   rw[aaO,List.length_replicate,if_neg (by omega),show 16*(dx q).toNat/16=(dx q).toNat by omega,show(((dx q).toNat:Nat):Int)=dx q by omega,if_pos ck]
   have dJ:=cF.aal (a:=(cJ q).toNat) (l:=(dx q).toNat) dh
   rw[cF.free,dJ]
   unfold yb ve at*
   by_cases w3:fq d.im (cJ q).toNat (dx q).toNat (bU (wid d.im) (cJ q).toNat (dx q).toNat)≤zeros d.im.l
   ·have e7: ¬((zeros d.im.l:Nat):Int) < ((fq d.im (cJ q).toNat (dx q).toNat (bU (wid d.im) (cJ q).toNat (dx q).toNat):Nat):Int):=by omega
    rw[if_neg e7]
    rw[if_pos w3,if_pos w3] at dB
    rw[if_pos w3,if_pos w3]
    exact⟨rfl,rfl,kz _ _ dB (cF.aan dh oz P8 w3),kR _ (P9 _ _ _ _ _ _ cP)⟩
   ·have e7:((zeros d.im.l:Nat):Int) < ((fq d.im (cJ q).toNat (dx q).toNat (bU (wid d.im) (cJ q).toNat (dx q).toNat):Nat):Int):=by omega
    rw[if_pos e7]
    rw[if_neg w3,if_neg w3] at dB
    rw[if_neg w3,if_neg w3]
    refine⟨rfl,rfl,kz _ _ dB cF,kR (bn e) (Nat.le_add_right _ _)⟩
  ·rw[if_pos ck]
   rw[if_neg ck]
   exact⟨rfl,rfl,tV,kR (bn e) (Nat.le_add_right _ _)⟩
 rw[if_neg aX] at dB⊢
 have bT:dg q=3:=by omega
 rw[if_pos bT] at dB⊢
 have uD:vz n (bn e) q (mI n l nm (aL (bn e)).length)=Aj n (bn e) (cJ q) (dx q):=(if_neg aW).trans (if_neg aX)
 rw[uD]
 unfold Aj
 unfold mF at dB⊢
 rw[aj] at dB⊢
 simp only at dB⊢
 rw[CA] at dB⊢
 by_cases ck:fY n (aL (bn e)).length (cJ q) (dx q)=0
 ·rw[if_neg (fun g=>g ck)] at dB⊢
  rw[if_pos ck]
  obtain⟨b1,b2,b3⟩:=vr ck
  have dh:(cJ q).toNat+(dx q).toNat≤eV d.im:=by rw[cF.all];omega
  refine⟨rfl,rfl,kz _ _ dB (cF.ds dh),kR _ ?_⟩
  have: ∀k,cS (jZ n (cJ q).toNat (dx q).toNat (bn e) k)=cS (bn e):=fun k=>by
   induction k with
   |zero=>rfl
   |succ k aZ=>
    unfold jZ
    split
    ·exact aZ
    ·exact aZ
  rw[this]
  omega
 ·rw[if_pos ck]
  rw[if_neg ck]
  exact⟨rfl,rfl,tV,kR (bn e) (Nat.le_add_right _ _)⟩
theorem cZ.step (h:cZ n bits room L l) (bJ:bX bits room L) (o:fy) (p:Nat×Nat) (dB:bX bits room (wO bits room L o p).L) (hd: ∀e,e∈l→(cS (bn e)).length+256≤100000):
  (jv n bits room l o).x=(wO bits room L o p).x∧(jv n bits room l o).e=(wO bits room L o p).e∧cZ n bits room (wO bits room L o p).L (jv n bits room l o).l∧ ∀e,e∈(jv n bits room l o).l→ ∃k,(cS (bn e)).length≤k+256∧(k=0∨ ∃bx,bx∈l∧k=(cS (bn bx)).length):=by
 have same: ∀e,e∈l→ ∃k,(cS (bn e)).length≤k+256∧(k=0∨ ∃bx,bx∈l∧k=(cS (bn bx)).length):=fun e he=>⟨_,Nat.le_add_right _ _,.inr ⟨e,he,rfl⟩⟩
 unfold wO at dB⊢
 unfold jv
 by_cases cx:gh o=0
 ·rw[if_pos cx] at dB⊢
  rw[if_pos cx]
  obtain⟨g1,g2,bL⟩:=h.add bJ (cg o) (j3 o) (eL o) p dB
  refine⟨rfl,g1,g2,fun e he=>?_⟩
  rcases bL e he with w |w
  ·exact same e w
  ·exact⟨0,by rw[w];exact Nat.zero_le _,.inl rfl⟩
 rw[if_neg cx]
 rw[if_neg cx] at dB⊢
 by_cases aW:gh o=1
 ·rw[if_pos aW] at dB⊢
  rw[if_pos aW]
  obtain⟨g1,g2,bL,gH⟩:=h.Cs bJ (cg o)
  exact⟨g1,g2,bL,fun e he=>same e (gH e he)⟩
 rw[if_neg aW]
 rw[if_neg aW] at dB⊢
 by_cases aX:gh o=2
 ·rw[if_pos aX] at dB⊢
  rw[if_pos aX]
  obtain⟨g1,g2,bL⟩:=h.aaL bJ (cg o) (eL o)
  refine⟨rfl,g1,g2,fun e he=>?_⟩
  obtain⟨bx,b9,ck⟩:=bL e he
  exact⟨_,by rw[ck];exact Nat.le_add_right _ _,.inr ⟨bx,b9,rfl⟩⟩
 rw[if_neg aX]
 rw[if_neg aX] at dB⊢
 by_cases bT:gh o=3
 ·rw[if_pos bT] at dB⊢
  by_cases gl:0≤dg (cK o)∧dg (cK o)≤3
  ·rw[if_pos ⟨bT,gl⟩]
   obtain⟨g1,g2,bL,gH⟩:=h.sc bJ (cg o) (cK o) (by omega) hd
   refine⟨g1,g2,bL,fun e he=>?_⟩
   obtain⟨bx,b9,ck⟩:=gH e he
   exact⟨_,ck,.inr ⟨bx,b9,rfl⟩⟩
  ·rw[if_neg (fun w=>gl w.2)]
   have e:qf bits L (cg o) (cK o)=⟨[],0,L⟩:=by
    unfold qf
    rw[if_neg (by omega),if_neg (by omega),if_neg (by omega),if_neg (by omega)]
   rw[e]
   exact⟨rfl,rfl,h,same⟩
 ·rw[if_neg bT,if_neg (fun w=>bT w.1)]
  exact⟨rfl,rfl,h,same⟩
end
end Go.Proofs.YteoamepgonpdlaaGreat
namespace Go.Proofs.YteoamepgonpdlaaGreat
open Go.RowKit Go.Proofs
def yF (bits:Nat) (L:List aK) (nm:List UInt8) (q:lg):iW:=
 if dg q=1 then jh bits L nm (cJ q) (dX q) else if dg q=2 then ji bits L nm (cJ q) (dx q) else if dg q=3 then mF L nm (cJ q) (dx q) else⟨0,L⟩
def kF (bits room:Nat) (L:List aK) (o:fy) (p:Nat×Nat):iW:=
 if gh o=0 then nH bits room L (cg o) (j3 o) (eL o) p else if gh o=1 then sN L (cg o) else if gh o=2 then qa L (cg o) (eL o) else if gh o=3 then yF bits L (cg o) (cK o) else⟨0,L⟩
section
variable {bits room:Nat} {L:List aK}
theorem aaP (h:bX bits room L) (nm:List UInt8) (q:lg):bX bits room (yF bits L nm q).L:=by
 unfold yF
 split
 ·exact Jl h _ _ _
 ·split
  ·exact OJ h _ _ _
  ·split
   ·exact EM h _ _ _
   ·exact h
theorem Qb (h:bX bits room L) {o:fy} (aq:gh o≠0) (p:Nat×Nat):bX bits room (kF bits room L o p).L:=by
 unfold kF
 rw[if_neg aq]
 split
 ·exact OP h _
 ·split
  ·exact OS h _ _
  ·split
   ·exact aaP h _ _
   ·exact h
def uf (L:List aK):Prop:= ∀d,d∈L→d.im.t.length≤12
theorem uf.nil:uf []:=fun d h=>by cases h
theorem uf.of (c4:bX bits room L) (h: ∀n,eo L n≤12):uf L:=fun d hd=>by
 have:=h d.nm
 unfold eo at this
 rw[Ad c4.jA hd] at this
 exact this
theorem uf.aM (h:uf L) (n:List UInt8):eo L n≤12:=by
 unfold eo
 cases e:dk L n with
 |none=>exact Nat.zero_le _
 |some d=>exact h d (cA e).1
theorem oH.aM {eE:List aK} {t:List UInt8} (aB:oH L t eE) (n:List UInt8):eo eE n=eo L n∧(dk eE n).isSome=(dk L n).isSome:=by
 rcases aB with rfl |⟨d,im,aE,hs,rfl⟩
 ·exact⟨rfl,rfl⟩
 ·exact aaJ L aE hs
theorem uf.lm {eE:List aK} {t:List UInt8} (h:uf L) (bJ:bX bits room L) (aB:oH L t eE):uf eE:=uf.of (aB.cs bJ) fun n=>by
 rw[(aB.aM n).1]
 exact h.aM n
end
@[reducible] def kU:U:=.pr bt Pt
abbrev gm:=Int×lg
@[reducible] def Qc (o:gm):Int:=o.1
@[reducible] def cV (o:gm):lg:=o.2
@[reducible] def Fh (o:gm):List bD:=.d (.int .i64 (Qc o))::Pu (cV o)
@[reducible] def aaQ (o:gm):aO:=.c (.agg (Fh o))
def nL (o:gm):Nat:=(dX (cV o)).length
def qQ (l:List gm) (k:Nat):Nat:=((l.take k).map nL).sum
theorem Qd (l:List gm) (k:Nat):qQ l k≤(l.map nL).sum:=by
 unfold qQ
 rw[List.map_take]
 exact JR _ _
theorem aaR (l:List gm) {k:Nat} (h:k < l.length):qQ l (k+1)=qQ l k+nL l[k]:=by
 unfold qQ
 rw[List.take_add_one,List.getElem?_eq_getElem h,List.map_append,List.sum_append]
 rfl
theorem aaS {l:List gm} {o:gm} (h:o∈l):nL o≤(l.map nL).sum:=by
 induction l with
 |nil=>cases h
 |cons x l aZ=>
  rw[List.map_cons,List.sum_cons]
  rcases List.mem_cons.1 h with rfl |h
  ·omega
  ·have:=aZ h
   omega
def sU (l:List fy) (m:List gm):Bool:=(l.all fun o=> !wN o)&&(decide (l.length+m.length≤60)&&decide ((l.map mH).sum+(m.map nL).sum≤6000))
theorem aaT {l:List fy} {m:List gm} {k:Nat} (aq:k < l.length) (ag:wN l[k]=true):sU l m=false:=by
 unfold sU
 rw[show(l.all fun o=> !wN o)=false from Bool.eq_false_iff.2 fun h=>by
  have:=List.all_eq_true.1 h _ (List.getElem_mem aq)
  rw[ag] at this
  cases this]
 rfl
theorem aaU {l:List fy} {m:List gm} (h:sU l m=true):l.length+m.length≤60∧(∀o,o∈l→mH o≤6000∧wN o=false)∧ ∀o,o∈m→nL o≤6000:=by
 unfold sU at h
 simp only[Bool.and_eq_true] at h
 have af:=of_decide_eq_true h.2.2
 refine⟨of_decide_eq_true h.2.1,fun o az=>⟨Nat.le_trans (Zt az) (by omega),?_⟩,fun o az=>Nat.le_trans (aaS az) (by omega)⟩
 have:=List.all_eq_true.1 h.1 o az
 simpa using this
theorem aaV (o:gm):fV kU o=6+nL o+(Aq (cV o)).length:=by
 have aa:=JT (dX (cV o))
 have e:fV kU o=1+(1+(1+(1+(fV (.sl .u8) (dX (cV o))+(1+(Aq (cV o)).length))))):=rfl
 rw[e,aa]
 unfold nL
 omega
theorem Qe: ∀l:List gm,1+l.length+(l.map nL).sum≤fV (.sl kU) l
 | []=>Nat.le_refl _
 |o::l=>by
  have aa:=Qe l
  have ak:fV (.sl kU) l=1+(List.map (fV kU) l).sum:=rfl
  have bf:=aaV o
  show 1+(l.length+1)+(nL o+(l.map nL).sum)≤1+(fV kU o+(List.map (fV kU) l).sum)
  omega
end Go.Proofs.YteoamepgonpdlaaGreat
namespace Go.Proofs.YteoamepgonpdlaaGreat
open Go.RowKit Go.Proofs Go.Maps Go.Shelf Go.MapKept
open Go.WideElems (Fit rd rg pl rd_val rd_key rg_of)
def aaW {aP:U} (p:aI bt×aI aP):Int:=p.1
def pz {aP:U} (es:List (aI bt×aI aP)):List Int:=es.map aaW
theorem Qf {I:Nat→Prop} {w:World} {aP:U}: ∀{l:List (aI bt×aI aP)} {es:List MapEntry},jN I w bt aP l es→es.map (·.key)=(pz l).map encZ
 | [],_,h=>by rw[show _=[] from h];rfl
 |p::l,_,⟨e,r,h,aa,_,ay⟩=>by
  rw[h,List.map_cons,Qf ay,aa]
  rfl
theorem aaX {P:Program} {k:TypeId} (aq:P.underlying k=some (.int .i64)) (s:Int) (h:(Lit.int .i64 s).wf=true):keyOf P k (encZ s)=some (.int .i64 s):=by
 simp[keyOf,aq,encZ,mapKey,h]
theorem Qg: ∀{l m:List Int},l.map encZ=m.map encZ→l=m
 | [],[],_=>rfl
 | [],_::_,h=>by simp at h
 |_::_,[],h=>by simp at h
 |x::l,y::m,h=>by
  simp only[List.map_cons,List.cons.injEq] at h
  rw[encZ_inj h.1,Qg h.2]
theorem aaY {P:Program} {k:TypeId} (aq:P.underlying k=some (.int .i64)) {I:Nat→Prop} {w:World} {aP:U} {es:List (aI bt×aI aP)} {cX:List MapEntry} {clock b:Nat} (ag:w.heap[b]? =some (.map (List.toArray cX) clock))
  (hm:jN I w bt aP es cX) (dy:oN cX clock) (hn:(pz es).Nodup) (aB: ∀s∈pz es,(Lit.int .i64 s).wf=true) (hs:es.length≤maxLen):
  ∃o7,w.ownsMap P k p7 b es.length o7∧Maps.size o7=es.length∧(intKeys o7).Perm (pz es):=by
 have hlen:=CR hm
 have yh:=Qf hm
 have B0: ∀x∈cX,∃s:Int,x.key=encZ s∧rg P k p7 x=(.int .i64 s,.nil)∧ ∃y,rd P k p7 x=some y:=by
  intro x hx
  have:x.key∈(pz es).map encZ:=by rw[←yh];exact List.mem_map_of_mem hx
  obtain⟨s,hp,he⟩:=List.mem_map.1 this
  have B1:keyOf P k x.key=some (.int .i64 s):=he▸aaX aq _ (aB s hp)
  have tQ:rd P k p7 x=some (.int .i64 s,.nil):=by simp[rd,B1]
  exact⟨s,he.symm,rg_of tQ,_,tQ⟩
 have vp:=Go.WideShapes.sorted_perm (cX.map (rg P k p7))
 have fO:(cX.map (rg P k p7)).map (fun p=>Go.intOf p.1)=pz es:=by
  refine Qg ?_
  rw[←yh,List.map_map,List.map_map]
  refine List.map_congr_left fun x hx=>?_
  obtain⟨s,aj,ak,_⟩:=B0 x hx
  simp[ak,aj,Go.intOf]
 refine⟨.map ((cX.map (rg P k p7)).foldr DataW.insert []),⟨List.toArray cX,clock,ag,⟨by simp[hlen];exact hs,(stamped_iff _ _).2 ⟨dy.2,dy.1.imp fun h=>by omega,?_⟩,fun x hx=>(B0 x hx).choose_spec.2.2⟩,by simp[hlen],rfl⟩,?_,?_⟩
 ·have aa:(cX.map (·.key)).Pairwise (· ≠ ·):=by
   rw[yh]
   exact List.pairwise_map.2 (hn.imp fun bg e=>bg (encZ_inj e))
  exact List.pairwise_map.1 aa
 ·show List.length _=_
  rw[vp.length_eq,List.length_map,hlen]
 ·show(List.map (fun p=>Go.intOf (Prod.fst p)) _).Perm _
  rw[←fO]
  exact vp.map _
theorem aaZ (es:List (aI bt×aI bt)):Fn Tryz.prog 82 [.c (.one (.mp 1001))] [(1001,.map bt bt es)] [2001] (.c (.one (.eM 110 [.p 2001 0]))) [(2001,.cells [.mp 1001]),(1001,.map bt bt es)]:=by
 refine Fn.of ai [] _ _ _ _ _ Tryz.func82 rfl rfl (by kernel_rfl) (by kernel_rfl) rfl (aJ ai) rfl ?_
 refine⟨rfl,?_⟩
 exact⟨_,_,_,ah.ren 1 2001 rfl,rfl,rfl,⟨rfl,rfl,trivial⟩,rfl⟩
theorem fF.aa0 {I D:Nat→Prop} {w:World} {v:Value} {l:List Int} (h:fF D w 1 v l.length (l.map encZ)) (cq: ∀b,b < w.heap.size→D b→I b):b7 I w (.sl bt) l (fun _=>some v):=by
 obtain⟨_,A,c,aE,aa,af,ay⟩:=h
 refine⟨A,c,congrArg some aE,aa,af,fun hp=>?_⟩
 obtain⟨b,o,hA,ag,bF,hx⟩:=ay hp
 refine⟨b,o,hA,cq b bF ag,fun i x aD=>?_⟩
 have:=hx i (encZ x) (by rw[List.getElem?_map,show l[i]? =some x from aD];rfl)
 simpa[b7,aM,encZ] using this
theorem aa1 (es:List (aI bt×aI bt)) (hn:(pz es).Nodup) (aB: ∀s∈pz es,(Lit.int .i64 s).wf=true) (hs:es.length≤4294967296):
  gV Tryz.prog 81 [.c (.one (.eM 110 [.p 2001 0]))] [(2001,.cells [.mp 1001]),(1001,.map bt bt es)] [] (X:={mZ:List Int//mZ.Perm (pz es)}) (fun g=>cI bt g.1) (fun _=>[(2001,.cells [.mp 1001]),(1001,.map bt bt es)]):=by
 refine⟨by kernel_rfl,fun ρ F I w bW bC dW hF fU hlen eu=>?_⟩
 match bW,hlen with
 | [v],_=>
  obtain⟨vs,hv,w0,r,nx,yj,hr⟩:=eu 0 _ v rfl rfl
  have hr:r=[]:=hr
  have yj:w0= .pointer (some ⟨(ρ 2001).bI,0,none⟩):=yj
  subst hr yj nx hv
  obtain⟨_,vs,T,pW,nx⟩:=dW 2001 _ rfl
  obtain⟨x,r,nx,hx,hr⟩:=nx
  have hr:r=[]:=hr
  have hx:x= .map (some (ρ 1001).bI):=hx
  subst hr hx nx
  obtain⟨_,cX,clock,pO,hm,dy⟩:=dW 1001 _ rfl
  have Xl:(4294967296:Nat)≤maxLen:=by decide
  obtain⟨o7,dD,dH,vp⟩:=aaY (P:=Tryz.prog) (k:=3) (by kernel_rfl) pO hm dy hn aB (by omega)
  have bF:(ρ 2001).bI < w.heap.size:=pE pW
  have IZ:SeqGives Fence.wide 2 Tryz.prog 110 #[.pointer (some ⟨(ρ 2001).bI,0,none⟩)] encZ (fun mZ=>mZ.Perm (intKeys o7)) (Maps.size o7) w:=
   AnyZI.keys_gives (ρ:=Tryz.MN) {Tryz.T5 with} Fence.wide _ trivial rfl (by omega) (ρ 2001).bI (ρ 1001).bI es.length o7 w bF (cell_of pW rfl) dD
  have hc:=AnyZI.collect_in Tryz.T7 Fence.wide 4 trivial trivial rfl (by omega) 110 #[.pointer (some ⟨(ρ 2001).bI,0,none⟩)] trivial (enters_of Tryz.func110 (by kernel_rfl) rfl) _ _ (by rw[dH];omega) (by rw[dH];omega) _ IZ
  refine(callsIn_wide.1 hc).mono ?_
  rintro e w' ⟨v,mZ,rfl,hS,iZ,Xm,oz⟩
  have bz:Ext I w (fun b=>b < w'.heap.size∧(I b∨w.heap.size≤b)) w':=fun b sK=>⟨⟨Nat.lt_of_lt_of_le (bC b sK) oz.size,.inl sK⟩,oz.block b (bC b sK)⟩
  refine⟨⟨mZ,hS.trans vp⟩,v,ρ,F,rfl,Fr.qU oz,fun _ _=>rfl,_,bz,fun b h=>⟨h.1,h.2.imp id .inr⟩,fun c ch hc=>Holds.cy bz (fun b ag=>oz.block b (hF c ch hc b ag).1) oz.size ch (fun _ _=>rfl) (dW c ch hc),fun c ch hc b ag=>?_,fun c bS ch ch' b aa af=>fU c bS ch ch' b aa af,?_⟩
  ·have:=hF c ch hc b ag
   exact⟨Nat.lt_of_lt_of_le this.1 oz.size,fun h=>(by rcases h.2 with h |h;exact this.2 h;omega),.inl ⟨c,ch,hc,ag⟩⟩
  ·have nv:=fF.vJ iZ
   exact(nv.weaken fun i _ aD=>(iZ.lt i aD).1).aa0 fun b aa af=>⟨aa,.inr af⟩
def qg:List Int→Int
 | []=>0
 |x::l=>l.foldl min x
theorem aa2 {l:List Int} (h:0 < l.length):qg (l.take 1)=l[0]:=by
 cases l with
 |nil=>simp at h
 |cons x l=>rfl
theorem aa3 {l:List Int} {k:Nat} (aE:0 < k) (h:k < l.length):qg (l.take (k+1))=min (qg (l.take k)) l[k]:=by
 cases l with
 |nil=>simp at h
 |cons x l=>
  cases k with
  |zero=>omega
  |succ k=>
   have aq:k < l.length:=by simpa using h
   show List.foldl min x (l.take (k+1))=min (List.foldl min x (l.take k)) l[k]
   rw[List.take_add_one,List.getElem?_eq_getElem aq,List.foldl_append]
   rfl
theorem Qh: ∀(l:List Int) (x:Int),List.foldl min x l≤x∧(∀y,y∈l→List.foldl min x l≤y)∧(List.foldl min x l=x∨List.foldl min x l∈l)
 | [],x=>⟨Int.le_refl _,fun y h=>(by cases h),.inl rfl⟩
 |z::l,x=>by
  obtain⟨aa,af,ay⟩:=Qh l (min x z)
  show List.foldl min (min x z) l≤x∧(∀y,y∈z::l→List.foldl min (min x z) l≤y)∧(List.foldl min (min x z) l=x∨List.foldl min (min x z) l∈z::l)
  refine⟨by omega,fun y aF=>?_,?_⟩
  ·rcases List.mem_cons.1 aF with rfl |aF
   ·omega
   ·exact af y aF
  ·rcases ay with ay |ay
   ·rcases Int.le_total x z with c |c
    ·exact .inl (by omega)
    ·exact .inr (by rw[ay,show min x z=z by omega];exact List.mem_cons_self ..)
   ·exact .inr (List.mem_cons_of_mem _ ay)
theorem Kf {l:List Int} (h:l≠[]):qg l∈l∧ ∀y,y∈l→qg l≤y:=by
 cases l with
 |nil=>exact absurd rfl h
 |cons x l=>
  obtain⟨aa,af,ay⟩:=Qh l x
  refine⟨?_,fun y aF=>?_⟩
  ·rcases ay with ay |ay
   ·show List.foldl min x l∈x::l
    rw[ay]
    exact List.mem_cons_self ..
   ·exact List.mem_cons_of_mem _ ay
  ·rcases List.mem_cons.1 aF with rfl |aF
   ·exact aa
   ·exact af y aF
theorem aa4 {l m:List Int} (h:l.Perm m) (hn:m≠[]):qg l=qg m:=by
 have aB:l≠[]:=fun e=>hn (by subst e;exact List.nil_perm.1 h)
 obtain⟨cj,cu⟩:=Kf aB
 obtain⟨b1,b2⟩:=Kf hn
 have:=cu _ (h.mem_iff.2 b1)
 have:=b2 _ (h.mem_iff.1 cj)
 omega
theorem aa5 (l:List Int) (aE:0 < l.length) (aa:l.length≤1073741824):Fn Tryz.prog 80 [cI bt l] [] [] (aC (qg l)) []:=by
 have bk:=eA (n:=0) aE
 have cc:=aa2 aE
 refine Fn.of ai [3] _ _ _ _ _ Tryz.func80 rfl rfl (by kernel_rfl) (by kernel_rfl) rfl (aJ ai) rfl ?_
 refine⟨fun h=>?_,fun _=>?_⟩
 ·have h:decide (((l.length:Nat):Int) < 1)=true:=h
  have:=of_decide_eq_true h
  omega
 show av _ _ _ _ _ _ _
 refine av.go ai (aJ ai) [] (by kernel_rfl) (ah.refl _ _) ?_
 refine⟨by omega,l[0],bk,?_⟩
 show av _ _ _ _ _ _ _
 refine av.loop ai (aJ ai) [] (by kernel_rfl) (X:=Nat) (fun k=>[(0,cI bt l),(3,aC (qg (l.take k))),(4,aC (k:Int))]) (fun _=>[]) (fun k=>1≤k∧k≤l.length) (fun k=>l.length - k) 1 ⟨Nat.le_refl _,aE⟩ ?_ ?_
 ·exact ah.sub ⟨rfl,cc.symm,rfl,trivial⟩ trivial
 rintro k ⟨bP,aq⟩
 refine⟨fun hc=>?_,fun hc=>?_⟩
 ·have hc:decide ((k:Int) < ((l.length:Nat):Int))=true:=hc
  have jB:k < l.length:=by have:=of_decide_eq_true hc;omega
  have hs:=aa3 bP jB
  refine⟨by omega,l[k],eA (n:=k) jB,?_⟩
  exact⟨by omega,k+1,⟨by omega,jB⟩,by omega,ah.sub ⟨rfl,hs.symm,rfl,trivial⟩ trivial⟩
 ·have hc:decide ((k:Int) < ((l.length:Nat):Int))=false:=hc
  have jB:k=l.length:=by have:=of_decide_eq_false hc;omega
  exact⟨_,_,_,ah.refl _ _,rfl,(show qg (l.take k)=qg l by rw[jB,List.take_length]),trivial,rfl⟩
section
variable {P:Program} {N:Nat} {ids:List Nat} {K:aQ} {B:aG}
theorem aa6 {o:Oper} {T kt et:TypeId} {x:Operand} {c:Nat} (az:o.op= .call {callee:=.builtin .clear,args:= #[x],argTypes:= #[T]}) (cn:P.underlying T=some (.map kt et)) {aN aP:U} {es:List (aI aN×aI aP)}
  (hx:aU K x= .c (.one (.mp c))) (hc:ax B c=some (.map aN aP es)) (N:Nat):bH P N ids o K B (.c6 []) ⟨[c],[],[(c,some (.map aN aP []))]⟩:=by
 have m1:x∈o.op.operands:=by rw[az];simp[Op.operands,Call.operands]
 refine bH.Lx hc fun K' B' g1 C ρ F a w aA hS gj=>?_
 obtain⟨hF,cX,clock,ag,hm,dy⟩:=aA.holds c _ gj
 have aj:=hS.mp ((g1 x m1).trans hx)
 have bF:=pE ag
 have gO:=fun o=>MapKept.run_setObj_map (P:=P) o ag
 have hr:(Builtin.clear_ #[T] o.type #[.map (some (ρ c).bI)]).run P w= .ok (.tuple #[]) {w with heap:=w.heap.setIfInBounds (ρ c).bI (.map #[] clock)}:=by
  simp[Builtin.clear_,run_underlying cn,MapKept.run_getObj_map ag,gO,Result.andThen]
 refine⟨{w with heap:=w.heap.setIfInBounds (ρ c).bI (.map #[] clock)},?_,xu ((hF _).2 rfl),fun I bz=>⟨hF,[],clock,by simp[bF],rfl,by simp,fun e he=>by cases he⟩⟩
 simp[execOp,az,resolve,invoke,builtin,aj,hr]
theorem bH.aa7 {o:Oper} {c:Nat} {rc:List Nat} {cm ch:bw} (hc:ax B c=some cm)
  (h: ∀(K':aQ) (B':aG),(∀x,x∈o.op.operands→aU K' x=aU K x)→(∀d,d∈rc→ax B' d=ax B d)→ ∀(C:Ctx) (ρ:Nat→bq) (F:Nat→Nat→Prop) (a:Act) (w:World),Mem ids C B' ρ F w→ek K' ρ (bO C B' F w) a w→ax B' c=some cm→ ∃w',(execOp a.eval o).run P w= .ok .skip w'∧Fr (F c) w w'∧
   (∀I,Ext (bO C B' F w) w I w'→Holds ρ I (F c) w' (ρ c) ch)):
  bH P N ids o K B .undef ⟨c::rc,[],[(c,some ch)]⟩:=by
 rintro K' B' aa af - C a w ⟨hn,hd,ρ,F,aA,hS⟩ bF fl Q hK
 have dm:ax B' c=some cm:=(af c (by simp)).trans hc
 obtain⟨w',hx,cr,dW⟩:=h K' B' aa (fun d hd=>af d (List.mem_cons_of_mem _ hd)) C ρ F a w aA hS dm
 obtain⟨bR,he⟩:=aA.jP dm cr dW
 unfold Oper.wp
 rw[hx,Oper.upon_skip]
 exact hK _ _ ⟨lC.trans hn,put_defers.trans hd,ρ,F,bR,(hS.mono he fun _ _ _=>rfl).lD (fun e he=>by rw[hn];exact bF e he) rfl⟩
def Ax (es:List (aI bt×aI .fn)):bN where
 R:=fun I F w p=>Holds (fun _=>⟨0,none,0,0⟩) I F w p (.map bt .fn es)
 cy:=fun I F w I' w' p h he hF aS=>Holds.cy he hF aS _ (fun _ _=>rfl) h
def CC (es:List (aI bt×aI .fn)) (ch:bw):Prop:=ch= .map bt .fn es∨ch= .obj (Ax es)
theorem CC.holds {es:List (aI bt×aI .fn)} {ch:bw} (h:CC es ch) {ρ:Nat→bq} {I F:Nat→Prop} {w:World} {p:bq}:Holds ρ I F w p ch↔(∀b,F b↔b=p.bI)∧ ∃cX clock,w.heap[p.bI]? =some (.map (List.toArray cX) clock)∧jN I w bt .fn es cX∧oN cX clock:=by
 rcases h with rfl |rfl
 ·exact Iff.rfl
 ·exact Iff.rfl
theorem Ay {o:Oper} {T kt et:TypeId} {x i v:Operand} {c f d1 d2 d3 m1 m2 m3 b1 b2 b3:Nat} (az:o.op= .insert T x i v) (cn:P.underlying T=some (.map kt et)) (qB:P.underlying kt=some (.int .i64)) {es:List (aI bt×aI .fn)} {ch ch':bw} (hx:aU K x= .c (.one (.mp c))) {key:Int} (aq:aU K i= .c (.one (.d (.int .i64 key))))
  (hv:aU K v= .c (.one (.eM f [.p d1 0,.p d2 0,.p d3 0]))) (aa:ax B m1=some (.dep d1 (gy b1))) (af:ax B m2=some (.dep d2 (gy b2))) (ay:ax B m3=some (.dep d3 (gy b3)))
  (hc:ax B c=some ch) (hw:CC es ch) (hw':CC (fc (aN:=bt) (aP:=.fn) es key (f,[b1,b2,b3])) ch') (N:Nat):bH P N ids o K B .undef ⟨[c,m1,m2,m3],[],[(c,some ch')]⟩:=by
 have ee:x∈o.op.operands:=by rw[az];simp[Op.operands]
 have eO:i∈o.op.operands:=by rw[az];simp[Op.operands]
 have zD:v∈o.op.operands:=by rw[az];simp[Op.operands]
 refine bH.aa7 hc fun K' B' g1 g2 C ρ F a w aA hS gj=>?_
 obtain⟨hF,cX,clock,ag,hm,dy⟩:=hw.holds.1 (aA.holds c _ gj)
 have aj:=hS.mp ((g1 x ee).trans hx)
 have ak:a.eval i= .int .i64 key:=hS.int ((g1 i eO).trans aq)
 have bf:a.eval v=mJ (f,[b1,b2,b3]):=by
  have h:=hS.ev ((g1 v zD).trans hv)
  obtain⟨vs,e,v1,r1,aj,cC,v2,r2,ak,cR,v3,gv,bf,fo,gU⟩:=h
  have cz:=vh (N:=N) (a:=a) aA ((g2 m1 (by simp)).trans aa)
  have er:=vh (N:=N) (a:=a) aA ((g2 m2 (by simp)).trans af)
  have eX:=vh (N:=N) (a:=a) aA ((g2 m3 (by simp)).trans ay)
  have cC:v1= .pointer (some ⟨(ρ d1).bI,0,none⟩):=cC
  have cR:v2= .pointer (some ⟨(ρ d2).bI,0,none⟩):=cR
  have fo:v3= .pointer (some ⟨(ρ d3).bI,0,none⟩):=fo
  have gU:gv=[]:=gU
  rw[e,aj,ak,bf,cC,cR,fo,gU,cz,er,eX]
  rfl
 have cq:kI (bO C B' F w) w .fn (f,[b1,b2,b3]) (mJ (f,[b1,b2,b3])):=⟨rfl,⟨fun _=>rfl,fun e=>by cases e⟩,rfl⟩
 obtain⟨g6,lF,hr,gB,r7⟩:=CS (P:=P) (aN:=bt) (aP:=.fn) cn qB rfl ag hm dy key cq
 have bF:=pE ag
 refine⟨{w with heap:=w.heap.setIfInBounds (ρ c).bI (.map (List.toArray g6) lF)},?_,xu ((hF _).2 rfl),fun I bz=>hw'.holds.2 ⟨hF,g6,lF,by simp[bF],gB.mono bz,r7⟩⟩
 have hr:(Instr.mapUpdate T (.map (some (ρ c).bI)) (.int .i64 key) (mJ (f,[b1,b2,b3]))).run P w= .ok () {w with heap:=w.heap.setIfInBounds (ρ c).bI (.map (List.toArray g6) lF)}:=hr
 simp only[execOp,az,Sem.run_bind,aj,ak,bf,hr,Result.andThen_ok,Sem.run_pure]
def aa8 (x:Option (aI .fn)):aO:=match x with
 |some x=>.c6 [.one (.d (.fn x)),.one (.d (.lit true))]
 |none=>.c6 [.one .any,.one (.d (.lit false))]
theorem aa9 {I:Nat→Prop} {w:World} {x:aI .fn} {v:Value} (h:kI I w .fn x v):v=mJ x:=by
 have aa:=h.2.1.1 rfl
 have af:=h.2.2
 rw[aa] at af
 have af:some v=some (mJ x):=af
 injection af
theorem Kg {tt:cY} (bh:dQ P tt) {o:Oper} {T kt et:TypeId} {x i:Operand} {c:Nat} (az:o.op= .lookup T x i true) (cn:P.underlying T=some (.map kt et)) (qB:P.underlying kt=some (.int .i64)) {ti:cB} (gA:tt.find et=some ti) {es:List (aI bt×aI .fn)} (hx:aU K x= .c (.one (.mp c))) {key:Int} (aq:aU K i= .c (.one (.d (.int .i64 key))))
  (hc:ax B c=some (.obj (Ax es))) {r:Option (aI .fn)} (hr:ct (aN:=bt) (aP:=.fn) es key=r) (N:Nat):bH P N ids o K B (aa8 r) ⟨[c],[],[]⟩:=by
 have ee:x∈o.op.operands:=by rw[az];simp[Op.operands]
 have eO:i∈o.op.operands:=by rw[az];simp[Op.operands]
 subst hr
 obtain⟨M9,d,bB⟩:=bh.at_ gA
 obtain⟨z,aS,pJ⟩:=bB.zero
 refine bH.val fun K' B' g1 g2 C ρ F a w aA hS=>?_
 obtain⟨hF,cX,clock,ag,hm,dy⟩:=(CC.holds (.inr rfl)).1 (aA.holds c _ ((g2 c (by simp)).trans hc))
 have aj:=hS.mp ((g1 x ee).trans hx)
 have ak:a.eval i= .int .i64 key:=hS.int ((g1 i eO).trans aq)
 have H6:(zeroValue et).run P w= .ok z w:=by simp[zeroValue,typeInfo,bB.info,aS]
 have lu:=fun e=>MapKept.run_checkKey (P:=P) (w:=w) qB (yK (aN:=bt) (d:=.int .i64) rfl key) e 9999
 rcases AI (I:=bO C B' F w) (w:=w) (aN:=bt) (aP:=.fn) (d:=.int .i64) rfl key es cX 0 hm with⟨cj,cu,_⟩ |⟨j,y,e,cj,cu,_,_,a5,_⟩
 ·have hf:=MapKept.run_findKey (P:=P) (w:=w) qB cj
  refine⟨.tuple #[z,.bool false],?_,by rw[cu];exact⟨[z,.bool false],rfl,_,_,rfl,trivial,_,_,rfl,rfl,rfl⟩⟩
  have hr:(Instr.lookup T (.map (some (ρ c).bI)) (.int .i64 key) true).run P w= .ok (.tuple #[z,.bool false]) w:=by
   simp only[ir] at lu hf
   simp[Instr.lookup,run_underlying cn,MapKept.run_getObj_map ag,lu,hf,H6,Result.andThen]
  simp only[execOp,az,Sem.run_bind,aj,ak,hr,Result.andThen_ok,Sem.run_pure]
 ·have hf:=MapKept.run_findKey (P:=P) (w:=w) qB cj
  have aF:=aa9 a5
  refine⟨.tuple #[mJ y,.bool true],?_,by rw[cu];exact⟨[mJ y,.bool true],rfl,_,_,rfl,rfl,_,_,rfl,rfl,rfl⟩⟩
  have hr:(Instr.lookup T (.map (some (ρ c).bI)) (.int .i64 key) true).run P w= .ok (.tuple #[mJ y,.bool true]) w:=by
   simp only[ir] at lu hf
   simp[Instr.lookup,run_underlying cn,MapKept.run_getObj_map ag,lu,hf,Result.andThen,aF]
  simp only[execOp,az,Sem.run_bind,aj,ak,hr,Result.andThen_ok,Sem.run_pure]
theorem ah.Qi (s f d1 d2 d3 m1 m2 m3 b1 b2 b3:Nat) (hs:look K s= .c (.one (.d (.fn (f,[b1,b2,b3]))))) (aa:ax B m1=some (.dep d1 (gy b1))) (af:ax B m2=some (.dep d2 (gy b2))) (ay:ax B m3=some (.dep d3 (gy b3))):ah ids K B ((s,.c (.one (.eM f [.p d1 0,.p d2 0,.p d3 0])))::K) B:=by
 rintro N C a w ⟨hn,hd,ρ,F,aA,hS⟩
 refine⟨hn,hd,ρ,F,aA,fun t=>?_⟩
 rw[kJ]
 split
 ·rename_i e
  subst e
  have h:=hS s
  rw[hs] at h
  have h:a.tmps.getD s undef=mJ (f,[b1,b2,b3]):=h
  have cz:=vh (N:=N) (a:=a) aA aa
  have er:=vh (N:=N) (a:=a) aA af
  have eX:=vh (N:=N) (a:=a) aA ay
  exact⟨_,h,_,_,rfl,by rw[←cz];rfl,_,_,rfl,by rw[←er];rfl,_,_,rfl,by rw[←eX];rfl,rfl⟩
 ·exact hS t
end
@[reducible] def CD (k:Nat):aI bt×aI bt:=@Prod.mk Int Int (k:Int) 1
@[reducible] def gY (l:List Nat):List (aI bt×aI bt):=l.map CD
def rT (l:List Nat) (k:Nat):List Nat:=if k∈l then l else l++[k]
theorem Qj (l:List Nat):(gY l).length=l.length:=List.length_map _
theorem Fi (a b:Nat):iu bt (a:Int) (b:Int)=decide (a=b):=by
 show decide ((a:Int)=(b:Int))=_
 by_cases h:a=b
 ·rw[decide_eq_true h,decide_eq_true (by omega)]
 ·rw[decide_eq_false h,decide_eq_false (by omega)]
theorem aa' {l:List (aI bt×aI bt)} {p:aI bt×aI bt} {k x:Int} (h:iu bt k p.1=true):fc (aN:=bt) (aP:=bt) (p::l) k x= @Prod.mk Int Int k x::l:=by
 simp only[fc,h]
 rfl
theorem aba {l:List (aI bt×aI bt)} {p:aI bt×aI bt} {k x:Int} (h:iu bt k p.1=false):fc (aN:=bt) (aP:=bt) (p::l) k x=p::fc (aN:=bt) (aP:=bt) l k x:=by
 simp only[fc,h]
theorem abb {l:List (aI bt×aI bt)} {p:aI bt×aI bt} {k:Int} (h:iu bt k p.1=true):iF (aN:=bt) (aP:=bt) (p::l) k=l:=by
 simp only[iF,h]
theorem abc {l:List (aI bt×aI bt)} {p:aI bt×aI bt} {k:Int} (h:iu bt k p.1=false):iF (aN:=bt) (aP:=bt) (p::l) k=p::iF (aN:=bt) (aP:=bt) l k:=by
 simp only[iF,h]
theorem Kh (k:Nat): ∀l:List Nat,fc (aN:=bt) (aP:=bt) (gY l) (k:Int) (1:Int)=gY (rT l k)
 | []=>rfl
 |x::l=>by
  by_cases h:k=x
  ·refine(aa' (p:=CD x) (l:=gY l) ((Fi k x).trans (decide_eq_true h))).trans ?_
   subst h
   unfold rT
   rw[if_pos (List.mem_cons_self ..)]
   rfl
  ·refine(aba (p:=CD x) (l:=gY l) ((Fi k x).trans (decide_eq_false h))).trans ?_
   rw[Kh k l]
   unfold rT
   by_cases af:k∈l
   ·rw[if_pos af,if_pos (List.mem_cons_of_mem _ af)]
    rfl
   ·rw[if_neg af,if_neg (fun e=>by rcases List.mem_cons.1 e with e |e;exact h e;exact af e)]
    rfl
theorem Qk (k:Nat): ∀l:List Nat,iF (aN:=bt) (aP:=bt) (gY l) (k:Int)=gY (l.erase k)
 | []=>rfl
 |x::l=>by
  by_cases h:k=x
  ·refine(abb (p:=CD x) (l:=gY l) ((Fi k x).trans (decide_eq_true h))).trans ?_
   subst h
   rw[List.erase_cons_head]
  ·refine(abc (p:=CD x) (l:=gY l) ((Fi k x).trans (decide_eq_false h))).trans ?_
   rw[Qk k l,List.erase_cons_tail (by simpa using fun e=>h e.symm)]
   rfl
theorem Ql {l:List Nat} {k x:Nat}:x∈rT l k↔x∈l∨x=k:=by
 unfold rT
 split
 ·rename_i h
  exact⟨.inl,fun h'=>h'.elim id fun e=>e▸h⟩
 ·rw[List.mem_append,List.mem_singleton]
theorem abd {l:List Nat} {k:Nat} (h:l.Nodup):(rT l k).Nodup:=by
 unfold rT
 split
 ·exact h
 ·rename_i aq
  rw[List.nodup_append]
  refine⟨h,by simp,fun a ha b ag e=>?_⟩
  rw[List.mem_singleton] at ag
  subst ag e
  exact aq ha
theorem CE (l:List Nat):pz (gY l)=l.map fun k:Nat=>(k:Int):=by
 unfold pz gY
 rw[List.map_map]
 rfl
theorem abe {l:List Nat} (h:l.Nodup):(pz (gY l)).Nodup:=by
 rw[CE]
 exact P6 (fun x _ y _ e=>by have e:(x:Int)=(y:Int):=e;omega) h
theorem abf {l:List Nat} (h: ∀k,k∈l→k≤1000000): ∀s∈pz (gY l),(Lit.int .i64 s).wf=true:=fun s hs=>by
 rw[CE] at hs
 obtain⟨k,aq,rfl⟩:=List.mem_map.1 hs
 have:=h k aq
 show(decide (IntKind.i64.min≤(k:Int))&&decide ((k:Int)≤IntKind.i64.max))=true
 rw[decide_eq_true (show(IntKind.i64.min:Int)≤(k:Int) from Int.le_trans (by decide:IntKind.i64.min≤(0:Int)) (by omega)),decide_eq_true (show(k:Int)≤IntKind.i64.max from Int.le_trans (by omega:(k:Int)≤1000000) (by decide))]
 rfl
def gN (l:List Nat):Nat:=(qg (l.map fun k:Nat=>(k:Int))).toNat
theorem Ki {l:List Nat} (h:l≠[]):qg (l.map fun k:Nat=>(k:Int))=((gN l:Nat):Int)∧gN l∈l∧ ∀y,y∈l→gN l≤y:=by
 have bg:l.map (fun k:Nat=>(k:Int))≠[]:=by simpa using h
 obtain⟨aa,af⟩:=Kf bg
 obtain⟨k,aq,he⟩:=List.mem_map.1 aa
 have hm:gN l=k:=by unfold gN;rw[←he];rfl
 refine⟨by rw[hm,he],by rw[hm];exact aq,fun y aF=>?_⟩
 have:=af _ (List.mem_map_of_mem aF)
 rw[hm]
 omega
end Go.Proofs.YteoamepgonpdlaaGreat
