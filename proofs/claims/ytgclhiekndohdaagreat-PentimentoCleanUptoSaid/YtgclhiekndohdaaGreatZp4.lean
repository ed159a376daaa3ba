/-
A part of the proof of this claim: lemmas, with no condition beyond what each says.
-/
import Derived.Test.YtgclhiekndohdaaGreatZp3
set_option linter.all false
set_option maxRecDepth 100000
set_option maxHeartbeats 0
namespace Go.Proofs.YtgclhiekndohdaaGreat
open Go.RowKit Go.Proofs _root_.Go.Proofs.Tryz Tryz
section
def fz.zJ {I:Nat->Prop} {w:aD8} {L L':List (Nat×bc)} (h:L.Perm L'): ∀{F:Nat->Prop},fz I w L F->fz I w L' F:=by
 induction h with
 |nil=>exact fun h=>h
 |cons x h bl=>
  rintro F ⟨cF,cN,p,E,G,ag,aS,bG⟩;exact⟨cF,cN,p,E,G,ag,aS,bl bG⟩
 |swap x y l=>
  rintro F ⟨cF,cN,p,E,G,ag,aS,qC,sM,r,g1,g2,cX,jo,BG⟩;refine⟨qC,fun aF=>cF aF\/sM aF,r,fun aF=>by rw[E,g1];exact Jt,fun aF aO aC=>?_,cX,jo,cF,sM,p,fun aF=>Iff.rfl,fun aF aO aC=>G aF aO ((g1 aF).2 (.inr aC)),ag,aS,BG⟩;rcases aC with aC |aC
  .exact G aF aC ((g1 aF).2 (.inl aO))
  .exact g2 aF aO aC
 |trans _ _ n4 n9=>exact fun h=>n9 (n4 h)
def ac.zJ {ids:aD3} {K:aW} {B:av} (q:Nat) {L L':List (Nat×bc)} (ao:L.Perm L') (aY:ae B q=some (.aA (.bD L))):ac ids K B K ((q,.aA (.bD L'))::B):=by
 rintro N C a w ⟨hn,H,ρ,F,ah,ar⟩;obtain⟨bK,a2⟩:=ah.hz (w':=w) (ch:=.aA (.bD L')) aY (cR.refl _ _) fun I aZ=>((ah.holds q _ aY:fz _ w L (F q)).zJ ao).cg aZ (ao9 _) fun _ _=>rfl
 exact⟨hn,H,ρ,F,bK,ar.mono a2 fun _ _ _=>rfl⟩
def aeD {s:bA}:(iN s).ot:=by rintro I F w p ⟨ρ,cd,E,G,ag,aS⟩;obtain⟨bj,_⟩:=G 1001 _ rfl;exact(aS _).2 ⟨1001,_,rfl,(bj _).2 (by rw[E])⟩
def KF (L:aD5):Prop:= ∀d,d∈L->d.cQ=none
def aeE {d:aL} (h:d.cQ=none):kw d=iN d.im:=by unfold kw;rw[h]
def aeF (L:aD5) (cP:KF L): ∀p∈hZ L,p.2.ot:=fun p ao=>by
 obtain⟨d,H,rfl⟩:=ar6.1 ao;show(kw d).ot;rw[aeE (cP d H)];exact aeD
def aeG (L:aD5): ∀p∈lN L,p.2.ot:=fun p ao=>by
 obtain⟨d,_,rfl⟩:=ar6.1 ao;exact fun I F w p h=>(h.1 _).2 rfl
def Ck (z size R:Nat) (E:z<=3) (G:size<=256) (ag:R<=512):Fn prog 117 [ab (z:Int),ab (size:Int),ab (R:Int)] [] [1001] (.cm [.one (.ptr 1001 0),dJ 0]) [(1001,.aA (iN (f' z size R)))]:=by
 refine aU [3] func117 ?_;refine az (Fn.a7 [(1001,1002),(1002,2002)] (JY size G)) <| az (Fn.a7 [(1001,1003),(1002,2003)] (Fb (R:Int) az7 az7)) <| bx [] (cH [(0,ab (z:Int)),(8,ap 1002),(9,ab 0),(10,ap 1003),(11,ab 0)] [(1002,.aA (lL (List.replicate size b7))),(1003,.aA (ju (List.replicate R (0:Int))))]) <| dR <| dR ⟨fun h=>?_,fun h=>?_⟩
 .exfalso;have h:(z:Int) < 0:=gd h;omega
 refine⟨fun h=>?_,fun h=>?_⟩
 .exfalso;have h:(3:Int) < (z:Int):=gd h;omega
 exact⟨rfl,rfl,_,_,_,ac.trans (ac.trans (ac.a7 41 1001 rfl) (ac.trans (ac.a7 39 1004 rfl) (ac.P3 1004 rfl))) (ac.close 1001 (c8 (f' z size R)) aE rfl fun _ _ _ _ h=>h),rfl,aE,aE,rfl⟩
abbrev zK (nm:aD2) (x:aa .aM):aa .str×aa .aM:=((nm:aa .str),x)
def Rx (nm:aD2) (x:aa .aM): ∀L:List aL,dk L nm=none->dw (aI:=.str) (aK:=.aM) (da L) (nm:aa .str) x=(da L++[zK nm x]:List (aa .str×aa .aM))
 | [],_=>rfl
 |d::L,h=>by
  rw[s1] at h
  by_cases e:d.nm=nm
  .rw[vj e] at h;cases h
  .rw[mu e] at h;have bl:=Rx nm x L h;show dw (aI:=.str) (aK:=.aM) (lr d::da L) (nm:aa .str) x=_;rw[show dw (aI:=.str) (aK:=.aM) (lr d::da L) (nm:aa .str) x=(match fD .str (nm:aa .str) (lr d).1 with |true=>zK nm x::da L |false=>lr d::dw (aI:=.str) (aK:=.aM) (da L) (nm:aa .str) x:List (aa .str×aa .aM)) from rfl];rw[show fD .str (nm:aa .str) (lr d).1=false from qF (aI:=.str) pL (fun h=>e h.symm)];simp only;rw[bl];rfl
abbrev ky (L:aD5) (nm back:aD2) (ad am:Nat) (im:bA):List aL:=L++[⟨nm,back,ad,am,im,none⟩]
def ir.add {L:aD5} (h:ir L) {nm back:aD2} {ad am:Nat} {im:bA} (au:dk L nm=none) (ha:ad∉L.map (·.ad)) (aD:am∉L.map (·.am)):ir (ky L nm back ad am im):=by
 have key: ∀{α:Type} (f:aL->α) (d:aL),(L.map f).Nodup->f d∉L.map f->((L++[d]).map f).Nodup:=fun f d E G=>by
  rw[au2];refine List.nodup_append.2 ⟨E,az9,fun a ha b O e=>?_⟩;rw[aq5,ay9,aq6] at O;exact G (by rw[<-O,<-e];exact ha)
 refine⟨key _ _ h.gE fun hx=>?_,key _ _ h.mY ha,key _ _ h.xy aD⟩;obtain⟨d,H,e⟩:=ar6.1 hx;have:=List.find?_eq_none.1 au d H;exact this (by simpa using e)
abbrev Cl (nm back:aD2):aW:=[(0,ap 1001),(1,bS nm),(3,bS back),(9,ap 2001),(10,ab 0)]
abbrev Cm (z R:Int) (L:aD5) (im:bA):av:=bM z R L++[(2001,.aA (iN im))]
def aeH (L:aD5) (nm back:aD2) (ad am:Nat) (im:bA):da (ky L nm back ad am im)=(da L++[zK nm (some ad:aE2)]:List (aa .str×aa .aM)):=by
 induction L with
 |nil=>rfl
 |cons d L bl=>
  show lr d::da (ky L nm back ad am im)=lr d::(da L++[zK nm (some ad:aE2)]);rw[bl]
abbrev aeI (L:aD5) (nm back:aD2) (am:Nat) (im:bA):List aL:=⟨nm,back,0,am,im,none⟩::L
def Ry {f:aL->Nat×bc} (L:aD5) (d:aL):(f d::L.map f).Perm ((L++[d]).map f):=by rw[au2];exact List.perm_append_comm (l₁:=[f d]) (l₂:=L.map f)
abbrev aeJ (nm back:aD2) (am:Nat):aW:=[(0,ap 1001),(1,bS nm),(3,bS back),(9,di am)]
abbrev aeK (z R:Int) (L:aD5) (am:Nat) (im:bA):av:=[(1001,.cells (Kk z R)),(1002,.map .str .aM (da L)),(1003,.aA (.bD (lN L))),(1004,.aA (.bD ((am,iN im)::hZ L)))]
def aeL (z size R:Nat) (E:z<=3) (G:size<=256) (ag:R<=512) (L:aD5) (fc:ir L) (bk:KF L) (nm back:aD2) (ak:nm.length<=4294967296) (aw:gN nm=true) (au:dk L nm=none) (o8:L.length < 16) (k:Nat) (O:back=[]\/(dk L back).isSome=true/\d9 L back k/\k+1<=8):
  cz prog 62 [ap 1001,bS nm,ab (size:Int),bS back] (bM z R L) [] (X:={p:Nat×Nat//ir (ky L nm back p.1 p.2 (f' z size R))}) (fun _=>ab 0) (fun p=>bM z R (ky L nm back p.1.1 p.1.2 (f' z size R))):=by
 have hx:(bV (aI:=.str) (aK:=.aM) (da L) nm).getD (cM .aM)=none:=aC5
 have bZ:(da L).length=L.length:=aq3 ..;have g8:=zD z R L back
 have Rz:(decide (back=[])||(dk L back).isSome)=true:=by
  rcases O with O |⟨O,_⟩
  .rw[aq1 O];rfl
  .rw[O,Bool.or_true]
 rw[Rz] at g8;have mF:=Ck z size R E G ag;refine hR [2,10] func62 ?_;refine az (Fn.a7 [(1001,2001)] mF) ⟨rfl,bx [10] (cH (Cl nm back) (Cm z R L (f' z size R))) <| az (pZ _ ak) ⟨fun af=>?_,fun af=>?_⟩⟩
 .rw[aw] at af;cases af
 refine⟨fun al=>?_,fun al=>?_⟩
 .exact ap0 al az8
 refine⟨fun eb bt=>?_,fun bt=>?_⟩
 .exfalso;have:(bV (aI:=.str) (aK:=.aM) (da L) nm).getD (cM .aM)=some eb:=bt;rw[hx] at this
  cases this
 refine⟨fun c3=>?_,fun c3=>?_⟩
 .exfalso;have c3:(16:Int)<=((da L).length:Int):=gd c3;omega
 refine az g8 ⟨fun gi=>ap0 gi az8,fun _=>⟨fun hM=>?_,fun hM=>?_⟩⟩
 focus
  have hM: ¬back=[]:=by simpa using hM
  obtain⟨_,Z,o6⟩:=O.resolve_left hM;have fG:=zG z R L fc back k Z az7;have xD:=o5 Z;generalize c6 L k back=bs at fG xD;refine az fG ?_;have m1: -9223372036854775808<=(bs.length:Int)+1/\(bs.length:Int)+1<=9223372036854775807:=aA5
  refine⟨m1,fun oC=>?_,fun _=>?_⟩
  .exfalso;have oC:(8:Int) < (bs.length:Int)+1:=gd oC;omega
 all_goals
  refine bB.fJ (du.name 9 2001 rfl rfl) fun am=>bB.le (K':=aeJ nm back am) (B':=aeK z R L am (f' z size R)) (ac.trans (ac.put 1004 2001 az8 rfl rfl) (ac.sub aE aE)) <| bB.fJ (du.BO 1004 (L:=(am,iN (f' z size R))::hZ L) (aeF (aeI L nm back am (f' z size R)) (fun d H=>(ap7.1 H).elim (fun e=>by rw[e]) (bk d))) rfl) fun dx=>bB.hP eC aA0 ⟨rfl,_,abF (c:=1002) (d:=72) (q:=1003) (aI:=.str) (l:=Fr am back) (h:=fun _=>rfl) rfl underlying94 (dk:=.string) aA0 rfl rfl rfl rfl rfl rfl rfl az8 az8 az8 (aeG L),fun v e ay=>?_⟩
  obtain⟨ad,EZ,rfl,rfl⟩:=ay;have KG:ad∉L.map (·.ad):=fun h=>EZ (by unfold lN;rw[at6];exact h)
  have aeM:am∉L.map (·.am):=fun h=>(as2.1 dx.down).1 (by show am∈(hZ L).map (·.1);unfold hZ;rw[at6];exact h)
  have oD:dw (aI:=.str) (aK:=.aM) (da L) (nm:aa .str) (some ad:aE2)=da (ky L nm back ad am (f' z size R)):=(Rx nm _ L au).trans (aeH L nm back ad am (f' z size R)).symm;exact⟨⟨(ad,am),fc.add au KG aeM⟩,_,_,_,ac.trans (ac.zJ 1003 (Ry (f:=fun d=>(d.ad,sZ d.am d.back)) L ⟨nm,back,ad,am,f' z size R,none⟩) rfl) (ac.zJ 1004 (Ry (f:=fun d=>(d.am,kw d)) L ⟨nm,back,ad,am,f' z size R,none⟩) rfl),rfl,rfl,⟨rfl,ap1 (fun e=>some (ba.map .str .aM e)) oD,rfl,rfl,trivial⟩,rfl⟩
def aeN (z R:Int) (size:Int) (L:aD5) (nm back:aD2) (ak:nm.length<=4294967296) (h:(gN nm&&lM z size R)=false):Fn prog 62 [ap 1001,bS nm,ab size,bS back] (bM z R L) [] (ab 1) (bM z R L):=by
 rcases Bool.eq_false_or_eq_true (lM z size R) with G |G
 .have aw:gN nm=false:=by rw[G,Bool.and_true] at h;exact h
  unfold lM at G;simp only[ao8,as1] at G;obtain⟨⟨⟨bR,b'⟩,a3,a4⟩,a5,ft⟩:=G;obtain⟨b,rfl⟩:=az0 a5;obtain⟨aF,rfl⟩:=az0 bR;obtain⟨r,rfl⟩:=az0 a3;have mF:=Ck b aF r az7 az7 az7;refine aU [2] func62 ?_;refine az (Fn.a7 [(1001,2001)] mF) ⟨rfl,bx [] (cH (Cl nm back) (Cm b r L (f' b aF r))) <| az (pZ _ ak) ⟨fun af=>?_,fun af=>?_⟩⟩
  .exact bd
  .rw[aw] at af;cases af
 .have mF:=adS z size R G;refine aU [2] func62 ?_;refine az mF ⟨rfl,bx [] (cH [(0,ap 1001),(1,bS nm),(3,bS back),(10,ab 1)] (bM z R L)) <| az (pZ _ ak) ⟨fun af=>?_,fun af=>?_⟩⟩
  .exact bd
  refine⟨fun al=>?_,fun al=>?_⟩
  .exact bd
  .exact ap0 al az8
def aeO (z size R:Nat) (E:z<=3) (G:size<=256) (ag:R<=512) (L:aD5) (nm back:aD2) (ak:nm.length<=4294967296) (aw:gN nm=true) (au:(dk L nm).isSome=true\/16<=L.length):
  Fn prog 62 [ap 1001,bS nm,ab (size:Int),bS back] (bM z R L) [] (ab 143) (bM z R L):=by
 have hx:(bV (aI:=.str) (aK:=.aM) (da L) nm).getD (cM .aM)=((dk L nm).map (·.ad):Option Nat):=jN nm L;have bZ:(da L).length=L.length:=aq3 ..;have mF:=Ck z size R E G ag;refine aU [2] func62 ?_;refine az (Fn.a7 [(1001,2001)] mF) ⟨rfl,bx [] (cH (Cl nm back) (Cm z R L (f' z size R))) <| az (pZ _ ak) ⟨fun af=>?_,fun af=>?_⟩⟩
 .rw[aw] at af;cases af
 refine⟨fun al=>?_,fun al=>?_⟩
 .exact ap0 al az8
 refine⟨fun eb bt=>?_,fun bt=>?_⟩
 .exact bd
 refine⟨fun c3=>?_,fun c3=>?_⟩
 .exact bd
 .exfalso;have c3: ¬(16:Int)<=((da L).length:Int):=oj c3;have bt:(bV (aI:=.str) (aK:=.aM) (da L) nm).getD (cM .aM)=none:=bt;rw[hx] at bt;rcases au with au |au
  .obtain⟨d,H⟩:=as5.1 au;rw[H] at bt
   cases bt
  .omega
def aeP (z size R:Nat) (E:z<=3) (G:size<=256) (ag:R<=512) (L:aD5) (nm back:aD2) (ak:nm.length<=4294967296) (aw:gN nm=true) (au:dk L nm=none) (o8:L.length < 16) (O:(decide (back=[])||(dk L back).isSome)=false):
  Fn prog 62 [ap 1001,bS nm,ab (size:Int),bS back] (bM z R L) [] (ab 140) (bM z R L):=by
 have hx:(bV (aI:=.str) (aK:=.aM) (da L) nm).getD (cM .aM)=none:=aC5
 have bZ:(da L).length=L.length:=aq3 ..;have g8:=zD z R L back;rw[O] at g8;have mF:=Ck z size R E G ag;refine aU [2] func62 ?_;refine az (Fn.a7 [(1001,2001)] mF) ⟨rfl,bx [] (cH (Cl nm back) (Cm z R L (f' z size R))) <| az (pZ _ ak) ⟨fun af=>?_,fun af=>?_⟩⟩
 .rw[aw] at af;cases af
 refine⟨fun al=>?_,fun al=>?_⟩
 .exact ap0 al az8
 refine⟨fun eb bt=>?_,fun bt=>?_⟩
 .exfalso;have:(bV (aI:=.str) (aK:=.aM) (da L) nm).getD (cM .aM)=some eb:=bt;rw[hx] at this
  cases this
 refine⟨fun c3=>?_,fun c3=>?_⟩
 .exfalso;have c3:(16:Int)<=((da L).length:Int):=gd c3;omega
 exact az g8 ⟨fun _=>bd,fun gi=>ap0 gi az8⟩
def aeQ (z size R:Nat) (E:z<=3) (G:size<=256) (ag:R<=512) (L:aD5) (fc:ir L) (nm back:aD2) (ak:nm.length<=4294967296) (aw:gN nm=true) (au:dk L nm=none) (o8:L.length < 16) (vH:back≠[]) (O:(dk L back).isSome=true) (k:Nat) (Z:d9 L back k) (iP:k<=1000000) (o6:8 < k+1):
  Fn prog 62 [ap 1001,bS nm,ab (size:Int),bS back] (bM z R L) [] (ab 142) (bM z R L):=by
 have hx:(bV (aI:=.str) (aK:=.aM) (da L) nm).getD (cM .aM)=none:=aC5
 have bZ:(da L).length=L.length:=aq3 ..;have g8:=zD z R L back;rw[O,Bool.or_true] at g8;have mF:=Ck z size R E G ag;refine aU [2] func62 ?_;refine az (Fn.a7 [(1001,2001)] mF) ⟨rfl,bx [] (cH (Cl nm back) (Cm z R L (f' z size R))) <| az (pZ _ ak) ⟨fun af=>?_,fun af=>?_⟩⟩
 .rw[aw] at af;cases af
 refine⟨fun al=>?_,fun al=>?_⟩
 .exact ap0 al az8
 refine⟨fun eb bt=>?_,fun bt=>?_⟩
 .exfalso;have:(bV (aI:=.str) (aK:=.aM) (da L) nm).getD (cM .aM)=some eb:=bt;rw[hx] at this
  cases this
 refine⟨fun c3=>?_,fun c3=>?_⟩
 .exfalso;have c3:(16:Int)<=((da L).length:Int):=gd c3;omega
 refine az g8 ⟨fun gi=>ap0 gi az8,fun _=>⟨fun hM=>?_,fun hM=>ap0 (by simpa using hM) vH⟩⟩;have fG:=zG z R L fc back k Z iP;have xD:=o5 Z;generalize c6 L k back=bs at fG xD;refine az fG ?_;have m1: -9223372036854775808<=(bs.length:Int)+1/\(bs.length:Int)+1<=9223372036854775807:=aA5
 refine⟨m1,fun _=>?_,fun oC=>?_⟩
 .exact bd
 .exfalso;have oC: ¬(8:Int) < (bs.length:Int)+1:=oj oC;omega
def xE (l:aF4) (v:aD2):Int:=match l.idxOf? v with
 |some i=>(i:Nat)
 |none=> -1
def aeR (l:aF4) (v:aD2) (ak:l.length<=4294967296):Fn prog 138 [b0 .str l,bS v] [] [] (ab (xE l v)) []:=by
 refine aU [] func138 ?_;refine ed [] (X:=Nat) (fun k=>[(0,b0 .str l),(1,bS v),(7,ab (l.length:Nat)),(8,ab (k:Nat))]) (fun _=>[]) (fun k=>k<=l.length/\ ∀(i:Nat),i < k->l[i]? ≠some v) (fun k=>l.length - k) 0 ⟨ap9 _,fun i h=>ap0 h (ay8 _)⟩ ?_ ?_
 .exact ac.sub aE trivial
 intro k ⟨Z,ao⟩;refine⟨fun h=>?_,fun h=>?_⟩
 .have cl:k < l.length:=by
   have h:decide ((k:Int) < (l.length:Int))=true:=h;simpa using h
  refine⟨az7,l[k],j2 (n:=k) cl,fun G=>?_,fun G=>?_⟩
  .have G:v=l[k]:=gd G;refine⟨_,_,_,bu,rfl,(show((k:Nat):Int)=xE l v from ?_),trivial,rfl⟩
   have:l.idxOf? v=some k:=by
    rw[List.idxOf?_eq_some_iff];refine⟨cl,by simp[G],fun j V=>?_⟩;have:=ao j V;rw[ao7 az7] at this;simpa using this
   rw[xE,this]
  .have G: ¬v=l[k]:=oj G;have m1: -9223372036854775808<=(k:Int)+1/\(k:Int)+1<=9223372036854775807:=aA5
   have m2:k+1<=l.length:=aA5
   have m3:l.length - (k+1) < l.length - k:=aA5
   refine⟨m1,k+1,⟨m2,fun i aG=>?_⟩,m3,ac.sub aE trivial⟩;rcases ax6 i k with aS |aS
   .exact ao i aS
   .have:i=k:=aA5
    subst this;rw[ao7 cl];intro e;injection e with e
    exact G e.symm
 .have h:decide ((k:Int) < (l.length:Int))=false:=h;have fO:k=l.length:=aD0
  refine⟨_,_,_,bu,rfl,(show(-1:Int)=xE l v from ?_),trivial,rfl⟩
  have:l.idxOf? v=none:=by
   rw[List.idxOf?_eq_none_iff];intro aD;obtain⟨i,aG,e⟩:=aw4 aD;have:=ao i az7;rw[ao7 aG] at this;exact this (by rw[e])
  rw[xE,this]
def KH (l:aF4) (v:aD2) (ak:l.length<=4294967296):Fn prog 80 [b0 .str l,bS v] [] [] (gT (l.contains v)) []:=by
 refine aU [] func80 ?_;refine az (aeR l v ak) ⟨_,_,_,bu,rfl,(show decide (0<=xE l v)=l.contains v from ?_),trivial,rfl⟩;unfold xE
 cases h:l.idxOf? v with
 |none=>
  rw[List.idxOf?_eq_none_iff] at h;simp[h]
 |some i=>
  obtain⟨aG,e,_⟩:=List.idxOf?_eq_some_iff.1 h
  have:v∈l:=by
   have:=ar4 aG
   rwa[show l[i]=v by simpa using e] at this
  simp[this]
def aeS (z R:Int) (L:aD5) (nm back:aD2) (h:(dk L nm).isSome=false\/(decide (back=[])||(dk L back).isSome)=false):Fn prog 334 [ap 1001,bS nm,bS back] (bM z R L) [] (ab 140) (bM z R L):=by
 have g8:=zD z R L back;refine aU [] func334 ?_;refine⟨fun eb bt=>?_,fun bt=>?_⟩
 .obtain⟨d,H,_⟩:=adT bt;have O:(decide (back=[])||(dk L back).isSome)=false:=h.resolve_left (by rw[H];intro h;cases h);rw[O] at g8;exact az g8 ⟨fun _=>bd,fun gi=>ap0 gi az8⟩
 .exact bd
def aeT (z R:Int) (L:aD5) (fc:ir L) (nm back:aD2) (d:aL) (H:dk L nm=some d) (Z:(decide (back=[])||(dk L back).isSome)=true) (k:Nat) (cx:d9 L back k) (iP:k<=1000000) (h:nm=back\/nm∈c6 L k back):Fn prog 334 [ap 1001,bS nm,bS back] (bM z R L) [] (ab 141) (bM z R L):=by
 have g8:=zD z R L back;rw[Z] at g8;have hx:(bV (aI:=.str) (aK:=.aM) (da L) nm).getD (cM .aM)=some d.ad:=by rw[jN,H];rfl
 have fG:=zG z R L fc back k cx iP;have xD:=o5 cx;generalize c6 L k back=bs at fG xD h;have lg:=KH bs nm az7;refine aU [] func334 ?_;refine⟨fun eb bt=>az g8 ⟨fun gi=>ap0 gi az8,fun _=>⟨fun hM=>?_,fun hM=>?_⟩⟩,fun O=>ap0 (show(bV (aI:=.str) (aK:=.aM) (da L) nm).getD (cM .aM)=none from O) aB4⟩
 .exact bd
 .have hM: ¬nm=back:=oj hM;have aD:bs.contains nm=true:=by simpa using h.resolve_left hM
  rw[aD] at lg;exact az fG <| az lg ⟨fun _=>bd,fun gi=>ap0 gi az8⟩
def eE (nm back:aD2) (d:aL):aL:=if d.nm=nm then {d with back:=back} else d
def dZ (L:aD5) (nm back:aD2):List aL:=L.map (eE nm back)
def xF (nm back:aD2) (d:aL):(eE nm back d).nm=d.nm:=by unfold eE;split <;>rfl
def Fy (nm back:aD2) (d:aL):(eE nm back d).ad=d.ad:=by unfold eE;split <;>rfl
def Fz (nm back:aD2) (d:aL):(eE nm back d).am=d.am:=by unfold eE;split <;>rfl
def Cn (nm back:aD2) (d:aL):(eE nm back d).im=d.im:=by unfold eE;split <;>rfl
def RA (nm back:aD2) (d:aL):(eE nm back d).cQ=d.cQ:=by unfold eE;split <;>rfl
def aeU (L:aD5) (nm back:aD2):da (dZ L nm back)=da L:=by
 unfold da dZ;rw[at6];refine ar9 fun d _=>?_
 show lr (eE nm back d)=lr d;unfold lr;rw[xF,Fy]
def aeV (L:aD5) (nm back:aD2):hZ (dZ L nm back)=hZ L:=by
 unfold hZ dZ;rw[at6];refine ar9 fun d _=>?_
 show((eE nm back d).am,kw (eE nm back d))=_;unfold kw;rw[Fz,Cn,RA]
def ir.dZ {L:aD5} (h:ir L) (nm back:aD2):ir (dZ L nm back):=by
 have key: ∀{α:Type} (f:aL->α),(∀d,f (eE nm back d)=f d)->(Go.Proofs.YtgclhiekndohdaaGreat.dZ L nm back).map f=L.map f:=fun f hf=>by
  unfold Go.Proofs.YtgclhiekndohdaaGreat.dZ;rw[at6];exact ar9 fun d _=>hf d
 exact⟨by rw[key _ (xF nm back)];exact h.gE,by rw[key _ (Fy nm back)];exact h.mY,by rw[key _ (Fz nm back)];exact h.xy⟩
def KI {L:aD5} {nm:aD2} (back:aD2) (h:nm∉L.map (·.nm)):dZ L nm back=L:=by unfold dZ;refine(ar9 fun d H=>?_).trans (List.map_id' L);unfold eE;rw[mu fun e=>h (by rw[<-e];exact ar8 H)]
def KJ {back:aD2} {nm:aD2}: ∀{L:aD5},(L.map (·.nm)).Nodup->(L.map (·.ad)).Nodup-> ∀{d:aL},dk L nm=some d->gr (lN L) d.ad (sZ d.am back)=lN (dZ L nm back)
 | [],_,_,d,h=>by cases h
 |e::L,hn,ha,d,h=>by
  rw[aq5] at hn ha;obtain⟨c4,ec⟩:=as2.1 hn;obtain⟨bR,b'⟩:=as2.1 ha;rw[s1] at h;show gr ((e.ad,sZ e.am e.back)::lN L) d.ad (sZ d.am back)=lN (eE nm back e::dZ L nm back);unfold gr
  by_cases c:e.nm=nm
  .rw[vj c] at h;injection h with h
   subst h;rw[vj rfl,KI back (by rw[<-c];exact c4)];unfold eE;rw[vj c];rfl
  .rw[mu c] at h;have a6: ¬e.ad=d.ad:=fun x=>bR (by rw[x];exact ar8 (f:=fun d:aL=>d.ad) (cO h).1)
   rw[mu a6,KJ ec b' h];unfold eE;rw[mu c];rfl
def lQ (nm back n:aD2): ∀L:List aL,dk (dZ L nm back) n=(dk L n).map (eE nm back)
 | []=>rfl
 |d::L=>by
  show dk (eE nm back d::dZ L nm back) n=_;rw[s1,s1,xF,lQ nm back n L]
  split <;>rfl
def aeW {L:aD5} (hn:(L.map (·.nm)).Nodup) {nm back:aD2} {d:aL} (h:dk L nm=some d):dZ (dZ L nm back) nm d.back=L:=by
 induction L with
 |nil=>cases h
 |cons e L bl=>
  rw[aq5] at hn;obtain⟨c4,ec⟩:=as2.1 hn;rw[s1] at h;show eE nm d.back (eE nm back e)::dZ (dZ L nm back) nm d.back=e::L
  by_cases c:e.nm=nm
  .rw[vj c] at h;injection h with h
   subst h;have cP:nm∉L.map (·.nm):=by rw[<-c];exact c4
   rw[KI back cP,KI _ cP]
   congr 1
   unfold eE;rw[vj c,vj c]
  .rw[mu c] at h;rw[bl ec h]
   congr 1
   unfold eE;rw[mu c,mu c]
abbrev aeX (nm back qn:aD2) (ad:Nat):aW:=[(0,ap 1001),(1,bS nm),(2,bS back),(7,di ad),(8,bS qn)]
abbrev aeY (qn:aD2) (ad:Nat) (l:aF4) (j:Nat):aW:=[(0,ap 1001),(7,di ad),(8,bS qn),(46,b0 .str l),(47,ab (l.length:Nat)),(48,ab (j:Nat))]
def RB {I:Nat->Prop} {w:aD8} {s:aD2} {aF:aE7} (h:gA I w (.str s) aF):aF.cells=List.toArray [aF]/\aF.oneCell'=true:=by have h:aF= .string ⟨s.toArray⟩:=h;subst h;exact⟨rfl,rfl⟩
def aeZ (z R:Int) (L:aD5) (fc:ir L) (ak: ∀d,d∈L->d.nm.length<=100000) (o8:L.length<=100) (nm back:aD2) (d:aL) (H:dk L nm=some d) (Z:(decide (back=[])||(dk L back).isSome)=true) (k:Nat) (cx:d9 L back k) (iP:k<=1000000) (h: ¬(nm=back\/nm∈c6 L k back))
  (zL:aD2->Nat) (ae0: ∀n∈kx L,d9 (dZ L nm back) n (zL n)/\zL n<=1000000) (r:Int) (FA:aD5) (bv:(∀n∈kx L,zL n<=8)->r=0/\FA=dZ L nm back) (fx:(∃n∈kx L,8 < zL n)->r=142/\FA=L):
  Fn prog 334 [ap 1001,bS nm,bS back] (bM z R L) [] (ab r) (bM z R FA):=by
 obtain⟨pW,hq,hr⟩:=k8 Fs;have g8:=zD z R L back;rw[Z] at g8;have hx:(bV (aI:=.str) (aK:=.aM) (da L) nm).getD (cM .aM)=some d.ad:=by rw[jN,H];rfl
 have fG:=zG z R L fc back k cx iP;have xD:=o5 cx;generalize c6 L k back=bs at fG xD h;have lg:=KH bs nm az7
 have BA:bs.contains nm=false:=by
  have:=fun e=>h (.inr e)
  simpa using this
 rw[BA] at lg;have ls:=fc.D (cO H).1;have Co:=fc.dZ nm back;have kL:dk (dZ L nm back) nm=some (eE nm back d):=by rw[lQ,H];rfl
 have RC:=Co.D (cO kL).1;rw[Fy,Fz,show(eE nm back d).back=back by unfold eE;rw[vj (cO H).2]] at RC;have oD:=aeU L nm back;have vI:=aeV L nm back;have rT:gr (lN L) d.ad (sZ d.am back)=lN (dZ L nm back):=KJ fc.gE fc.mY H
 have ae1:gr (lN (dZ L nm back)) d.ad (sZ d.am d.back)=lN L:=by
  have:=KJ (back:=d.back) Co.gE Co.mY kL;rw[Fy,Fz,aeW fc.gE H] at this;exact this
 have zk:=Kw z R (dZ L nm back) Co (fun x hx=>by
  obtain⟨y,aC,rfl⟩:=ar6.1 hx;rw[xF];exact ak y aC) (by unfold dZ;rw[aq3];exact o8)
 have lR:kx (dZ L nm back)=kx L:=by unfold kx;rw[oD]
 rw[lR] at zk;have bZ:=Kv L;generalize kx L=l at*;refine aU [6,8,12] func334 ?_;refine⟨fun eb bt=>az g8 ⟨fun gi=>ap0 gi az8,fun _=>⟨fun hM=>?_,fun hM=>?_⟩⟩,fun O=>ap0 (show(bV (aI:=.str) (aK:=.aM) (da L) nm).getD (cM .aM)=none from O) aB4⟩
 .exact ap0 (.inl (gd hM)) h
 refine az fG <| az lg ⟨fun gi=>ap0 gi az8,fun _=>bx [8,12] (bu) <| bo (fun N=>kr (b:=d.ad) rfl aC3 N) ?_⟩;refine bo (fun N=>kO rfl underlying106 rfl rfl hq aB3 rfl N) ?_;refine bo (ml (q:=1003) rfl underlying9 rfl rfl rfl ls rfl) ?_;refine bo (fun N=>kr (b:=d.ad) rfl aC3 N) ?_;refine bo (fun N=>kO rfl underlying106 rfl rfl hq aB3 rfl N) ?_;refine bo (EW (q:=1003) (b:=d.ad) (j:=1) (y:=.str back) (l:=Fr d.am d.back) (h':=fun _=>rfl) rfl hq hr rfl rfl rfl ls (Nat.lt_succ_self 1) RB) ?_;refine bx [12] (ac.sub (K':=aeX nm back d.back d.ad) (B':=bM z R (dZ L nm back)) ⟨rfl,rfl,rfl,hx,rfl,trivial⟩ ⟨rfl,ap1 (fun e=>some (ba.map .str .aM e)) oD.symm,ap1 (fun e=>some (ba.aA (.bD e))) rT,ap1 (fun e=>some (ba.aA (.bD e))) vI.symm,trivial⟩) <| az zk ?_;refine ed [12] (X:=Nat) (aeY d.back d.ad l) (fun _=>bM z R (dZ L nm back)) (fun j=>j<=l.length/\ ∀n∈l.take j,zL n<=8) (fun j=>l.length - j) 0 ⟨ap9 _,fun n hn=>by rw[List.take_zero] at hn;cases hn⟩ ?_ ?_
 .exact ac.sub aE aE
 intro j ⟨V,KK⟩;refine⟨fun h=>?_,fun h=>?_⟩
 .have h:decide ((j:Int) < (l.length:Nat))=true:=h;have fM:j < l.length:=aA6
  have m3:(0:Int)<=(j:Int):=aA5
  have qQ:c5 ((j:Int)+1):=aA5
  obtain⟨RD,JN⟩:=ae0 _ (ar4 fM);have mK:=ar4 fM;have wQ:=at2 fM;have iZ:=zG z R (dZ L nm back) Co _ _ RD JN;have ae2:=o5 RD;refine⟨m3,l[j],j2 (n:=j) fM,?_⟩;generalize l[j]=n at*;generalize c6 (dZ L nm back) (zL n) n=ns at iZ ae2;refine az iZ ⟨fun oC=>?_,fun oC=>?_⟩
  .have oC:(8:Int) < (ns.length:Int):=gd oC;obtain⟨rfl,rfl⟩:=fx ⟨n,mK,az7⟩;refine bx [] (cH [(7,di d.ad),(8,bS d.back)] (bM z R (dZ FA nm back))) <| bo (kr (b:=d.ad) rfl rfl) ?_;refine bo (fun N=>kO rfl underlying106 rfl rfl hq aB3 rfl N) ?_;refine bo (EW (q:=1003) (b:=d.ad) (j:=1) (y:=.str d.back) (l:=Fr d.am back) (h':=fun _=>rfl) rfl hq hr rfl rfl rfl RC (Nat.lt_succ_self 1) RB) ?_;exact rL bu rfl rfl ⟨rfl,ap1 (fun e=>some (ba.map .str .aM e)) oD,ap1 (fun e=>some (ba.aA (.bD e))) ae1,ap1 (fun e=>some (ba.aA (.bD e))) vI,trivial⟩ rfl
  .have oC: ¬(8:Int) < (ns.length:Int):=oj oC;refine⟨qQ,j+1,⟨fM,fun rq ub=>?_⟩,az7,ac.sub aE aE⟩;rw[wQ] at ub;rcases ar7.1 ub with ub |ub
   .exact KK rq ub
   .rw[aq6] at ub;subst ub;omega
 .have h:decide ((j:Int) < (l.length:Nat))=false:=h;have fM:j=l.length:=aD0
  subst fM;rw[ar2] at KK;obtain⟨rfl,rfl⟩:=bv KK;exact bd
end
section
abbrev ae3 (nm:aD2):av:=[(2001,.cells [.ptr 1001 0]),(2002,.cells [.d (.str nm)])]
abbrev RE (z R:Int) (L:aD5) (nm:aD2):av:=bM z R L++ae3 nm
def ae4 (z R:Nat) (L:aD5) (dM:mZ z R L) (nm:aD2) (bN:aL) (au:dk L nm=some bN) (cK:Nat) (hX:d9 L nm cK) (o6:cK<=100) (k:Nat) (Z:k < bN.im.t.length):
  Fn prog 186 [ab (k:Int),ap 2001,ap 2002] (RE z R L nm) [] (b0 .u8 (fe z L nm cK k)) (RE z R L nm):=by
 have dI:=Kq z R L dM nm bN au cK hX o6 k Z;generalize fe z L nm cK k=y at dI;refine aU [] func186 ?_;exact az dI bd
def KL (z R:Int) (L:aD5) (nm:aD2) (au:dk L nm=none) (g:Nat) (x y:D):
  Fn prog 124 [ap 1001,bS nm,.c (.one (.cW g [.p 3001 0,.p 3002 0]))] (bM z R L++[(3001,.cells [.d x]),(3002,.cells [.d y])]) [] (ab 140) (bM z R L++[(3001,.cells [.d x]),(3002,.cells [.d y])]):=by
 have hx:(bV (aI:=.str) (aK:=.aM) (da L) nm).getD (cM .aM)=none:=aC5
 refine aU [2] func124 ?_;refine⟨rfl,rfl,rfl,bx [] (bu) ?_⟩;exact⟨fun eb O=>ap0 (show(bV (aI:=.str) (aK:=.aM) (da L) nm).getD (cM .aM)=some eb from O) aB4,fun _=>bd⟩
def eS.sub {N:Nat} {ids:aD3} {C:eZ} {K K':aW} {B B':av} {a:Act} {w:aD8} (h:eS N ids C K B a w) (cT:wX K K') (dh:kI B B'):eS N ids C K' B' a w:=ac.sub cT dh N C a w h
def ae5 (t:aF9):jK (.aA (lL t)):=by rintro l4 rI I F w p jY _ ao ⟨es,h,aV⟩;exact⟨es,h,jK.iz (c:=1001) (BX (bp:=mq (t.length:Nat) es) ⟨jK.cells rfl,jK.map,trivial⟩) l4 rI I F w p jY (fun _ h=>by cases h) ao aV⟩
def ae6 (l:aE5):jK (.aA (ju l)):=by
 rintro l4 rI I F w p jY _ ao ⟨ρ,cd,E,G,ag,aS⟩;refine⟨dm ρ 1001 jY,cd,dr ..,fun d ch H=>?_,ag,aS⟩;have c9:=G d ch H;rw[cn] at H
 split at H
 .rename_i e;injection H with H
  subst H e;obtain⟨g1,aB,T,g2,cX⟩:=c9;rw[dr];rw[E] at g1 g2;exact⟨fun b=>by rw[ao];exact g1 b,aB,T,by rw[ao];exact g2,cb.mono (cj.refl _ _) _ aB (fun c J=>dt _ _ (fun e=>by subst e;cases J)) cX⟩
 .rename_i e;rw[dt _ _ (au7 e)];rw[cn] at H
  split at H
  .injection H with H
   subst H;exact Holds.cg (cj.refl _ _) (fun _ _=>rfl) (ao9 _) _ (fun c J=>by cases J) c9
  .cases H
def ae7 (f:k3):jK (.aA (lo f)):=by intro l4 rI I F w p jY _ ao h;have h:vs (fun _=>none) f I F w p:=h;show vs (fun _=>none) f I F w jY;unfold vs at*;rw[ao];exact h
def ae8 (s:bA):E1 (c8 s):=⟨jK.cells rfl,ae5 _,ae6 _,ae7 _,trivial⟩
def hU (nm:aD2) (im:bA) (cQ:Option (Nat->Nat)) (d:aL):aL:=if d.nm=nm then {d with im:=im,cQ:=cQ} else d
def dg (L:aD5) (nm:aD2) (im:bA) (cQ:Option (Nat->Nat)):List aL:=L.map (hU nm im cQ)
section
variable (nm:aD2) (im:bA) (cQ:Option (Nat->Nat)) (d:aL)
def zM:(hU nm im cQ d).nm=d.nm:=by unfold hU;split <;>rfl
def KM:(hU nm im cQ d).ad=d.ad:=by unfold hU;split <;>rfl
def RF:(hU nm im cQ d).am=d.am:=by unfold hU;split <;>rfl
def xG:(hU nm im cQ d).back=d.back:=by unfold hU;split <;>rfl
def FB (L:aD5):da (dg L nm im cQ)=da L:=by
 unfold da dg;rw[at6];refine ar9 fun d _=>?_
 show lr (hU nm im cQ d)=lr d;unfold lr;rw[zM,KM]
def FC (L:aD5):lN (dg L nm im cQ)=lN L:=by
 unfold lN dg;rw[at6];refine ar9 fun d _=>?_
 show((hU nm im cQ d).ad,sZ (hU nm im cQ d).am (hU nm im cQ d).back)=_;rw[KM,RF,xG]
def uo (n:aD2): ∀L:List aL,dk (dg L nm im cQ) n=(dk L n).map (hU nm im cQ)
 | []=>rfl
 |d::L=>by
  show dk (hU nm im cQ d::dg L nm im cQ) n=_;rw[s1,s1,zM,uo n L]
  split <;>rfl
end
def xH {L:aD5} {nm:aD2} {d:aL} (h:dk L nm=some d) (im:bA) (cQ:Option (Nat->Nat)):dk (dg L nm im cQ) nm=some {d with im:=im,cQ:=cQ}:=by rw[uo,h];show some (hU nm im cQ d)=_;unfold hU;rw[vj (cO h).2]
def FD {L:aD5} {nm n:aD2} (a6:n≠nm) (im:bA) (cQ:Option (Nat->Nat)):dk (dg L nm im cQ) n=dk L n:=by
 rw[uo]
 cases h:dk L n with
 |none=>rfl
 |some d=>
  show some (hU nm im cQ d)=_;unfold hU;rw[mu (fun e=>a6 ((cO h).2.symm.trans e))]
def ae9 {L:aD5} {nm:aD2} (im:bA) (cQ:Option (Nat->Nat)) (h:nm∉L.map (·.nm)):dg L nm im cQ=L:=by unfold dg;refine(ar9 fun d H=>?_).trans (List.map_id' L);unfold hU;rw[mu fun e=>h (by rw[<-e];exact ar8 H)]
def FE {nm:aD2} {im:bA} {cQ:Option (Nat->Nat)}: ∀{L:aD5},(L.map (·.nm)).Nodup->(L.map (·.am)).Nodup-> ∀{d:aL},dk L nm=some d->gr (hZ L) d.am (kw {d with im:=im,cQ:=cQ})=hZ (dg L nm im cQ)
 | [],_,_,d,h=>by cases h
 |e::L,hn,ha,d,h=>by
  rw[aq5] at hn ha;obtain⟨c4,ec⟩:=as2.1 hn;obtain⟨bR,b'⟩:=as2.1 ha;rw[s1] at h;show gr ((e.am,kw e)::hZ L) d.am _=hZ (hU nm im cQ e::dg L nm im cQ);unfold gr
  by_cases c:e.nm=nm
  .rw[vj c] at h;injection h with h
   subst h;rw[vj rfl,ae9 im cQ (by rw[<-c];exact c4)];unfold hU;rw[vj c];rfl
  .rw[mu c] at h;have a6: ¬e.am=d.am:=fun x=>bR (by rw[x];exact ar8 (f:=fun d:aL=>d.am) (cO h).1)
   rw[mu a6,FE ec b' h];unfold hU;rw[mu c];rfl
def RG {b:Nat} {o:bc}: ∀L:List (Nat×bc),j3 (gr L b o) b=j3 L b
 | []=>rfl
 |(a,q)::L=>by
  unfold gr
  by_cases e:a=b
  .rw[vj e];show(if a=b then L else _)=if a=b then L else _
   rw[vj e,vj e]
  .rw[mu e];show(if a=b then _ else(a,q)::j3 (gr L b o) b)=if a=b then L else(a,q)::j3 L b
   rw[mu e,mu e,RG L]
def KN {L:aD5} (nm:aD2) (im:bA) (cQ:Option (Nat->Nat)) {n:aD2} {k:Nat} (h:d9 L n k):d9 (dg L nm im cQ) n k:=by
 induction h with
 |gone h=>exact .gone (by rw[uo,h];rfl)
 |base E G=>exact .base (d:=hU nm im cQ _) (by rw[uo,E];rfl) (by rw[xG];exact G)
 |step E G ag bl=>exact .step (d:=hU nm im cQ _) (by rw[uo,E];rfl) (by rw[xG];exact G) (by rw[xG];exact bl)
def zN (L:aD5) (nm:aD2) (im:bA) (cQ:Option (Nat->Nat)): ∀(k:Nat) (n:aD2),c6 (dg L nm im cQ) k n=c6 L k n
 |0,_=>rfl
 |k+1,n=>by
  show(match dk (dg L nm im cQ) n with |none=>[] |some d=>d.back::c6 (dg L nm im cQ) k d.back)=match dk L n with |none=>[] |some d=>d.back::c6 L k d.back
  rw[uo]
  cases h:dk L n with
  |none=>rfl
  |some d=>
   show(hU nm im cQ d).back::c6 (dg L nm im cQ) k (hU nm im cQ d).back=d.back::c6 L k d.back;rw[xG,zN L nm im cQ k]
def ir.dg {L:aD5} (h:ir L) (nm:aD2) (im:bA) (cQ:Option (Nat->Nat)):ir (dg L nm im cQ):=by
 have key: ∀{α:Type} (f:aL->α),(∀d,f (hU nm im cQ d)=f d)->(Go.Proofs.YtgclhiekndohdaaGreat.dg L nm im cQ).map f=L.map f:=fun f hf=>by
  unfold Go.Proofs.YtgclhiekndohdaaGreat.dg;rw[at6];exact ar9 fun d _=>hf d
 exact⟨by rw[key _ (zM nm im cQ)];exact h.gE,by rw[key _ (KM nm im cQ)];exact h.mY,by rw[key _ (RF nm im cQ)];exact h.xy⟩
def mZ.dg {z R:Nat} {L:aD5} (h:mZ z R L) {nm:aD2} {bN:aL} (au:dk L nm=some bN) {im:bA} (ax:h8 bN.im im) (cQ:Option (Nat->Nat)):mZ z R (dg L nm im cQ):=by
 obtain⟨fd,gD,mt⟩:=h.fQ bN (cO au).1
 have key: ∀d,d∈Go.Proofs.YtgclhiekndohdaaGreat.dg L nm im cQ-> ∃e,e∈L/\hU nm im cQ e=d:=fun d H=>by
  obtain⟨e,U,rfl⟩:=ar6.1 H;exact⟨e,U,rfl⟩
 refine⟨h.toir.dg nm im cQ,h.b3,h.vE,by unfold Go.Proofs.YtgclhiekndohdaaGreat.dg;rw[aq3];exact h.len,fun d H=>?_,fun d H O=>?_,fun d H=>?_,fun d H=>?_⟩
 .obtain⟨e,U,rfl⟩:=key d H;unfold hU
  split
  .exact⟨ax.ok,ax.z.trans gD,ax.ku.trans mt⟩
  .exact h.fQ e U
 .obtain⟨e,U,rfl⟩:=key d H;rw[xG] at O⊢;obtain⟨ca,h'⟩:=h.h9 e U O;exact⟨hU nm im cQ ca,by rw[uo,h'];rfl⟩
 .obtain⟨e,U,rfl⟩:=key d H;rw[zM];exact h.ne e U
 .obtain⟨e,U,rfl⟩:=key d H;rw[zM];obtain⟨k,Z,H⟩:=h.s0 e U;exact⟨k,Z,KN nm im cQ H⟩
def zO {L:aD5} {n:aD2} {k d4:Nat} (h:d9 L n k) (h':d9 L n d4):k=d4:=by
 induction h generalizing d4 with
 |gone h=>
  cases h' with
  |gone _=>rfl
  |base _ _=>rfl
  |step E _ _=>rw[h] at E;cases E
 |base E G=>
  cases h' with
  |gone _=>rfl
  |base _ _=>rfl
  |step g1 g2 _=>rw[E] at g1;injection g1 with g1;rw[<-g1] at g2;exact ap0 G g2
 |step E G ag bl=>
  cases h' with
  |gone h=>rw[E] at h;cases h
  |base g1 g2=>rw[E] at g1;injection g1 with g1;rw[<-g1] at g2;exact ap0 g2 G
  |step g1 g2 cX=>rw[E] at g1;injection g1 with g1;rw[<-g1] at cX;rw[bl cX]
def KO {L:aD5} {n:aD2} {k:Nat} (h:d9 L n k): ∀x,x∈c6 L k n-> ∃j,j < k/\d9 L x j:=by
 induction h with
 |gone _=>intro x hx;cases hx
 |base _ _=>intro x hx;cases hx
 | @step n d k E G ag bl=>
  intro x hx;unfold c6 at hx;rw[E] at hx;rcases ap7.1 hx with rfl |hx
  .exact⟨k,Nat.lt_succ_self k,ag⟩
  .obtain⟨j,V,H⟩:=bl x hx;exact⟨j,az7,H⟩
def KP {L:aD5} {n:aD2} {k:Nat} (h:d9 L n k):n∉c6 L k n:=fun hx=>by
 obtain⟨j,V,H⟩:=KO h n hx;have:=zO h H;omega
def FF {z:Nat} {L:aD5} {nm:aD2} {im:bA} {cQ:Option (Nat->Nat)} {c:Nat}: ∀(ns:aF4) (i:Nat),nm∉ns->g7 z (dg L nm im cQ) c ns i=g7 z L c ns i
 | [],_,_=>rfl
 |n::ns,i,h=>by
  have a6:n≠nm:=fun e=>h (by rw[e];exact aq4 ..)
  have bl:=FF (z:=z) (L:=L) (nm:=nm) (im:=im) (cQ:=cQ) (c:=c) ns (i+1) fun aD=>h (ap4 _ aD)
  unfold g7;rw[FD a6,bl]
def g9 (z:Nat) (L:aD5) (nm:aD2) (cK c:Nat):aD2:=(g7 z L c (c6 L cK nm) 1).1
def RH {z:Nat} {L:aD5} {nm:aD2} {bN:aL} (au:dk L nm=some bN) {cK:Nat} (hX:d9 L nm cK) (im:bA) (cQ:Option (Nat->Nat)) (c:Nat):
  fe z (dg L nm im cQ) nm cK c=if c < im.t.length/\(im.t.getD c b7).1≠0 then ee im c none else g9 z L nm cK c:=by
 unfold fe g9;rw[zN]
 conv=>lhs;unfold g7
 rw[xH au];simp only
 split
 .rfl
 .rw[FF _ _ (KP hX)]
abbrev zP (z R:Int) (L:aD5) (nm:aD2) (am:Nat):av:=[(8001,.cells [.d (.int .i64 z),.d (.int .i64 R),.mp 8002]),(8002,.map .str .aM (da L)),(8003,.aA (.bD (lN L))),(8004,.aA (.bD (j3 (hZ L) am))),(8005,.cells [.ptr 8001 0]),(8006,.cells [.d (.str nm)])]
def rU (z R:Int) (L:aD5) (nm:aD2) (am:Nat) (bs:Nat->Nat):bm->bc:=.oX am (.mP (zP z R L nm am) bs)
def RI (z R:Int) (L:aD5) (nm:aD2) (am:Nat):E1 (zP z R L nm am):=⟨jK.cells rfl,jK.map,jK.bD,jK.bD,jK.cells rfl,jK.cells rfl,trivial⟩
abbrev lu (z R:Int) (L:aD5) (nm:aD2):av:=[(8001,.cells [.d (.int .i64 z),.d (.int .i64 R),.mp 8002]),(8002,.map .str .aM (da L)),(8003,.aA (.bD (lN L))),(8004,.aA (.bD (hZ L))),(8005,.cells [.ptr 8001 0]),(8006,.cells [.d (.str nm)])]
abbrev Cp (am cU dB dE:Nat):Nat->Nat:=fun c=>cond (Nat.beq c 1001) am (cond (Nat.beq c 1002) cU (cond (Nat.beq c 1003) dB dE))
abbrev o9 (cU dB dE:Nat):Nat->Nat:=fun c=>cond (Nat.beq c 1002) cU (cond (Nat.beq c 1003) dB dE)
abbrev RJ (am cU dB dE:Nat):av:=[(9001,.bY 1001 (eO am)),(9002,.bY 1002 (eO cU)),(9003,.bY 1003 (eO dB)),(9004,.bY 1004 (eO dE))]
abbrev KQ (bs:Nat->Nat):av:=[(7001,.bY 8001 (eO (bs 8001))),(7002,.bY 8002 (eO (bs 8002))),(7003,.bY 8003 (eO (bs 8003))),(7004,.bY 8004 (eO (bs 8004))),(7005,.bY 8005 (eO (bs 8005))),(7006,.bY 8006 (eO (bs 8006)))]
def ae' (z R:Nat) (L:aD5) (dM:mZ z R L) (nm:aD2) (bN:aL) (au:dk L nm=some bN) (cK:Nat) (hX:d9 L nm cK) (o6:cK<=100) (k:Nat) (Z:k < bN.im.t.length):
  Fn prog 186 [ab (k:Int),ap 8005,ap 8006] (lu z R L nm) [] (b0 .u8 (fe z L nm cK k)) (lu z R L nm):=
 Fn.a7 [(1001,8001),(1002,8002),(1003,8003),(1004,8004),(2001,8005),(2002,8006)] (ae4 z R L dM nm bN au cK hX o6 k Z)
def afa (z R:Nat) (L:aD5) (dM:mZ z R L) (nm:aD2) (bN:aL) (au:dk L nm=some bN) (cK:Nat) (hX:d9 L nm cK) (o6:cK<=100) (s:bA) (ax:h8 bN.im s) (bs:Nat->Nat) (c:Nat) (J:c < s.t.length) (aO:(s.t[c]).1=0):
  Ff s (rU z R L nm bN.am bs) (bs 8005) (bs 8006) c (g9 z L nm cK c):=by
 have bZ:(g9 z L nm cK c).length<=1000000:=by
  have:=Rm dM c (c6 L cK nm) 1;unfold g9;omega
 refine⟨bZ,?_⟩;have fl:=dM.toir.M (cO au).1
 have Ic: ∀cQ,fe z (dg L nm s cQ) nm cK c=g9 z L nm cK c:=fun cQ=>by
  rw[RH au hX,mu fun h=>h.2 (by rw[ap2,ao7 J];exact aO)]
 have j0: ∀cQ,Fn prog 186 [ab (c:Int),ap 8005,ap 8006] (lu z R (dg L nm s cQ) nm) [] (b0 .u8 (g9 z L nm cK c)) (lu z R (dg L nm s cQ) nm):=fun cQ=>by
  have:=ae' z R (dg L nm s cQ) (dM.dg au ax cQ) nm _ (xH au s cQ) cK (KN nm s cQ hX) o6 c J;rw[Ic cQ] at this;exact this
 have RK: ∀cU dB dE,kw {bN with im:=s,cQ:=some (o9 cU dB dE)}= .mP (c8 s) (Cp bN.am cU dB dE):=fun cU dB dE=>rfl
 have lh: ∀cU dB dE,gr (hZ L) bN.am (.mP (c8 s) (Cp bN.am cU dB dE))=hZ (dg L nm s (some (o9 cU dB dE))):=fun cU dB dE=>by
  rw[<-RK];exact FE dM.gE dM.xy au
 have afb: ∀cU dB dE,eN (hZ (dg L nm s (some (o9 cU dB dE)))) bN.am=some (.mP (c8 s) (Cp bN.am cU dB dE)):=fun cU dB dE=>by
  have:=(dM.toir.dg nm s (some (o9 cU dB dE))).M (cO (xH au s (some (o9 cU dB dE)))).1;rw[RK] at this;exact this
 have afc: ∀cU dB dE,j3 (hZ (dg L nm s (some (o9 cU dB dE)))) bN.am=j3 (hZ L) bN.am:=fun cU dB dE=>by
  rw[<-lh,RG]
 refine Fn.via (X:=Nat×Nat×Nat) (args':=fun _=>[ab (c:Int),ap 8005,ap 8006]) (t':=fun x=>lu z R (dg L nm s (some (o9 x.1 x.2.1 x.2.2))) nm++(KQ bs++RJ bN.am x.1 x.2.1 x.2.2)) (mI:=fun x=>lu z R (dg L nm s (some (o9 x.1 x.2.1 x.2.2))) nm) (i9:=fun _=>[]) (res':=fun _=>b0 .u8 (g9 z L nm cK c)) (nE:=fun x=>lu z R (dg L nm s (some (o9 x.1 x.2.1 x.2.2))) nm)
  aA0 3 rfl ?_ (fun x=>j0 _) (fun x=>aE) (fun x=>rfl) (fun x=>rfl) ?_
 .intro N C a w KR;have E:=ac.je 9000 1001 bN.am rfl N C a w (ac.abK 9000 1001 9001 bN.am rfl rfl az8 N C a w KR);obtain⟨cU,G⟩:=du.mark 1002 9002 rfl az8 N C a w E;obtain⟨dB,ag⟩:=du.mark 1003 9003 rfl az8 N C a w G;obtain⟨dE,aS⟩:=du.mark 1004 9004 rfl az8 N C a w ag;have bG:=ac.Jp 9100 (c8 s) (fun c=>c+8000) (Cp bN.am cU dB dE) aE aE rfl N C a w aS;have eH:=ac.place 8006 7006 (bs 8006) rfl rfl az8 N C a w (ac.place 8005 7005 (bs 8005) rfl rfl az8 N C a w (ac.place 8004 7004 (bs 8004) rfl rfl az8 N C a w (ac.place 8003 7003 (bs 8003) rfl rfl az8 N C a w (ac.place 8002 7002 (bs 8002) rfl rfl az8 N C a w (ac.place 8001 7001 (bs 8001) rfl rfl az8 N C a w bG)))));have jF:=ac.Js 9000 (zP z R L nm bN.am) (fun c=>c - 1000) bs rfl aE rfl rfl (BX (RI z R L nm bN.am)) N C a w eH;have iw:=ac.abU 8004 9100 bN.am rfl rfl fl az8 N C a w jF;have u5:=ac.E5 1 8005 7005 (bs 8005) rfl rfl N C a w iw;have A4:=ac.E5 2 8006 7006 (bs 8006) rfl rfl N C a w u5;have a2:=FB nm s (some (o9 cU dB dE)) L;have cx:=FC nm s (some (o9 cU dB dE)) L;refine⟨(cU,dB,dE),eS.sub A4 aE ⟨rfl,ap1 (fun e=>some (ba.map .str .aM e)) a2.symm,ap1 (fun e=>some (ba.aA (.bD e))) cx.symm,ap1 (fun e=>some (ba.aA (.bD e))) (lh cU dB dE),rfl,rfl,rfl,rfl,rfl,rfl,rfl,rfl,rfl,rfl,rfl,rfl,trivial⟩⟩
 .rintro⟨cU,dB,dE⟩;have a2:=FB nm s (some (o9 cU dB dE)) L;have cx:=FC nm s (some (o9 cU dB dE)) L
  refine⟨b0 .u8 (g9 z L nm cK c),_,ac.trans (cH [(3,b0 .u8 (g9 z L nm cK c))] (lu z R (dg L nm s (some (o9 cU dB dE))) nm++(KQ bs++RJ bN.am cU dB dE)))
   (ac.trans (ac.BZ 8004 9100 bN.am rfl (afb cU dB dE) rfl) (ac.trans (ac.abM 9100 bN.am rfl)
   (ac.trans (ac.Jp 9000 (zP z R L nm bN.am) (fun c=>c - 1000) bs ⟨rfl,ap1 (fun e=>some (ba.map .str .aM e)) a2,ap1 (fun e=>some (ba.aA (.bD e))) cx,ap1 (fun e=>some (ba.aA (.bD e))) (afc cU dB dE),rfl,rfl,trivial⟩ aE rfl)
   (ac.trans (ac.abL 9000 1001 9001 bN.am rfl rfl) (ac.Js 9100 (c8 s) (fun c=>c+8000) (Cp bN.am cU dB dE) rfl aE rfl rfl (BX (ae8 s))))))),?_,?_,?_⟩
  .exact rfl
  .exact aE
  .rfl
def RL {f:aE8} {args:List aN} {res:aN} {s s':bA} {bn:bm->bc} (h:Fn prog f (ap 1001::args) (fP s bn) [] res (fP s' bn)) (E:nA 1001 [1002,1003,1004] (ap 1001::args) (c8 s) [(9000,.bY 1001 bn)] [] []=true) (G:nB 1001 (mh [1002,1003,1004] [] []) res (c8 s') [(9000,.bY 1001 bn)]=true):
  Fn prog f (ap 1001::args) [(1001,.aA (iN s)),(9000,.bY 1001 bn)] [] res [(1001,.aA (iN s')),(9000,.bY 1001 bn)]:=
 Fn.close (bp:=c8 s) (dD:=c8 s') (aJ:=[(9000,.bY 1001 bn)]) (aP:=[(9000,.bY 1001 bn)]) [1002,1003,1004] h (fun _ _ _ _ h=>h) (fun _ _ _ _ h=>h) E G
abbrev k9 (x y:D):av:=[(3001,.cells [.d x]),(3002,.cells [.d y])]
abbrev zQ (d0 cU dB dE kz k':Nat):Nat->Nat:=fun c=>cond (Nat.beq c 8001) d0 (cond (Nat.beq c 8002) cU (cond (Nat.beq c 8003) dB (cond (Nat.beq c 8004) dE (cond (Nat.beq c 8005) kz k'))))
abbrev Cq:aN:=.c (.one (.cW 186 [.p 8005 0,.p 8006 0]))
abbrev FG (z R:Int) (L:aD5) (nm:aD2) (am:Nat) (s:bA) (d0 cU dB dE kz k':Nat) (x y:D):av:=[(7000,.aA (iN s)),(9000,.bY 7000 (rU z R L nm am (zQ d0 cU dB dE kz k')))]++(KQ (zQ d0 cU dB dE kz k')++k9 x y)
abbrev RM:aD3:=[8001,8002,8003,8004,8005,8006,3001,3002]
abbrev KS (am:Nat):aW:=[(0,di am),(1,Cq),(2,ap 3001),(3,ap 3002)]
abbrev afd (kz k':Nat):aW:=[(0,ap 7000),(1,mW kz k'),(2,ap 3001),(3,ap 3002)]
def ac.RN (z R:Int) (L:aD5) (nm:aD2) (am:Nat) (im:bA) (cP:eN (hZ L) am=some (iN im)) (x y:D):
  du (X:=Nat×Nat×Nat×Nat×Nat×Nat) RM (KS am) (lu z R L nm++k9 x y) (fun p=>afd p.2.2.2.2.1 p.2.2.2.2.2) (fun p=>FG z R L nm am im p.1 p.2.1 p.2.2.1 p.2.2.2.1 p.2.2.2.2.1 p.2.2.2.2.2 x y):=by
 intro N C a w KR;have E:=ac.BZ 8004 7000 am rfl cP rfl N C a w KR;obtain⟨d0,G⟩:=du.mark 8001 7001 rfl az8 N C a w E;obtain⟨cU,ag⟩:=du.mark 8002 7002 rfl az8 N C a w G;obtain⟨dB,aS⟩:=du.mark 8003 7003 rfl az8 N C a w ag;obtain⟨dE,bG⟩:=du.mark 8004 7004 rfl az8 N C a w aS;obtain⟨kz,eH⟩:=du.mark 8005 7005 rfl az8 N C a w bG;obtain⟨k',jF⟩:=du.mark 8006 7006 rfl az8 N C a w eH;have iw:=ac.Jp 9000 (zP z R L nm am) (fun c=>c - 1000) (zQ d0 cU dB dE kz k') aE aE rfl N C a w jF;have u5:=ac.abN 1 186 8005 8006 7005 7006 kz k' rfl rfl rfl N C a w iw;have A4:=ac.P7 0 7000 am rfl rfl N C a w u5;have afe:=ac.oX 9000 7000 am rfl rfl az8 N C a w A4;exact⟨(d0,cU,dB,dE,kz,k'),eS.sub afe aE aE⟩
def ac.RO (z R:Int) (L:aD5) (fc:ir L) (nm:aD2) (bN:aL) (au:dk L nm=some bN) (ao:bN.cQ=none) (s:bA) (d0 cU dB dE kz k':Nat) (x y:D) (r:Int):
  ac RM [(6,ab r)] (FG z R L nm bN.am s d0 cU dB dE kz k' x y) [(6,ab r)] (lu z R (dg L nm s none) nm++k9 x y):=by
 have fl:=fc.M (cO au).1;have a2:=FB nm s none L;have cx:=FC nm s none L;have ah:gr (hZ L) bN.am (iN s)=hZ (dg L nm s none):=FE (cQ:=none) (im:=s) fc.gE fc.xy au
 exact ac.trans (ac.abJ 9000 7000 bN.am rfl rfl az8) (ac.trans (ac.Js 9000 (zP z R L nm bN.am) (fun c=>c - 1000) (zQ d0 cU dB dE kz k') rfl aE rfl rfl (BX (RI z R L nm bN.am)))
  (ac.trans (ac.Qb 8004 7000 bN.am rfl rfl fl az8) (ac.sub aE ⟨rfl,ap1 (fun e=>some (ba.map .str .aM e)) a2.symm,ap1 (fun e=>some (ba.aA (.bD e))) cx.symm,ap1 (fun e=>some (ba.aA (.bD e))) ah,rfl,rfl,rfl,rfl,trivial⟩)))
def aff (z R:Int) (L:aD5) (fc:ir L) (nm:aD2) (bN:aL) (au:dk L nm=some bN) (ao:bN.cQ=none) (a:Int) (bs:aD2) (r:Int) (s':bA)
  (h: ∀bE:Nat->Nat,Fn prog 126 [ap 1001,ab a,b0 .u8 bs,mW (bE 8005) (bE 8006)] (fP bN.im (rU z R L nm bN.am bE)) [] (ab r) (fP s' (rU z R L nm bN.am bE))):
  Fn prog 125 [di bN.am,Cq,ap 3001,ap 3002] (lu z R L nm++k9 (.int .i64 a) (.cr .u8 bs)) [] (ab r) (lu z R (dg L nm s' none) nm++k9 (.int .i64 a) (.cr .u8 bs)):=by
 have fl:eN (hZ L) bN.am=some (iN bN.im):=by
  have:=fc.M (cO au).1
  rwa[show kw bN=iN bN.im by unfold kw;rw[ao]] at this
 refine aU [1] func125 ?_;refine bB.le (cH (KS bN.am) (lu z R L nm++k9 (.int .i64 a) (.cr .u8 bs))) <| bB.fJ (ac.RN z R L nm bN.am bN.im fl _ _) fun p=>?_
 obtain⟨d0,cU,dB,dE,kz,k'⟩:=p;exact bx [] (bu) <| az (Fn.a7 [(1001,7000)] (RL (h (zQ d0 cU dB dE kz k')) rfl rfl)) ⟨_,_,_,ac.trans (cH [(6,ab r)] (FG z R L nm bN.am s' d0 cU dB dE kz k' (.int .i64 a) (.cr .u8 bs))) (ac.RO z R L fc nm bN au ao s' d0 cU dB dE kz k' _ _ r),rfl,rfl,aE,rfl⟩
def afg (z R:Int) (L:aD5) (fc:ir L) (nm:aD2) (bN:aL) (au:dk L nm=some bN) (ao:bN.cQ=none) (a l:Int) (r:Int) (s':bA)
  (h: ∀bE:Nat->Nat,Fn prog 128 [ap 1001,ab a,ab l,mW (bE 8005) (bE 8006)] (fP bN.im (rU z R L nm bN.am bE)) [] (ab r) (fP s' (rU z R L nm bN.am bE))):
  Fn prog 127 [di bN.am,Cq,ap 3001,ap 3002] (lu z R L nm++k9 (.int .i64 a) (.int .i64 l)) [] (ab r) (lu z R (dg L nm s' none) nm++k9 (.int .i64 a) (.int .i64 l)):=by
 have fl:eN (hZ L) bN.am=some (iN bN.im):=by
  have:=fc.M (cO au).1
  rwa[show kw bN=iN bN.im by unfold kw;rw[ao]] at this
 refine aU [1] func127 ?_;refine bB.le (cH (KS bN.am) (lu z R L nm++k9 (.int .i64 a) (.int .i64 l))) <| bB.fJ (ac.RN z R L nm bN.am bN.im fl _ _) fun p=>?_
 obtain⟨d0,cU,dB,dE,kz,k'⟩:=p;exact bx [] (bu) <| az (Fn.a7 [(1001,7000)] (RL (h (zQ d0 cU dB dE kz k')) rfl rfl)) ⟨_,_,_,ac.trans (cH [(6,ab r)] (FG z R L nm bN.am s' d0 cU dB dE kz k' (.int .i64 a) (.int .i64 l))) (ac.RO z R L fc nm bN au ao s' d0 cU dB dE kz k' _ _ r),rfl,rfl,aE,rfl⟩
def afh (z R:Int) (L:aD5) (fc:ir L) (nm:aD2) (bN:aL) (au:dk L nm=some bN) (ao:bN.cQ=none) (a l:Int) (r:Int) (s':bA)
  (h:Fn prog 130 [ap 1001,ab a,ab l] (c8 bN.im) [] (ab r) (c8 s')):
  Fn prog 129 [di bN.am,Cq,ap 3001,ap 3002] (lu z R L nm++k9 (.int .i64 a) (.int .i64 l)) [] (ab r) (lu z R (dg L nm s' none) nm++k9 (.int .i64 a) (.int .i64 l)):=by
 have fl:eN (hZ L) bN.am=some (iN bN.im):=by
  have:=fc.M (cO au).1
  rwa[show kw bN=iN bN.im by unfold kw;rw[ao]] at this
 have a2:=FB nm s' none L;have cx:=FC nm s' none L;have ah:gr (hZ L) bN.am (iN s')=hZ (dg L nm s' none):=FE (cQ:=none) (im:=s') fc.gE fc.xy au;have J:Fn prog 130 [ap 1001,ab a,ab l] [(1001,.aA (iN bN.im))] [] (ab r) [(1001,.aA (iN s'))]:=Fn.close (bp:=c8 bN.im) (dD:=c8 s') (aJ:=[]) (aP:=[]) [1002,1003,1004] h (fun _ _ _ _ h=>h) (fun _ _ _ _ h=>h) rfl rfl;have aY:=(cz.bD (c:=1001) (q:=8004) (b:=bN.am) (args:=[ab a,ab l]) (aJ:=[]) (bb:=[]) (X:=Unit) (res:=fun _=>ab r) (aP:=fun _=>[]) (o:=iN bN.im) (o':=fun _=>iN s') (L:=hZ L) J.x fl rfl ⟨rfl,rfl⟩ rfl (fun _=>rfl)).fn;refine aU [] func129 ?_;exact az aY <| rL bu rfl rfl ⟨rfl,ap1 (fun e=>some (ba.map .str .aM e)) a2.symm,ap1 (fun e=>some (ba.aA (.bD e))) cx.symm,ap1 (fun e=>some (ba.aA (.bD e))) ah,rfl,rfl,rfl,rfl,trivial⟩ rfl
def KT (z R:Int) (L L':aD5) (fc:ir L) (nm:aD2) (bN:aL) (au:dk L nm=some bN) (f:Nat) (r:Int) (x y:D)
  (hf:Fn prog f [di bN.am,Cq,ap 3001,ap 3002] (lu z R L nm++k9 x y) [] (ab r) (lu z R L' nm++k9 x y)):
  Fn prog 124 [ap 1001,bS nm,.c (.one (.cW f [.p 3001 0,.p 3002 0]))] (bM z R L++k9 x y) [] (ab r) (bM z R L'++k9 x y):=by
 obtain⟨pW,hq,hr⟩:=k8 xz;have cP:=fc.D (cO au).1;have hx:(bV (aI:=.str) (aK:=.aM) (da L) nm).getD (cM .aM)=some bN.ad:=aC5
 refine aU [2] func124 ?_;refine⟨rfl,rfl,rfl,bx [] (bu) ?_⟩;refine⟨fun eb O=>bo (fun N=>kr (b:=bN.ad) rfl aC3 N) ?_,fun O=>ap0 (show(bV (aI:=.str) (aK:=.aM) (da L) nm).getD (cM .aM)=none from O) aB4⟩;refine bo (fun N=>kO rfl underlying106 rfl rfl hq aB3 rfl N) ?_;refine bo (ml (q:=1003) rfl underlying46 rfl rfl rfl cP rfl) ?_;exact az (Fn.a7 [(8001,1001),(8002,1002),(8003,1003),(8004,1004),(8005,3),(8006,4)] hf) bd
def RP (z R:Int) (L L':aD5) (nm:aD2) (a:Int) (bs:aD2) (r:Int)
  (h:Fn prog 124 [ap 1001,bS nm,.c (.one (.cW 125 [.p 3001 0,.p 3002 0]))] (bM z R L++k9 (.int .i64 a) (.cr .u8 bs)) [] (ab r) (bM z R L'++k9 (.int .i64 a) (.cr .u8 bs))):
  Fn prog 68 [ap 1001,bS nm,ab a,b0 .u8 bs] (bM z R L) [] (ab r) (bM z R L'):=by
 refine aU [] func68 ?_;exact⟨rfl,rfl,az (Fn.a7 [(3001,6),(3002,7)] h) bd⟩
def RQ (z R:Int) (L L':aD5) (nm:aD2) (a l:Int) (r:Int)
  (h:Fn prog 124 [ap 1001,bS nm,.c (.one (.cW 127 [.p 3001 0,.p 3002 0]))] (bM z R L++k9 (.int .i64 a) (.int .i64 l)) [] (ab r) (bM z R L'++k9 (.int .i64 a) (.int .i64 l))):
  Fn prog 70 [ap 1001,bS nm,ab a,ab l] (bM z R L) [] (ab r) (bM z R L'):=by
 refine aU [] func70 ?_;exact⟨rfl,rfl,az (Fn.a7 [(3001,6),(3002,7)] h) bd⟩
def RR (z R:Int) (L L':aD5) (nm:aD2) (a l:Int) (r:Int)
  (h:Fn prog 124 [ap 1001,bS nm,.c (.one (.cW 129 [.p 3001 0,.p 3002 0]))] (bM z R L++k9 (.int .i64 a) (.int .i64 l)) [] (ab r) (bM z R L'++k9 (.int .i64 a) (.int .i64 l))):
  Fn prog 72 [ap 1001,bS nm,ab a,ab l] (bM z R L) [] (ab r) (bM z R L'):=by
 refine aU [] func72 ?_;exact⟨rfl,rfl,az (Fn.a7 [(3001,6),(3002,7)] h) bd⟩
def Fn.res {P:aD9} {f:aE8} {args:List aN} {aJ:av} {bb:aD3} {res res':aN} {aP:av} (h:Fn P f args aJ bb res aP) (ak:sr res res'):Fn P f args aJ bb res' aP:=
 ⟨h.1,fun ρ F I w bW bR b' a3 a4 a5 ft=>(h.2 ρ F I w bW bR b' a3 a4 a5 ft).mono fun e w' ⟨x,ρ',F',r1,r2,fI,I',jI,ll,lJ,lm,mi,nD⟩=>⟨x,ρ',F',r1,r2,fI,I',jI,ll,lJ,lm,mi,vc ak nD⟩⟩
def cz.to {P:aD9} {f:aE8} {args:List aN} {aJ:av} {bb:aD3} {X Y:Type} {res:X->aN} {aP:X->av} {res':Y->aN} {nE:Y->av} (h:cz P f args aJ bb res aP) (g:X->Y) (E: ∀x,res x=res' (g x)) (G: ∀x,aP x=nE (g x)):cz P f args aJ bb res' nE:=
 ⟨h.1,fun ρ F I w bW bR b' a3 a4 a5 ft=>(h.2 ρ F I w bW bR b' a3 a4 a5 ft).mono fun e w' ⟨y,x,ρ',F',r1,r2,fI,I',jI,ll,lJ,lm,mi,nD⟩=>by
  rw[G] at lJ lm mi;rw[E] at nD;exact⟨g y,x,ρ',F',r1,r2,fI,I',jI,ll,lJ,lm,mi,nD⟩⟩
def zR (L:aD5):Nat->aD2->Nat
 |0,_=>0
 |f+1,nm=>match dk L nm with
  |none=>0
  |some d=>if d.back=[] then 0 else zR L f d.back+1
def cf (L:aD5) (nm:aD2):Nat:=zR L 100 nm
def afi {L:aD5} {nm:aD2} {k:Nat} (h:d9 L nm k): ∀f,k<=f->zR L f nm=k:=by
 induction h with
 |gone h=>
  intro f _
  cases f with
  |zero=>rfl
  |succ f=>unfold zR;rw[h]
 |base E G=>
  intro f _
  cases f with
  |zero=>rfl
  |succ f=>unfold zR;rw[E];simp only;rw[vj G]
 |step E G _ bl=>
  intro f hf
  cases f with
  |zero=>omega
  |succ f=>unfold zR;rw[E];simp only;rw[mu G,bl f az7]
def qU {L:aD5} {nm:aD2} {k:Nat} (h:d9 L nm k) (Z:k<=100):cf L nm=k:=afi h 100 Z
structure cc (z R:Nat) (L:aD5):Prop extends mZ z R L where
 up:KF L
 FH: ∀d,d∈L->gN d.nm=true
def Cr {s:aD2} (h:gN s=true):1<=s.length/\s.length<=15:=by unfold gN at h;simp only[ao8] at h;exact⟨gd h.1.1,gd h.1.2⟩
section
variable {z R:Nat} {L:aD5}
def cc.KU (h:cc z R L): ∀d,d∈L->d.nm.length<=100000:=fun d H=>by
 have:=Cr (h.FH d H);omega
def cc.bY (h:cc z R L) (nm:aD2):d9 L nm (cf L nm)/\cf L nm<=8:=by
 cases e:dk L nm with
 |none=>
  have:=d9.gone e;rw[qU this az7];exact⟨this,az7⟩
 |some d=>
  obtain⟨k,Z,H⟩:=h.s0 d (cO e).1;rw[(cO e).2] at H;rw[qU H az7];exact⟨H,Z⟩
def cc.nil (E:z<=3) (G:R<=512):cc z R []:=
 ⟨⟨⟨av1,av1,av1⟩,E,G,ap9 _,(fun _ h=>by cases h),(fun _ h=>by cases h),(fun _ h=>by cases h),(fun _ h=>by cases h)⟩,(fun _ h=>by cases h),(fun _ h=>by cases h)⟩
def KV: ∀{L:aD5},(L.map (·.nm)).Nodup-> ∀{d:aL},d∈L->dk L d.nm=some d
 | [],_,d,h=>by cases h
 |e::L,hn,d,h=>by
  rw[aq5] at hn;obtain⟨c4,ec⟩:=as2.1 hn;rw[s1];rcases ap7.1 h with rfl |h
  .rw[vj rfl]
  .rw[mu fun x=>c4 (by rw[x];exact ar8 (f:=fun d:aL=>d.nm) h),KV ec h]
def zS (hn:(L.map (·.nm)).Nodup) {nm:aD2} {d:aL} (h:dk L nm=some d) (ao:d.cQ=none):dg L nm d.im none=L:=by
 unfold dg;refine(ar9 fun e U=>?_).trans (List.map_id' L);unfold hU
 split
 .rename_i c;have:=KV hn U;rw[c,h] at this;injection this with this
  subst this;rw[<-ao]
 .rfl
def cc.dg (h:cc z R L) {nm:aD2} {bN:aL} (au:dk L nm=some bN) {im:bA} (ax:h8 bN.im im):cc z R (dg L nm im none):=by
 refine⟨h.tomZ.dg au ax none,fun d H=>?_,fun d H=>?_⟩
 .obtain⟨e,U,rfl⟩:=ar6.1 H;unfold hU
  split
  .rfl
  .exact h.up e U
 .obtain⟨e,U,rfl⟩:=ar6.1 H;rw[zM];exact h.FH e U
end
structure m0 where
 e:Int
 L:List aL
def fu (z:Nat) (L:aD5) (nm:aD2) (a:Int) (bs:aD2):m0:=match dk L nm with
 |none=>⟨140,L⟩
 |some d=>if bs.length % 16≠0 then⟨1,L⟩ else if dY d.im a ((bs.length/16:Nat):Int)≠0 then⟨dY d.im a ((bs.length/16:Nat):Int),L⟩ else
  ⟨zz d.im a.toNat (bs.length/16),dg L nm (vC d.im a.toNat (bs.length/16) bs (g9 z L nm (cf L nm))) none⟩
def j4 (z:Nat) (L:aD5) (nm:aD2) (a l:Int):m0:=match dk L nm with
 |none=>⟨140,L⟩
 |some d=>if dY d.im a l≠0 then⟨dY d.im a l,L⟩ else
  ⟨zC d.im a.toNat l.toNat,dg L nm (vD d.im a.toNat l.toNat (g9 z L nm (cf L nm))) none⟩
def j5 (L:aD5) (nm:aD2) (a l:Int):m0:=match dk L nm with
 |none=>⟨140,L⟩
 |some d=>if dY d.im a l≠0 then⟨dY d.im a l,L⟩ else⟨0,dg L nm (zB d.im a.toNat l.toNat) none⟩
def s3 {s:bA} {a l:Int} (h:dY s a l=0):a=((a.toNat:Nat):Int)/\l=((l.toNat:Nat):Int):=by
 unfold dY at h
 split at h
 .cases h
 .split at h
  .cases h
  .omega
section
variable {z R:Nat} {L:aD5}
def afj (h:cc z R L) (nm:aD2) (a l:Int):cc z R (j5 L nm a l).L:=by
 unfold j5
 cases au:dk L nm with
 |none=>exact h
 |some d=>
  simp only
  split
  .exact h
  .rename_i G;have G:dY d.im a l=0:=at0 G;obtain⟨af,al⟩:=s3 G;rw[af,al] at G;exact h.dg au (zA (h.fQ d (cO au).1).1 (oz G) _ (ao9 _)).en
def RS (h:cc z R L) {nm:aD2} {bN:aL} (au:dk L nm=some bN) (bE:Nat->Nat):Kh bN.im (rU z R L nm bN.am bE) (bE 8005) (bE 8006) (g9 z L nm (cf L nm)):=fun s' ax c J aO=>by
 have H:=h.bY nm;exact afa z R L h.tomZ nm bN au (cf L nm) H.1 az7 s' ax bE c J aO
def KW (h:cc z R L) (nm:aD2) (a:Int) (bs:aD2) (fG:bs.length<=1000000000):
  Fn prog 68 [ap 1001,bS nm,ab a,b0 .u8 bs] (bM z R L) [] (ab (fu z L nm a bs).e) (bM z R (fu z L nm a bs).L):=by
 unfold fu
 cases au:dk L nm with
 |none=>exact RP z R L L nm a bs 140 (KL z R L nm au _ _ _)
 |some d=>
  have ao:=h.up d (cO au).1;have ai:=(h.fQ d (cO au).1).1
  have key: ∀(r:Int) (s':bA),(∀bE:Nat->Nat,Fn prog 126 [ap 1001,ab a,b0 .u8 bs,mW (bE 8005) (bE 8006)] (fP d.im (rU z R L nm d.am bE)) [] (ab r) (fP s' (rU z R L nm d.am bE)))->
    Fn prog 68 [ap 1001,bS nm,ab a,b0 .u8 bs] (bM z R L) [] (ab r) (bM z R (dg L nm s' none)):=fun r s' aG=>
   RP z R L _ nm a bs r (KT z R L _ h.toir nm d au _ r _ _ (aff z R L h.toir nm d au ao a bs r s' aG))
  simp only
  split
  .rename_i E;have:=key 1 d.im fun bE=>adt d.im _ _ _ a bs E fG
   rwa[zS h.gE au ao] at this
  .rename_i E;have E:bs.length=16*(bs.length/16):=aA5
   split
   .rename_i G;have:=key _ d.im fun bE=>adu d.im _ _ _ ai a _ bs E az7 G
    rwa[zS h.gE au ao] at this
   .rename_i G;have G:dY d.im a ((bs.length/16:Nat):Int)=0:=at0 G;have e:=(s3 G).1;have ag:=G;rw[e] at ag;refine key _ _ fun bE=>?_
    have:=adI d.im _ _ _ ai a.toNat _ bs E ag _ (RS h au bE)
    rwa[<-e] at this
def afk (h:cc z R L) (nm:aD2) (a l:Int):
  Fn prog 70 [ap 1001,bS nm,ab a,ab l] (bM z R L) [] (ab (j4 z L nm a l).e) (bM z R (j4 z L nm a l).L):=by
 unfold j4
 cases au:dk L nm with
 |none=>exact RQ z R L L nm a l 140 (KL z R L nm au _ _ _)
 |some d=>
  have ao:=h.up d (cO au).1;have ai:=(h.fQ d (cO au).1).1
  have key: ∀(r:Int) (s':bA),(∀bE:Nat->Nat,Fn prog 128 [ap 1001,ab a,ab l,mW (bE 8005) (bE 8006)] (fP d.im (rU z R L nm d.am bE)) [] (ab r) (fP s' (rU z R L nm d.am bE)))->
    Fn prog 70 [ap 1001,bS nm,ab a,ab l] (bM z R L) [] (ab r) (bM z R (dg L nm s' none)):=fun r s' aG=>
   RQ z R L _ nm a l r (KT z R L _ h.toir nm d au _ r _ _ (afg z R L h.toir nm d au ao a l r s' aG))
  simp only
  split
  .rename_i G;have:=key _ d.im fun bE=>adO d.im _ _ _ ai a l G
   rwa[zS h.gE au ao] at this
  .rename_i G;have G:dY d.im a l=0:=at0 G;obtain⟨af,al⟩:=s3 G;have ag:=G;rw[af,al] at ag;refine key _ _ fun bE=>?_
   have:=adM d.im _ _ _ ai a.toNat l.toNat ag _ (RS h au bE)
   rwa[<-af,<-al] at this
def afl (h:cc z R L) (nm:aD2) (a l:Int):
  Fn prog 72 [ap 1001,bS nm,ab a,ab l] (bM z R L) [] (ab (j5 L nm a l).e) (bM z R (j5 L nm a l).L):=by
 unfold j5
 cases au:dk L nm with
 |none=>exact RR z R L L nm a l 140 (KL z R L nm au _ _ _)
 |some d=>
  have ao:=h.up d (cO au).1;have ai:=(h.fQ d (cO au).1).1
  have key: ∀(r:Int) (s':bA),Fn prog 130 [ap 1001,ab a,ab l] (c8 d.im) [] (ab r) (c8 s')->
    Fn prog 72 [ap 1001,bS nm,ab a,ab l] (bM z R L) [] (ab r) (bM z R (dg L nm s' none)):=fun r s' aG=>
   RR z R L _ nm a l r (KT z R L _ h.toir nm d au _ r _ _ (afh z R L h.toir nm d au ao a l r s' aG))
  simp only
  split
  .rename_i G;have:=key _ d.im (adw d.im ai a l G)
   rwa[zS h.gE au ao] at this
  .rename_i G;have G:dY d.im a l=0:=at0 G;obtain⟨af,al⟩:=s3 G;have ag:=G;rw[af,al] at ag;have:=adK d.im ai a.toNat l.toNat ag;rw[<-af,<-al] at this;exact key _ _ this
def rV (z:Nat) (L:aD5) (nm:aD2) (a l:Int):aD2×Int:=match dk L nm with
 |none=>([],140)
 |some d=>if dY d.im a l=0 then(jw z L nm (cf L nm) a.toNat l.toNat,0) else([],dY d.im a l)
def afm (h:cc z R L) (nm:aD2) (a l:Int):
  Fn prog 57 [ap 1001,bS nm,ab a,ab l] (bM z R L) [] (.cm [.one (.d (.cr .u8 (rV z L nm a l).1)),dJ (rV z L nm a l).2]) (bM z R L):=by
 unfold rV
 cases au:dk L nm with
 |none=>exact(aeh z R L nm au a l).res aE
 |some d=>
  simp only
  split
  .rename_i G;obtain⟨af,al⟩:=s3 G;have ag:=G;rw[af,al] at ag;have H:=h.bY nm;have:=aeg z R L h.tomZ nm d au (cf L nm) H.1 az7 a.toNat l.toNat ag
   rwa[<-af,<-al] at this
  .rename_i G;exact(aei z R L h.tomZ nm d au a l G).res aE
def e7 (L:aD5) (nm:aD2):aD2×Int:=match dk L nm with
 |none=>([],140)
 |some d=>(d.back,0)
def FI (h:cc z R L) (nm:aD2):Fn prog 134 [ap 1001,bS nm] (bM z R L) [] (.cm [.one (.d (.str (e7 L nm).1)),dJ (e7 L nm).2]) (bM z R L):=by
 unfold e7
 cases au:dk L nm with
 |none=>exact adW z R L nm au
 |some d=>exact adV z R L h.toir nm d au
def afn (h:cc z R L):Fn prog 12 [ap 1001] (bM z R L) [] (b0 .str (kx L)) (bM z R L):=Kw z R L h.toir h.KU (by have:=h.len;omega)
def RT (h:cc z R L) (nm:aD2):Fn prog 135 [ap 1001,bS nm] (bM z R L) [] (b0 .str (qT L nm)) (bM z R L):=aes z R L h.toir h.KU (by have:=h.len;omega) nm
def h0 (z R:Nat) (L:aD5) (nm:aD2) (size:Int) (back:aD2) (p:aF8):m0:=
 if(gN nm&&lM z size R)=false then⟨1,L⟩ else if(dk L nm).isSome=true\/16<=L.length then⟨143,L⟩ else if(decide (back=[])||(dk L back).isSome)=false then⟨140,L⟩
 else if back≠[]/\8 < cf L back+1 then⟨142,L⟩ else⟨0,ky L nm back p.1 p.2 (f' z size.toNat R)⟩
def afo (L M:aD5) (nm:aD2):dk (L++M) nm=(dk L nm).or (dk M nm):=by unfold dk;rw[List.find?_append]
def xI {nm back:aD2} {ad am:Nat} {im:bA} (n:aD2):dk (ky L nm back ad am im) n=(dk L n).or (if nm=n then some ⟨nm,back,ad,am,im,none⟩ else none):=by show dk (L++_) n=_;rw[afo,s1];rfl
def RU {L':aD5} (Z: ∀n d,dk L n=some d-> ∃cY,dk L' n=some cY/\cY.back=d.back) (g8: ∀d,d∈L->d.back≠[]-> ∃e,dk L d.back=some e) {n:aD2} {k:Nat} (h:d9 L n k):(∃d,dk L n=some d)->d9 L' n k:=by
 induction h with
 |gone h=>rintro⟨d,H⟩;rw[h] at H;cases H
 |base E G=>
  intro _;obtain⟨cY,af,al⟩:=Z _ _ E;exact .base af (by rw[al];exact G)
 |step E G ag bl=>
  intro _;obtain⟨cY,af,al⟩:=Z _ _ E;exact .step af (by rw[al];exact G) (by rw[al];exact bl (g8 _ (cO E).1 G))
def afp {z size R:Int} (h:lM z size R=true):(0<=size/\size<=256)/\(0<=R/\R<=512)/\0<=z/\z<=3:=by unfold lM at h;simp only[ao8,as1] at h;omega
def cc.add (h:cc z R L) {nm back:aD2} {size ad am:Nat} (fc:ir (ky L nm back ad am (f' z size R))) (ax:size<=256) (hn:gN nm=true) (au:dk L nm=none) (o8:L.length < 16) (O:back=[]\/(dk L back).isSome=true/\cf L back+1<=8):cc z R (ky L nm back ad am (f' z size R)):=by
 have KX: ∀n d,dk L n=some d->dk (ky L nm back ad am (f' z size R)) n=some d:=fun n d H=>by rw[xI,H];rfl
 have vJ:dk (ky L nm back ad am (f' z size R)) nm=some ⟨nm,back,ad,am,f' z size R,none⟩:=by rw[xI,au,vj rfl];rfl
 have oS: ∀d,d∈ky L nm back ad am (f' z size R)->d∈L\/d=⟨nm,back,ad,am,f' z size R,none⟩:=fun d H=>by
  rcases ar7.1 H with H |H
  .exact .inl H
  .exact .inr (aq6.1 H)
 have mf: ∀n k,(∃d,dk L n=some d)->d9 L n k->d9 (ky L nm back ad am (f' z size R)) n k:=fun n k H Z=>RU (fun n d H=>⟨d,KX n d H,rfl⟩) h.h9 Z H
 refine⟨⟨fc,h.b3,h.vE,by rw[ap3];exact o8,fun d H=>?_,fun d H ix=>?_,fun d H=>?_,fun d H=>?_⟩,fun d H=>?_,fun d H=>?_⟩
 .rcases oS d H with H |rfl
  .exact h.fQ d H
  .exact⟨adP h.b3 ax h.vE,rfl,aq7 ..⟩
 .rcases oS d H with H |rfl
  .obtain⟨e,U⟩:=h.h9 d H ix;exact⟨e,KX _ _ U⟩
  .rcases O with O |⟨O,_⟩
   .exact ap0 O ix
   .obtain⟨e,U⟩:=as5.1 O;exact⟨e,KX _ _ U⟩
 .rcases oS d H with H |rfl
  .exact h.ne d H
  .intro e;have:=(Cr hn).1;have e:nm=[]:=e;rw[e] at this;exact ap0 this az8
 .rcases oS d H with H |rfl
  .obtain⟨k,Z,pb⟩:=h.s0 d H;exact⟨k,Z,mf _ _ ⟨d,KV h.gE H⟩ pb⟩
  .by_cases KY:back=[]
   .exact⟨0,ap9 _,.base vJ KY⟩
   .rcases O with O |⟨O,afq⟩
    .exact ap0 O KY
    .exact⟨cf L back+1,afq,.step vJ KY (mf _ _ (as5.1 O) (h.bY back).1)⟩
 .rcases oS d H with H |rfl
  .exact h.up d H
  .rfl
 .rcases oS d H with H |rfl
  .exact h.FH d H
  .exact hn
def afr (h:cc z R L) (nm:aD2) (size:Int) (back:aD2) (ak:nm.length<=4294967296):
  cz prog 62 [ap 1001,bS nm,ab size,bS back] (bM z R L) [] (X:={p:Nat×Nat//cc z R (h0 z R L nm size back p).L}) (fun p=>ab (h0 z R L nm size back p.1).e) (fun p=>bM z R (h0 z R L nm size back p.1).L):=by
 have FJ: ∀e:Int,(∀p,h0 z R L nm size back p=⟨e,L⟩)->Fn prog 62 [ap 1001,bS nm,ab size,bS back] (bM z R L) [] (ab e) (bM z R L)->
   cz prog 62 [ap 1001,bS nm,ab size,bS back] (bM z R L) [] (X:={p:Nat×Nat//cc z R (h0 z R L nm size back p).L}) (fun p=>ab (h0 z R L nm size back p.1).e) (fun p=>bM z R (h0 z R L nm size back p.1).L):=fun e U hf=>
  hf.x.to (fun _=>⟨(0,0),by rw[U];exact h⟩) (fun _=>by rw[U]) (fun _=>by rw[U])
 by_cases E:(gN nm&&lM z size R)=false
 .exact FJ 1 (fun p=>vj E) (aeN z R size L nm back ak E)
 have sB:gN nm=true/\lM z size R=true:=by
  rw[Bool.not_eq_false,ao8] at E;exact E
 obtain⟨⟨b7,kZ⟩,_⟩:=afp sB.2;obtain⟨eg,rfl⟩: ∃n:Nat,size=(n:Int):=⟨size.toNat,az7⟩;have ax:eg<=256:=aA5
 by_cases G:(dk L nm).isSome=true\/16<=L.length
 .exact FJ 143 (fun p=>(mu E).trans (vj G)) (aeO z eg R h.b3 ax h.vE L nm back ak sB.1 G)
 have au:dk L nm=none:=by
  cases e:dk L nm with
  |none=>rfl
  |some d=>exact ap0 (.inl (by rw[e];rfl)) G
 have o8:L.length < 16:=by
  rcases ax6 L.length 16 with bf |bf
  .exact bf
  .exact ap0 (.inr bf) G
 by_cases ag:(decide (back=[])||(dk L back).isSome)=false
 .exact FJ 140 (fun p=>(mu E).trans ((mu G).trans (vj ag))) (aeP z eg R h.b3 ax h.vE L nm back ak sB.1 au o8 ag)
 have H:=h.bY back
 by_cases aS:back≠[]/\8 < cf L back+1
 .have O:(dk L back).isSome=true:=by
   rw[Bool.not_eq_false,au3] at ag;exact ag.resolve_left fun e=>aS.1 (gd e)
  exact FJ 142 (fun p=>(mu E).trans ((mu G).trans ((mu ag).trans (vj aS)))) (aeQ z eg R h.b3 ax h.vE L h.toir nm back ak sB.1 au o8 aS.1 O _ H.1 az7 aS.2)
 have O:back=[]\/(dk L back).isSome=true/\cf L back+1<=8:=by
  by_cases e:back=[]
  .exact .inl e
  .rw[Bool.not_eq_false,au3] at ag;have iw: ¬8 < cf L back+1:=fun x=>aS ⟨e,x⟩
   exact .inr ⟨ag.resolve_left fun x=>e (gd x),az7⟩
 have a2: ∀p,h0 z R L nm (eg:Int) back p=⟨0,ky L nm back p.1 p.2 (f' z eg R)⟩:=fun p=>(mu E).trans ((mu G).trans ((mu ag).trans (mu aS)))
 exact(aeL z eg R h.b3 ax h.vE L h.toir h.up nm back ak sB.1 au o8 (cf L back) (O.imp id fun x=>⟨x.1,H.1,x.2⟩)).to (fun p=>⟨p.1,by rw[a2];exact h.add p.2 ax sB.1 au o8 O⟩) (fun p=>by rw[a2]) (fun p=>by rw[a2])
def hV (L:aD5) (nm back:aD2):m0:=
 if(dk L nm).isSome=false\/(decide (back=[])||(dk L back).isSome)=false then⟨140,L⟩ else if nm=back\/nm∈c6 L (cf L back) back then⟨141,L⟩
 else if∀n∈kx L,cf (dZ L nm back) n<=8 then⟨0,dZ L nm back⟩ else⟨142,L⟩
def vK {nm back:aD2} {d:aL} (h:d.nm≠nm):eE nm back d=d:=by unfold eE;rw[mu h]
def FK {nm back:aD2} {d:aL} (h:d.nm=nm):(eE nm back d).back=back:=by unfold eE;rw[vj h]
def KZ {nm back:aD2} {n:aD2} {k:Nat} (h:d9 L n k):n≠nm->nm∉c6 L k n->d9 (dZ L nm back) n k:=by
 induction h with
 |gone h=>intro _ _;exact .gone (by rw[lQ,h];rfl)
 | @base n d E G=>
  intro a6 _;have e:=(cO E).2;exact .base (d:=d) (by rw[lQ,E];show some (eE nm back d)=_;rw[vK (by rw[e];exact a6)]) G
 | @step n d k E G ag bl=>
  intro a6 O;have e:=(cO E).2;unfold c6 at O;rw[E] at O;simp only[ap7,not_or] at O;exact .step (d:=d) (by rw[lQ,E];show some (eE nm back d)=_;rw[vK (by rw[e];exact a6)]) G (bl (fun x=>O.1 x.symm) O.2)
def afs {nm back:aD2} {k:Nat} (cx:d9 L back k) (E:nm≠back) (G:nm∉c6 L k back) {n:aD2} {j:Nat} (h:d9 L n j): ∃i,i<=j+k+1/\d9 (dZ L nm back) n i:=by
 have rO:d9 (dZ L nm back) back k:=KZ cx (au7 E) G
 have vJ: ∀d,dk L nm=some d-> ∃i,i<=k+1/\d9 (dZ L nm back) nm i:=fun d H=>by
  have e:dk (dZ L nm back) nm=some (eE nm back d):=by rw[lQ,H];rfl
  have um:=FK (back:=back) (cO H).2
  by_cases O:back=[]
  .exact⟨0,ap9 _,.base e (by rw[um];exact O)⟩
  .exact⟨k+1,ao9 _,.step e (by rw[um];exact O) (by rw[um];exact rO)⟩
 induction h with
 |gone h=>exact⟨0,ap9 _,.gone (by rw[lQ,h];rfl)⟩
 | @base n d g1 g2=>
  have e:=(cO g1).2
  by_cases c:n=nm
  .subst c;obtain⟨i,aG,H⟩:=vJ d g1;exact⟨i,az7,H⟩
  .exact⟨0,ap9 _,.base (d:=d) (by rw[lQ,g1];show some (eE nm back d)=_;rw[vK (by rw[e];exact c)]) g2⟩
 | @step n d j g1 g2 cX bl=>
  have e:=(cO g1).2
  by_cases c:n=nm
  .subst c;obtain⟨i,aG,H⟩:=vJ d g1;exact⟨i,az7,H⟩
  .obtain⟨i,aG,H⟩:=bl;exact⟨i+1,az7,.step (d:=d) (by rw[lQ,g1];show some (eE nm back d)=_;rw[vK (by rw[e];exact c)]) g2 H⟩
def cc.RV (h:cc z R L) {nm back:aD2} (E:nm≠back) (G:nm∉c6 L (cf L back) back) (n:aD2):d9 (dZ L nm back) n (cf (dZ L nm back) n)/\cf (dZ L nm back) n<=20:=by have O:=h.bY back;have hn:=h.bY n;obtain⟨i,aG,H⟩:=afs O.1 E G hn.1;rw[qU H az7];exact⟨H,az7⟩
def RW {nm back:aD2} (h: ¬((dk L nm).isSome=false\/(decide (back=[])||(dk L back).isSome)=false)):(∃d,dk L nm=some d)/\(decide (back=[])||(dk L back).isSome)=true:=by
 constructor
 .cases e:dk L nm with
  |none=>exact ap0 (.inl (by rw[e];rfl)) h
  |some d=>exact⟨d,rfl⟩
 .cases e:(decide (back=[])||(dk L back).isSome) with
  |false=>exact ap0 (.inr e) h
  |true=>rfl
def cc.set (h:cc z R L) {nm back:aD2} (Z:(decide (back=[])||(dk L back).isSome)=true) (E:nm≠back) (G:nm∉c6 L (cf L back) back) (iw: ∀n∈kx L,cf (dZ L nm back) n<=8):cc z R (dZ L nm back):=by
 have key: ∀d,d∈dZ L nm back-> ∃e,e∈L/\eE nm back e=d:=fun d H=>by
  obtain⟨e,U,rfl⟩:=ar6.1 H;exact⟨e,U,rfl⟩
 refine⟨⟨h.toir.dZ nm back,h.b3,h.vE,by unfold dZ;rw[aq3];exact h.len,fun d H=>?_,fun d H O=>?_,fun d H=>?_,fun d H=>?_⟩,fun d H=>?_,fun d H=>?_⟩
 .obtain⟨e,U,rfl⟩:=key d H;rw[Cn];exact h.fQ e U
 .obtain⟨e,U,rfl⟩:=key d H
  have h9: ∃x,dk L (eE nm back e).back=some x:=by
   by_cases c:e.nm=nm
   .rw[FK c] at O⊢;rw[au3] at Z;exact as5.1 (Z.resolve_left fun x=>O (gd x))
   .rw[vK c] at O⊢;exact h.h9 e U O
  obtain⟨x,hx⟩:=h9;exact⟨eE nm back x,by rw[lQ,hx];rfl⟩
 .obtain⟨e,U,rfl⟩:=key d H;rw[xF];exact h.ne e U
 .obtain⟨e,U,rfl⟩:=key d H;rw[xF]
  have aD:e.nm∈kx L:=by
   unfold kx vF;rw[List.mem_mergeSort,Ci];exact ar8 U
  exact⟨_,iw _ aD,(h.RV E G e.nm).1⟩
 .obtain⟨e,U,rfl⟩:=key d H;rw[RA];exact h.up e U
 .obtain⟨e,U,rfl⟩:=key d H;rw[xF];exact h.FH e U
def K0 (h:cc z R L) (nm back:aD2):cc z R (hV L nm back).L:=by
 unfold hV
 split
 .exact h
 .rename_i E
  split
  .exact h
  .rename_i G
   split
   .rename_i ag;exact h.set (RW E).2 (fun e=>G (.inl e)) (fun e=>G (.inr e)) ag
   .exact h
def aft (h:cc z R L) (nm back:aD2):Fn prog 334 [ap 1001,bS nm,bS back] (bM z R L) [] (ab (hV L nm back).e) (bM z R (hV L nm back).L):=by
 have H:=h.bY back
 by_cases E:(dk L nm).isSome=false\/(decide (back=[])||(dk L back).isSome)=false
 .rw[show hV L nm back=⟨140,L⟩ from vj E];exact aeS z R L nm back E
 obtain⟨⟨d,jJ⟩,Z⟩:=RW E
 by_cases G:nm=back\/nm∈c6 L (cf L back) back
 .rw[show hV L nm back=⟨141,L⟩ from(mu E).trans (vj G)];exact aeT z R L h.toir nm back d jJ Z _ H.1 az7 G
 have eu:=fun n=>h.RV (back:=back) (fun e=>G (.inl e)) (fun e=>G (.inr e)) n
 refine aeZ z R L h.toir h.KU (by have:=h.len;omega) nm back d jJ Z _ H.1 az7 G (fun n=>cf (dZ L nm back) n) (fun n _=>⟨(eu n).1,by have:=(eu n).2;omega⟩) _ _ (fun bf=>?_) (fun bf=>?_)
 .rw[show hV L nm back=⟨0,dZ L nm back⟩ from(mu E).trans ((mu G).trans (vj bf))];exact⟨rfl,rfl⟩
 .have fx: ¬ ∀n∈kx L,cf (dZ L nm back) n<=8:=fun dA=>by
   obtain⟨n,hn,iw⟩:=bf;have:=dA n hn;omega
  rw[show hV L nm back=⟨142,L⟩ from(mu E).trans ((mu G).trans (mu fx))];exact⟨rfl,rfl⟩
end
end
section
section
variable {z R:Nat} {L:aD5}
def gm (z:Nat) (L:aD5) (nm:aD2) (k:Int):aD2:=match dk L nm with
 |none=>[]
 |some d=>if 0<=k/\k < (d.im.t.length:Nat) then fe z L nm (cf L nm) k.toNat else[]
def K1 (h:cc z R L) (nm:aD2) (k:Int):Fn prog 114 [ap 1001,bS nm,ab k] (bM z R L) [] (b0 .u8 (gm z L nm k)) (bM z R L):=by
 unfold gm
 cases au:dk L nm with
 |none=>
  have hx:(bV (aI:=.str) (aK:=.aM) (da L) nm).getD (cM .aM)=none:=aC5
  simp only;refine aU [2,4] func114 ?_;refine bx [4] (bu) ?_;exact⟨fun eb O=>ap0 (show(bV (aI:=.str) (aK:=.aM) (da L) nm).getD (cM .aM)=some eb from O) aB4,fun _=>bd⟩
 |some bN=>
  simp only
  split
  .rename_i Z;have H:=h.bY nm;have:=Kq z R L h.tomZ nm bN au (cf L nm) H.1 az7 k.toNat az7
   rwa[show((k.toNat:Nat):Int)=k by omega] at this
  .rename_i Z;obtain⟨pW,hq,hr⟩:=k8 xz;have ls:=h.toir.D (cO au).1;have fl:=h.toir.M (cO au).1;have hx:(bV (aI:=.str) (aK:=.aM) (da L) nm).getD (cM .aM)=some bN.ad:=aC5
   refine aU [2,4] func114 ?_;refine bx [4] (bu) ?_;refine⟨fun eb O=>⟨fun _=>?_,fun E=>?_⟩,fun O=>ap0 (show(bV (aI:=.str) (aK:=.aM) (da L) nm).getD (cM .aM)=none from O) aB4⟩
   .exact bd
   have E: ¬k < 0:=oj E;refine bo (fun N=>kr (b:=bN.ad) rfl aC3 N) ?_;refine bo (fun N=>kO rfl underlying106 rfl rfl hq aB3 rfl N) ?_;refine bo (ml (q:=1003) rfl underlying46 rfl rfl rfl ls rfl) ?_;refine az (hG (mV bN.im) fl rfl rfl rfl rfl) ⟨fun _=>?_,fun G=>?_⟩
   .exact bd
   .exfalso;have G: ¬((bN.im.t.length:Nat):Int)<=k:=oj G;omega
end
end
section
section
variable {z R:Nat} {L:aD5}
def K2 (h:cc z R L) {nm:aD2} {k:Nat} (H:d9 L nm k) (au: ∃d,dk L nm=some d): ∀j,j<=k-> ∃e,dk L (eD L j nm)=some e
 |0,_=>au
 |j+1,V=>by
  obtain⟨e,U⟩:=K2 h H au j az7;have iQ:=Ft H j az7;rw[zE,U];simp only;generalize aD:k - j=m at iQ
  cases iQ with
  |gone aV=>rw[U] at aV;cases aV
  |base _ _=>omega
  |step E G _=>
   rw[U] at E;injection E with E
   subst E;exact h.h9 e (cO U).1 G
def K3 (h:cc z R L) {nm:aD2} {k:Nat} (H:d9 L nm k) (au: ∃d,dk L nm=some d):eD L (k+1) nm=[]:=by
 obtain⟨e,U⟩:=K2 h H au k (ao9 _);have iQ:=Ft H k (ao9 _);rw[Nat.sub_self] at iQ;rw[zE,U];simp only
 cases iQ with
 |gone aV=>rw[U] at aV;cases aV
 |base E G=>
  rw[U] at E;injection E with E
  subst E;exact G
def Cs (h:cc z R L) {n:aD2} (hn: ∃e,dk L n=some e):n≠[]:=by obtain⟨e,U⟩:=hn;rw[<-(cO U).2];exact h.ne e (cO U).1
end
def RX {z:Nat} {L L':aD5} {nm uq:aD2} {cK ur N:Nat} (h: ∀c,c < N->fe z L nm cK c=fe z L' uq ur c): ∀n,n<=N*2 ^z->jw z L nm cK 0 n=jw z L' uq ur 0 n
 |0,_=>rfl
 |n+1,hn=>by
  have bl:=RX h n az7;have ao:0 < 2 ^z:=Nat.two_pow_pos z;have br:n/2 ^z < N:=(aw8 ao).2 az7;show jw z L nm cK 0 n++ji z L nm cK (0+n)=jw z L' uq ur 0 n++ji z L' uq ur (0+n);rw[bl,at5];unfold ji;rw[h _ br]
section
variable {z:Nat} {L:aD5} {c:Nat}
def K4: ∀(ns:aF4) (i j:Nat),(g7 z L c ns i).1=(g7 z L c ns j).1
 | [],_,_=>rfl
 |n::ns,i,j=>by
  unfold g7
  cases dk L n with
  |none=>rfl
  |some d=>
   simp only
   split
   .rfl
   .exact K4 ns _ _
def FL {n:aD2} {ns:aF4} {i:Nat} {d:aL} (H:dk L n=some d) (h:c < d.im.t.length/\(d.im.t.getD c b7).1≠0):g7 z L c (n::ns) i=(ee d.im c none,i+1):=by unfold g7;rw[H];simp only;rw[vj h]
def RY {n:aD2} {ns:aF4} {i:Nat} {d:aL} (H:dk L n=some d) (h: ¬(c < d.im.t.length/\(d.im.t.getD c b7).1≠0)):g7 z L c (n::ns) i=g7 z L c ns (i+1):=by
 conv=>lhs;unfold g7
 rw[H];simp only;rw[mu h]
def xJ {nm:aD2} {cK:Nat} {d:aL} (H:dk L nm=some d) (h: ¬(c < d.im.t.length/\(d.im.t.getD c b7).1≠0)):fe z L nm cK c=g9 z L nm cK c:=by unfold fe g9;rw[RY H h]
def K5 {nm:aD2} {cK:Nat} {d:aL} (H:dk L nm=some d):g9 z L nm (cK+1) c=fe z L d.back cK c:=by
 unfold g9 fe
 rw[show c6 L (cK+1) nm=d.back::c6 L cK d.back by
  conv=>lhs;unfold c6
  rw[H]]
 exact K4 _ _ _
end
section
variable {z R:Nat} {L:aD5}
def cc.K6 (h:cc z R L) {nm:aD2} (au: ∃d,dk L nm=some d): ∀n,n∈nm::c6 L (cf L nm) nm-> ∃e,dk L n=some e:=fun n hn=>by
 rcases ap7.1 hn with rfl |hn
 .exact au
 .exact Km h.tomZ (h.bY nm).1 n hn
def K7 (h:cc z R L) {nm:aD2} {d:aL} (H:dk L nm=some d) (O:d.back≠[]):cf L nm=cf L d.back+1:=by have E:=(h.bY d.back);exact qU (.step H O E.1) az7
end
def afu {s:bA} (aq:e6 s) {c:Nat} (J:c < s.t.length):(zB s 0 (eU s)).t[c]? =some b7:=by
 have cV:=nJ aq.z
 have hw:16*eU s=s.t.length*aH s:=by
  unfold eU aH;rw[ay3]
 have ao:0 < aH s:=by have:=sU aq.z;omega
 have aD:(c+1)*aH s<=s.t.length*aH s:=av5 _ J;rw[aw7] at aD;have Z:c < cD (aH s) 0 (eU s):=(sV cV).1 ⟨az7,by rw[Nat.mul_zero,Nat.zero_div,at5,at5];omega⟩;have H:=(zA aq (a:=0) (l:=eU s) az7 _ (ao9 _)).done c Z
 have e:(bg (aH s) 0 (eU s) c).b - (bg (aH s) 0 (eU s) c).a=aH s:=by
  show min (16*(0+eU s) - (16*0/aH s+c)*aH s) (aH s) - (16*0 - (16*0/aH s+c)*aH s)=aH s;rw[Nat.mul_zero,Nat.zero_div,at5,at5,Nat.zero_sub];omega
 rw[vj e,Nat.mul_zero,Nat.zero_div,at5] at H;exact H
def RZ {s:bA} (aq:e6 s) {n:Nat} (hn:n<=eU s):dY s 0 (n:Int)=0:=by unfold dY;rw[mu az7,mu az7]
def afv {z R:Nat} {L:aD5} (h:cc z R L) {nm:aD2} {d:aL} (H:dk L nm=some d) {n:Nat} (hn:n<=eU d.im):rV z L nm 0 (n:Int)=(jw z L nm (cf L nm) 0 n,0):=by unfold rV;rw[H];simp only;rw[vj (RZ (h.fQ d (cO H).1).1 hn)];rfl
def Ct {z R:Nat} {L:aD5} (h:cc z R L) {nm:aD2} {d:aL} (H:dk L nm=some d):eU d.im=d.im.t.length*2 ^z:=by unfold eU;rw[(h.fQ d (cO H).1).2.1]
def iD (L:aD5) (t:aD2) (L':aD5):Prop:=L'=L\/ ∃d im,dk L t=some d/\h8 d.im im/\L'=dg L t im none
structure K8 (L:aD5) (t n:aD2):Prop where
 ne:n≠t
 R0:t∉c6 L (cf L n) n
section
variable {z R:Nat} {L L':aD5} {t n:aD2}
def vL (h:cc z R L) (nm:aD2) (a:Int) (bs:aD2):iD L nm (fu z L nm a bs).L:=by
 unfold fu
 cases au:dk L nm with
 |none=>exact .inl rfl
 |some d=>
  simp only
  split
  .exact .inl rfl
  .rename_i E
   split
   .exact .inl rfl
   .rename_i G;have G:dY d.im a ((bs.length/16:Nat):Int)=0:=at0 G;have e:=(s3 G).1;rw[e] at G;exact .inr ⟨d,_,au,adJ (h.fQ d (cO au).1).1 az7 G _,rfl⟩
def FM (h:cc z R L) (nm:aD2) (a l:Int):iD L nm (j4 z L nm a l).L:=by
 unfold j4
 cases au:dk L nm with
 |none=>exact .inl rfl
 |some d=>
  simp only
  split
  .exact .inl rfl
  .rename_i G;have G:dY d.im a l=0:=at0 G;obtain⟨af,al⟩:=s3 G;rw[af,al] at G;exact .inr ⟨d,_,au,adN (h.fQ d (cO au).1).1 G _,rfl⟩
def ut (h:cc z R L) (nm:aD2) (a l:Int):iD L nm (j5 L nm a l).L:=by
 unfold j5
 cases au:dk L nm with
 |none=>exact .inl rfl
 |some d=>
  simp only
  split
  .exact .inl rfl
  .rename_i G;have G:dY d.im a l=0:=at0 G;obtain⟨af,al⟩:=s3 G;rw[af,al] at G;exact .inr ⟨d,_,au,(zA (h.fQ d (cO au).1).1 (oz G) _ (ao9 _)).en,rfl⟩
def iD.cs (h:cc z R L) (ak:iD L t L'):cc z R L':=by
 rcases ak with rfl |⟨d,im,au,ax,rfl⟩
 .exact h
 .exact h.dg au ax
def FN (h:cc z R L) (t:aD2) (im:bA) (cQ:Option (Nat->Nat)) (n:aD2):cf (dg L t im cQ) n=cf L n:=by have H:=h.bY n;exact qU (KN t im cQ H.1) az7
def iD.cf (h:cc z R L) (ak:iD L t L') (n:aD2):Go.Proofs.YtgclhiekndohdaaGreat.cf L' n=Go.Proofs.YtgclhiekndohdaaGreat.cf L n:=by
 rcases ak with rfl |⟨d,im,au,ax,rfl⟩
 .rfl
 .exact FN h t im none n
def iD.off (h:cc z R L) (ak:iD L t L') (o:K8 L t n):K8 L' t n/\dk L' n=dk L n/\ ∀c,fe z L' n (Go.Proofs.YtgclhiekndohdaaGreat.cf L' n) c=fe z L n (Go.Proofs.YtgclhiekndohdaaGreat.cf L n) c:=by
 have xK:=ak.cf h n;rcases ak with rfl |⟨d,im,au,ax,rfl⟩
 .exact⟨o,rfl,fun _=>rfl⟩
 .refine⟨⟨o.ne,by rw[xK,zN];exact o.R0⟩,FD o.ne im none,fun c=>?_⟩;rw[xK];unfold fe;rw[zN,FF];intro aD;rcases ap7.1 aD with e |aD
  .exact o.ne e.symm
  .exact o.R0 aD
def K9 (h:cc z R L) {d:aL} (H:dk L t=some d) (O:d.back≠[]):K8 L t d.back:=by
 have E:=(h.bY d.back).1;have G:d9 L t (Go.Proofs.YtgclhiekndohdaaGreat.cf L d.back+1):=.step H O E;refine⟨fun e=>?_,fun aD=>?_⟩
 .rw[e] at E G;have:=zO E G;omega
 .obtain⟨j,V,ag⟩:=KO E t aD;have:=zO ag G;omega
end
end
section
def kA (x:aD2) (j:Nat):aD2:=(x.take (j*16+16)).drop (j*16)
def rW (x:aD2) (j i:Nat):(kA x j)[i]? =if i < 16 then x[j*16+i]? else none:=by
 unfold kA;rw[ay2,au4]
 by_cases h:i < 16
 .rw[vj h,vj az7]
 .rw[mu h,mu az7]
def La {X:aD2} {off n:Nat} {ys:aD2} (E:off+n<=X.length) (G:ys.length=n) (m:Nat):(laid X off n ys)[m]? =if m < off then X[m]? else if m < off+n then ys[m - off]? else X[m]? :=by
 unfold laid;have af:(X.take off).length=off:=aB8
 have al:ys.take n=ys:=au0 az7;rw[al]
 by_cases cy:m < off
 .rw[vj cy,av2,as0 az7,au4,vj cy]
 .rw[mu cy]
  by_cases cu:m < off+n
  .rw[vj cu,av2,as3 az7,af,as0 az7]
  .rw[mu cu,as3 (by rw[ap3];omega),ap3,af,G,ay2]
   congr 1
   omega
def afw {X bs:aD2} {t W a l j pa zT Cu:Nat} (nM:X.length=W) (O:bs.length=16*l) (V:j*16+16<=W) (af:pa=16*a - 16*t) (al:zT=min (16*(a+l) - 16*t) W) (bt:Cu=16*t+pa - 16*a) (ao:pa<=zT) (aY:16*t < 16*(a+l)):
  kA (laid X pa (zT - pa) ((bs.take (Cu+zT - pa)).drop Cu)) j=if a<=t+j/\t+j < a+l then kA bs (t+j - a) else kA X j:=by
 have bZ:((bs.take (Cu+zT - pa)).drop Cu).length=zT - pa:=by
  rw[au8,aq0];omega
 refine aw5 fun i=>?_
 rw[rW,La az7 bZ]
 by_cases aG:i < 16
 .rw[vj aG]
  by_cases c:a<=t+j/\t+j < a+l
  .rw[vj c,rW,vj aG,mu az7,vj az7,ay2,au4,vj az7]
   congr 1
   omega
  .rw[mu c,rW,vj aG]
   by_cases cu:j*16+i < pa
   .rw[vj cu]
   .rw[mu cu,mu az7]
 .rw[mu aG]
  split
  .rw[rW,mu aG]
  .rw[rW,mu aG]
def FO (n j:Nat) (h:j*16+16<=n):kA (List.replicate n 0) j=List.replicate 16 0:=by
 unfold kA;rw[List.take_replicate,List.drop_replicate]
 congr 1
 omega
def qV (z:Nat) (L:aD5) (nm:aD2) (cK s:Nat):ji z L nm cK s=kA (fe z L nm cK (s/2 ^z)) (s % 2 ^z):=rfl
def R1 {z:Nat} {L L':aD5} {nm uq:aD2} {cK ur a:Nat}: ∀n,(∀i,i < n->ji z L nm cK (a+i)=ji z L' uq ur (a+i))->jw z L nm cK a n=jw z L' uq ur a n
 |0,_=>rfl
 |n+1,h=>by
  show jw z L nm cK a n++ji z L nm cK (a+n)=jw z L' uq ur a n++ji z L' uq ur (a+n);rw[R1 n fun i aG=>h i az7,h n (Nat.lt_succ_self n)]
section
variable {z R:Nat} {L:aD5} {nm:aD2} {d:aL}
def afx (h:cc z R L) (H:dk L nm=some d) (c:Nat):(g9 z L nm (cf L nm) c).length=16*2 ^z:=Kr h.tomZ c _ _ fun n hn=>h.K6 ⟨d,H⟩ n (ap4 _ hn)
def zU (h:cc z R L) (H:dk L nm=some d):aH d.im=16*2 ^z:=by unfold aH;rw[(h.fQ d (cO H).1).2.1]
def afy {s:bA} {c:Nat} {y:aD2} (h:(s.t.getD c b7).1≠0):ee s c (some y)=ee s c none:=by
 unfold ee;rw[ap2] at h
 cases e:s.t[c]? with
 |none=>rfl
 |some q=>
  rw[e] at h;simp only[av3] at h;simp only
  split
  .rfl
  .first |rfl |(rw[mu h])
def afz {s:bA} {c:Nat} {y:aD2} (J:c < s.t.length) (h:(s.t.getD c b7).1=0) (aC:y.length=aH s):ee s c (some y)=y:=by unfold ee;rw[ap2] at h;rw[ao7 J] at h⊢;simp only[av3] at h;simp only;rw[mu (by rw[h];decide),vj h,vj aC]
def Lb (h:cc z R L) (H:dk L nm=some d) {c:Nat} (J:c < d.im.t.length):fe z L nm (cf L nm) c=ee d.im c (some (g9 z L nm (cf L nm) c)):=by
 by_cases Z:(d.im.t.getD c b7).1=0
 .rw[xJ H (fun bf=>bf.2 Z),afz J Z (by rw[afx h H,zU h H])]
 .rw[afy Z];unfold fe;rw[FL H ⟨J,Z⟩]
def R2 (h:cc z R L) (H:dk L nm=some d) {im:bA} (ax:h8 d.im im) {c:Nat} (J:c < d.im.t.length):fe z (dg L nm im none) nm (cf (dg L nm im none) nm) c=ee im c (some (g9 z L nm (cf L nm) c)):=by
 have h':=h.dg H ax;have c1:=xH H im none;rw[Lb h' c1 (by show c < im.t.length;rw[ax.ez];exact J),FN h nm im none nm];show ee im c (some _)=_
 have e:g9 z (dg L nm im none) nm (cf L nm) c=g9 z L nm (cf L nm) c:=by
  unfold g9;rw[zN,FF _ _ (KP (h.bY nm).1)]
 rw[e]
def R3 (h:cc z R L) (H:dk L nm=some d) {im:bA} (ax:h8 d.im im) {c:Nat} (J: ¬c < d.im.t.length):fe z (dg L nm im none) nm (cf (dg L nm im none) nm) c=fe z L nm (cf L nm) c:=by have c1:=xH H im none;rw[FN h nm im none nm,RH H (h.bY nm).1,mu fun bf=>J (by rw[<-ax.ez];exact bf.1),xJ H fun bf=>J bf.1]
def R4 (h:cc z R L) (H:dk L nm=some d) {c:Nat} (J:c < d.im.t.length) (y:Option aD2):(ee d.im c y).length=16*2 ^z:=by rw[uj (h.fQ d (cO H).1).1 J,zU h H]
end
def zV {W a l:Nat} (cV:xr W) (ak:0 < l) {c:Nat}:(16*a/W<=c/\c < 16*a/W+cD W a l)↔(16*a < (c+1)*W/\c*W < 16*(a+l)):=by
 have ao:0 < W:=by rcases cV with h |h |h |h <;>omega
 have co:16*a/W<=c↔16*a < (c+1)*W:=by
  rw[<-Nat.lt_succ_iff,Nat.succ_eq_add_one,aw8 ao]
 constructor
 .rintro⟨E,G⟩;have:=(sV cV (a:=a) (l:=l) (k:=c - 16*a/W)).2 az7;rw[show 16*a/W+(c - 16*a/W)=c by omega] at this;exact⟨co.1 E,this.2⟩
 .rintro⟨E,G⟩;have E:=co.2 E;refine⟨E,?_⟩;have:=(sV cV (a:=a) (l:=l) (k:=c - 16*a/W)).1 ⟨ak,by rw[show 16*a/W+(c - 16*a/W)=c by omega];exact G⟩;omega
def R5 {X bs:aD2} {b a l c:Nat} (O:b<=3) (nM:X.length=16*2 ^b) (If:bs.length=16*l) (dW:16*a < (c+1)*(16*2 ^b)/\c*(16*2 ^b) < 16*(a+l)) {j:Nat} (V:j < 2 ^b):
  kA (laid X (bg (16*2 ^b) a l (c - 16*a/(16*2 ^b))).a ((bg (16*2 ^b) a l (c - 16*a/(16*2 ^b))).b - (bg (16*2 ^b) a l (c - 16*a/(16*2 ^b))).a) (o3 bs (bg (16*2 ^b) a l (c - 16*a/(16*2 ^b))))) j=
   if a<=c*2 ^b+j/\c*2 ^b+j < a+l then kA bs (c*2 ^b+j - a) else kA X j:=by
 have ao:=iO O;have cV:0 < 16*2 ^b:=aA5
 have J:16*a/(16*2 ^b)<=c:=by
  rw[<-Nat.lt_succ_iff,Nat.succ_eq_add_one,aw8 cV];exact dW.1
 have nz:16*a/(16*2 ^b)+(c - 16*a/(16*2 ^b))=c:=aA5
 have cq:c*(16*2 ^b)=16*(c*2 ^b):=ay3 ..;have aoI:(c+1)*(16*2 ^b)=16*(c*2 ^b)+16*2 ^b:=by rw[aw7,cq]
 unfold o3;refine afw (t:=c*2 ^b) (W:=16*2 ^b) nM If az7 ?_ ?_ ?_ ?_ az7
 .show 16*a - (16*a/(16*2 ^b)+(c - 16*a/(16*2 ^b)))*(16*2 ^b)=_;rw[nz,cq]
 .show min (16*(a+l) - (16*a/(16*2 ^b)+(c - 16*a/(16*2 ^b)))*(16*2 ^b)) (16*2 ^b)=_;rw[nz,cq]
 .show(16*a/(16*2 ^b)+(c - 16*a/(16*2 ^b)))*(16*2 ^b)+(16*a - (16*a/(16*2 ^b)+(c - 16*a/(16*2 ^b)))*(16*2 ^b)) - 16*a=16*(c*2 ^b)+(16*a - (16*a/(16*2 ^b)+(c - 16*a/(16*2 ^b)))*(16*2 ^b)) - 16*a;rw[nz,cq]
 .show 16*a - (16*a/(16*2 ^b)+(c - 16*a/(16*2 ^b)))*(16*2 ^b)<=min (16*(a+l) - (16*a/(16*2 ^b)+(c - 16*a/(16*2 ^b)))*(16*2 ^b)) (16*2 ^b);rw[nz,cq];omega
section
variable {z R:Nat} {L:aD5} {nm:aD2}
def FP {a:Int} {bs:aD2} (U:(fu z L nm a bs).e=0): ∃d,dk L nm=some d/\bs.length=16*(bs.length/16)/\a=((a.toNat:Nat):Int)/\dY d.im a.toNat ((bs.length/16:Nat):Int)=0/\hT d.im a.toNat (bs.length/16) (cD (aH d.im) a.toNat (bs.length/16))<=dS d.im.l/\
  (fu z L nm a bs).L=dg L nm (iC d.im a.toNat (bs.length/16) bs (g9 z L nm (cf L nm)) (cD (aH d.im) a.toNat (bs.length/16))) none:=by
 unfold fu at U⊢
 cases au:dk L nm with
 |none=>rw[au] at U;exact ap0 U (show¬(140:Int)=0 by decide)
 |some d=>
  rw[au] at U;simp only at U⊢
  split at U
  .exact ap0 U (show¬(1:Int)=0 by decide)
  .rename_i E
   split at U
   .rename_i G;exact ap0 U G
   .rename_i G;rw[mu E,mu G];have G:dY d.im a ((bs.length/16:Nat):Int)=0:=at0 G;have af:=(s3 G).1;have U:zz d.im a.toNat (bs.length/16)=0:=U;unfold zz at U
    split at U
    .rename_i ag;refine⟨d,rfl,az7,af,by rw[<-af];exact G,ag,?_⟩;show dg L nm (vC d.im a.toNat (bs.length/16) bs _) none=_;unfold vC;rw[vj ag]
    .exact ap0 U az8
def FQ (h:cc z R L) {a:Int} {bs:aD2} (U:(fu z L nm a bs).e=0) (s:Nat):
  ji z (fu z L nm a bs).L nm (cf (fu z L nm a bs).L nm) s=if a.toNat<=s/\s < a.toNat+bs.length/16 then kA bs (s - a.toNat) else ji z L nm (cf L nm) s:=by
 obtain⟨d,H,fG,ha,dW,dx,cP⟩:=FP U;rw[cP];obtain⟨aq,ki,_⟩:=h.fQ d (cO H).1;have dA:=oz dW;have cV:=nJ aq.z;have vM:=zU h H;have ao:=iO h.b3;generalize a.toNat=a0 at*;have aZ:=(zy aq fG dA (g9 z L nm (cf L nm)) dx _ (ao9 _)).1;have li:0 < 2 ^z:=aA5
 have V:s % 2 ^z < 2 ^z:=Nat.mod_lt _ li;have ax:s/2 ^z*2 ^z+s % 2 ^z=s:=by rw[ax5];exact Nat.div_add_mod s _
 have Cg:eU d.im=d.im.t.length*2 ^z:=Ct h H;rw[qV,qV]
 by_cases J:s/2 ^z < d.im.t.length
 .rw[R2 h H aZ.en J,Lb h H J];have nM:=R4 h H J (some (g9 z L nm (cf L nm) (s/2 ^z)))
  by_cases aw:16*a0/aH d.im<=s/2 ^z/\s/2 ^z < 16*a0/aH d.im+cD (aH d.im) a0 (bs.length/16)
  .have mS:0 < bs.length/16:=by
    refine Nat.pos_of_ne_zero fun e=>?_
    rw[e] at aw;have:cD (aH d.im) a0 0=0:=rfl;omega
   have pb:=(aZ.done (s/2 ^z - 16*a0/aH d.im) az7).2 (some (g9 z L nm (cf L nm) (s/2 ^z)));rw[show 16*a0/aH d.im+(s/2 ^z - 16*a0/aH d.im)=s/2 ^z by omega] at pb;rw[pb];have ny:=(zV cV mS).1 aw;rw[vM] at ny⊢;rw[R5 h.b3 nM fG ny V,ax]
  .have vN:=(aZ.jg (s/2 ^z) az7).2 (some (g9 z L nm (cf L nm) (s/2 ^z)));rw[vN,mu];rintro⟨g1,g2⟩;apply aw;refine(zV cV az7).2 ?_;rw[vM];have af:(s/2 ^z+1)*(16*2 ^z)=16*(s/2 ^z*2 ^z)+16*2 ^z:=by rw[aw7,ay3]
   have al:s/2 ^z*(16*2 ^z)=16*(s/2 ^z*2 ^z):=ay3 ..;rw[af,al];omega
 .rw[R3 h H aZ.en J,mu];rintro⟨g1,g2⟩;apply J;rw[aw8 li,<-Cg];omega
end
def afA {n off m:Nat} (h:off+m<=n):laid (List.replicate n 0) off m (sY m)=List.replicate n (0:UInt8):=by
 refine aw5 fun i=>?_
 rw[La (by rw[aq7];exact h) aq7];simp only[ax0]
 split
 .rfl
 .split
  .rw[vj az7,vj az7]
  .rfl
def afB {X:aD2} {n:Nat} (h:X.length=n):laid X 0 n (sY n)=List.replicate n (0:UInt8):=by unfold laid;rw[List.take_zero,az4,au0 (by rw[aq7];exact ao9 _),aq7,List.drop_eq_nil_of_le az7,at3]
def Lc {s:bA} {c:Nat} (h:s.t[c]? =some sX) (aF:Option aD2):ee s c aF=iq s:=by unfold ee;rw[h];rfl
def R6 {s:bA} (aq:e6 s) {a l:Nat} (dA:a+l<=eU s) (y:Nat->aD2) (dx:gX s a l (cD (aH s) a l)<=dS s.l): ∀k,k<=cD (aH s) a l-> ∀j,j < k->
  ee (ek s a l y k) (16*a/aH s+j) (some (y (16*a/aH s+j)))=laid (ee s (16*a/aH s+j) (some (y (16*a/aH s+j)))) (bg (aH s) a l j).a ((bg (aH s) a l j).b - (bg (aH s) a l j).a) (sY ((bg (aH s) a l j).b - (bg (aH s) a l j).a))
 |0,_,j,V=>ap0 V az7
 |k+1,Z,j,V=>by
  have h:=xx aq dA y dx k az7;have fO:k < cD (aH s) a l:=aA5
  obtain⟨J,_⟩:=qP aq dA fO;obtain⟨d0,cU,dB,dE⟩:=qN (nJ aq.z) fO;have o4:(bg (aH s) a l k).c=16*a/aH s+k:=rfl;have fw:(bg (aH s) a l k).c < (ek s a l y k).t.length:=aC6
  have ln:=h.jg (16*a/aH s+k) (.inr (ao9 _));have af:ek s a l y (k+1)=ul (ek s a l y k) (bg (aH s) a l k) (y (bg (aH s) a l k).c):=rfl;unfold ul at af;rw[Fq h.en] at af;have bZ:=uj aq (c:=16*a/aH s+k) J (some (y (16*a/aH s+k)));have aoJ:iq (ek s a l y k)=iq s:=by unfold iq;rw[h.en.aH]
  have bl:j < k->_:=R6 aq dA y dx k az7 j
  by_cases hw:kv s (bg (aH s) a l k)=true
  .rw[vj hw] at af;have ao:=Kg h.en.ok (c:=(bg (aH s) a l k).c) fw (q:=sX) (.inr rfl);rw[<-af] at ao
   by_cases jc:j < k
   .rw[(ao.jg (16*a/aH s+j) (by rw[o4];omega)).2];exact bl jc
   .have:j=k:=aA5
    subst this;have hw:(bg (aH s) a l j).b - (bg (aH s) a l j).a=aH s:=gd hw;have bG:=Lc ao.Cc (some (y (16*a/aH s+j)));rw[o4] at bG;rw[bG,hw,show(bg (aH s) a l j).a=0 by omega,afB bZ];unfold iq;rw[ao.en.aH,h.en.aH]
  .have hw:kv s (bg (aH s) a l k)=false:=by simpa using hw
   rw[hw,mu az8] at af
   by_cases G:((ek s a l y k).t.getD (bg (aH s) a l k).c b7).1=2
   .rw[vj G] at af;rw[af]
    by_cases jc:j < k
    .exact bl jc
    .have:j=k:=aA5
     subst this;rw[ln.2]
     have ag:(s.t.getD (16*a/aH s+j) b7).1=2:=by
      rw[ap2] at G⊢;rw[show(ek s a l y j).t[(bg (aH s) a l j).c]? =s.t[16*a/aH s+j]? from ln.1] at G;exact G
     have aS:s.t[16*a/aH s+j]? =some sX:=by
      rw[ap2] at ag
      cases e:s.t[16*a/aH s+j]? with
      |none=>rw[e] at ag;exact ap0 ag az8
      |some q=>
       rw[e] at ag;have ag:q.1=2:=ag;rcases aq.slot _ _ e with g |g |⟨bf,g,_⟩
       .rw[g] at ag;exact ap0 ag az8
       .rw[g]
       .rw[g] at ag;exact ap0 ag (show¬(1:Int)=2 by decide)
     rw[Lc aS];unfold iq;rw[afA az7]
   .rw[mu G] at af;have ao:=Ke (y:=y (bg (aH s) a l k).c) (bs:=sY ((bg (aH s) a l k).b - (bg (aH s) a l k).a)) h.en.ok fw d0 (by rw[h.en.aH];exact cU) aq7 (Kj dx h fO hw G);rw[<-af] at ao
    by_cases jc:j < k
    .rw[(ao.jg (16*a/aH s+j) (by rw[o4];omega)).2];exact bl jc
    .have:j=k:=aA5
     subst this;have:=ao.Cc (some (y (16*a/aH s+j)));rw[o4] at this;rw[this,ln.2]
section
variable {z R:Nat} {L:aD5} {nm:aD2}
def R7 {a l:Int} (U:(j4 z L nm a l).e=0): ∃d,dk L nm=some d/\a=((a.toNat:Nat):Int)/\l=((l.toNat:Nat):Int)/\dY d.im a.toNat l.toNat=0/\gX d.im a.toNat l.toNat (cD (aH d.im) a.toNat l.toNat)<=dS d.im.l/\
  (j4 z L nm a l).L=dg L nm (ek d.im a.toNat l.toNat (g9 z L nm (cf L nm)) (cD (aH d.im) a.toNat l.toNat)) none:=by
 unfold j4 at U⊢
 cases au:dk L nm with
 |none=>rw[au] at U;exact ap0 U (show¬(140:Int)=0 by decide)
 |some d=>
  rw[au] at U;simp only at U⊢
  split at U
  .rename_i G;exact ap0 U G
  .rename_i G;rw[mu G];have G:dY d.im a l=0:=at0 G;obtain⟨af,al⟩:=s3 G;have U:zC d.im a.toNat l.toNat=0:=U;unfold zC at U
   split at U
   .rename_i ag;refine⟨d,rfl,af,al,by rw[<-af,<-al];exact G,ag,?_⟩;show dg L nm (vD d.im a.toNat l.toNat _) none=_;unfold vD;rw[vj ag]
   .exact ap0 U az8
def R8 (h:cc z R L) {a l:Int} (U:(j4 z L nm a l).e=0) (s:Nat):
  ji z (j4 z L nm a l).L nm (cf (j4 z L nm a l).L nm) s=if a.toNat<=s/\s < a.toNat+l.toNat then List.replicate 16 0 else ji z L nm (cf L nm) s:=by
 obtain⟨d,H,ha,ak,dW,dx,cP⟩:=R7 U;rw[cP];obtain⟨aq,ki,_⟩:=h.fQ d (cO H).1;have dA:=oz dW;have cV:=nJ aq.z;have vM:=zU h H;have ao:=iO h.b3;generalize a.toNat=a0 at*;generalize l.toNat=uu at*;have aZ:=xx aq dA (g9 z L nm (cf L nm)) dx _ (ao9 _);have afC:=R6 aq dA (g9 z L nm (cf L nm)) dx _ (ao9 _);have li:0 < 2 ^z:=aA5
 have V:s % 2 ^z < 2 ^z:=Nat.mod_lt _ li;have ax:s/2 ^z*2 ^z+s % 2 ^z=s:=by rw[ax5];exact Nat.div_add_mod s _
 have Cg:eU d.im=d.im.t.length*2 ^z:=Ct h H;rw[qV,qV]
 by_cases J:s/2 ^z < d.im.t.length
 .rw[R2 h H aZ.en J,Lb h H J];have nM:=R4 h H J (some (g9 z L nm (cf L nm) (s/2 ^z)))
  by_cases aw:16*a0/aH d.im<=s/2 ^z/\s/2 ^z < 16*a0/aH d.im+cD (aH d.im) a0 uu
  .have mS:0 < uu:=by
    refine Nat.pos_of_ne_zero fun e=>?_
    rw[e] at aw;have:cD (aH d.im) a0 0=0:=rfl;omega
   have pb:=afC (s/2 ^z - 16*a0/aH d.im) az7;rw[show 16*a0/aH d.im+(s/2 ^z - 16*a0/aH d.im)=s/2 ^z by omega] at pb;rw[pb];have ny:=(zV cV mS).1 aw;have Cv:s/2 ^z - 16*a0/aH d.im < cD (aH d.im) a0 uu:=aA5
   obtain⟨d0,cU,dB,dE⟩:=qN cV Cv
   have afD:sY ((bg (aH d.im) a0 uu (s/2 ^z - 16*a0/aH d.im)).b - (bg (aH d.im) a0 uu (s/2 ^z - 16*a0/aH d.im)).a)=o3 (List.replicate (16*uu) 0) (bg (aH d.im) a0 uu (s/2 ^z - 16*a0/aH d.im)):=by
    unfold o3;rw[List.take_replicate,List.drop_replicate]
    congr 1
    omega
   rw[afD];rw[vM] at ny⊢;rw[R5 h.b3 nM aq7 ny V,ax]
   split
   .rw[FO _ _ az7]
   .rfl
  .have vN:=(aZ.jg (s/2 ^z) az7).2 (some (g9 z L nm (cf L nm) (s/2 ^z)));rw[vN,mu];rintro⟨g1,g2⟩;apply aw;refine(zV cV az7).2 ?_;rw[vM];have af:(s/2 ^z+1)*(16*2 ^z)=16*(s/2 ^z*2 ^z)+16*2 ^z:=by rw[aw7,ay3]
   have al:s/2 ^z*(16*2 ^z)=16*(s/2 ^z*2 ^z):=ay3 ..;rw[af,al];omega
 .rw[R3 h H aZ.en J,mu];rintro⟨g1,g2⟩;apply J;rw[aw8 li,<-Cg];omega
end
end
section
def FR: ∀(n:Nat) (l:aD3),l.Nodup->(∀x,x∈l->x < n)->l.length<=n
 |0,[],_,_=>ao9 _
 |0,x::l,_,h=>ap0 (h x (aq4 ..)) (ay8 x)
 |n+1,l,hn,h=>by
  have E:(l.erase n).Nodup:=hn.erase n
  have G:=FR n (l.erase n) E fun x hx=>by
   have oQ:=(hn.mem_erase_iff).1 hx;have:=h x oQ.2;have:=oQ.1;omega
  have ag:l.length<=(l.erase n).length+1:=by
   rw[List.length_erase]
   split <;>omega
  omega
def Ld {α mj:Type} {f:α->mj}: ∀{l:List α},(∀x,x∈l-> ∀y,y∈l->f x=f y->x=y)->l.Nodup->(l.map f).Nodup
 | [],_,_=>av1
 |a::l,aG,hn=>by
  obtain⟨c4,ec⟩:=as2.1 hn;rw[aq5];refine as2.2 ⟨fun aD=>?_,Ld (fun x hx y aC=>aG x (ap4 _ hx) y (ap4 _ aC)) ec⟩;obtain⟨y,aC,e⟩:=ar6.1 aD;have:=aG y (ap4 _ aC) a (aq4 ..) e;exact c4 (this▸aC)
section
variable {z R:Nat} {L:aD5} {nm:aD2}
def fSz {a:Int} {bs:aD2} (h:cc z R L) (U:(fu z L nm a bs).e≠0):(fu z L nm a bs).L=L:=by
 unfold fu at U⊢
 cases au:dk L nm with
 |none=>rfl
 |some d=>
  rw[au] at U;simp only at U⊢
  split at U
  .rename_i E;rw[vj E]
  .rename_i E;rw[mu E]
   split at U
   .rename_i G;rw[vj G]
   .rename_i G;rw[mu G];have U:zz d.im a.toNat (bs.length/16)≠0:=U;unfold zz at U
    split at U
    .exact ap0 rfl U
    .rename_i ag;show dg L nm (vC d.im a.toNat (bs.length/16) bs _) none=L;unfold vC;rw[mu ag,zS h.gE au (h.up d (cO au).1)]
def Le {a l:Int} (h:cc z R L) (U:(j4 z L nm a l).e≠0):(j4 z L nm a l).L=L:=by
 unfold j4 at U⊢
 cases au:dk L nm with
 |none=>rfl
 |some d=>
  rw[au] at U;simp only at U⊢
  split at U
  .rename_i G;rw[vj G]
  .rename_i G;rw[mu G];have U:zC d.im a.toNat l.toNat≠0:=U;unfold zC at U
   split at U
   .exact ap0 rfl U
   .rename_i ag;show dg L nm (vD d.im a.toNat l.toNat _) none=L;unfold vD;rw[mu ag,zS h.gE au (h.up d (cO au).1)]
def afE (h:cc z R L) {a:Int} {bs:aD2} (U:(fu z L nm a bs).e=0): ∃d im,dk L nm=some d/\h8 d.im im/\(fu z L nm a bs).L=dg L nm im none/\ ∀c,(im.t.getD c b7).1=if 0 < bs.length/16/\16*a.toNat < (c+1)*(16*2 ^z)/\c*(16*2 ^z) < 16*(a.toNat+bs.length/16) then 1 else(d.im.t.getD c b7).1:=by
 obtain⟨d,H,fG,ha,dW,dx,cP⟩:=FP U;obtain⟨aq,ki,_⟩:=h.fQ d (cO H).1;have dA:=oz dW;have cV:=nJ aq.z;have vM:=zU h H;generalize a.toNat=a0 at*;have aZ:=(zy aq fG dA (g9 z L nm (cf L nm)) dx _ (ao9 _)).1;refine⟨d,_,H,aZ.en,cP,fun c=>?_⟩
 by_cases mS:0 < bs.length/16
 .by_cases aw:16*a0/aH d.im<=c/\c < 16*a0/aH d.im+cD (aH d.im) a0 (bs.length/16)
  .have ny:=(zV cV mS).1 aw;rw[vM] at ny;rw[vj ⟨mS,ny⟩];have pb:=(aZ.done (c - 16*a0/aH d.im) az7).1;rw[show 16*a0/aH d.im+(c - 16*a0/aH d.im)=c by omega] at pb;unfold g6 uf at pb;simp only[Bool.not_eq_false',ao8] at pb;exact gd pb.1
  .have ny:=fun x=>aw ((zV cV mS).2 x)
   rw[vM] at ny;rw[mu fun x=>ny x.2];have vN:=(aZ.jg c az7).1;rw[ap2,ap2,vN]
 .have aO:bs.length/16=0:=aA5
  rw[mu fun x=>mS x.1,aO];rfl
end
def FT {L:aD5} {nm:aD2} {k:Nat} (h:d9 L nm k) {i:Nat} (aG:i < k):(c6 L k nm)[i]? =some (eD L (i+1) nm):=by
 have E:=Fu h i aG;have G:=o5 h;rw[ax3] at E;have ag:=List.append_cancel_left E;rw[ao7 az7] at ag⊢;injection ag with ag
 rw[ag]
def R9 {α:Type} (p:α->Bool): ∀(l:List α) (j:Nat),j<=l.length->(∀i x,i < j->l[i]? =some x->p x=true)->(j=l.length\/ ∃x,l[j]? =some x/\p x=false)->l.takeWhile p=l.take j
 | [],j,V,_,_=>by
  have:j=0:=aB6
  subst this;rfl
 |a::l,0,_,_,h=>by
  rcases h with h |⟨x,hx,ao⟩
  .cases h
  .injection hx with hx
   subst hx;rw[List.takeWhile_cons,ao];rfl
 |a::l,j+1,V,E,G=>by
  have ha:=E 0 a (Nat.succ_pos j) rfl;rw[List.takeWhile_cons,ha];show a::l.takeWhile p=a::l.take j;rw[R9 p l j aB6 (fun i x aG hx=>E (i+1) x az7 hx) (G.imp (fun e=>by simpa using e) id)]
def j6 (L:aD5) (top base:aD2):List aD2:=(c6 L (cf L top) top).takeWhile fun n=> !decide (n=base)
def hs (L:aD5) (top base:aD2):Bool:=(dk L top).isSome&&(decide (base=[])||decide (base∈c6 L (cf L top) top))
def g' (L:aD5) (n:aD2) (k:Nat):Bool:=match dk L n with
 |none=>true
 |some d=>decide (d.im.t.length<=k)||decide ((d.im.t.getD k b7).1=0)
def pc (L:aD5) (top base:aD2) (k:Nat):Bool:=g' L top k&&(j6 L top base).any fun n=> !g' L n k
def b6 (L:aD5) (nm:aD2):Nat:=match dk L nm with
 |none=>0
 |some d=>d.im.t.length
def nN (L:aD5) (top base:aD2):Option Nat:=if hs L top base=true then(List.range (b6 L top)).find? (pc L top base) else none
structure afF where
 done:Bool
 e:Int
 L:List aL
 over:Bool
def hH (z:Nat) (L:aD5) (top base:aD2) (over:Bool):afF:=if(over|| !(dk L top).isSome)=true then⟨false,160,L,over⟩ else match nN L top base with
 |some k=>⟨false,(fu z L top ((k*2 ^z:Nat):Int) (gm z L top (k:Int))).e,(fu z L top ((k*2 ^z:Nat):Int) (gm z L top (k:Int))).L,over⟩
 |none=>⟨decide ((hV L top base).e=0),(hV L top base).e,(hV L top base).L,decide ((hV L top base).e=0)⟩
def kB (z:Nat) (L:aD5) (nm:aD2):aD2:=match dk L nm with
 |none=>[]
 |some d=>jw z L nm (cf L nm) 0 (d.im.t.length*2 ^z)
def Lf {z:Nat} {L L':aD5} {nm:aD2} (ax:b6 L' nm=b6 L nm) (Z:(dk L' nm).isSome=(dk L nm).isSome) (h: ∀s,s < b6 L nm*2 ^z->ji z L' nm (cf L' nm) s=ji z L nm (cf L nm) s):kB z L' nm=kB z L nm:=by
 unfold kB;unfold b6 at ax h
 cases e:dk L nm with
 |none=>
  rw[e] at Z
  cases ca:dk L' nm with
  |none=>rfl
  |some cY=>rw[ca] at Z;cases Z
 |some d=>
  rw[e] at Z ax h
  cases ca:dk L' nm with
  |none=>rw[ca] at Z;cases Z
  |some cY=>
   rw[ca] at ax;simp only at ax h⊢;rw[ax]
   exact R1 _ fun i aG=>by
    rw[at5];exact h i aG
section
variable {z R:Nat} {L:aD5} {nm:aD2}
def Lg (L:aD5) {t n:aD2} {d:aL} {im:bA} (H:dk L t=some d) (ax:h8 d.im im):b6 (dg L t im none) n=b6 L n/\(dk (dg L t im none) n).isSome=(dk L n).isSome:=by
 by_cases e:n=t
 .subst e;unfold b6;rw[xH H,H];exact⟨ax.ez,rfl⟩
 .unfold b6;rw[FD e];exact⟨rfl,rfl⟩
def afG (h:cc z R L) {d:aL} (H:dk L nm=some d) {k:Nat} (Z:k < d.im.t.length):kB z (fu z L nm ((k*2 ^z:Nat):Int) (gm z L nm (k:Int))).L nm=kB z L nm:=by
 have dI:gm z L nm (k:Int)=fe z L nm (cf L nm) k:=by
  unfold gm;rw[H];simp only;rw[vj ⟨az7,az7⟩];rfl
 rw[dI]
 by_cases U:(fu z L nm ((k*2 ^z:Nat):Int) (fe z L nm (cf L nm) k)).e=0
 .obtain⟨cY,im,c1,ax,cP,_⟩:=afE h U;have hw:=FQ h U;have bZ:(fe z L nm (cf L nm) k).length=16*2 ^z:=xA h.tomZ H (h.bY nm).1 k;have ao:=iO h.b3;rw[bZ,show 16*2 ^z/16=2 ^z by omega] at hw;rw[cP] at hw⊢;obtain⟨g1,g2⟩:=Lg L (n:=nm) c1 ax;refine Lf g1 g2 fun s _=>?_
  rw[hw s];show(if k*2 ^z<=s/\s < k*2 ^z+2 ^z then _ else _)=_
  split
  .rename_i c
   have jb:s/2 ^z=k:=by
    rw[Nat.div_eq_iff az7];omega
   have f0:s % 2 ^z=s - k*2 ^z:=by
    have E:=Nat.div_add_mod s (2 ^z);rw[jb,ax5] at E;omega
   rw[qV,jb,f0];rfl
  .rfl
 .rw[fSz h U]
end
section
variable {z R:Nat} {L:aD5} {top base:aD2}
def R' (h:cc z R L) {d:aL} (H:dk L top=some d) (aG:hs L top base=true):c6 L (cf L top) top=j6 L top base++(if base=[] then[] else base::c6 L (cf L base) base)/\(base=[]\/ ∃e,dk L base=some e)/\cf L base+(j6 L top base).length+(if base=[] then 0 else 1)=cf L top:=by
 have key: ∀(k:Nat) (nm:aD2),d9 L nm k->(∃d,dk L nm=some d)->(base=[]\/base∈c6 L k nm)->c6 L k nm=(c6 L k nm).takeWhile (fun n=> !decide (n=base))++(if base=[] then[] else base::c6 L (cf L base) base)/\(base=[]\/ ∃e,dk L base=some e):=by
  intro k nm cx
  induction cx with
  |gone aV=>rintro⟨d,H⟩;rw[aV] at H;cases H
  |base E G=>
   rintro _ O;rcases O with O |O
   .rw[vj O];exact⟨rfl,.inl O⟩
   .cases O
  | @step nm d k E G ag bl=>
   rintro _ O;have g8:=h.h9 d (cO E).1 G
   have fG:c6 L (k+1) nm=d.back::c6 L k d.back:=by
    conv=>lhs;unfold c6
    rw[E]
   rw[fG] at O⊢;rw[List.takeWhile_cons]
   by_cases e:d.back=base
   .rw[aq1 e];have Lh: ¬base=[]:=by rw[<-e];exact G
    rw[mu Lh];refine⟨?_,.inr (by rw[<-e];exact g8)⟩;show d.back::c6 L k d.back=[]++_;rw[az4,e];rw[e] at ag;rw[zO ag (h.bY base).1]
   .rw[as7 e];obtain⟨g1,g2⟩:=bl g8 (O.imp id fun x=>(ap7.1 x).resolve_left fun y=>e y.symm);refine⟨?_,g2⟩;show d.back::c6 L k d.back=d.back::_++_;rw[List.cons_append,<-g1]
 unfold hs at aG;rw[ao8,au3] at aG;obtain⟨g1,g2⟩:=key _ top (h.bY top).1 ⟨d,H⟩ (aG.2.imp gd gd);refine⟨g1,g2,?_⟩;have ak:=ap1 List.length g1;rw[o5 (h.bY top).1,ap3] at ak;have aoK:=o5 (h.bY base).1;unfold j6
 by_cases e:base=[]
 .rw[vj e] at ak⊢
  have:cf L base=0:=by
   have hn:dk L base=none:=by
    cases x:dk L base with
    |none=>rfl
    |some y=>exact ap0 e (Cs h ⟨y,x⟩)
   exact qU (.gone hn) az7
  rw[List.length_nil] at ak;omega
 .rw[mu e] at ak⊢;rw[as9] at ak;omega
def Sa (h:cc z R L) {d:aL} (H:dk L top=some d): ∀n,n∈j6 L top base->n≠top/\ ∃e,dk L n=some e:=fun n hn=>by
 have aD:n∈c6 L (cf L top) top:=(List.takeWhile_sublist _).mem hn;refine⟨fun e=>?_,h.K6 ⟨d,H⟩ n (ap4 _ aD)⟩;rw[e] at aD;exact KP (h.bY top).1 aD
def Sb {c:Nat}: ∀(ns iM:aF4) (i:Nat),(∀n,n∈ns->(∃e,dk L n=some e)/\g' L n c=true)->(g7 z L c (ns++iM) i).1=(g7 z L c iM 0).1
 | [],iM,i,_=>K4 iM i 0
 |n::ns,iM,i,h=>by
  obtain⟨⟨e,U⟩,bf⟩:=h n (aq4 ..);unfold g' at bf;rw[U] at bf;simp only[au3] at bf;rw[List.cons_append,RY U (fun x=>bf.elim (fun g=>by have:=gd g;omega) fun g=>x.2 (gd g))];exact Sb ns iM (i+1) fun x hx=>h x (ap4 _ hx)
def Sc (nm back:aD2) {c:Nat}: ∀(ns:aF4) (i:Nat),g7 z (dZ L nm back) c ns i=g7 z L c ns i
 | [],_=>rfl
 |n::ns,i=>by
  conv=>lhs;unfold g7
  conv=>rhs;unfold g7
  rw[lQ]
  cases dk L n with
  |none=>rfl
  |some d=>
   show(if c < (eE nm back d).im.t.length/\((eE nm back d).im.t.getD c b7).1≠0 then(ee (eE nm back d).im c none,i+1) else _)=_;rw[Cn,Sc nm back ns (i+1)]
def afH (nm back:aD2): ∀{k:Nat} {n:aD2},d9 L n k->n≠nm->nm∉c6 L k n->c6 (dZ L nm back) k n=c6 L k n:=by
 intro k n cx
 induction cx with
 |gone _=>intro _ _;rfl
 |base _ _=>intro _ _;rfl
 | @step n d k E G ag bl=>
  intro a6 O
  have fG:c6 L (k+1) n=d.back::c6 L k d.back:=by
   conv=>lhs;unfold c6
   rw[E]
  rw[fG] at O⊢;simp only[ap7,not_or] at O
  conv=>lhs;unfold c6
  rw[lQ,E];show(eE nm back d).back::c6 (dZ L nm back) k (eE nm back d).back=_;rw[vK (by rw[(cO E).2];exact a6),bl (fun x=>O.1 x.symm) O.2]
def afI (h:cc z R L) {d:aL} (H:dk L top=some d) (aG:hs L top base=true) (aw:(hV L top base).e=0) {c:Nat} (J:c < d.im.t.length) (hn:pc L top base c=false):fe z (hV L top base).L top (cf (hV L top base).L top) c=fe z L top (cf L top) c:=by
 have xL:=K0 h top base
 have cP:(hV L top base).L=dZ L top base:=by
  unfold hV at aw⊢
  split at aw
  .exact ap0 aw (show¬(140:Int)=0 by decide)
  .rename_i E
   split at aw
   .exact ap0 aw (show¬(141:Int)=0 by decide)
   .rename_i G
    split at aw
    .rename_i ag;rw[mu E,mu G,vj ag]
    .exact ap0 aw (show¬(142:Int)=0 by decide)
 have FU:top≠base/\top∉c6 L (cf L base) base:=by
  unfold hV at aw
  split at aw
  .exact ap0 aw (show¬(140:Int)=0 by decide)
  .split at aw
   .exact ap0 aw (show¬(141:Int)=0 by decide)
   .rename_i G;exact⟨fun e=>G (.inl e),fun e=>G (.inr e)⟩
 rw[cP] at xL⊢;obtain⟨g1,g2,cX⟩:=R' h H aG;have dd:dk (dZ L top base) top=some (eE top base d):=by rw[lQ,H];rfl
 have ix:(eE top base d).back=base:=FK (cO H).2;have Li:(eE top base d).im=d.im:=Cn top base d
 by_cases bf:g' L top c=true
 .have Cw:(d.im.t.getD c b7).1=0:=by
   unfold g' at bf;rw[H] at bf;simp only[au3] at bf;exact bf.elim (fun g=>by have:=gd g;omega) gd
  rw[xJ dd (by rw[Li];exact fun x=>x.2 Cw),xJ H fun x=>x.2 Cw]
  have dA: ∀n,n∈j6 L top base->(∃e,dk L n=some e)/\g' L n c=true:=fun n aD=>by
   refine⟨(Sa h H n aD).2,?_⟩;unfold pc at hn;rw[bf,ax8] at hn;have:=List.any_eq_false.1 hn n aD;simpa using this
  have af:g9 z L top (cf L top) c=(g7 z L c (if base=[] then[] else base::c6 L (cf L base) base) 0).1:=by
   unfold g9;rw[g1,Sb _ _ _ dA]
  rw[af]
  by_cases O:base=[]
  .rw[vj O];have xK:cf (dZ L top base) top=0:=qU (.base dd (by rw[ix];exact O)) az7;rw[xK];rfl
  .rw[mu O];have xK:=K7 xL dd (by rw[ix];exact O);rw[ix] at xK;rw[xK,K5 dd,ix];unfold fe;have Sd:=(h.bY base).1;have BH:cf (dZ L top base) base=cf L base:=qU (KZ Sd (au7 FU.1) FU.2) (by have:=(h.bY base).2;omega);rw[BH,afH top base Sd (au7 FU.1) FU.2,Sc]
 .have Cw:c < d.im.t.length/\(d.im.t.getD c b7).1≠0:=by
   refine⟨J,fun e=>bf ?_⟩;unfold g';rw[H];simp only[e];simp
  unfold fe;rw[FL dd (by rw[Li];exact Cw),FL H Cw,Li]
end
end
section
open Go.RowKit Go.Proofs Go.Maps Go.Shelf Go.MapKept _root_.Go.Proofs.Tryz Tryz
open Go.WideElems (Fit rd rg pl rd_val rd_key rg_of)
def Se {aK:bz} (p:aa aj×aa aK):Int:=p.1
def e8 {aK:bz} (es:List (aa aj×aa aK)):List Int:=es.map Se
def Sf {I:Nat->Prop} {w:aD8} {aK:bz}: ∀{l:List (aa aj×aa aK)} {es:aF0},h4 I w aj aK l es->es.map (·.key)=(e8 l).map encZ
 | [],_,h=>by rw[show _=[] from h];rfl
 |p::l,_,⟨e,r,h,E,_,ag⟩=>by
  rw[h,aq5,Sf ag,E];rfl
def afJ {P:aD9} {k:aE4} (Z:P.underlying k=some (.int .i64)) (s:Int) (h:(Lit.int .i64 s).wf=true):keyOf P k (encZ s)=some (.int .i64 s):=by simp[keyOf,Z,encZ,mapKey,h]
def Sg: ∀{l m:aE5},l.map encZ=m.map encZ->l=m
 | [],[],_=>rfl
 | [],_::_,h=>by simp at h
 |_::_,[],h=>by simp at h
 |x::l,y::m,h=>by
  simp only[aq5,List.cons.injEq] at h;rw[encZ_inj h.1,Sg h.2]
def FV {P:aD9} {k:aE4} (Z:P.underlying k=some (.int .i64)) {I:Nat->Prop} {w:aD8} {aK:bz} {es:List (aa aj×aa aK)} {bP:aF0} {bU b:Nat} (O:w.heap[b]? =some (.map (List.toArray bP) bU))
  (aD:h4 I w aj aK es bP) (dh:lB bP bU) (hn:(e8 es).Nodup) (ak: ∀s∈e8 es,(Lit.int .i64 s).wf=true) (ax:es.length<=maxLen):
  ∃jj,w.ownsMap P k o7 b es.length jj/\Maps.size jj=es.length/\(intKeys jj).Perm (e8 es):=by
 have bZ:=AU aD;have xB:=Sf aD
 have Ch: ∀x∈bP,∃s:Int,x.key=encZ s/\rg P k o7 x=(.int .i64 s,.nil)/\ ∃y,rd P k o7 x=some y:=by
  intro x hx;have:x.key∈(e8 es).map encZ:=by rw[<-xB];exact ar8 hx
  obtain⟨s,ao,U⟩:=ar6.1 this;have Ku:keyOf P k x.key=some (.int .i64 s):=U▸afJ Z _ (ak s ao);have oA:rd P k o7 x=some (.int .i64 s,.nil):=by simp[rd,Ku]
  exact⟨s,U.symm,rg_of oA,_,oA⟩
 have oB:=Go.WideShapes.sorted_perm (bP.map (rg P k o7))
 have hX:(bP.map (rg P k o7)).map (fun p=>Go.intOf p.1)=e8 es:=by
  refine Sg ?_;rw[<-xB,at6,at6];refine ar9 fun x hx=>?_
  obtain⟨s,af,al,_⟩:=Ch x hx;simp[al,af,Go.intOf]
 refine⟨.map ((bP.map (rg P k o7)).foldr DataW.insert []),⟨List.toArray bP,bU,O,⟨by simp[bZ];exact ax,(stamped_iff _ _).2 ⟨dh.2,dh.1.imp fun h=>by omega,?_⟩,fun x hx=>(Ch x hx).choose_spec.2.2⟩,by simp[bZ],rfl⟩,?_,?_⟩
 .have E:(bP.map (·.key)).Pairwise (· ≠ ·):=by
   rw[xB];exact List.pairwise_map.2 (hn.imp fun a6 e=>a6 (encZ_inj e))
  exact List.pairwise_map.1 E
 .show List.length _=_;rw[oB.length_eq,aq3,bZ]
 .show(List.map (fun p=>Go.intOf (Prod.fst p)) _).Perm _;rw[<-hX];exact oB.map _
def Lj (es:aD4):Fn prog 183 [.c (.one (.mp 1001))] [(1001,.map aj aj es)] [2001] (.c (.one (.cW 236 [.p 2001 0]))) [(2001,.cells [.mp 1001]),(1001,.map aj aj es)]:=by refine aU [] func183 ?_;exact⟨rfl,_,_,_,ac.a7 1 2001 rfl,rfl,rfl,aE,rfl⟩
def hy.FW {I D:Nat->Prop} {w:aD8} {v:aE7} {l:aE5} (h:hy D w 1 v l.length (l.map encZ)) (cx: ∀b,b < w.heap.size->D b->I b):cw I w (.ce aj) l (fun _=>some v):=by obtain⟨_,A,c,au,E,G,ag⟩:=h;refine⟨A,c,ap1 some au,E,G,fun ao=>?_⟩;obtain⟨b,o,eR,O,br,hx⟩:=ag ao;refine⟨b,o,eR,cx b br O,fun i x aG=>?_⟩;have:=hx i (encZ x) (by rw[ar1,show l[i]? =some x from aG];rfl);simpa[cw,aR,encZ] using this
def Sh (es:aD4) (hn:(e8 es).Nodup) (ak: ∀s∈e8 es,(Lit.int .i64 s).wf=true) (ax:es.length<=4294967296):
  cz prog 227 [.c (.one (.cW 236 [.p 2001 0]))] [(2001,.cells [.mp 1001]),(1001,.map aj aj es)] [] (X:={gY:List Int//gY.Perm (e8 es)}) (fun g=>b0 aj g.1) (fun _=>[(2001,.cells [.mp 1001]),(1001,.map aj aj es)]):=by
 refine⟨aA0,fun ρ F I w bW aZ c9 bj ew bZ dz=>?_⟩
 match bW,bZ with
 | [v],_=>
  obtain⟨aB,ay,gq,r,hm,lO,aw⟩:=dz 0 _ v rfl rfl;have aw:r=[]:=aw;have lO:gq= .pointer (some ⟨(ρ 2001).bh,0,none⟩):=lO;subst aw lO hm ay;obtain⟨_,aB,T,jd,hm⟩:=c9 2001 _ rfl;obtain⟨x,r,hm,hx,aw⟩:=hm;have aw:r=[]:=aw;have hx:x= .map (some (ρ 1001).bh):=hx;subst aw hx hm;obtain⟨_,bP,bU,iZ,aD,dh⟩:=c9 1001 _ rfl;have Fx:(4294967296:Nat)<=maxLen:=by decide
  obtain⟨jj,dP,cL,oB⟩:=FV (P:=prog) (k:=3) aA0 iZ aD dh hn ak az7;have br:(ρ 2001).bh < w.heap.size:=l0 jd
  have un:SeqGives Fence.wide 2 prog 236 #[.pointer (some ⟨(ρ 2001).bh,0,none⟩)] encZ (fun gY=>gY.Perm (intKeys jj)) (Maps.size jj) w:=
   AnyZI.keys_gives (ρ:=Jx) {Qf with} Fence.wide _ trivial rfl az7 (ρ 2001).bh (ρ 1001).bh es.length jj w br (od jd rfl) dP
  have J:=AnyZI.collect_in ab6 Fence.wide 4 trivial trivial rfl az7 236 #[.pointer (some ⟨(ρ 2001).bh,0,none⟩)] trivial (enters_of func236 aA0 rfl) _ _ aC2 aC2 _ un;refine(callsIn_wide.1 J).mono ?_;rintro e w' ⟨v,gY,rfl,ar,fN,zI,gx⟩;have a2:cj I w (fun b=>b < w'.heap.size/\(I b\/w.heap.size<=b)) w':=fun b ia=>⟨⟨aq8 (aZ b ia) gx.size,.inl ia⟩,gx.block b (aZ b ia)⟩
  refine⟨⟨gY,ar.trans oB⟩,v,ρ,F,rfl,cR.qh gx,fun _ _=>rfl,_,a2,fun b h=>⟨h.1,h.2.imp id .inr⟩,fun c ch J=>Holds.cg a2 (fun b O=>gx.block b (bj c ch J b O).1) gx.size ch (fun _ _=>rfl) (c9 c ch J),fun c ch J b O=>?_,fun c ck ch ch' b E G=>ew c ck ch ch' b E G,?_⟩
  .have:=bj c ch J b O;exact⟨aq8 this.1 gx.size,fun h=>(by rcases h.2 with h |h;exact this.2 h;omega),.inl ⟨c,ch,J,O⟩⟩
  .have h6:=hy.sk fN;exact(h6.yk fun i _ aG=>(fN.lt i aG).1).FW fun b E G=>⟨E,.inr G⟩
def oE:List Int->Int
 | []=>0
 |x::l=>l.foldl min x
def afK {l:aE5} (h:0 < l.length):oE (l.take 1)=l[0]:=by
 cases l with
 |nil=>simp at h
 |cons x l=>rfl
def afL {l:aE5} {k:Nat} (au:0 < k) (h:k < l.length):oE (l.take (k+1))=min (oE (l.take k)) l[k]:=by
 cases l with
 |nil=>simp at h
 |cons x l=>
  cases k with
  |zero=>omega
  |succ k=>
   have Z:k < l.length:=aA6
   show List.foldl min x (l.take (k+1))=min (List.foldl min x (l.take k)) l[k];rw[ax3,ao7 Z,ax4];rfl
def Si: ∀(l:aE5) (x:Int),List.foldl min x l<=x/\(∀y,y∈l->List.foldl min x l<=y)/\(List.foldl min x l=x\/List.foldl min x l∈l)
 | [],x=>⟨Int.le_refl _,fun y h=>aA7,.inl rfl⟩
 |aF::l,x=>by
  obtain⟨E,G,ag⟩:=Si l (min x aF);show List.foldl min (min x aF) l<=x/\(∀y,y∈aF::l->List.foldl min (min x aF) l<=y)/\(List.foldl min (min x aF) l=x\/List.foldl min (min x aF) l∈aF::l);refine⟨az7,fun y aC=>?_,?_⟩
  .rcases ap7.1 aC with rfl |aC
   .omega
   .exact G y aC
  .rcases ag with ag |ag
   .rcases Int.le_total x aF with c |c
    .exact .inl az7
    .exact .inr (by rw[ag,show min x aF=aF by omega];exact aq4 ..)
   .exact .inr (ap4 _ ag)
def Lk {l:aE5} (h:l≠[]):oE l∈l/\ ∀y,y∈l->oE l<=y:=by
 cases l with
 |nil=>exact ap0 rfl h
 |cons x l=>
  obtain⟨E,G,ag⟩:=Si l x;refine⟨?_,fun y aC=>?_⟩
  .rcases ag with ag |ag
   .show List.foldl min x l∈x::l;rw[ag];exact aq4 ..
   .exact ap4 _ ag
  .rcases ap7.1 aC with rfl |aC
   .exact E
   .exact G y aC
def Sj {l m:aE5} (h:l.Perm m) (hn:m≠[]):oE l=oE m:=by
 have ak:l≠[]:=fun e=>hn (by subst e;exact List.nil_perm.1 h)
 obtain⟨bR,b'⟩:=Lk ak;obtain⟨b1,b2⟩:=Lk hn;have:=b' _ (h.mem_iff.2 b1);have:=b2 _ (h.mem_iff.1 bR);omega
def Sk (l:aE5) (au:0 < l.length) (E:l.length<=1073741824):Fn prog 323 [b0 aj l] [] [] (ab (oE l)) []:=by
 have aV:=j2 (n:=0) au;have cq:=afK au;refine aU [3] func323 ?_;refine⟨fun h=>?_,fun _=>?_⟩
 .have h:decide (((l.length:Nat):Int) < 1)=true:=h;have:=gd h;omega
 refine bx [] (bu) ⟨az7,l[0],aV,ed [] (X:=Nat) (fun k=>[(0,b0 aj l),(3,ab (oE (l.take k))),(4,ab (k:Int))]) (fun _=>[]) (fun k=>1<=k/\k<=l.length) (fun k=>l.length - k) 1 ⟨ao9 _,au⟩ ?_ ?_⟩
 .exact ac.sub ⟨rfl,cq.symm,rfl,trivial⟩ trivial
 rintro k ⟨cl,Z⟩;refine⟨fun J=>?_,fun J=>?_⟩
 .have J:decide ((k:Int) < ((l.length:Nat):Int))=true:=J;have iP:k < l.length:=aC0
  have ax:=afL cl iP;exact⟨az7,l[k],j2 (n:=k) iP,az7,k+1,⟨az7,iP⟩,az7,ac.sub ⟨rfl,ax.symm,rfl,trivial⟩ trivial⟩
 .have J:decide ((k:Int) < ((l.length:Nat):Int))=false:=J;have iP:k=l.length:=aB5
  exact er bu rfl (show oE (l.take k)=oE l by rw[iP,ar2])
section
variable {P:aD9} {N:Nat} {ids:aD3} {K:aW} {B:av}
def Sl {o:Oper} {T kt et:aE4} {x:aE0} {c:Nat} (ai:o.op= .call {callee:=.builtin .clear,args:= #[x],argTypes:= #[T]}) (b4:P.underlying T=some (.map kt et)) {aI aK:bz} {es:List (aa aI×aa aK)}
  (hx:a1 K x= .c (.one (.mp c))) (J:ae B c=some (.map aI aK es)) (N:Nat):bC P N ids o K B (.cm []) ⟨[c],[],[(c,some (.map aI aK []))]⟩:=by
 have m1:x∈o.op.operands:=aA8
 refine bC.OD J fun K' B' g1 C ρ F a w ah ar gh=>?_
 obtain⟨bj,bP,bU,O,aD,dh⟩:=ah.holds c _ gh;have af:=ar.mp ((g1 x m1).trans hx);have br:=l0 O;have e1:=fun o=>MapKept.run_setObj_map (P:=P) o O
 have aw:(Builtin.clear_ #[T] o.type #[.map (some (ρ c).bh)]).run P w= .ok (.tuple #[]) {w with heap:=w.heap.setIfInBounds (ρ c).bh (.map #[] bU)}:=by
  simp[Builtin.clear_,run_underlying b4,av0 O,e1,Result.andThen]
 refine⟨{w with heap:=w.heap.setIfInBounds (ρ c).bh (.map #[] bU)},?_,tL ((bj _).2 rfl),fun I a2=>⟨bj,[],bU,by simp[br],rfl,az9,fun e U=>by cases U⟩⟩;simp[execOp,ai,resolve,invoke,builtin,af,aw]
def bC.Sm {o:Oper} {c:Nat} {iW:aD3} {cA ch:ba} (J:ae B c=some cA)
  (h: ∀(K':aW) (B':av),(∀x,x∈o.op.operands->a1 K' x=a1 K x)->(∀d,d∈iW->ae B' d=ae B d)-> ∀(C:eZ) (ρ:Nat->bm) (F:Nat->Nat->Prop) (a:Act) (w:aD8),Mem ids C B' ρ F w->eh K' ρ (bX C B' F w) a w->ae B' c=some cA-> ∃w',(execOp a.eval o).run P w= .ok .skip w'/\cR (F c) w w'/\
   (∀I,cj (bX C B' F w) w I w'->Holds ρ I (F c) w' (ρ c) ch)):
  bC P N ids o K B .undef ⟨c::iW,[],[(c,some ch)]⟩:=by
 rintro K' B' E G - C a w ⟨hn,H,ρ,F,ah,ar⟩ br fF Q cT;have c0:ae B' c=some cA:=(G c az9).trans J;obtain⟨w',hx,cC,c9⟩:=h K' B' E (fun d H=>G d (ap4 _ H)) C ρ F a w ah ar c0;obtain⟨bK,U⟩:=ah.hz c0 cC c9;unfold Oper.wp;rw[hx,Oper.upon_skip];exact cT _ _ ⟨kf.trans hn,kg.trans H,ρ,F,bK,(ar.mono U fun _ _ _=>rfl).kh (fun e U=>by rw[hn];exact br e U) rfl⟩
def zW (es:List (aa aj×aa .fn)):bc where
 bn:=fun I F w p=>Holds (fun _=>⟨0,none,0,0⟩) I F w p (.map aj .fn es)
 cg:=fun I F w I' w' p h U bj aO=>Holds.cg U bj aO _ (fun _ _=>rfl) h
def Cx (es:List (aa aj×aa .fn)) (ch:ba):Prop:=ch= .map aj .fn es\/ch= .aA (zW es)
def Cx.holds {es:List (aa aj×aa .fn)} {ch:ba} (h:Cx es ch) {ρ:Nat->bm} {I F:Nat->Prop} {w:aD8} {p:bm}:Holds ρ I F w p ch↔(∀b,F b↔b=p.bh)/\ ∃bP bU,w.heap[p.bh]? =some (.map (List.toArray bP) bU)/\h4 I w aj .fn es bP/\lB bP bU:=by
 rcases h with rfl |rfl
 .exact Iff.rfl
 .exact Iff.rfl
def zX {o:Oper} {T kt et:aE4} {x i v:aE0} {c f hA iY pA m1 m2 m3 b1 b2 b3:Nat} (ai:o.op= .insert T x i v) (b4:P.underlying T=some (.map kt et)) (k4:P.underlying kt=some (.int .i64)) {es:List (aa aj×aa .fn)} {ch ch':ba} (hx:a1 K x= .c (.one (.mp c))) {key:Int} (Z:a1 K i= .c (.one (.d (.int .i64 key))))
  (ay:a1 K v= .c (.one (.cW f [.p hA 0,.p iY 0,.p pA 0]))) (E:ae B m1=some (.bY hA (eO b1))) (G:ae B m2=some (.bY iY (eO b2))) (ag:ae B m3=some (.bY pA (eO b3)))
  (J:ae B c=some ch) (hw:Cx es ch) (pD:Cx (dw (aI:=aj) (aK:=.fn) es key (f,[b1,b2,b3])) ch') (N:Nat):bC P N ids o K B .undef ⟨[c,m1,m2,m3],[],[(c,some ch')]⟩:=by
 have c4:x∈o.op.operands:=aA4
 have ec:i∈o.op.operands:=aA4
 have mn:v∈o.op.operands:=aA4
 refine bC.Sm J fun K' B' g1 g2 C ρ F a w ah ar gh=>?_
 obtain⟨bj,bP,bU,O,aD,dh⟩:=hw.holds.1 (ah.holds c _ gh);have af:=ar.mp ((g1 x c4).trans hx);have al:a.eval i= .int .i64 key:=ar.int ((g1 i ec).trans Z)
 have bt:a.eval v=l2 (f,[b1,b2,b3]):=by
  have h:=ar.ev ((g1 v mn).trans ay);obtain⟨aB,e,mH,r1,af,cE,v2,r2,al,cG,v3,fI,bt,dG,e3⟩:=h;have co:=ou (N:=N) (a:=a) ah ((g2 m1 az9).trans E);have cZ:=ou (N:=N) (a:=a) ah ((g2 m2 az9).trans G);have ei:=ou (N:=N) (a:=a) ah ((g2 m3 az9).trans ag);have cE:mH= .pointer (some ⟨(ρ hA).bh,0,none⟩):=cE;have cG:v2= .pointer (some ⟨(ρ iY).bh,0,none⟩):=cG;have dG:v3= .pointer (some ⟨(ρ pA).bh,0,none⟩):=dG;have e3:fI=[]:=e3;rw[e,af,al,bt,cE,cG,dG,e3,co,cZ,ei];rfl
 have cx:jn (bX C B' F w) w .fn (f,[b1,b2,b3]) (l2 (f,[b1,b2,b3])):=⟨rfl,⟨fun _=>rfl,fun e=>by cases e⟩,rfl⟩;obtain⟨eK,jE,aw,gj,pC⟩:=AW (P:=P) (aI:=aj) (aK:=.fn) b4 k4 rfl O aD dh key cx;have br:=l0 O;refine⟨{w with heap:=w.heap.setIfInBounds (ρ c).bh (.map (List.toArray eK) jE)},?_,tL ((bj _).2 rfl),fun I a2=>pD.holds.2 ⟨bj,eK,jE,by simp[br],gj.mono a2,pC⟩⟩;have aw:(Instr.mapUpdate T (.map (some (ρ c).bh)) (.int .i64 key) (l2 (f,[b1,b2,b3]))).run P w= .ok () {w with heap:=w.heap.setIfInBounds (ρ c).bh (.map (List.toArray eK) jE)}:=aw;simp only[execOp,ai,as8,af,al,bt,aw,ar0,at8]
def afM (x:Option (aa .fn)):aN:=match x with
 |some x=>.cm [.one (.d (.fn x)),.one (.d (.lit true))]
 |none=>.cm [.one .any,.one (.d (.lit false))]
def afN {I:Nat->Prop} {w:aD8} {x:aa .fn} {v:aE7} (h:jn I w .fn x v):v=l2 x:=by have E:=h.2.1.1 rfl;have G:=h.2.2;rw[E] at G;have G:some v=some (l2 x):=G;injection G
def Ll {aQ:df} (bk:d5 P aQ) {o:Oper} {T kt et:aE4} {x i:aE0} {c:Nat} (ai:o.op= .lookup T x i true) (b4:P.underlying T=some (.map kt et)) (k4:P.underlying kt=some (.int .i64)) {ti:b5} (gL:aQ.find et=some ti) {es:List (aa aj×aa .fn)} (hx:a1 K x= .c (.one (.mp c))) {key:Int} (Z:a1 K i= .c (.one (.d (.int .i64 key))))
  (J:ae B c=some (.aA (zW es))) {r:Option (aa .fn)} (aw:bV (aI:=aj) (aK:=.fn) es key=r) (N:Nat):bC P N ids o K B (afM r) ⟨[c],[],[]⟩:=by
 have c4:x∈o.op.operands:=aA4
 have ec:i∈o.op.operands:=aA4
 subst aw;obtain⟨E',d,bv⟩:=bk.at_ gL;obtain⟨aF,aO,oh⟩:=bv.zero;refine bC.val fun K' B' g1 g2 C ρ F a w ah ar=>?_
 obtain⟨bj,bP,bU,O,aD,dh⟩:=(Cx.holds (.inr rfl)).1 (ah.holds c _ ((g2 c az9).trans J));have af:=ar.mp ((g1 x c4).trans hx);have al:a.eval i= .int .i64 key:=ar.int ((g1 i ec).trans Z);have Jm:(zeroValue et).run P w= .ok aF w:=by simp[zeroValue,typeInfo,bv.jW,aO]
 have s4:=fun e=>MapKept.run_checkKey (P:=P) (w:=w) k4 (so (aI:=aj) (d:=.int .i64) rfl key) e 9999
 rcases AV (I:=bX C B' F w) (w:=w) (aI:=aj) (aK:=.fn) (d:=.int .i64) rfl key es bP 0 aD with⟨bR,b',_⟩ |⟨j,y,e,bR,b',_,_,a5,_⟩
 .have hf:=MapKept.run_findKey (P:=P) (w:=w) k4 bR;refine⟨.tuple #[aF,.bool false],?_,by rw[b'];exact⟨[aF,.bool false],rfl,_,_,rfl,trivial,_,_,rfl,rfl,rfl⟩⟩
  have aw:(Instr.lookup T (.map (some (ρ c).bh)) (.int .i64 key) true).run P w= .ok (.tuple #[aF,.bool false]) w:=by
   simp only[gI] at s4 hf;simp[Instr.lookup,run_underlying b4,av0 O,s4,hf,Jm,Result.andThen]
  simp only[execOp,ai,as8,af,al,aw,ar0,at8]
 .have hf:=MapKept.run_findKey (P:=P) (w:=w) k4 bR;have aC:=afN a5;refine⟨.tuple #[l2 y,.bool true],?_,by rw[b'];exact⟨[l2 y,.bool true],rfl,_,_,rfl,rfl,_,_,rfl,rfl,rfl⟩⟩
  have aw:(Instr.lookup T (.map (some (ρ c).bh)) (.int .i64 key) true).run P w= .ok (.tuple #[l2 y,.bool true]) w:=by
   simp only[gI] at s4 hf;simp[Instr.lookup,run_underlying b4,av0 O,s4,hf,Result.andThen,aC]
  simp only[execOp,ai,as8,af,al,aw,ar0,at8]
def ac.Sn (s f hA iY pA m1 m2 m3 b1 b2 b3:Nat) (ax:dQ K s= .c (.one (.d (.fn (f,[b1,b2,b3]))))) (E:ae B m1=some (.bY hA (eO b1))) (G:ae B m2=some (.bY iY (eO b2))) (ag:ae B m3=some (.bY pA (eO b3))):ac ids K B ((s,.c (.one (.cW f [.p hA 0,.p iY 0,.p pA 0])))::K) B:=by
 rintro N C a w ⟨hn,H,ρ,F,ah,ar⟩;refine⟨hn,H,ρ,F,ah,fun t=>?_⟩;rw[ke]
 split
 .rename_i e;subst e;have h:=ar s;rw[ax] at h;have h:a.tmps.getD s undef=l2 (f,[b1,b2,b3]):=h;have co:=ou (N:=N) (a:=a) ah E;have cZ:=ou (N:=N) (a:=a) ah G;have ei:=ou (N:=N) (a:=a) ah ag;exact⟨_,h,_,_,rfl,by rw[<-co];rfl,_,_,rfl,by rw[<-cZ];rfl,_,_,rfl,by rw[<-ei];rfl,rfl⟩
 .exact ar t
end
abbrev Cy (k:Nat):aa aj×aa aj:=@Prod.mk Int Int (k:Int) 1
abbrev fR (l:aD3):List (aa aj×aa aj):=l.map Cy
def m4 (l:aD3) (k:Nat):aD3:=if k∈l then l else l++[k]
def Lm (l:aD3):(fR l).length=l.length:=aq3 _
def Cz (a b:Nat):fD aj (a:Int) (b:Int)=decide (a=b):=by
 show decide ((a:Int)=(b:Int))=_
 by_cases h:a=b
 .rw[aq1 h,aq1 az7]
 .rw[as7 h,as7 az7]
def afO {l:aD4} {p:aa aj×aa aj} {k x:Int} (h:fD aj k p.1=true):dw (aI:=aj) (aK:=aj) (p::l) k x= @Prod.mk Int Int k x::l:=by simp only[dw,h];rfl
def afP {l:aD4} {p:aa aj×aa aj} {k x:Int} (h:fD aj k p.1=false):dw (aI:=aj) (aK:=aj) (p::l) k x=p::dw (aI:=aj) (aK:=aj) l k x:=by simp only[dw,h]
def afQ {l:aD4} {p:aa aj×aa aj} {k:Int} (h:fD aj k p.1=true):gB (aI:=aj) (aK:=aj) (p::l) k=l:=by simp only[gB,h]
def afR {l:aD4} {p:aa aj×aa aj} {k:Int} (h:fD aj k p.1=false):gB (aI:=aj) (aK:=aj) (p::l) k=p::gB (aI:=aj) (aK:=aj) l k:=by simp only[gB,h]
def CA (k:Nat): ∀l:aD3,dw (aI:=aj) (aK:=aj) (fR l) (k:Int) (1:Int)=fR (m4 l k)
 | []=>rfl
 |x::l=>by
  by_cases h:k=x
  .refine(afO (p:=Cy x) (l:=fR l) ((Cz k x).trans (aq1 h))).trans ?_;subst h;unfold m4;rw[vj (aq4 ..)];rfl
  .refine(afP (p:=Cy x) (l:=fR l) ((Cz k x).trans (as7 h))).trans ?_;rw[CA k l];unfold m4
   by_cases G:k∈l
   .rw[vj G,vj (ap4 _ G)];rfl
   .rw[mu G,mu (fun e=>by rcases ap7.1 e with e |e;exact h e;exact G e)];rfl
def Ln (k:Nat): ∀l:aD3,gB (aI:=aj) (aK:=aj) (fR l) (k:Int)=fR (l.erase k)
 | []=>rfl
 |x::l=>by
  by_cases h:k=x
  .refine(afQ (p:=Cy x) (l:=fR l) ((Cz k x).trans (aq1 h))).trans ?_;subst h;rw[List.erase_cons_head]
  .refine(afR (p:=Cy x) (l:=fR l) ((Cz k x).trans (as7 h))).trans ?_;rw[Ln k l,List.erase_cons_tail (by simpa using fun e=>h e.symm)];rfl
def CB {l:aD3} {k x:Nat}:x∈m4 l k↔x∈l\/x=k:=by
 unfold m4
 split
 .rename_i h;exact⟨.inl,fun h'=>h'.elim id fun e=>e▸h⟩
 .rw[ar7,aq6]
def So {l:aD3} {k:Nat} (h:l.Nodup):(m4 l k).Nodup:=by
 unfold m4
 split
 .exact h
 .rename_i Z;rw[List.nodup_append];refine⟨h,az9,fun a ha b O e=>?_⟩;rw[aq6] at O;subst O e;exact Z ha
def uv (l:aD3):e8 (fR l)=l.map fun k:Nat=>(k:Int):=by unfold e8 fR;rw[at6];rfl
def Lo {l:aD3} (h:l.Nodup):(e8 (fR l)).Nodup:=by rw[uv];exact Ld (fun x _ y _ e=>by have e:(x:Int)=(y:Int):=e;omega) h
def Lp {l:aD3} (h: ∀k,k∈l->k<=1000000): ∀s∈e8 (fR l),(Lit.int .i64 s).wf=true:=fun s ax=>by
 rw[uv] at ax;obtain⟨k,Z,rfl⟩:=ar6.1 ax;have:=h k Z;show(decide (IntKind.i64.min<=(k:Int))&&decide ((k:Int)<=IntKind.i64.max))=true;rw[aq1 (show(IntKind.i64.min:Int)<=(k:Int) from Int.le_trans (by decide:IntKind.i64.min<=(0:Int)) az7),aq1 (show(k:Int)<=IntKind.i64.max from Int.le_trans (by omega:(k:Int)<=1000000) az8)];rfl
def eA (l:aD3):Nat:=(oE (l.map fun k:Nat=>(k:Int))).toNat
def FX {l:aD3} (h:l≠[]):oE (l.map fun k:Nat=>(k:Int))=((eA l:Nat):Int)/\eA l∈l/\ ∀y,y∈l->eA l<=y:=by
 have a6:l.map (fun k:Nat=>(k:Int))≠[]:=aA6
 obtain⟨E,G⟩:=Lk a6;obtain⟨k,Z,U⟩:=ar6.1 E;have aD:eA l=k:=by unfold eA;rw[<-U];rfl
 refine⟨by rw[aD,U],by rw[aD];exact Z,fun y aC=>?_⟩;have:=G _ (ar8 aC);rw[aD];omega
end
section
section
variable {z R:Nat} {L:aD5} {top base:aD2}
def afS {uw kt:Nat} (cx:d9 L base uw) (b4:d9 L top kt) (br:base=[]\/uw < kt) (E:top≠base) (G:top∉c6 L uw base) {n:aD2} {j:Nat} (h:d9 L n j): ∃i,i<=j/\d9 (dZ L top base) n i:=by
 have rO:d9 (dZ L top base) base uw:=KZ cx (au7 E) G
 have vJ: ∀d,dk L top=some d-> ∀{j},d9 L top j-> ∃i,i<=j/\d9 (dZ L top base) top i:=fun d H j V=>by
  have e:dk (dZ L top base) top=some (eE top base d):=by rw[lQ,H];rfl
  have um:=FK (back:=base) (cO H).2;have zo:=zO V b4
  by_cases O:base=[]
  .exact⟨0,ap9 _,.base e (by rw[um];exact O)⟩
  .exact⟨uw+1,by have:=br.resolve_left O;omega,.step e (by rw[um];exact O) (by rw[um];exact rO)⟩
 induction h with
 |gone h=>exact⟨0,ap9 _,.gone (by rw[lQ,h];rfl)⟩
 | @base n d g1 g2=>
  have e:=(cO g1).2
  by_cases c:n=top
  .subst c;exact vJ d g1 (.base g1 g2)
  .exact⟨0,ap9 _,.base (d:=d) (by rw[lQ,g1];show some (eE top base d)=_;rw[vK (by rw[e];exact c)]) g2⟩
 | @step n d j g1 g2 cX bl=>
  have e:=(cO g1).2
  by_cases c:n=top
  .subst c;exact vJ d g1 (.step g1 g2 cX)
  .obtain⟨i,aG,H⟩:=bl;exact⟨i+1,az7,.step (d:=d) (by rw[lQ,g1];show some (eE top base d)=_;rw[vK (by rw[e];exact c)]) g2 H⟩
def afT (h:cc z R L):dk L []=none:=by
 cases x:dk L [] with
 |none=>rfl
 |some y=>exact ap0 rfl (Cs h ⟨y,x⟩)
def Lq (h:cc z R L) {d:aL} (H:dk L top=some d) (aG:hs L top base=true):hV L top base=⟨0,dZ L top base⟩:=by
 obtain⟨g1,g2,cX⟩:=R' h H aG;have b4:=(h.bY top).1;have cx:=(h.bY base).1
 have br:base=[]\/cf L base < cf L top:=by
  by_cases e:base=[]
  .exact .inl e
  .rw[mu e] at cX;exact .inr az7
 have E:top≠base:=fun e=>by
  rcases br with O |O
  .exact Cs h ⟨d,H⟩ (e.trans O)
  .rw[e] at O;omega
 have G:top∉c6 L (cf L base) base:=fun aD=>by
  rcases br with O |O
  .rw[O,show cf L []=0 from qU (.gone (afT h)) az7] at aD
   cases aD
  .obtain⟨j,V,ag⟩:=KO cx top aD;have:=zO ag b4;omega
 unfold hV;rw[mu,mu,vj]
 .intro n hn;obtain⟨i,aG,pb⟩:=afS cx b4 br E G (h.bY n).1;have:=(h.bY n).2;rw[qU pb az7];omega
 .exact fun x=>x.elim E G
 .rintro(x |x)
  .rw[H] at x;cases x
  .rw[at1] at x;rcases g2 with e |⟨e,U⟩
   .exact(oj x.1) e
   .rw[U] at x;cases x.2
def Sp {k:Nat} (h:nN L top base=some k):hs L top base=true/\k < b6 L top/\pc L top base k=true/\ ∀j,j < k->pc L top base j=false:=by
 unfold nN at h
 split at h
 .rename_i O;obtain⟨g1,g2,cX⟩:=List.find?_range_eq_some.1 h;exact⟨O,List.mem_range.1 g2,g1,fun j V=>by simpa using cX j V⟩
 .cases h
def afU (O:hs L top base=true) (h:nN L top base=none): ∀k,k < b6 L top->pc L top base k=false:=by unfold nN at h;rw[vj O] at h;intro k Z;simpa using List.find?_range_eq_none.1 h k Z
def afV (h: ∀k,k < b6 L top->pc L top base k=false):nN L top base=none:=by
 unfold nN
 split
 .exact List.find?_range_eq_none.2 fun k Z=>by simp[h k Z]
 .rfl
def afW (h:cc z R L) {t:aD2} {d:aL} {im:bA} (H:dk L t=some d) (ax:h8 d.im im):j6 (dg L t im none) top base=j6 L top base/\hs (dg L t im none) top base=hs L top base:=by unfold j6 hs;rw[FN h t im none top,zN,(Lg L H ax).2];exact⟨rfl,rfl⟩
end
def afX {z R:Nat} {L:aD5} {top base:aD2} (h:cc z R L) {d:aL} (H:dk L top=some d) (aG:hs L top base=true) (hn:nN L top base=none):cc z R (dZ L top base)/\kB z (dZ L top base) top=kB z L top:=by
 have aw:=Lq h H aG;have xL:=K0 h top base;rw[aw] at xL;have xL:cc z R (dZ L top base):=xL;have dd:dk (dZ L top base) top=some (eE top base d):=by rw[lQ,H];rfl
 refine⟨xL,Lf ?_ (by rw[dd,H];rfl) fun s ax=>?_⟩
 .unfold b6;rw[dd,H];show(eE top base d).im.t.length=_;rw[Cn]
 .have cL:b6 L top=d.im.t.length:=aB2
  rw[cL] at ax;have J:s/2 ^z < d.im.t.length:=(aw8 (Nat.two_pow_pos z)).2 ax;have:=afI h H aG (by rw[aw]) J (afU aG hn _ (by rw[cL];exact J));rw[aw] at this;rw[qV,qV];exact ap1 (fun x=>kA x (s % 2 ^z)) this
end
section
def ac.rX {ids:aD3} {K:aW} {B:av} (c:Nat) {l l':List bw} (J:ae B c=some (.cells l)) (ak:AY l l'):ac ids K B K ((c,.cells l')::B):=by
 rintro N C a w ⟨hn,H,ρ,F,ah,ar⟩
 obtain⟨bK,a2⟩:=ah.hz (w':=w) (ch:=.cells l') J (cR.refl _ _) fun I aZ=>by
  obtain⟨E,aB,T,G,ag⟩:=ah.holds c _ J;exact⟨E,aB,T,G,ID ak (cb.mono aZ _ _ (fun _ _=>rfl) ag)⟩
 exact⟨hn,H,ρ,F,bK,ar.mono a2 fun _ _ _=>rfl⟩
def vO (s:bA):Fn prog 140 [ap 1001] (c8 s) [] (ab (s.z:Nat)) (c8 s):=by refine aU [] func140 ?_;exact bd
end
section
abbrev Lr (top base:aD2) (over:Bool):List bw:=[.ptr 1001 0,.d (.str top),.d (.str base),.mp 2002,.d (.bool over)]
abbrev iE (z R:Int) (L:aD5) (top base:aD2) (l:aD3) (over:Bool):av:=bM z R L++[(2001,.cells (Lr top base over)),(2002,.map aj aj (fR l))]
def nO (L:aD5) (top:aD2):Int:=if(e7 L top).2≠0\/(e7 L top).1=[] then 140 else if 1 < (qT L (e7 L top).1).length then 143 else if b6 L (e7 L top).1 < b6 L top then 1 else 0
def s5 (L:aD5) (top:aD2):aD3:=(List.range (b6 L top)).filter fun k=> !g' L top k
def m5 (z n:Nat) (l:aD3) (a aT:Int):aD3:=(List.range n).foldl (fun l k=>if a < ((k*2 ^z+2 ^z:Nat):Int)/\((k*2 ^z:Nat):Int) - aT < a then m4 l k else l) l
def p0 (L:aD5) (n:aD2) (k:Nat):Int:=match dk L n with
 |none=>0
 |some d=>(d.im.t.getD k b7).1
def iF (z:Nat) (L:aD5) (top base:aD2) (k:Nat):m0:=if p0 L top k=1 then fu z L base ((k*2 ^z:Nat):Int) (gm z L top (k:Int)) else if p0 L top k=2 then j4 z L base ((k*2 ^z:Nat):Int) ((2 ^z:Nat):Int) else⟨0,L⟩
structure afY where
 done:Bool
 e:Int
 L:List aL
 l:aD3
 over:Bool
def eY (z:Nat) (L:aD5) (top base:aD2) (l:aD3) (over:Bool):afY:=if over=true then⟨false,150,L,l,true⟩ else if l=[] then⟨true,0,(j5 L top 0 ((b6 L top*2 ^z:Nat):Int)).L,[],true⟩ else
 ⟨false,(iF z L top base (eA l)).e,(iF z L top base (eA l)).L,if(iF z L top base (eA l)).e=0 then l.erase (eA l) else l,false⟩
section
variable {z R:Nat} {L:aD5} {top base:aD2}
def afZ (z R:Int) (L:aD5) (top base:aD2) (l:aD3) (over:Bool):Fn prog 320 [ap 2001] (iE z R L top base l over) [] (gT over) (iE z R L top base l over):=by refine aU [] func320 ?_;exact bd
def Sq (z R:Int) (L:aD5) (top base:aD2) (l:aD3) (over:Bool):Fn prog 322 [ap 2001] (iE z R L top base l over) [] gU (iE z R L top base [] true):=by refine aU [] func322 ?_;refine bo (Sl rfl underlying206 rfl rfl) ?_;exact⟨_,_,_,ac.rX 2001 (l':=Lr top base true) rfl aE,rfl,trivial,aE,rfl⟩
def af0 (z R:Int) (L:aD5) (top base:aD2) (l:aD3) (over:Bool):Fn prog 319 [ap 2001] (iE z R L top base l over) [] gU (iE z R L top base [] true):=by refine aU [] func319 ?_;exact az (Sq z R L top base l over) bd
def FY (U:nO L top=0):(e7 L top).2=0/\(e7 L top).1≠[]/\(qT L (e7 L top).1).length<=1/\b6 L top<=b6 L (e7 L top).1:=by
 unfold nO at U
 split at U
 .exact ap0 U az8
 .rename_i E
  split at U
  .exact ap0 U az8
  .rename_i G
   split at U
   .exact ap0 U az8
   .rename_i ag;refine⟨at0 fun e=>E (.inl e),fun e=>E (.inr e),az7,az7⟩
def CC (h:cc z R L) (E:(e7 L top).2=0): ∃d,dk L top=some d/\(e7 L top).1=d.back/\(d.back≠[]-> ∃e,dk L d.back=some e):=by
 unfold e7 at E⊢
 cases H:dk L top with
 |none=>rw[H] at E;exact ap0 E az8
 |some d=>exact⟨d,rfl,rfl,h.h9 d (cO H).1⟩
def af1 (h:cc z R L) (top:aD2) (U:nO L top≠0):Fn prog 76 [ap 1001,bS top] (bM z R L) [] (.cm [oV,dJ (nO L top)]) (bM z R L):=by
 have ix:=FI h top;have wK:=RT h (e7 L top).1;have bv:=fun E=>CC (top:=top) h E
 have mQ:(e7 L top).2≠0\/(e7 L top).1=[]->nO L top=140:=fun e=>vj e
 have wZ: ¬((e7 L top).2≠0\/(e7 L top).1=[])->1 < (qT L (e7 L top).1).length->nO L top=143:=fun af al=>(mu af).trans (vj al)
 have Sr: ¬((e7 L top).2≠0\/(e7 L top).1=[])-> ¬1 < (qT L (e7 L top).1).length->b6 L (e7 L top).1 < b6 L top->nO L top=1:=fun af al bt=>(mu af).trans ((mu al).trans (vj bt))
 have zj: ¬((e7 L top).2≠0\/(e7 L top).1=[])-> ¬1 < (qT L (e7 L top).1).length-> ¬b6 L (e7 L top).1 < b6 L top->nO L top=0:=fun af al bt=>(mu af).trans ((mu al).trans (mu bt))
 generalize nO L top=aoL at*;generalize e7 L top=fS at*;obtain⟨ht,be⟩:=fS;have ix:Fn prog 134 [ap 1001,bS top] (bM z R L) [] (.cm [.one (.d (.str ht)),dJ be]) (bM z R L):=ix;generalize qT L ht=us at*;refine aU [4,6] func76 ?_;refine az ix ⟨fun E=>?_,fun E=>?_⟩
 .have E:(!decide (be=0))=true:=E;have E: ¬be=0:=aC9
  exact er bu rfl ⟨rfl,(mQ (.inl E)).symm,trivial⟩
 have E:(!decide (be=0))=false:=E;have E:be=0:=aC9
 refine⟨fun G=>?_,fun G=>?_⟩
 .have G:ht=[]:=gd G;exact er bu rfl ⟨rfl,(mQ (.inr G)).symm,trivial⟩
 have G: ¬ht=[]:=oj G;have hn: ¬(be≠0\/ht=[]):=fun e=>e.elim (fun e=>e E) G
 refine bx [6] (bu) <| az wK ⟨fun ag=>?_,fun ag=>?_⟩
 .have ag:decide ((1:Int) < ((us.length:Nat):Int))=true:=ag;have ag:1 < us.length:=by have:=gd ag;omega
  exact er bu rfl ⟨rfl,(wZ hn ag).symm,trivial⟩
 have ag:decide ((1:Int) < ((us.length:Nat):Int))=false:=ag;have ag: ¬1 < us.length:=by have:=oj ag;omega
 obtain⟨d,H,O,g8⟩:=bv E;have O:ht=d.back:=O;obtain⟨e,qW⟩:=g8 (by rw[<-O];exact G);rw[<-O] at qW;have ls:=h.toir.M (cO H).1;have Ls:=h.toir.M (cO qW).1;have jb:b6 L top=d.im.t.length:=aB2
 have f0:b6 L ht=e.im.t.length:=by unfold b6;rw[qW]
 rw[jb,f0] at Sr zj;refine bx [] (cH [(0,ap 1001),(1,bS top),(6,bS ht)] (bM z R L)) <| az (jh _ _ L h.toir ht e qW) <| az (hG (mV e.im) Ls rfl rfl rfl rfl) <| az (jh _ _ L h.toir top d H) <| az (hG (mV d.im) ls rfl rfl rfl rfl) ⟨fun aS=>?_,fun aS=>?_⟩
 .have aS:decide (((e.im.t.length:Nat):Int) < ((d.im.t.length:Nat):Int))=true:=aS;have aS:e.im.t.length < d.im.t.length:=by have:=gd aS;omega
  exact er bu rfl ⟨rfl,(Sr hn ag aS).symm,trivial⟩
 .exfalso;have aS:decide (((e.im.t.length:Nat):Int) < ((d.im.t.length:Nat):Int))=false:=aS;have aS: ¬e.im.t.length < d.im.t.length:=by have:=oj aS;omega
  exact U (zj hn ag aS)
abbrev af2 (top ht:aD2) (n k:Nat):aW:=[(0,ap 1001),(1,bS top),(6,bS ht),(8,ap 44),(48,ab (n:Nat)),(49,ab (k:Nat))]
abbrev Lt (z R:Int) (L:aD5) (top base:aD2) (l:aD3):av:=bM z R L++[(44,.cells [.ptr 1001 0,.d (.str top),.d (.str base),.mp 42,.d (.bool false)]),(42,.map aj aj (fR l))]
def Ss (p:Nat->Bool) (k:Nat):(List.range (k+1)).filter p=(List.range k).filter p++if p k=true then[k] else[]:=by
 rw[List.range_succ,List.filter_append]
 cases h:p k with
 |true=>rw[vj rfl,List.filter_cons_of_pos h];rfl
 |false=>rw[mu az8,List.filter_cons_of_neg (by rw[h];decide)];rfl
def af3 (p:Nat->Bool) (k:Nat) (h:p k=true):m4 ((List.range k).filter p) k=(List.range (k+1)).filter p:=by rw[Ss,vj h];unfold m4;rw[mu (fun e=>by have:=List.mem_range.1 (ay0.1 e).1;omega)]
def af4 (h:cc z R L) (top:aD2) (U:nO L top=0):Fn prog 76 [ap 1001,bS top] (bM z R L) [2001,2002] (.cm [.one (.ptr 2001 0),dJ 0]) (iE z R L top (e7 L top).1 (s5 L top) false):=by
 obtain⟨af,al,bt,c3⟩:=FY U;obtain⟨d,H,O,g8⟩:=CC h af;obtain⟨e,qW⟩:=g8 (by rw[<-O];exact al);rw[<-O] at qW;have ls:=h.toir.M (cO H).1;have Ls:=h.toir.M (cO qW).1;have mX:=(h.fQ d (cO H).1).1.ez;have jb:b6 L top=d.im.t.length:=aB2
 have f0:b6 L (e7 L top).1=e.im.t.length:=by unfold b6;rw[qW]
 have af5:s5 L top=(List.range d.im.t.length).filter fun k=> !g' L top k:=by unfold s5;rw[jb]
 have af6: ∀k,k < d.im.t.length->g' L top k=decide ((d.im.t.getD k b7).1=0):=fun k Z=>by
  unfold g';rw[H];show(decide (d.im.t.length<=k)||_)=_;rw[as7 az7];rfl
 rw[jb,f0] at c3;rw[af5];have ix:=FI h top;have wK:=RT h (e7 L top).1;have af7:=af3 (fun k=> !g' L top k);have af8:=fun k (Z:g' L top k=true)=>Ss (fun k=> !g' L top k) k
 generalize e7 L top=fS at*;obtain⟨ht,be⟩:=fS;have af:be=0:=af;have al: ¬ht=[]:=al;have bt:(qT L ht).length<=1:=bt;subst af;have ix:Fn prog 134 [ap 1001,bS top] (bM z R L) [] (.cm [.one (.d (.str ht)),dJ 0]) (bM z R L):=ix;have wK:Fn prog 135 [ap 1001,bS ht] (bM z R L) [] (b0 .str (qT L ht)) (bM z R L):=wK;generalize qT L ht=us at*;refine aU [4,6,8,9] func76 ?_;refine az ix <| dR ⟨fun G=>ap0 (gd G) al,fun _=>bx [6,8,9] (cH [(0,ap 1001),(1,bS top),(6,bS ht)] (bM z R L)) <| az wK ⟨fun ag=>?_,fun _=>?_⟩⟩
 .exfalso;have ag:decide ((1:Int) < ((us.length:Nat):Int))=true:=ag;have:=gd ag;omega
 refine bx [8,9] (cH [(0,ap 1001),(1,bS top),(6,bS ht)] (bM z R L)) <| az (jh _ _ L h.toir ht e qW) <| az (hG (mV e.im) Ls rfl rfl rfl rfl) <| az (jh _ _ L h.toir top d H) <| az (hG (mV d.im) ls rfl rfl rfl rfl) ⟨fun aS=>?_,fun _=>?_⟩
 .exfalso;have aS:decide (((e.im.t.length:Nat):Int) < ((d.im.t.length:Nat):Int))=true:=aS;have:=gd aS;omega
 refine bx [9] (cH [(0,ap 1001),(1,bS top),(6,bS ht)] (bM z R L)) ⟨rfl,rfl,bx [] (ac.trans (ac.rX 44 (l':=[.ptr 1001 0,.d (.str top),.d (.str ht),.mp 42,.d (.bool false)]) rfl aE) (cH [(0,ap 1001),(1,bS top),(6,bS ht),(8,ap 44)] (Lt z R L top ht []))) <| az (jh _ _ L h.toir top d H) <| az (hG (mV d.im) ls rfl rfl rfl rfl) <| ed [12,13] (X:=Nat) (fun k=>af2 top ht d.im.t.length k) (fun k=>Lt z R L top ht ((List.range k).filter fun k=> !g' L top k)) (fun k=>k<=d.im.t.length) (fun k=>d.im.t.length - k) 0 (ap9 _) ?_ ?_⟩
 .exact ac.sub aE aE
 intro k Z;have Z:k<=d.im.t.length:=Z;refine⟨fun J=>?_,fun J=>?_⟩
 .have J:decide ((k:Int) < ((d.im.t.length:Nat):Int))=true:=J;have iP:k < d.im.t.length:=aC0
  have bf:=af6 k iP;refine bx [13] (bu) <| az (jh _ _ L h.toir top d H) <| az (hG (zx d.im mX k iP) ls rfl rfl rfl rfl) ⟨fun bG=>?_,fun bG=>?_⟩
  .have bG:(!decide ((d.im.t.getD k b7).1=0))=true:=bG;have qR:=af7 k (by show(!g' L top k)=true;rw[bf];exact bG);exact bx [] (cH [(0,ap 1001),(1,bS top),(6,bS ht),(8,ap 44),(48,ab (d.im.t.length:Nat)),(49,ab (k:Nat)),(9,ab (k:Nat))] (Lt z R L top ht ((List.range k).filter fun k=> !g' L top k))) ⟨trivial,az7,k+1,iP,az7,ac.sub aE ⟨rfl,rfl,rfl,rfl,rfl,ap1 (fun aF=>some (ba.map aj aj aF)) ((CA k _).trans (ap1 fR qR)),trivial⟩⟩
  .have bG:(!decide ((d.im.t.getD k b7).1=0))=false:=bG;have FZ:g' L top k=true:=by rw[bf];simpa using bG
   have ax:=af8 k FZ;rw[mu (by rw[FZ];decide),at3] at ax;exact⟨az7,k+1,iP,az7,ac.sub aE ⟨rfl,rfl,rfl,rfl,rfl,ap1 (fun aF=>some (ba.map aj aj (fR aF))) ax.symm,trivial⟩⟩
 .have J:decide ((k:Int) < ((d.im.t.length:Nat):Int))=false:=J;have iP:k=d.im.t.length:=aB5
  subst iP;exact⟨_,_,_,ac.trans (ac.a7 44 2001 rfl) (ac.a7 42 2002 rfl),rfl,aE,aE,rfl⟩
end
section
variable {z R:Nat} {L:aD5} {top base:aD2}
def F0 (z n:Nat) (l:aD3) (a aT:Int):m5 z (n+1) l a aT=if a < ((n*2 ^z+2 ^z:Nat):Int)/\((n*2 ^z:Nat):Int) - aT < a then m4 (m5 z n l a aT) n else m5 z n l a aT:=by unfold m5;rw[List.range_succ,ax4];rfl
def p1 (z:Nat) (L:aD5) (top:aD2) (l:aD3) (over:Bool) (a aT:Int):aD3:=if over=true\/aT < 1 then l else m5 z (b6 L top) l a aT
abbrev af9 (am:Nat) (a aT:Int) (n k:Nat):aW:=[(0,ap 2001),(1,ab a),(2,ab aT),(6,di am),(31,ab (n:Nat)),(32,ab (k:Nat))]
def af' (h:cc z R L) (base:aD2) (l:aD3) (over:Bool) (a aT:Int) (ux:aT<=9223372036854775807) {d:aL} (H:dk L top=some d):Fn prog 122 [ap 2001,ab a,ab aT] (iE z R L top base l over) [] gU (iE z R L top base (p1 z L top l over a aT) over):=by
 have mX:=(h.fQ d (cO H).1).1.ez;have fl:=h.toir.M (cO H).1;have ki:d.im.z=z:=(h.fQ d (cO H).1).2.1;have ao:=iO h.b3;have xM:=h.b3;have cL:b6 L top=d.im.t.length:=aB2
 cases over with
 |true=>
  have e:p1 z L top l true a aT=l:=vj (.inl rfl);rw[e];refine aU [] func122 ?_;exact az (jh _ _ L h.toir top d H) ⟨rfl,gV bd⟩
 |false=>
  have af:aT < 1->p1 z L top l false a aT=l:=fun e=>vj (.inr e)
  have al: ¬aT < 1->p1 z L top l false a aT=m5 z d.im.t.length l a aT:=fun e=>(mu (fun c=>c.elim (fun c=>by cases c) e)).trans (by rw[cL])
  have ar:=fun k=>F0 z k l a aT
  have aoM:m5 z 0 l a aT=l:=rfl;generalize p1 z L top l false a aT=jO at*
  have oF: ∀k:Nat,(k:Int)*((2 ^((d.im.z:Nat):Int).toNat:Nat):Int)=((k*2 ^z:Nat):Int):=fun k=>by
   rw[ki];show(k:Int)*((2 ^z:Nat):Int)=_;rw[aw9]
  have qX:(1:Int)*((2 ^((d.im.z:Nat):Int).toNat:Nat):Int)=((2 ^z:Nat):Int):=by
   have:=oF 1;rw[Nat.one_mul] at this;exact this
  refine aU [2] func122 ?_;refine az (jh _ _ L h.toir top d H) ⟨rfl,dR ⟨fun _ _=>⟨fun ak=>?_,fun ak=>?_⟩,fun h=>by cases h⟩⟩
  .have ak:aT < 1:=gd ak;exact rL bu rfl trivial ⟨rfl,rfl,rfl,rfl,rfl,ap1 (fun aF=>some (ba.map aj aj (fR aF))) (af ak).symm,trivial⟩ rfl
  have ak: ¬aT < 1:=oj ak;have al:=al ak;refine bx [] (cH [(0,ap 2001),(1,ab a),(2,ab aT),(6,di d.am)] (iE z R L top base l false)) <| az (hG (mV d.im) fl rfl rfl rfl rfl) <| ed [6,7] (X:=Nat) (fun k=>af9 d.am a aT d.im.t.length k) (fun k=>iE z R L top base (m5 z k l a aT) false) (fun k=>k<=d.im.t.length) (fun k=>d.im.t.length - k) 0 (ap9 _) ?_ ?_
  .exact ac.sub aE aE
  intro k Z;have Z:k<=d.im.t.length:=Z;refine⟨fun J=>?_,fun J=>?_⟩
  .have J:decide ((k:Int) < ((d.im.t.length:Nat):Int))=true:=J;have iP:k < d.im.t.length:=aC0
   have St:=oF k;have Su:=ar k;have mk:k*2 ^z<=256*8:=au6 az7 ao.2;have m1:(0:Int)<=(k:Int)/\(0:Int)<=((d.im.z:Nat):Int)/\((d.im.z:Nat):Int)<=64:=aA5
   have m2:c5 ((k:Int)*((2 ^((d.im.z:Nat):Int).toNat:Nat):Int)):=by rw[St];omega
   have c4:(0:Int)<=(1:Int)/\(0:Int)<=((d.im.z:Nat):Int)/\((d.im.z:Nat):Int)<=64:=aA5
   have ec:c5 ((1:Int)*((2 ^((d.im.z:Nat):Int).toNat:Nat):Int)):=by rw[qX];omega
   have mn:c5 (((k*2 ^z:Nat):Int)+(1:Int)*((2 ^((d.im.z:Nat):Int).toNat:Nat):Int)):=by rw[qX];omega
   have rS:c5 (((k*2 ^z:Nat):Int) - aT):=aA5
   have Sv:((k*2 ^z:Nat):Int)+(1:Int)*((2 ^((d.im.z:Nat):Int).toNat:Nat):Int)=((k*2 ^z+2 ^z:Nat):Int):=by rw[qX];omega
   refine az (hG (vO d.im) fl rfl rfl rfl rfl) ⟨m1,m2,bx [7] (ac.sub (K':=[(0,ap 2001),(1,ab a),(2,ab aT),(6,di d.am),(31,ab (d.im.t.length:Nat)),(32,ab (k:Nat)),(7,ab (k:Nat)),(8,ab ((k*2 ^z:Nat):Int))]) (B':=iE z R L top base (m5 z k l a aT) false) ⟨rfl,rfl,rfl,rfl,rfl,rfl,rfl,St,trivial⟩ aE) <| az (hG (vO d.im) fl rfl rfl rfl rfl) ⟨c4,ec,mn,?_⟩⟩;have zY:(¬(a < ((k*2 ^z+2 ^z:Nat):Int)/\((k*2 ^z:Nat):Int) - aT < a))->m5 z k l a aT=m5 z (k+1) l a aT:=fun e=>by rw[Su,mu e]
   refine⟨fun cy=>?_,fun cy=>?_⟩
   .have cy:decide (a < ((k*2 ^z:Nat):Int)+(1:Int)*((2 ^((d.im.z:Nat):Int).toNat:Nat):Int))=true:=cy;have cy:=gd cy;rw[Sv] at cy;refine⟨rS,fun cu=>?_,fun cu=>?_⟩
    .have cu:decide (((k*2 ^z:Nat):Int) - aT < a)=true:=cu;have cu:=gd cu;have aY:m4 (m5 z k l a aT) k=m5 z (k+1) l a aT:=by rw[Su,vj ⟨cy,cu⟩]
     exact bx [] (cH [(0,ap 2001),(1,ab a),(2,ab aT),(6,di d.am),(31,ab (d.im.t.length:Nat)),(32,ab (k:Nat)),(7,ab (k:Nat))] (iE z R L top base (m5 z k l a aT) false)) ⟨trivial,az7,k+1,iP,az7,ac.sub aE ⟨rfl,rfl,rfl,rfl,rfl,ap1 (fun aF=>some (ba.map aj aj aF)) ((CA k _).trans (ap1 fR aY)),trivial⟩⟩
    .have cu:decide (((k*2 ^z:Nat):Int) - aT < a)=false:=cu;have cu:=oj cu;exact⟨az7,k+1,iP,az7,ac.sub aE ⟨rfl,rfl,rfl,rfl,rfl,ap1 (fun aF=>some (ba.map aj aj (fR aF))) (zY fun e=>cu e.2),trivial⟩⟩
   .have cy:decide (a < ((k*2 ^z:Nat):Int)+(1:Int)*((2 ^((d.im.z:Nat):Int).toNat:Nat):Int))=false:=cy;have cy:=oj cy;rw[Sv] at cy;exact⟨az7,k+1,iP,az7,ac.sub aE ⟨rfl,rfl,rfl,rfl,rfl,ap1 (fun aF=>some (ba.map aj aj (fR aF))) (zY fun e=>cy e.1),trivial⟩⟩
  .have J:decide ((k:Int) < ((d.im.t.length:Nat):Int))=false:=J;have iP:k=d.im.t.length:=aB5
   subst iP;exact rL bu rfl trivial ⟨rfl,rfl,rfl,rfl,rfl,ap1 (fun aF=>some (ba.map aj aj (fR aF))) al.symm,trivial⟩ rfl
abbrev F1 (z R:Int) (L:aD5) (top base:aD2) (l:aD3) (x y:Int):av:=iE z R L top base l false++[(3001,.cells [.ptr 2001 0]),(3002,.cells [.d (.int .i64 x)]),(3003,.cells [.d (.int .i64 y)])]
def aga (h:cc z R L) (base:aD2) (l:aD3) (a:Int) (k:Nat) {d:aL} (H:dk L top=some d) (Z:k < d.im.t.length):Fn prog 325 [ap 3001,ap 3002,ap 3003] (F1 z R L top base l a (k:Int)) [] (ab (fu z L base a (gm z L top (k:Int))).e) (F1 z R (fu z L base a (gm z L top (k:Int))).L top base l a (k:Int)):=by
 have dI:=K1 h top (k:Int);have ao:=iO h.b3
 have bZ:(gm z L top (k:Int)).length<=1000000000:=by
  have:gm z L top (k:Int)=fe z L top (cf L top) k:=by
   unfold gm;rw[H];simp only;rw[vj ⟨az7,az7⟩];rfl
  rw[this,xA h.tomZ H (h.bY top).1 k];omega
 have F2:=KW h base a (gm z L top (k:Int)) bZ;generalize gm z L top (k:Int)=x at*;generalize fu z L base a x=r at*;refine aU [] func325 ?_;exact az dI <| az F2 ⟨rfl,bd⟩
def agb (h:cc z R L) (top base:aD2) (l:aD3) (a aT:Int):Fn prog 326 [ap 3001,ap 3002,ap 3003] (F1 z R L top base l a aT) [] (ab (j4 z L base a aT).e) (F1 z R (j4 z L base a aT).L top base l a aT):=by have agc:=afk h base a aT;generalize j4 z L base a aT=r at*;refine aU [] func326 ?_;exact az agc ⟨rfl,bd⟩
abbrev CD (z R:Int) (L:aD5) (top base:aD2) (l:aD3) (k a aT:Int) (ej e4 ff gO:Nat) (es:List (aa aj×aa .fn)):av:=iE z R L top base l false++[(4,.cells [.ptr 2001 0]),(5,.cells [.d (.int .i64 k)]),(6,.cells [.d (.int .i64 a)]),(7,.cells [.d (.int .i64 aT)]),(9004,.bY 4 (eO ej)),(9005,.bY 5 (eO e4)),(9006,.bY 6 (eO ff)),(9007,.bY 7 (eO gO)),(12,.aA (zW es))]
def qY (ej e4 ff gO:Nat):List (aa aj×aa .fn):=dw (aI:=aj) (aK:=.fn) (dw (aI:=aj) (aK:=.fn) [] (1:Int) (325,[ej,ff,e4])) (2:Int) (326,[ej,ff,gO])
def agd (ej e4 ff gO:Nat):bV (aI:=aj) (aK:=.fn) (qY ej e4 ff gO) (1:Int)=some (325,[ej,ff,e4]):=rfl
def age (ej e4 ff gO:Nat):bV (aI:=aj) (aK:=.fn) (qY ej e4 ff gO) (2:Int)=some (326,[ej,ff,gO]):=rfl
def agf (ej e4 ff gO:Nat) {x:Int} (E:x≠1) (G:x≠2):bV (aI:=aj) (aK:=.fn) (qY ej e4 ff gO) x=none:=by have af:fD aj x (1:Int)=false:=as7 E;have al:fD aj x (2:Int)=false:=as7 G;have e:qY ej e4 ff gO=[(@Prod.mk (aa aj) (aa .fn) (1:Int) (325,[ej,ff,e4])),(@Prod.mk (aa aj) (aa .fn) (2:Int) (326,[ej,ff,gO]))]:=rfl;rw[e];simp only[bV,af,al]
def agh (h:cc z R L) (base:aD2) (l:aD3) (k:Nat) (a aT:Int) (ha:a=((k*2 ^z:Nat):Int)) (aV:aT=((2 ^z:Nat):Int)) {d:aL} (H:dk L top=some d) (Z:k < d.im.t.length):Fn prog 324 [ap 2001,ab (k:Int),ab a,ab aT] (iE z R L top base l false) [] (ab (iF z L top base k).e) (iE z R (iF z L top base k).L top base l false):=by
 have mX:=(h.fQ d (cO H).1).1.ez;have fl:=h.toir.M (cO H).1;have uy:p0 L top k=(d.im.t.getD k b7).1:=by unfold p0;rw[H]
 have zZ:=zx d.im mX k Z;rw[<-uy] at zZ;have jd:=aga h base l a k H Z;have iZ:=agb h top base l a aT
 by_cases cy:p0 L top k=1
 .have e:iF z L top base k=fu z L base a (gm z L top (k:Int)):=by rw[ha];exact vj cy
  rw[e];rw[cy] at zZ;generalize fu z L base a (gm z L top (k:Int))=r at*;refine aU [1,2,3,5] func324 ?_;refine⟨rfl,rfl,rfl,rfl,bB.fJ (du.mark 4 9004 rfl az8) fun ej=>bB.fJ (du.mark 5 9005 rfl az8) fun e4=>bB.fJ (du.mark 6 9006 rfl az8) fun ff=>bB.fJ (du.mark 7 9007 rfl az8) fun gO=>bx [2,3,5] (bu) ⟨rfl,bo (zX (m1:=9004) (m2:=9006) (m3:=9005) (b1:=ej) (b2:=ff) (b3:=e4) (ch':=.map aj .fn (dw (aI:=aj) (aK:=.fn) [] (1:Int) (325,[ej,ff,e4]))) rfl underlying390 underlying3 rfl rfl rfl rfl rfl rfl rfl (.inl rfl) (.inl rfl)) ?_⟩⟩;refine bo (zX (m1:=9004) (m2:=9006) (m3:=9007) (b1:=ej) (b2:=ff) (b3:=gO) (ch':=.aA (zW (qY ej e4 ff gO))) rfl underlying390 underlying3 rfl rfl rfl rfl rfl rfl rfl (.inl rfl) (.inr rfl)) ?_;refine bx [3,5] (cH [(4,ap 4),(5,ap 5),(6,ap 6),(7,ap 7),(9,.c (.one (.mp 12)))] (CD z R L top base l k a aT ej e4 ff gO (qY ej e4 ff gO))) <| az (jh _ _ L h.toir top d H) <| az (hG zZ fl rfl rfl rfl rfl) <| bo (Ll eC (ti:=_) rfl underlying390 underlying3 rfl rfl rfl rfl (agd ej e4 ff gO)) ?_;exact⟨rfl,bx [5] (cH [(10,.c (.one (.d (.fn (325,[ej,ff,e4]))))),(11,oa true)] (CD z R L top base l k a aT ej e4 ff gO (qY ej e4 ff gO))) <| bB.le (ac.Sn 10 325 4 6 5 9004 9006 9005 ej ff e4 rfl rfl rfl rfl) <| bx [] (bu) <| az (Fn.a7 [(3001,4),(3002,6),(3003,5)] jd) bd⟩
 by_cases cu:p0 L top k=2
 .have e:iF z L top base k=j4 z L base a aT:=by rw[ha,aV];exact(mu cy).trans (vj cu)
  rw[e];rw[cu] at zZ;generalize j4 z L base a aT=r at*;refine aU [1,2,3,5] func324 ?_;refine⟨rfl,rfl,rfl,rfl,bB.fJ (du.mark 4 9004 rfl az8) fun ej=>bB.fJ (du.mark 5 9005 rfl az8) fun e4=>bB.fJ (du.mark 6 9006 rfl az8) fun ff=>bB.fJ (du.mark 7 9007 rfl az8) fun gO=>bx [2,3,5] (bu) ⟨rfl,bo (zX (m1:=9004) (m2:=9006) (m3:=9005) (b1:=ej) (b2:=ff) (b3:=e4) (ch':=.map aj .fn (dw (aI:=aj) (aK:=.fn) [] (1:Int) (325,[ej,ff,e4]))) rfl underlying390 underlying3 rfl rfl rfl rfl rfl rfl rfl (.inl rfl) (.inl rfl)) ?_⟩⟩;refine bo (zX (m1:=9004) (m2:=9006) (m3:=9007) (b1:=ej) (b2:=ff) (b3:=gO) (ch':=.aA (zW (qY ej e4 ff gO))) rfl underlying390 underlying3 rfl rfl rfl rfl rfl rfl rfl (.inl rfl) (.inr rfl)) ?_;refine bx [3,5] (cH [(4,ap 4),(5,ap 5),(6,ap 6),(7,ap 7),(9,.c (.one (.mp 12)))] (CD z R L top base l k a aT ej e4 ff gO (qY ej e4 ff gO))) <| az (jh _ _ L h.toir top d H) <| az (hG zZ fl rfl rfl rfl rfl) <| bo (Ll eC (ti:=_) rfl underlying390 underlying3 rfl rfl rfl rfl (age ej e4 ff gO)) ?_;exact⟨rfl,bx [5] (cH [(10,.c (.one (.d (.fn (326,[ej,ff,gO]))))),(11,oa true)] (CD z R L top base l k a aT ej e4 ff gO (qY ej e4 ff gO))) <| bB.le (ac.Sn 10 326 4 6 7 9004 9006 9007 ej ff gO rfl rfl rfl rfl) <| bx [] (bu) <| az (Fn.a7 [(3001,4),(3002,6),(3003,7)] iZ) bd⟩
 .have e:iF z L top base k=⟨0,L⟩:=(mu cy).trans (mu cu);rw[e];have hw:=fun ej e4 ff gO=>agf ej e4 ff gO cy cu
  generalize p0 L top k=cK at*;refine aU [1,2,3,5] func324 ?_;refine⟨rfl,rfl,rfl,rfl,bB.fJ (du.mark 4 9004 rfl az8) fun ej=>bB.fJ (du.mark 5 9005 rfl az8) fun e4=>bB.fJ (du.mark 6 9006 rfl az8) fun ff=>bB.fJ (du.mark 7 9007 rfl az8) fun gO=>bx [2,3,5] (bu) ⟨rfl,bo (zX (m1:=9004) (m2:=9006) (m3:=9005) (b1:=ej) (b2:=ff) (b3:=e4) (ch':=.map aj .fn (dw (aI:=aj) (aK:=.fn) [] (1:Int) (325,[ej,ff,e4]))) rfl underlying390 underlying3 rfl rfl rfl rfl rfl rfl rfl (.inl rfl) (.inl rfl)) ?_⟩⟩;refine bo (zX (m1:=9004) (m2:=9006) (m3:=9007) (b1:=ej) (b2:=ff) (b3:=gO) (ch':=.aA (zW (qY ej e4 ff gO))) rfl underlying390 underlying3 rfl rfl rfl rfl rfl rfl rfl (.inl rfl) (.inr rfl)) ?_;refine bx [3,5] (cH [(4,ap 4),(5,ap 5),(6,ap 6),(7,ap 7),(9,.c (.one (.mp 12)))] (CD z R L top base l k a aT ej e4 ff gO (qY ej e4 ff gO))) <| az (jh _ _ L h.toir top d H) <| az (hG zZ fl rfl rfl rfl rfl) <| bo (Ll eC (ti:=_) rfl underlying390 underlying3 rfl rfl rfl rfl (hw ej e4 ff gO)) ?_;exact⟨rfl,bx [5] (cH [(11,oa false)] (iE z R L top base l false)) bd⟩
end
section
variable {z R:Nat} {L:aD5} {top base:aD2}
def agi (h:cc z R L) (base:aD2) (l:aD3) (over:Bool) {d:aL} (H:dk L top=some d) (ak: ∀k,k∈l->k < d.im.t.length) (hn:l.Nodup):Fn prog 321 [ap 2001] (iE z R L top base l over) [] (.cm [.one (.d (.bool (eY z L top base l over).done)),dJ (eY z L top base l over).e]) (iE z R (eY z L top base l over).L top base (eY z L top base l over).l (eY z L top base l over).over):=by
 have mX:=(h.fQ d (cO H).1).1.ez;have fl:=h.toir.M (cO H).1;have ki:d.im.z=z:=(h.fQ d (cO H).1).2.1;have xM:=h.b3;have ao:=iO h.b3
 cases over with
 |true=>
  have e:eY z L top base l true=⟨false,150,L,l,true⟩:=vj rfl;rw[e];refine aU [] func321 ?_;exact az (jh _ _ L h.toir top d H) ⟨rfl,gV bd⟩
 |false=>
  have qX:(1:Int)*((2 ^((d.im.z:Nat):Int).toNat:Nat):Int)=((2 ^z:Nat):Int):=by
   rw[ki,Int.one_mul];rfl
  have c4:(0:Int)<=(1:Int)/\(0:Int)<=((d.im.z:Nat):Int)/\((d.im.z:Nat):Int)<=64:=aA5
  have ec:c5 ((1:Int)*((2 ^((d.im.z:Nat):Int).toNat:Nat):Int)):=by rw[qX];omega
  by_cases a6:l=[]
  .have cL:b6 L top=d.im.t.length:=aB2
   have e:eY z L top base l false=⟨true,0,(j5 L top 0 ((d.im.t.length*2 ^z:Nat):Int)).L,[],true⟩:=by
    unfold eY;rw[mu az8,vj a6,cL]
   rw[e];subst a6;have hL:=afl h top 0 ((d.im.t.length*2 ^z:Nat):Int);have aoN:=afj h top 0 ((d.im.t.length*2 ^z:Nat):Int);have mk:d.im.t.length*2 ^z<=256*8:=au6 mX ao.2;have em:((d.im.t.length:Nat):Int)*((2 ^z:Nat):Int)=((d.im.t.length*2 ^z:Nat):Int):=by rw[aw9]
   have m3:c5 (((d.im.t.length:Nat):Int)*((2 ^z:Nat):Int)):=by rw[em];omega
   rw[<-em] at hL⊢;generalize j5 L top 0 (((d.im.t.length:Nat):Int)*((2 ^z:Nat):Int))=r at*;refine aU [4,6,7] func321 ?_;exact az (jh _ _ L h.toir top d H) ⟨rfl,dR ⟨fun _ _=>bx [6,7] (cH [(0,ap 2001),(4,di d.am)] (iE z R L top base [] false)) <| az (hG (vO d.im) fl rfl rfl rfl rfl) ⟨c4,ec,gV <| bx [7] (ac.sub (K':=[(0,ap 2001),(4,di d.am),(5,ab ((2 ^z:Nat):Int))]) (B':=iE z R L top base [] false) ⟨rfl,rfl,qX,trivial⟩ aE) <| az (hG (mV d.im) fl rfl rfl rfl rfl) ⟨m3,az hL ⟨rfl,bx [] (cH [(0,ap 2001)] (iE z R r.L top base [] false)) <| az (Sq z R r.L top base [] false) bd⟩⟩⟩,fun h=>by cases h⟩⟩
  .have e:eY z L top base l false=⟨false,(iF z L top base (eA l)).e,(iF z L top base (eA l)).L,if(iF z L top base (eA l)).e=0 then l.erase (eA l) else l,false⟩:=by
    unfold eY;rw[mu az8,mu a6]
   rw[e];obtain⟨cE,cG,dG⟩:=FX a6;have Z:=ak _ cG
   have AS: ∀g:{gY:List Int//gY.Perm (e8 (fR l))},oE g.1=((eA l:Nat):Int):=fun g=>by
    rw[Sj g.2 (by rw[uv];simpa using a6),uv];exact cE
   have ug: ∀g:{gY:List Int//gY.Perm (e8 (fR l))},g.1.length=l.length:=fun g=>by
    rw[g.2.length_eq,uv,aq3]
   have mm:l.length<=256:=by
    have:=FR d.im.t.length l hn ak;omega
   have mS:0 < l.length:=List.length_pos_iff.2 a6;have y2:=Lm l;have Lu:=Sh (fR l) (Lo hn) (Lp fun k Z=>by have:=ak k Z;omega) az7;have mk:eA l*2 ^z<=256*8:=au6 az7 ao.2;have em:((eA l:Nat):Int)*((2 ^z:Nat):Int)=((eA l*2 ^z:Nat):Int):=by rw[aw9]
   have m3:c5 (((eA l:Nat):Int)*((2 ^z:Nat):Int)):=by rw[em];omega
   have agj:=agh h base l (eA l) _ _ em rfl H Z;have dd:=Ln (eA l) l;generalize eA l=qZ at*;generalize iF z L top base qZ=r at*;refine aU [4,9,10,12] func321 ?_;refine az (jh _ _ L h.toir top d H) ⟨rfl,dR ⟨fun _ _=>bx [9,10,12] (cH [(0,ap 2001),(4,di d.am)] (iE z R L top base l false)) <| az (hG (vO d.im) fl rfl rfl rfl rfl) ⟨c4,ec,fun J=>?_,fun _=>?_⟩,fun h=>by cases h⟩⟩
   .exfalso;have J:decide ((((fR l).length:Nat):Int)=0)=true:=J;have:=gd J;omega
   refine bB.le (ac.sub (K':=[(0,ap 2001),(5,ab ((2 ^z:Nat):Int))]) (B':=iE z R L top base l false) ⟨rfl,qX,trivial⟩ aE) <| bB.hP eC aA0 <| mN ((Fn.a7 [(1001,2002),(2001,9001)] (Lj (fR l))).x) fun _=>mN (cz.a7 [(1001,2002),(2001,9001)] Lu) fun g=>?_
   have agk:=ug g;have CE:=AS g;refine mN ((Sk g.1 az7 az7).x) fun _=>bx [12] (ac.sub (K':=[(0,ap 2001),(5,ab ((2 ^z:Nat):Int)),(6,ab (qZ:Nat))]) (B':=iE z R L top base l false) ⟨rfl,rfl,CE,trivial⟩ aE) ⟨m3,az agj ⟨fun U=>?_,fun U=>?_⟩⟩
   .have U:r.e=0:=gd U;exact bx [] (cH [(0,ap 2001),(6,ab (qZ:Nat)),(7,ab r.e)] (iE z R r.L top base l false)) <| rL bu rfl aE ⟨rfl,rfl,rfl,rfl,rfl,ap1 (fun aF=>some (ba.map aj aj aF)) (dd.trans (ap1 fR (vj U).symm)),trivial⟩ rfl
   .have U: ¬r.e=0:=oj U;exact rL bu rfl aE ⟨rfl,rfl,rfl,rfl,rfl,ap1 (fun aF=>some (ba.map aj aj (fR aF))) (mu U).symm,trivial⟩ rfl
end
end
section
section
variable {z R:Nat} {L:aD5}
def iD.aR {L':aD5} {t:aD2} (ak:iD L t L') (n:aD2):b6 L' n=b6 L n/\(dk L' n).isSome=(dk L n).isSome:=by
 rcases ak with rfl |⟨d,im,au,ax,rfl⟩
 .exact⟨rfl,rfl⟩
 .exact Lg L au ax
end
end
section
section
variable {z R:Nat} {L:aD5} {top base:aD2} {l:aD3}
structure la (z R:Nat) (L:aD5) (top:aD2) (l:aD3):Prop where
 cs:cc z R L
 h9:(dk L top).isSome=true
 lt: ∀k,k∈l->k < b6 L top
 ho:l.Nodup
def la.q0 {L':aD5} {t:aD2} (h:la z R L top l) (ak:iD L t L'):la z R L' top l:=⟨ak.cs h.cs,by rw[(ak.aR top).2];exact h.h9,fun k Z=>by rw[(ak.aR top).1];exact h.lt k Z,h.ho⟩
def CF (h:cc z R L) (top base:aD2) (k:Nat):iD L base (iF z L top base k).L:=by
 unfold iF
 split
 .exact vL h _ _ _
 .split
  .exact FM h _ _ _
  .exact .inl rfl
def la.step (h:la z R L top l) (base:aD2) (over:Bool):la z R (eY z L top base l over).L top (eY z L top base l over).l:=by
 unfold eY
 split
 .exact h
 .split
  .exact⟨(h.q0 (ut h.cs _ _ _)).cs,(h.q0 (ut h.cs _ _ _)).h9,fun k Z=>(by cases Z),av1⟩
  .have E:=h.q0 (CF h.cs top base (eA l));refine⟨E.cs,E.h9,fun k Z=>E.lt k ?_,?_⟩
   .have Z:k∈(if(iF z L top base (eA l)).e=0 then l.erase (eA l) else l):=Z
    split at Z
    .exact List.mem_of_mem_erase Z
    .exact Z
   .show(if(iF z L top base (eA l)).e=0 then l.erase (eA l) else l).Nodup
    split
    .exact h.ho.erase _
    .exact h.ho
def la.F3 (h:cc z R L) (U:nO L top=0):la z R L top (s5 L top):=by obtain⟨d,H,_⟩:=CC h (FY U).1;exact⟨h,by rw[H];rfl,fun k Z=>List.mem_range.1 (ay0.1 Z).1,List.nodup_range.filter _⟩
def la.get (h:la z R L top l): ∃d,dk L top=some d/\ ∀k,k∈l->k < d.im.t.length:=by obtain⟨d,H⟩:=as5.1 h.h9;refine⟨d,H,fun k Z=>?_⟩;have:=h.lt k Z;unfold b6 at this;rw[H] at this;exact this
def la.Lv (h:la z R L top l) (base:aD2) (over:Bool):Fn prog 321 [ap 2001] (iE z R L top base l over) [] (.cm [.one (.d (.bool (eY z L top base l over).done)),dJ (eY z L top base l over).e]) (iE z R (eY z L top base l over).L top base (eY z L top base l over).l (eY z L top base l over).over):=
 let⟨_,H,ak⟩:=h.get
 agi h.cs base l over H ak h.ho
def agl {z n:Nat} {l:aD3} {a aT:Int}: ∀{k:Nat},k∈m5 z n l a aT->k∈l\/k < n:=by
 induction n with
 |zero=>exact fun h=>.inl h
 |succ n bl=>
  intro k Z;rw[F0] at Z
  split at Z
  .rcases CB.1 Z with Z |rfl
   .exact(bl Z).imp id az7
   .exact .inr az7
  .exact(bl Z).imp id az7
def agm {z n:Nat} {l:aD3} {a aT:Int} (h:l.Nodup):(m5 z n l a aT).Nodup:=by
 induction n with
 |zero=>exact h
 |succ n bl=>
  rw[F0]
  split
  .exact So bl
  .exact bl
def la.wr (h:la z R L top l) (over:Bool) (a aT:Int):la z R L top (p1 z L top l over a aT):=by
 unfold p1
 split
 .exact h
 .exact⟨h.cs,h.h9,fun k Z=>(agl Z).elim (h.lt k) id,agm h.ho⟩
end
section
variable {z R:Nat} {L:aD5} {top base nm:aD2} {l:aD3}
def agn {d:aL} (H:dk L top=some d) {k:Nat} (Z:k < d.im.t.length):gm z L top (k:Int)=fe z L top (cf L top) k:=by unfold gm;rw[H];simp only;rw[vj ⟨az7,az7⟩];rfl
structure kQ (z R:Nat) (L:aD5) (top base:aD2) (l:aD3):Prop extends la z R L top l where
 uw:(dk L base).isSome=true
 le:b6 L top<=b6 L base
 fS:e7 L top=(base,0)
 ne:base≠[]
def kQ.F3 (h:cc z R L) (U:nO L top=0):kQ z R L top (e7 L top).1 (s5 L top):=by obtain⟨af,al,bt,c3⟩:=FY U;obtain⟨d,H,O,g8⟩:=CC h af;obtain⟨e,qW⟩:=g8 (by rw[<-O];exact al);rw[<-O] at qW;exact⟨la.F3 h U,by rw[qW];rfl,c3,by rw[<-af],al⟩
def iD.e7 {L':aD5} {t:aD2} (ak:iD L t L') (n:aD2):e7 L' n=e7 L n:=by
 rcases ak with rfl |⟨d,im,au,ax,rfl⟩
 .rfl
 .unfold Go.Proofs.YtgclhiekndohdaaGreat.e7;rw[uo]
  cases H:dk L n with
  |none=>rfl
  |some d=>show(_,_)=(_,_);rw[xG]
def kQ.q0 {L':aD5} {t:aD2} (h:kQ z R L top base l) (ak:iD L t L'):kQ z R L' top base l:=⟨h.tola.q0 ak,by rw[(ak.aR base).2];exact h.uw,by rw[(ak.aR base).1,(ak.aR top).1];exact h.le,by rw[ak.e7];exact h.fS,h.ne⟩
def kQ.step (h:kQ z R L top base l) (over:Bool):kQ z R (eY z L top base l over).L top base (eY z L top base l over).l/\ ∃t,iD L t (eY z L top base l over).L:=by
 have aD:=h.tola.step base over
 have ak: ∃t,iD L t (eY z L top base l over).L:=by
  unfold eY
  split
  .exact⟨top,.inl rfl⟩
  .split
   .exact⟨top,ut h.cs _ _ _⟩
   .exact⟨base,CF h.cs top base _⟩
 refine⟨?_,ak⟩;obtain⟨t,ak⟩:=ak;have E:=h.q0 ak;exact⟨aD,E.uw,E.le,E.fS,E.ne⟩
def kQ.wr (h:kQ z R L top base l) (over:Bool) (a aT:Int):kQ z R L top base (p1 z L top l over a aT):=⟨h.tola.wr over a aT,h.uw,h.le,h.fS,h.ne⟩
end
def ga (z:Nat) (L:aD5) (nm:aD2) (s:Nat):aD2:=ji z L nm (cf L nm) s
def q1 (z:Nat) (L:aD5) (top base:aD2) (l:aD3):Prop:= ∀s,s < b6 L top*2 ^z->s/2 ^z∉l->ga z L top s=ga z L base s
section
variable {z R:Nat} {L L':aD5} {top base t:aD2} {l:aD3}
def kQ.dk (h:kQ z R L top base l): ∃d,Go.Proofs.YtgclhiekndohdaaGreat.dk L top=some d/\d.back=base:=by
 have O:=h.fS;unfold e7 at O
 cases H:Go.Proofs.YtgclhiekndohdaaGreat.dk L top with
 |none=>rw[H] at O;exact ap0 (ap1 Prod.snd O) (show¬(140:Int)=0 by decide)
 |some d=>
  rw[H] at O;exact⟨d,rfl,ap1 Prod.fst O⟩
def vP {L L':aD5} {n rq:aD2} {s:Nat} (h:fe z L' rq (cf L' rq) (s/2 ^z)=fe z L n (cf L n) (s/2 ^z)):ga z L' rq s=ga z L n s:=by unfold ga;rw[qV,qV,h]
def CG (h:cc z R L) {d:aL} (H:dk L top=some d) (a6:d.back≠[]) {c:Nat} (aO:(d.im.t.getD c b7).1=0):fe z L top (cf L top) c=fe z L d.back (cf L d.back) c:=by rw[xJ H (fun e=>e.2 aO),K7 h H a6,K5 H]
def Lw {d:aL} (H:dk L top=some d) {cK c:Nat} (J:c < d.im.t.length) (aO:(d.im.t.getD c b7).1≠0):fe z L top cK c=ee d.im c none:=by unfold fe;rw[FL H ⟨J,aO⟩]
def F4 {n s:Nat} (h:s < n*2 ^z):s/2 ^z < n:=(aw8 (Nat.two_pow_pos z)).2 h
def ago (h:cc z R L) (ak:iD L base L') {d:aL} (H:dk L top=some d) (O:d.back=base) (a6:base≠[]):dk L' top=some d/\cc z R L'/\ ∀s,s < b6 L top*2 ^z->
  ((d.im.t.getD (s/2 ^z) b7).1≠0->ga z L' top s=ga z L top s)/\((d.im.t.getD (s/2 ^z) b7).1=0->ga z L' top s=ga z L' base s/\ga z L top s=ga z L base s):=by
 subst O;have rO:=K9 h H a6;have fZ:=ak.cs h
 have c1:dk L' top=some d:=by
  rcases ak with rfl |⟨e,im,au,ax,rfl⟩
  .exact H
  .rw[FD (fun e=>rO.ne e.symm),H]
 refine⟨c1,fZ,fun s ax=>⟨fun aO=>?_,fun aO=>?_⟩⟩
 .have J:=F4 ax;have cL:b6 L top=d.im.t.length:=aB2
  rw[cL] at J;exact vP (by rw[Lw c1 J aO,Lw H J aO])
 .exact⟨vP (CG fZ c1 a6 aO),vP (CG h H a6 aO)⟩
def z1 {k s:Nat}:(k*2 ^z<=s/\s < k*2 ^z+2 ^z)↔s/2 ^z=k:=by have ao:=Nat.two_pow_pos z;rw[Nat.div_eq_iff ao];have:(k+1)*2 ^z=k*2 ^z+2 ^z:=aw7 ..;omega
def agp {k s:Nat} (h:s/2 ^z=k):s - k*2 ^z=s % 2 ^z:=by have E:=Nat.div_add_mod s (2 ^z);rw[h,ax5] at E;omega
def agq (h:kQ z R L top base l) {k:Nat} (Z:k < b6 L top) (U:(iF z L top base k).e=0) (s:Nat):ga z (iF z L top base k).L base s=if s/2 ^z=k then ga z L top s else ga z L base s:=by
 obtain⟨d,H,O⟩:=h.dk;have ao:=iO h.cs.b3;have cL:b6 L top=d.im.t.length:=aB2
 have uy:p0 L top k=(d.im.t.getD k b7).1:=by unfold p0;rw[H]
 rw[cL] at Z;have aq:=(h.cs.fQ d (cO H).1).1
 by_cases cy:p0 L top k=1
 .have e:iF z L top base k=fu z L base ((k*2 ^z:Nat):Int) (gm z L top (k:Int)):=vj cy;rw[e,agn H Z] at U⊢;have hw:=FQ h.cs U s;have bZ:(fe z L top (cf L top) k).length=16*2 ^z:=xA h.cs.tomZ H (h.cs.bY top).1 k;rw[bZ,show 16*2 ^z/16=2 ^z by omega] at hw;have hw:ga z (fu z L base ((k*2 ^z:Nat):Int) (fe z L top (cf L top) k)).L base s=if k*2 ^z<=s/\s < k*2 ^z+2 ^z then kA (fe z L top (cf L top) k) (s - k*2 ^z) else ga z L base s:=hw
  rw[hw]
  by_cases c:s/2 ^z=k
  .rw[vj (z1.2 c),vj c,agp c];unfold ga;rw[qV,c]
  .rw[mu (fun e=>c (z1.1 e)),mu c]
 .by_cases cu:p0 L top k=2
  .have e:iF z L top base k=j4 z L base ((k*2 ^z:Nat):Int) ((2 ^z:Nat):Int):=(mu cy).trans (vj cu);rw[e] at U⊢;have hw:ga z (j4 z L base ((k*2 ^z:Nat):Int) ((2 ^z:Nat):Int)).L base s=if k*2 ^z<=s/\s < k*2 ^z+2 ^z then List.replicate 16 0 else ga z L base s:=R8 h.cs U s
   rw[hw]
   by_cases c:s/2 ^z=k
   .rw[vj (z1.2 c),vj c];unfold ga;rw[qV,c,Lw H Z (by rw[<-uy,cu];decide)];have aV:d.im.t[k]? =some d.im.t[k]:=ao7 Z;have qk:d.im.t.getD k b7=d.im.t[k]:=by rw[ap2,aV];rfl
    have aY:d.im.t[k]? =some sX:=by
     rcases aq.slot k _ aV with e |e |⟨x,e,_⟩
     .rw[qk,e] at uy;rw[uy] at cu;exact ap0 cu az8
     .rw[aV,e]
     .rw[qk,e] at uy;rw[uy] at cu;exact ap0 cu (show¬(1:Int)=2 by decide)
    rw[Lc aY];unfold iq;rw[zU h.cs H,FO];have:=Nat.mod_lt s (Nat.two_pow_pos z);omega
   .rw[mu (fun e=>c (z1.1 e)),mu c]
  .have e:iF z L top base k=⟨0,L⟩:=(mu cy).trans (mu cu);rw[e];show ga z L base s=_
   split
   .rename_i c;have aV:d.im.t[k]? =some d.im.t[k]:=ao7 Z;have qk:d.im.t.getD k b7=d.im.t[k]:=by rw[ap2,aV];rfl
    have aO:(d.im.t.getD k b7).1=0:=by
     rcases aq.slot k _ aV with e |e |⟨x,e,_⟩
     .rw[qk,e]
     .exact ap0 (by rw[uy,qk,e]) cu
     .exact ap0 (by rw[uy,qk,e]) cy
    subst O;exact(vP (by rw[c];exact CG h.cs H h.ne aO)).symm
   .rfl
def agr (h:cc z R L) (U:nO L top=0):q1 z L top (e7 L top).1 (s5 L top):=fun s ax hn=>by
 obtain⟨af,al,_⟩:=FY U;obtain⟨d,H,O,_⟩:=CC h af;have J:=F4 ax
 have bf:g' L top (s/2 ^z)=true:=by
  cases e:g' L top (s/2 ^z) with
  |true=>rfl
  |false=>exact ap0 (ay0.2 ⟨List.mem_range.2 J,by rw[e];rfl⟩) hn
 have cL:b6 L top=d.im.t.length:=aB2
 unfold g' at bf;rw[H] at bf;have bf:(decide (d.im.t.length<=s/2 ^z)||decide ((d.im.t.getD (s/2 ^z) b7).1=0))=true:=bf;rw[as7 az7,Bool.false_or] at bf;rw[O] at al⊢;exact vP (CG h H al (gd bf))
def ags (h:kQ z R L top base l) (ay:q1 z L top base l) {k:Nat} (Z:k < b6 L top) (U:(iF z L top base k).e=0):q1 z (iF z L top base k).L top base (l.erase k)/\ ∀s,s < b6 L top*2 ^z->ga z (iF z L top base k).L top s=ga z L top s:=by
 obtain⟨d,H,O⟩:=h.dk;have k2:=CF h.cs top base k;obtain⟨co,cZ,ei⟩:=ago h.cs k2 H O h.ne;have bk:=agq h Z U
 have b4: ∀s,s < b6 L top*2 ^z->ga z (iF z L top base k).L top s=ga z L top s:=fun s ax=>by
  by_cases aO:(d.im.t.getD (s/2 ^z) b7).1=0
  .obtain⟨g1,g2⟩:=(ei s ax).2 aO;rw[g1,bk]
   split
   .rfl
   .exact g2.symm
  .exact(ei s ax).1 aO
 refine⟨fun s ax hn=>?_,b4⟩;rw[(k2.aR top).1] at ax;rw[b4 s ax,bk]
 split
 .rfl
 .rename_i c;exact ay s ax fun aD=>hn ((List.mem_erase_of_ne c).2 aD)
def agt (h:kQ z R L top base []) (ay:q1 z L top base []):q1 z (j5 L top 0 ((b6 L top*2 ^z:Nat):Int)).L top base []/\(∀s,s < b6 L top*2 ^z->ga z (j5 L top 0 ((b6 L top*2 ^z:Nat):Int)).L top s=ga z L top s)/\ ∀k,k < b6 L top->p0 (j5 L top 0 ((b6 L top*2 ^z:Nat):Int)).L top k=0:=by
 obtain⟨d,H,O⟩:=h.dk;subst O;have aq:=(h.cs.fQ d (cO H).1).1;have cL:b6 L top=d.im.t.length:=aB2
 have dA:b6 L top*2 ^z=eU d.im:=by rw[Ct h.cs H,cL]
 have k2:=ut h.cs top 0 ((b6 L top*2 ^z:Nat):Int);have fZ:=k2.cs h.cs;have rO:=K9 h.cs H h.ne;obtain⟨_,gD,mt⟩:=k2.off h.cs rO
 have cP:(j5 L top 0 ((b6 L top*2 ^z:Nat):Int)).L=dg L top (zB d.im 0 (eU d.im)) none:=by
  unfold j5;rw[H];simp only;rw[dA,mu (fun bf=>bf (RZ aq (ao9 _)))];rfl
 have c1:dk (j5 L top 0 ((b6 L top*2 ^z:Nat):Int)).L top=some {d with im:=zB d.im 0 (eU d.im),cQ:=none}:=by rw[cP];exact xH H _ _
 have Z: ∀k,k < b6 L top->((zB d.im 0 (eU d.im)).t.getD k b7).1=0:=fun k Z=>by
  rw[ap2,afu aq az7];rfl
 have dh: ∀s,ga z (j5 L top 0 ((b6 L top*2 ^z:Nat):Int)).L d.back s=ga z L d.back s:=fun s=>vP (mt _)
 have b4: ∀s,s < b6 L top*2 ^z->ga z (j5 L top 0 ((b6 L top*2 ^z:Nat):Int)).L top s=ga z L d.back s:=fun s ax=>by
  rw[<-dh];exact vP (CG fZ c1 h.ne (Z _ (F4 ax)))
 refine⟨fun s ax _=>?_,fun s ax=>?_,fun k fO=>?_⟩
 .rw[(k2.aR top).1] at ax;rw[b4 s ax,dh]
 .rw[b4 s ax];exact(ay s ax az9).symm
 .unfold p0;rw[c1];exact Z k fO
def Sw {n:Nat} {l:aD3} {a aT:Int} {k:Nat} (h:k∈l\/(k < n/\a < ((k*2 ^z+2 ^z:Nat):Int)/\((k*2 ^z:Nat):Int) - aT < a)):k∈m5 z n l a aT:=by
 induction n with
 |zero=>
  rcases h with h |h
  .exact h
  .exact ap0 h.1 (ay8 _)
 |succ n bl=>
  rw[F0]
  by_cases c:k=n
  .rcases h with h |⟨E,G⟩
   .have:=bl (.inl h)
    split
    .exact CB.2 (.inl this)
    .exact this
   .subst c;rw[vj G];exact CB.2 (.inr rfl)
  .have:=bl (h.imp id fun h=>⟨az7,h.2⟩)
   split
   .exact CB.2 (.inl this)
   .exact this
def agu (h:kQ z R L top base l) (ay:q1 z L top base l) {a N:Nat} (k2:iD L top L') (hw: ∀s,¬(a<=s/\s < a+N)->ga z L' top s=ga z L top s):q1 z L' top base (p1 z L' top l false (a:Int) (N:Int)):=fun s ax hn=>by
 obtain⟨d,H,O⟩:=h.dk;subst O;obtain⟨_,gD,mt⟩:=k2.off h.cs (K9 h.cs H h.ne);rw[(k2.aR top).1] at ax;have dh:ga z L' d.back s=ga z L d.back s:=vP (mt _);unfold p1 at hn
 by_cases gK:(N:Int) < 1
 .rw[vj (.inr gK)] at hn;rw[dh,hw s az7];exact ay s ax hn
 .rw[mu (by rintro(e |e);cases e;exact gK e)] at hn;have E:s/2 ^z∉l:=fun e=>hn (Sw (.inl e))
  rw[dh,hw s fun⟨r1,r2⟩=>hn (Sw (.inr ⟨by rw[(k2.aR top).1];exact F4 ax,?_,?_⟩))]
  .exact ay s ax E
  .have:=(z1 (z:=z)).2 (rfl:s/2 ^z=s/2 ^z);omega
  .have:=(z1 (z:=z)).2 (rfl:s/2 ^z=s/2 ^z);omega
def Sx (ax:b6 L' top=b6 L top) (Z:(dk L' top).isSome=(dk L top).isSome) (h: ∀s,s < b6 L top*2 ^z->ga z L' top s=ga z L top s):kB z L' top=kB z L top:=Lf ax Z h
def agv (z:Nat) (L:aD5) (top base:aD2):eY z L top base [] false=⟨true,0,(j5 L top 0 ((b6 L top*2 ^z:Nat):Int)).L,[],true⟩:=rfl
def agw (h:cc z R L) {k:Nat} (U:(iF z L top base k).e≠0):(iF z L top base k).L=L:=by
 unfold iF at U⊢
 split at U
 .rename_i c;rw[vj c];exact fSz h U
 .rename_i c;rw[mu c]
  split at U
  .rename_i c;rw[vj c];exact Le h U
  .rename_i c;rw[mu c]
def Sy (h:kQ z R L top base l) (ay:q1 z L top base l):q1 z (eY z L top base l false).L top base (eY z L top base l false).l/\kB z (eY z L top base l false).L top=kB z L top:=by
 by_cases a6:l=[]
 .subst a6;rw[agv];obtain⟨g1,g2,_⟩:=agt h ay;have k2:=ut h.cs top 0 ((b6 L top*2 ^z:Nat):Int);exact⟨g1,Sx (k2.aR top).1 (k2.aR top).2 g2⟩
 .unfold eY;rw[mu az8,mu a6]
  by_cases U:(iF z L top base (eA l)).e=0
  .rw[vj U];obtain⟨g1,g2⟩:=ags h ay (h.lt _ (FX a6).2.1) U;have k2:=CF h.cs top base (eA l);exact⟨g1,Sx (k2.aR top).1 (k2.aR top).2 g2⟩
  .rw[mu U,agw h.cs U];exact⟨ay,rfl⟩
end
section
variable {z R:Nat} {L:aD5} {top base:aD2} {l:aD3}
end
end
section
section
variable {P:aD9} {ids:aD3} {K:aW} {B:av}
def z2 {o:Oper} {op:BinOp} {T fY:aE4} {x y:aE0} {n m r:Int} (ai:o.op= .binOp op T x y fY) (hx:a1 K x= .c (.one (.d (.int .i64 n)))) (aC:a1 K y= .c (.one (.d (.int .i64 m))))
  (h:(op= .add/\r=IntKind.i64.wrap (n+m))\/(op= .sub/\r=IntKind.i64.wrap (n - m))\/(op= .quo/\m≠0/\r=IntKind.i64.wrap (n.tdiv m))) (N:Nat):bC P N ids o K B (.c (.one (.d (.int .i64 r)))) ⟨[],[],[]⟩:=by
 have m1:x∈o.op.operands:=aA4
 have m2:y∈o.op.operands:=aA4
 refine bC.val fun K' B' g1 g2 C ρ F fj w ah ar=>?_
 have af:=ar.int ((g1 x m1).trans hx);have al:=ar.int ((g1 y m2).trans aC);refine⟨.int .i64 r,?_,rfl⟩;simp only[execOp,ai,af,al];rcases h with⟨rfl,rfl⟩ |⟨rfl,rfl⟩ |⟨rfl,aD,rfl⟩
 .simp[eqGuard,go_sem,Op.intArith]
 .simp[eqGuard,go_sem,Op.intArith]
 .simp[eqGuard,go_sem,Op.intDiv,aD]
end
abbrev Lx (s g:Int):List bw:=[.d (.int .i64 s),.d (.int .i64 g),.mp 1002]
abbrev iR (s g:Int) (es:aD4):av:=[(1001,.cells (Lx s g)),(1002,.map aj aj es)]
def Sz (s:Int):Fn prog 132 [ab s] [] [] (gT (decide (0<=s)&&decide (s<=4096))) []:=by
 refine aU [] func132 ?_;refine⟨fun E=>?_,fun E=>?_⟩
 .have E:decide (0<=s)=true:=E;exact er bu rfl (show decide (s<=4096)=(decide (0<=s)&&decide (s<=4096)) by rw[E];rfl)
 .have E:decide (0<=s)=false:=E;exact er bu rfl (show false=(decide (0<=s)&&decide (s<=4096)) by rw[E];rfl)
def mv (s g:Int):Bool:=((decide (0<=s)&&decide (s<=4096))&&(!decide (g < 1)&& !decide (64 < g)))&&decide (((g.toNat &&& (g - 1).toNat:Nat):Int)=0)
def Ly {s g:Int} (h:mv s g=true):(0<=s/\s<=4096)/\1<=g/\g<=64:=by unfold mv at h;simp only[ao8,aq9,as1,decide_eq_false_iff_not] at h;obtain⟨⟨⟨E,G⟩,ag,aS⟩,_⟩:=h;omega
def SA (s g:Int) (h:mv s g=true):Fn prog 74 [ab s,ab g] [] [2001,2002] (.cm [.one (.ptr 2001 0),dJ 0]) [(2001,.cells [.d (.int .i64 s),.d (.int .i64 g),.mp 2002]),(2002,.map aj aj [])]:=by
 obtain⟨g1,g2,cX⟩:=Ly h;have aw:=Sz s;rw[aq1 g1.1,aq1 g1.2] at aw;unfold mv at h;simp only[ao8] at h;have bG:=h.2;have m1:c5 (g - 1):=aA5
 refine aU [] func74 ?_;refine az aw <| dR ⟨fun h=>ap0 (gd h) az7,fun _=>⟨fun h=>ap0 (gd h) az7,fun _=>⟨m1,bo (fun N=>Kp rfl rfl rfl az7 az7 az7 az7 N) ?_⟩⟩⟩;refine⟨fun h=>?_,fun _=>?_⟩
 .exfalso;have h:(!decide (((g.toNat &&& (g - 1).toNat:Nat):Int)=0))=true:=h;rw[bG] at h
  cases h
 exact⟨rfl,rfl,_,_,_,ac.trans (ac.a7 28 2001 rfl) (ac.a7 26 2002 rfl),rfl,aE,aE,rfl⟩
def agx (s g:Int) (h:mv s g=false):Fn prog 74 [ab s,ab g] [] [] (.cm [oV,dJ 1]) []:=by
 have aw:=Sz s;unfold mv at h;generalize(decide (0<=s)&&decide (s<=4096))=b at*;refine aU [] func74 ?_;refine az aw ⟨fun _=>?_,fun E=>?_⟩
 .exact bd
 have E:b=true:=by
  have E:(!b)=false:=E;simpa using E
 refine⟨fun _=>?_,fun G=>?_⟩
 .exact bd
 refine⟨fun _=>?_,fun ag=>?_⟩
 .exact bd
 have G:decide (g < 1)=false:=G;have ag:decide (64 < g)=false:=ag;rw[E,G,ag] at h;have cG:=oj G;have dG:=oj ag;have m1:c5 (g - 1):=aA5
 refine⟨m1,bo (fun N=>Kp rfl rfl rfl az7 az7 az7 az7 N) ?_⟩;refine⟨fun _=>?_,fun aS=>?_⟩
 .exact bd
 .exfalso;have aS:(!decide (((g.toNat &&& (g - 1).toNat:Nat):Int)=0))=false:=aS;have h:((true&&(!false&& !false))&&decide (((g.toNat &&& (g - 1).toNat:Nat):Int)=0))=false:=h;generalize decide (((g.toNat &&& (g - 1).toNat:Nat):Int)=0)=c at*
  cases c
  .cases aS
  .cases h
def Lz (s g:Int) (es:aD4):Fn prog 85 [ap 1001] (iR s g es) [] (ab s) (iR s g es):=by refine aU [] func85 ?_;exact bd
def CH (aF:Int):Bool:=decide (0 < aF)
def mw (g:Int) (es:aD4) (k:Nat):Bool:=CH ((bV (aI:=aj) (aK:=aj) es ((k:Int)/g)).getD (cM aj))
def SB (s g:Int) (es:aD4) (k:Nat) (aV:1<=g) (Z:(k:Int) < s) (ax:s<=4096):Fn prog 141 [ap 1001,ab (k:Int)] (iR s g es) [] (gT (mw g es k)) (iR s g es):=by
 have aY:(0:Int)<=(k:Int)/g:=az1 az7 az7;have CI:(k:Int)/g<=(k:Int):=Int.ediv_le_self _ az7;have m1:c5 ((k:Int)/g):=aA5
 refine aU [] func141 ?_;exact⟨fun _=>⟨fun _=>⟨⟨az7,az7⟩,m1,rfl,bd⟩,fun h=>ap0 (oj h) az7⟩,fun h=>ap0 (oj h) az7⟩
def rY (es:aD4) (f:Int):Nat->List (aa aj×aa aj)
 |0=>es
 |n+1=>dw (aI:=aj) (aK:=aj) (rY es f n) (f+(n:Int)) (1:Int)
abbrev q2 (s g:Int) (es:aD4):av:=iR s g es++[(3001,.cells [.ptr 1001 0])]
def agy (s g:Int) (es:aD4) (k:Int):Fn prog 185 [ab k,ap 3001] (q2 s g es) [] gU (q2 s g (dw (aI:=aj) (aK:=aj) es k (1:Int))):=by refine aU [] func185 ?_;exact⟨trivial,bd⟩
abbrev agz (d' k:Int):aW:=[(4,ab d'),(5,.c (.one (.cW 185 [.p 3001 0]))),(13,ab k)]
def agA (s g:Int) (es:aD4) (fr bJ fT d':Int) (E:0<=bJ) (G:0<=fr) (ag:bJ<=s) (aS:fr<=s - bJ) (ax:s<=4096) (bG:0<=fT) (eH:d'<=1000000):Fn prog 184 [ap 1001,ab fr,ab bJ,ab fT,ab d',.c (.one (.cW 185 [.p 3001 0]))] (q2 s g es) [] (ab 0) (q2 s g (rY es fT (d' - fT).toNat)):=by
 have m1:c5 (s - bJ):=aA5
 refine aU [] func184 ?_;refine⟨fun h=>ap0 (gd h) az7,fun _=>⟨fun h=>ap0 (gd h) az7,fun _=>⟨fun h=>ap0 (gd h) az7,fun _=>⟨m1,fun h=>ap0 (gd h) az7,fun _=>ed [6] (X:=Nat) (fun j=>agz d' (fT+(j:Int))) (fun j=>q2 s g (rY es fT j)) (fun j=>j<=(d' - fT).toNat) (fun j=>(d' - fT).toNat - j) 0 (ap9 _) ?_ ?_⟩⟩⟩⟩
 .exact ac.sub ⟨rfl,rfl,(show fT=fT+((0:Nat):Int) by omega),trivial⟩ aE
 intro j V;have V:j<=(d' - fT).toNat:=V;refine⟨fun J=>?_,fun J=>?_⟩
 .have J:decide (fT+(j:Int) < d')=true:=J;have J:=gd J;exact bx [] (bu) <| az (agy s g (rY es fT j) (fT+(j:Int))) ⟨az7,j+1,az7,az7,ac.sub ⟨rfl,rfl,(show fT+(j:Int)+1=fT+((j+1:Nat):Int) by omega),trivial⟩ aE⟩
 .have J:decide (fT+(j:Int) < d')=false:=J;have J:=oj J;have fM:j=(d' - fT).toNat:=aA5
  subst fM;exact bd
def agB (s g:Int) (es:aD4) (fr bJ fT d':Int) (h: ¬(0<=bJ/\0<=fr/\bJ<=s/\fr<=s - bJ)) (ax:0<=s/\s<=4096):Fn prog 184 [ap 1001,ab fr,ab bJ,ab fT,ab d',.c (.one (.cW 185 [.p 3001 0]))] (q2 s g es) [] (ab 1) (q2 s g es):=by
 refine aU [] func184 ?_;refine⟨fun _=>?_,fun cE=>?_⟩
 .exact bd
 refine⟨fun _=>?_,fun cG=>?_⟩
 .exact bd
 refine⟨fun _=>?_,fun dG=>?_⟩
 .exact bd
 have cE: ¬bJ < 0:=oj cE;have cG: ¬fr < 0:=oj cG;have dG: ¬s < bJ:=oj dG;have m1:c5 (s - bJ):=aA5
 refine⟨m1,fun _=>?_,fun e3=>?_⟩
 .exact bd
 .exfalso;have e3: ¬s - bJ < fr:=oj e3;exact h az7
def xN (s fr bJ:Int):Prop:=0<=bJ/\0<=fr/\bJ<=s/\fr<=s - bJ
instance (s fr bJ:Int):Decidable (xN s fr bJ):=by unfold xN;infer_instance
def m6 (s g:Int) (es:aD4) (fr bJ:Int):List (aa aj×aa aj):=if xN s fr bJ then rY es (fr/g) ((if bJ=0 then 0 else(fr+bJ+g - 1)/g) - fr/g).toNat else es
abbrev F5 (fr bJ d':Int):aW:=[(1,ab fr),(2,ab bJ),(3,ap 3),(7,ab d')]
abbrev CJ (s g:Int) (es:aD4):av:=iR s g es++[(3,.cells [.ptr 1001 0])]
def LA (s g:Int) (es:aD4) (fr bJ:Int) (ax:0<=s/\s<=4096) (aV:1<=g/\g<=64):Fn prog 123 [ap 1001,ab fr,ab bJ] (iR s g es) [] (ab (if xN s fr bJ then 0 else 1)) (iR s g (m6 s g es fr bJ)):=by
 by_cases ay:xN s fr bJ
 .have bI:m6 s g es fr bJ=rY es (fr/g) ((if bJ=0 then 0 else(fr+bJ+g - 1)/g) - fr/g).toNat:=vj ay;rw[bI,vj ay];obtain⟨mH,v2,v3,v4⟩:=ay;have d0:(0:Int)<=fr/g:=az1 az7 az7;have cU:fr/g<=fr:=Int.ediv_le_self _ az7;have dB:(0:Int)<=(fr+bJ+g - 1)/g:=az1 az7 az7;have dE:(fr+bJ+g - 1)/g<=fr+bJ+g - 1:=Int.ediv_le_self _ az7;have c4:c5 (fr+bJ):=aA5
  have ec:c5 (fr+bJ+g):=aA5
  have mn:c5 (fr+bJ+g - 1):=aA5
  have rS:c5 ((fr+bJ+g - 1)/g):=aA5
  have n5:c5 (fr/g):=aA5
  have n6:(0:Int)<=fr+bJ+g - 1/\0 < g:=aA5
  have n7:(0:Int)<=fr/\0 < g:=aA5
  have U:=fun d' (h:d'<=1000000)=>agA s g es fr bJ (fr/g) d' mH v2 v3 v4 ax.2 d0 h
  have i0:=U _ (show(fr+bJ+g - 1)/g<=1000000 by omega);have gw:=U 0 az8;generalize xi:(fr+bJ+g - 1)/g=d' at*;generalize CI:fr/g=fT at*;refine aU [4] func123 ?_;refine⟨rfl,?_⟩;refine⟨c4,ec,mn,n6,by rw[xi];exact rS,rfl,fun ak=>?_,fun ak=>?_⟩
  .have ak:bJ=0:=gd ak;rw[vj ak];refine bx [] (cH (F5 fr bJ 0) (CJ s g es)) ?_;exact⟨n7,by rw[CI];exact n5,az (Fn.arg (args:=[ap 1001,ab fr,ab bJ,ab (fr/g),ab 0,.c (.one (.cW 185 [.p 3001 0]))]) gw ⟨rfl,rfl,rfl,CI,rfl,rfl,trivial⟩ |> Fn.a7 [(3001,3)]) ⟨rfl,bd⟩⟩
  .have ak: ¬bJ=0:=oj ak;rw[mu ak];refine bx [] (ac.sub (K':=F5 fr bJ d') (B':=CJ s g es) ⟨rfl,rfl,rfl,xi,trivial⟩ aE) ?_;exact⟨n7,by rw[CI];exact n5,az (Fn.arg (args:=[ap 1001,ab fr,ab bJ,ab (fr/g),ab d',.c (.one (.cW 185 [.p 3001 0]))]) i0 ⟨rfl,rfl,rfl,CI,rfl,rfl,trivial⟩ |> Fn.a7 [(3001,3)]) ⟨rfl,bd⟩⟩
 .have bI:m6 s g es fr bJ=es:=mu ay;rw[bI,mu ay];have U:=fun fT d'=>agB s g es fr bJ fT d' ay ax
  refine aU [1,4] func123 ?_;refine⟨rfl,bB.nF (2000000+10) az8 <| bB.nF (2000000+15) az8 <| bB.nF (2000000+16) az8 <| bB.nF (2000000+21) az8 <| bx [4] (bu) <| bo (z2 rfl rfl rfl (.inl ⟨rfl,rfl⟩)) ?_⟩;refine bo (z2 rfl rfl rfl (.inl ⟨rfl,rfl⟩)) ?_;refine bo (z2 rfl rfl rfl (.inr (.inl ⟨rfl,rfl⟩))) ?_;refine bo (fun N=>z2 rfl rfl rfl (.inr (.inr ⟨rfl,az7,rfl⟩)) N) ?_;refine⟨rfl,?_⟩;generalize IntKind.i64.wrap _=d';refine⟨fun _=>?_,fun _=>?_⟩
  .show bB _ _ _ _ _ _ _;refine bB.le (cH (F5 fr bJ 0) (CJ s g es)) <| bB.nF (2000000+32) az8 <| bx [] (bu) <| bo (fun N=>z2 rfl rfl rfl (.inr (.inr ⟨rfl,az7,rfl⟩)) N) ?_;exact az (Fn.a7 [(3001,3)] (U _ _)) ⟨rfl,bd⟩
  .show bB _ _ _ _ _ _ _;refine bB.le (cH (F5 fr bJ d') (CJ s g es)) <| bB.nF (2000000+32) az8 <| bx [] (bu) <| bo (fun N=>z2 rfl rfl rfl (.inr (.inr ⟨rfl,az7,rfl⟩)) N) ?_;exact az (Fn.a7 [(3001,3)] (U _ _)) ⟨rfl,bd⟩
end
section
open Go.RowKit Go.Proofs Go.Maps Go.Shelf Go.MapKept _root_.Go.Proofs.Tryz Tryz
open Go.WideElems (Fit rd rg pl rd_val rd_key rg_of)
abbrev jx:bz:=.ce .u8
def xO:Int->Int->Bool:=fun x y=>decide (x<=y)
def kC (l:aE5):List Int:=l.mergeSort xO
def uz (l:aE5):(kC l).Perm l:=List.mergeSort_perm l xO
def LB (m:Nat):AnyZI.SortsIn prog Qh Fence.wide m:=
 ⟨fun bh off cap gY W c9 jH cL=>callsIn_wide.2 (AnyM.slices_Sort_int Qi bh off cap gY W c9 jH cL),
  fun p cap W=>callsIn_wide.2 (AnyM.slices_Sort_int_none Qi p cap W)⟩
def agC (es:List (aa aj×aa jx)):Fn prog 198 [.c (.one (.mp 1001))] [(1001,.map aj jx es)] [2001] (.c (.one (.cW 243 [.p 2001 0]))) [(2001,.cells [.mp 1001]),(1001,.map aj jx es)]:=by refine aU [] func198 ?_;exact⟨rfl,_,_,_,ac.a7 1 2001 rfl,rfl,rfl,aE,rfl⟩
def agD (es:aD4) (hn:(e8 es).Nodup) (ak: ∀s∈e8 es,(Lit.int .i64 s).wf=true) (ax:es.length<=4294967296):
  Fn prog 169 [.c (.one (.cW 236 [.p 2001 0]))] [(2001,.cells [.mp 1001]),(1001,.map aj aj es)] [] (b0 aj (kC (e8 es))) [(2001,.cells [.mp 1001]),(1001,.map aj aj es)]:=by
 refine⟨aA0,fun ρ F I w bW aZ c9 bj ew bZ dz=>?_⟩
 match bW,bZ with
 | [v],_=>
  obtain⟨aB,ay,gq,r,hm,lO,aw⟩:=dz 0 _ v rfl rfl;have aw:r=[]:=aw;have lO:gq= .pointer (some ⟨(ρ 2001).bh,0,none⟩):=lO;subst aw lO hm ay;obtain⟨_,aB,T,jd,hm⟩:=c9 2001 _ rfl;obtain⟨x,r,hm,hx,aw⟩:=hm;have aw:r=[]:=aw;have hx:x= .map (some (ρ 1001).bh):=hx;subst aw hx hm;obtain⟨_,bP,bU,iZ,aD,dh⟩:=c9 1001 _ rfl;have Fx:(4294967296:Nat)<=maxLen:=by decide
  obtain⟨jj,dP,cL,oB⟩:=FV (P:=prog) (k:=3) aA0 iZ aD dh hn ak az7;have br:(ρ 2001).bh < w.heap.size:=l0 jd
  have un:SeqGives Fence.wide 2 prog 236 #[.pointer (some ⟨(ρ 2001).bh,0,none⟩)] encZ (fun gY=>gY.Perm (intKeys jj)) (Maps.size jj) w:=
   AnyZI.keys_gives (ρ:=Jx) {Qf with} Fence.wide _ trivial rfl az7 (ρ 2001).bh (ρ 1001).bh es.length jj w br (od jd rfl) dP
  have J:=AnyZI.sorted_in Jy Fence.wide 5 trivial trivial trivial trivial rfl az7 (LB _) (enters_of func228 aA0 rfl) 236 #[.pointer (some ⟨(ρ 2001).bh,0,none⟩)] trivial (enters_of func236 aA0 rfl) _ _ aC2 aC2 _ un;refine(callsIn_wide.1 J).mono ?_;rintro e w' ⟨v,gY,rfl,ar,fN,zI,gx⟩;have a2:cj I w (fun b=>b < w'.heap.size/\(I b\/w.heap.size<=b)) w':=fun b ia=>⟨⟨aq8 (aZ b ia) gx.size,.inl ia⟩,gx.block b (aZ b ia)⟩
  refine⟨v,ρ,F,rfl,cR.qh gx,fun _ _=>rfl,_,a2,fun b h=>⟨h.1,h.2.imp id .inr⟩,fun c ch J=>Holds.cg a2 (fun b O=>gx.block b (bj c ch J b O).1) gx.size ch (fun _ _=>rfl) (c9 c ch J),fun c ch J b O=>?_,fun c ck ch ch' b E G=>ew c ck ch ch' b E G,?_⟩
  .have:=bj c ch J b O;exact⟨aq8 this.1 gx.size,fun h=>(by rcases h.2 with h |h;exact this.2 h;omega),.inl ⟨c,ch,J,O⟩⟩
  .have Z:gY.mergeSort (fun x y=>decide (x<=y))=kC (e8 es):=Go.mergeSort_of_perm_i (ar.trans oB);rw[Z] at fN;have h6:=hy.sk fN;have vG:gY.length=(kC (e8 es)).length:=by rw[<-Z,List.length_mergeSort]
   rw[vG] at h6;exact(h6.yk fun i _ aG=>(fN.lt i aG).1).FW fun b E G=>⟨E,.inr G⟩
def agE (es:List (aa aj×aa jx)) (hn:(e8 es).Nodup) (ak: ∀s∈e8 es,(Lit.int .i64 s).wf=true) (ax:es.length<=4294967296):
  Fn prog 169 [.c (.one (.cW 243 [.p 2001 0]))] [(2001,.cells [.mp 1001]),(1001,.map aj jx es)] [] (b0 aj (kC (e8 es))) [(2001,.cells [.mp 1001]),(1001,.map aj jx es)]:=by
 refine⟨aA0,fun ρ F I w bW aZ c9 bj ew bZ dz=>?_⟩
 match bW,bZ with
 | [v],_=>
  obtain⟨aB,ay,gq,r,hm,lO,aw⟩:=dz 0 _ v rfl rfl;have aw:r=[]:=aw;have lO:gq= .pointer (some ⟨(ρ 2001).bh,0,none⟩):=lO;subst aw lO hm ay;obtain⟨_,aB,T,jd,hm⟩:=c9 2001 _ rfl;obtain⟨x,r,hm,hx,aw⟩:=hm;have aw:r=[]:=aw;have hx:x= .map (some (ρ 1001).bh):=hx;subst aw hx hm;obtain⟨_,bP,bU,iZ,aD,dh⟩:=c9 1001 _ rfl;have Fx:(4294967296:Nat)<=maxLen:=by decide
  obtain⟨jj,dP,cL,oB⟩:=FV (P:=prog) (k:=3) aA0 iZ aD dh hn ak az7;have br:(ρ 2001).bh < w.heap.size:=l0 jd
  have un:SeqGives Fence.wide 2 prog 243 #[.pointer (some ⟨(ρ 2001).bh,0,none⟩)] encZ (fun gY=>gY.Perm (intKeys jj)) (Maps.size jj) w:=
   AnyZI.keys_gives (ρ:=Qg) {ab7 with} Fence.wide _ trivial rfl az7 (ρ 2001).bh (ρ 1001).bh es.length jj w br (od jd rfl) dP
  have J:=AnyZI.sorted_in Jy Fence.wide 5 trivial trivial trivial trivial rfl az7 (LB _) (enters_of func228 aA0 rfl) 243 #[.pointer (some ⟨(ρ 2001).bh,0,none⟩)] trivial (enters_of func243 aA0 rfl) _ _ aC2 aC2 _ un;refine(callsIn_wide.1 J).mono ?_;rintro e w' ⟨v,gY,rfl,ar,fN,zI,gx⟩;have a2:cj I w (fun b=>b < w'.heap.size/\(I b\/w.heap.size<=b)) w':=fun b ia=>⟨⟨aq8 (aZ b ia) gx.size,.inl ia⟩,gx.block b (aZ b ia)⟩
  refine⟨v,ρ,F,rfl,cR.qh gx,fun _ _=>rfl,_,a2,fun b h=>⟨h.1,h.2.imp id .inr⟩,fun c ch J=>Holds.cg a2 (fun b O=>gx.block b (bj c ch J b O).1) gx.size ch (fun _ _=>rfl) (c9 c ch J),fun c ch J b O=>?_,fun c ck ch ch' b E G=>ew c ck ch ch' b E G,?_⟩
  .have:=bj c ch J b O;exact⟨aq8 this.1 gx.size,fun h=>(by rcases h.2 with h |h;exact this.2 h;omega),.inl ⟨c,ch,J,O⟩⟩
  .have Z:gY.mergeSort (fun x y=>decide (x<=y))=kC (e8 es):=Go.mergeSort_of_perm_i (ar.trans oB);rw[Z] at fN;have h6:=hy.sk fN;have vG:gY.length=(kC (e8 es)).length:=by rw[<-Z,List.length_mergeSort]
   rw[vG] at h6;exact(h6.yk fun i _ aG=>(fN.lt i aG).1).FW fun b E G=>⟨E,.inr G⟩
end
section
section
variable {P:aD9} {N:Nat} {ids:aD3} {K:aW} {B:av} {o:Oper}
abbrev xP (f b:Nat):aN:=.c (.one (.bH (.func (.func f) #[.pointer (some ⟨b,0,none⟩)] #[])))
def pd {f:aE8} {x:aE0} {d m b:Nat} (ai:o.op= .makeFunc (.func f) #[x] #[]) (hx:a1 K x= .c (.one (.ptr d 0))) (aD:ae B m=some (.bY d (eO b))) (N:Nat):bC P N ids o K B (xP f b) ⟨[m],[],[]⟩:=by
 have m1:x∈o.op.operands:=aA4
 refine bC.val fun K' B' g1 g2 C ρ F a w ah ar=>?_
 have af:=ar.ptr ((g1 x m1).trans hx);have al:=ou (N:=N) (a:=a) ah ((g2 m az9).trans aD);rw[al] at af;refine⟨.func (.func f) #[.pointer (some ⟨b,0,none⟩)] #[],?_,rfl⟩;simp[execOp,ai,Instr.makeFunc,af]
def agF {f:aE8} {c:Call} {t b:Nat} {xs:aF7} {aJ:av} {res:aN} {aP:av} (ai:o.op= .call c) (E:c.callee= .value (.tmp t)) (G:c.args.toList=xs) (ak:dQ K t=xP f b) (hf:Fn P f (.c (.one (.d (.aM (some b))))::xs.map (a1 K)) aJ [] res aP) (hN:kI B aJ) (bv:l7 aJ [] aP=true) (N:Nat):
  bC P N ids o K B res ⟨ci aJ,[],ij aJ aP⟩:=by
 have mem: ∀aF∈xs,aF∈o.op.operands:=fun aF aO=>by
  rw[ai];simp only[Op.operands,Call.operands,ax1];exact .inr (ax7.1 (by rw[G];exact aO))
 have wR:Operand.tmp t∈o.op.operands:=by
  rw[ai];simp only[Op.operands,Call.operands,ax1,E];exact .inl az9
 obtain⟨v,e,⟨rfl,rfl⟩,aq,_⟩:cI P N ids o K B (fun v e=>v=res/\e=⟨ci aJ,[],ij aJ aP⟩):=Bf (args:=.c (.one (.d (.aM (some b))))::xs.map (a1 K)) mem (fun K' ρ I a w g1 ar=>by
  have ay:=ar t;have Z:dQ K' t=dQ K t:=g1 (.tmp t) wR;rw[Z,ak] at ay;have e:a.tmps.getD t undef= .func (.func f) #[.pointer (some ⟨b,0,none⟩)] #[]:=ay;refine⟨.pointer (some ⟨b,0,none⟩)::xs.map a.eval,fun fH=>PM fH ai E G e,az9,fun i v x ay hx=>?_⟩
  match i with
  |0=>
   simp only[aq2,ap5] at ay hx;subst ay hx;exact rfl
  |i+1=>exact yK mem g1 ar i v x aB9 aC7) ⟨aJ,[],res,aP,hf,hN,by rw[bv];rfl,by rw[ro];exact⟨rfl,rfl⟩⟩
 exact aq
end
abbrev CK (p:Nat×aD2):aa aj×aa jx:=@Prod.mk Int aD2 (p.1:Int) p.2
abbrev j7 (g:aD6):List (aa aj×aa jx):=g.map CK
def SC (g:aD6):(j7 g).length=g.length:=aq3 _
def agG {l:List (aa aj×aa jx)} {p:aa aj×aa jx} {k:Int} {x:aD2} (h:fD aj k p.1=false):dw (aI:=aj) (aK:=jx) (p::l) k x=p::dw (aI:=aj) (aK:=jx) l k x:=by simp only[dw,h]
def SD (k:Nat) (x:aD2): ∀g:List (Nat×aD2),k∉g.map Prod.fst->dw (aI:=aj) (aK:=jx) (j7 g) (k:Int) x=j7 (g++[(k,x)])
 | [],_=>rfl
 |p::g,h=>by
  rw[aq5,ap7,not_or] at h;refine(agG (p:=CK p) (l:=j7 g) ((Cz k p.1).trans (as7 h.1))).trans ?_;rw[SD k x g h.2];rfl
abbrev CL (nm:aD2) (bi n rm:Int) (over done:Bool):List bw:=[.ptr 1001 0,.d (.str nm),.d (.int .i64 bi),.d (.int .i64 n),.d (.int .i64 rm),.mp 2002,.mp 2003,.d (.bool over),.d (.bool done)]
abbrev ib (z R:Int) (L:aD5) (nm:aD2) (n rm:Int) (l:aD3) (g:aD6) (over done:Bool):av:=bM z R L++[(2001,.cells (CL nm z n rm over done)),(2002,.map aj aj (fR l)),(2003,.map aj jx (j7 g))]
section
variable {z R:Nat} {L:aD5} {nm:aD2}
def agH (z R:Int) (L:aD5) (nm:aD2) (n rm:Int) (l:aD3) (g:aD6) (over done:Bool):Fn prog 327 [ap 2001] (ib z R L nm n rm l g over done) [] (gT over) (ib z R L nm n rm l g over done):=by refine aU [] func327 ?_;exact bd
def agI (z R:Int) (L:aD5) (nm:aD2) (n rm:Int) (l:aD3) (g:aD6) (over done:Bool):Fn prog 86 [ap 2001] (ib z R L nm n rm l g over done) [] (gT done) (ib z R L nm n rm l g over done):=by refine aU [] func86 ?_;exact bd
def SE (z R:Int) (L:aD5) (nm:aD2) (n rm:Int) (l:aD3) (g:aD6) (over done:Bool):Fn prog 235 [ap 2001] (ib z R L nm n rm l g over done) [] gU (ib z R L nm n rm [] g true done):=by refine aU [] func235 ?_;refine bo (Sl rfl underlying206 rfl rfl) ?_;exact⟨_,_,_,ac.rX 2001 (l':=CL nm z n rm true done) rfl aE,rfl,trivial,aE,rfl⟩
structure agJ where
 e:Int
 l:aD3
 g:List (Nat×aD2)
 over:Bool
def ea (z:Nat) (L:aD5) (nm:aD2) (rm:Int) (l:aD3) (g:aD6) (k:Nat):agJ:=if rm<=((g.length:Nat):Int) then⟨171,[],g,true⟩ else⟨0,l.erase k,g++[(k,gm z L nm (k:Int))],false⟩
def agK (h:cc z R L) (nm:aD2) (n rm:Int) (l:aD3) (g:aD6) (done:Bool) (k:Nat) (Z:k∉g.map Prod.fst):Fn prog 182 [ap 2001,ab (k:Int)] (ib z R L nm n rm l g false done) [] (ab (ea z L nm rm l g k).e) (ib z R L nm n rm (ea z L nm rm l g k).l (ea z L nm rm l g k).g (ea z L nm rm l g k).over done):=by
 have dI:=K1 h nm (k:Int);have bZ:=SC g;have qR:=SD k (gm z L nm (k:Int)) g Z;have dd:=Ln k l
 by_cases c:rm<=((g.length:Nat):Int)
 .have e:ea z L nm rm l g k=⟨171,[],g,true⟩:=vj c;rw[e];refine aU [2] func182 ?_;refine⟨rfl,fun _=>?_,fun bf=>?_⟩
  .show bB _ _ _ _ _ _ _;exact bx [] (bu) <| az (SE z R L nm n rm l g false done) bd
  .exfalso;have bf:decide (rm<=(((j7 g).length:Nat):Int))=false:=bf;have:=oj bf;omega
 .have e:ea z L nm rm l g k=⟨0,l.erase k,g++[(k,gm z L nm (k:Int))],false⟩:=mu c;rw[e];generalize gm z L nm (k:Int)=x at*;refine aU [4] func182 ?_;refine⟨rfl,fun bf=>?_,fun _=>?_⟩
  .exfalso;have bf:decide (rm<=(((j7 g).length:Nat):Int))=true:=bf;have:=gd bf;omega
  exact bx [] (bu) <| az dI ⟨trivial,rfl,rL bu rfl rfl ⟨rfl,rfl,rfl,rfl,rfl,ap1 (fun aF=>some (ba.map aj aj aF)) dd,ap1 (fun aF=>some (ba.map aj jx aF)) qR,trivial⟩ rfl⟩
abbrev s6 (z R:Int) (L:aD5) (nm:aD2) (n rm:Int) (l:aD3) (g:aD6) (over done:Bool) (b:Nat):av:=ib z R L nm n rm l g over done++[(9001,.bY 2001 (eO b))]
def SF (h:cc z R L) (nm:aD2) (n rm:Int) (l:aD3) (g:aD6) (done:Bool) (k:Nat) (Z:k∉g.map Prod.fst) (b:Nat):Fn prog 182 [.c (.one (.d (.aM (some b)))),ab (k:Int)] (s6 z R L nm n rm l g false done b) [] (ab (ea z L nm rm l g k).e) (s6 z R L nm n rm (ea z L nm rm l g k).l (ea z L nm rm l g k).g (ea z L nm rm l g k).over done b):=by
 have J:=agK h nm n rm l g done k Z;generalize ea z L nm rm l g k=r at*
 refine Fn.via (X:=Unit) (args':=fun _=>[ap 2001,ab (k:Int)]) (t':=fun _=>s6 z R L nm n rm l g false done b) (mI:=fun _=>ib z R L nm n rm l g false done) (i9:=fun _=>[]) (res':=fun _=>ab r.e) (nE:=fun _=>ib z R L nm n rm r.l r.g r.over done)
  aA0 2 rfl ?_ (fun _=>J) (fun _=>aE) (fun _=>rfl) (fun _=>rfl) ?_
 .intro N C a w ax;exact⟨(),eS.sub (ac.E5 0 2001 9001 b rfl rfl N C a w ax) aE aE⟩
 .intro _;exact⟨ab r.e,s6 z R L nm n rm r.l r.g r.over done b,ac.sub aE aE,rfl,aE,rfl⟩
structure agL where
 s0:Bool
 e:Int
 l:aD3
 g:List (Nat×aD2)
 over:Bool
 done:Bool
def jP (z:Nat) (L:aD5) (nm:aD2) (rm:Int) (l:aD3) (g:aD6) (over done:Bool):agL:=if over=true then⟨false,170,l,g,true,done⟩ else if l=[] then⟨true,0,[],g,true,true⟩ else
 ⟨false,(ea z L nm rm l g (eA l)).e,(ea z L nm rm l g (eA l)).l,(ea z L nm rm l g (eA l)).g,(ea z L nm rm l g (eA l)).over,done⟩
def agM (h:cc z R L) (nm:aD2) (n rm:Int) (l:aD3) (g:aD6) (over done:Bool) (ak: ∀k,k∈l->k<=100000) (pB:l.length<=100000) (hn:l.Nodup) (aV: ∀k,k∈l->k∉g.map Prod.fst):Fn prog 328 [ap 2001] (ib z R L nm n rm l g over done) [] (.cm [.one (.d (.bool (jP z L nm rm l g over done).s0)),dJ (jP z L nm rm l g over done).e])
  (ib z R L nm n rm (jP z L nm rm l g over done).l (jP z L nm rm l g over done).g (jP z L nm rm l g over done).over (jP z L nm rm l g over done).done):=by
 cases over with
 |true=>
  have e:jP z L nm rm l g true done=⟨false,170,l,g,true,done⟩:=vj rfl;rw[e];refine aU [] func328 ?_;exact gV bd
 |false=>
  have y2:=Lm l
  by_cases a6:l=[]
  .have e:jP z L nm rm l g false done=⟨true,0,[],g,true,true⟩:=(mu az8).trans (vj a6);rw[e];subst a6;refine aU [] func328 ?_;exact dR <| gV ⟨_,_,_,ac.rX 2001 (l':=CL nm z n rm true true) rfl aE,rfl,aE,aE,rfl⟩
  .have e:jP z L nm rm l g false done=⟨false,(ea z L nm rm l g (eA l)).e,(ea z L nm rm l g (eA l)).l,(ea z L nm rm l g (eA l)).g,(ea z L nm rm l g (eA l)).over,done⟩:=(mu az8).trans (mu a6);rw[e];obtain⟨cE,cG,dG⟩:=FX a6
   have AS: ∀g:{gY:List Int//gY.Perm (e8 (fR l))},oE g.1=((eA l:Nat):Int):=fun g=>by
    rw[Sj g.2 (by rw[uv];simpa using a6),uv];exact cE
   have ug: ∀g:{gY:List Int//gY.Perm (e8 (fR l))},g.1.length=l.length:=fun g=>by
    rw[g.2.length_eq,uv,aq3]
   have mS:0 < l.length:=List.length_pos_iff.2 a6;have Lu:=Sh (fR l) (Lo hn) (Lp fun k Z=>by have:=ak k Z;omega) az7;have w6:=SF h nm n rm l g done (eA l) (aV _ cG);generalize ea z L nm rm l g (eA l)=r at*;generalize eA l=qZ at*;refine aU [6,7] func328 ?_;refine dR ⟨fun J=>?_,fun _=>?_⟩
   .exfalso;have J:decide ((((fR l).length:Nat):Int)=0)=true:=J;have:=gd J;omega
   refine bB.fJ (du.mark 2001 9001 rfl az8) fun b=>bx [7] (cH [(0,ap 2001)] (s6 z R L nm n rm l g false done b)) <| bo (pd (m:=9001) (b:=b) rfl rfl rfl) ?_
   refine bB.le (cH [(0,ap 2001),(4,xP 182 b)] (s6 z R L nm n rm l g false done b)) <| bB.hP eC aA0 <| mN ((Fn.a7 [(1001,2002),(2001,9101)] (Lj (fR l))).x) fun _=>⟨_,_,_,fun g=>_,fun g=>_,cz.a7 [(1001,2002),(2001,9101)] Lu,aE,rfl,fun _=>rfl,fun LC=>?_⟩
   have agk:=ug LC;have CE:=AS LC;exact mN ((Fn.res (res':=ab (qZ:Int)) (Sk LC.1 az7 az7) CE).x) fun _=>mN ((w6 b).x) fun _=>bd
end
abbrev s7:bz:=.bT aj jx
def z6 (g:aD6) (k:Int):aD2:=(bV (aI:=aj) (aK:=jx) (j7 g) k).getD (cM jx)
def SG (g:aD6) (k:Int):aa s7:=@Prod.mk Int aD2 k (z6 g k)
def nP (g:aD6):List (aa s7):=(kC (e8 (j7 g))).map (SG g)
def F6 (g:aD6):e8 (j7 g)=(g.map Prod.fst).map fun k:Nat=>(k:Int):=by unfold e8 j7;rw[at6,at6];rfl
def LD (g:aD6):(nP g).length=g.length:=by unfold nP;rw[aq3,(uz _).length_eq,F6,aq3,aq3]
def LE {B:Nat} (k:Int): ∀g:List (Nat×aD2),(∀p,p∈g->p.2.length<=B)->(z6 g k).length<=B
 | [],_=>ap9 _
 |p::g,h=>by
  cases e:fD aj k (CK p).1 with
  |true=>
   have:z6 (p::g) k=p.2:=by
    show(bV (aI:=aj) (aK:=jx) (CK p::j7 g) k).getD (cM jx)=p.2;simp only[bV,e];rfl
   rw[this];exact h p (aq4 ..)
  |false=>
   have:z6 (p::g) k=z6 g k:=by
    show(bV (aI:=aj) (aK:=jx) (CK p::j7 g) k).getD (cM jx)=(bV (aI:=aj) (aK:=jx) (j7 g) k).getD (cM jx);simp only[bV,e]
   rw[this];exact LE k g fun q aY=>h q (ap4 _ aY)
section
variable {z R:Nat} {L:aD5} {nm:aD2}
abbrev SH (ks:aE5) (c k:Nat):aW:=[(0,ap 2001),(5,eX c),(18,b0 aj ks),(19,ab (ks.length:Nat)),(20,ab (k:Nat))]
abbrev LF (z R:Int) (L:aD5) (nm:aD2) (n rm:Int) (l:aD3) (g:aD6) (over done:Bool) (c:Nat) (x:List (aa s7)):av:=ib z R L nm n rm l g over done++[(c,.row 128 s7 x)]
def agN (z R:Int) (L:aD5) (nm:aD2) (n rm:Int) (l:aD3) (g:aD6) (over:Bool) (hn:(g.map Prod.fst).Nodup) (Z: ∀p,p∈g->p.1<=100000/\p.2.length<=100000) (ak:g.length<=100000):
  Fn prog 142 [ap 2001] (ib z R L nm n rm l g over true) [] (.cm [.one (.d (.cr s7 (nP g))),dJ n,.one (.d (.bool true))]) (ib z R L nm n rm l g over true):=by
 have dx:(e8 (j7 g)).Nodup:=by
  rw[F6];exact Ld (fun x _ y _ e=>by have e:(x:Int)=(y:Int):=e;omega) hn
 have mT: ∀s∈e8 (j7 g),(Lit.int .i64 s).wf=true:=fun s ax=>by
  rw[F6] at ax;obtain⟨k,cl,rfl⟩:=ar6.1 ax;obtain⟨p,ao,rfl⟩:=ar6.1 cl;have:=(Z p ao).1;show(decide (IntKind.i64.min<=(p.1:Int))&&decide ((p.1:Int)<=IntKind.i64.max))=true;rw[aq1 (show(IntKind.i64.min:Int)<=(p.1:Int) from Int.le_trans (by decide:IntKind.i64.min<=(0:Int)) az7),aq1 (show(p.1:Int)<=IntKind.i64.max from Int.le_trans (by omega:(p.1:Int)<=1000000) az8)];rfl
 have SI:=SC g;have F7:=agE (j7 g) dx mT az7;have iP:(kC (e8 (j7 g))).length=g.length:=by rw[(uz _).length_eq,F6,aq3,aq3]
 have lh: ∀k:Nat,(h:k < (kC (e8 (j7 g))).length)->(nP g).take k++[SG g (kC (e8 (j7 g)))[k]]=(nP g).take (k+1):=fun k h=>by
  rw[ax3];unfold nP;rw[ar1,ao7 h];rfl
 have gM:=LD g;have iQ:=fun k=>LE (B:=100000) k g fun p ao=>(Z p ao).2
 generalize kC (e8 (j7 g))=ks at*;generalize nP g=bE at*;refine aU [4,7,9] func142 ?_;refine dR <| bx [7,9] (bu) <| az (Fn.a7 [(1001,2003),(2001,9201)] (agC (j7 g))) <| az (Fn.a7 [(1001,2003),(2001,9201)] F7) <| ed [7,9] (X:=Nat) (fun k=>SH ks 5002 k) (fun k=>LF z R L nm n rm l g over true 5002 (bE.take k)) (fun k=>k<=ks.length) (fun k=>ks.length - k) 0 (ap9 _) ?_ ?_
 .exact ac.trans (cH [(0,ap 2001),(5,.c (.one .dc)),(18,b0 aj ks),(19,ab (ks.length:Nat)),(20,ab 0)] (ib z R L nm n rm l g over true)) (ac.trans (ac.nil 5 5002 128 s7 rfl rfl) (ac.sub aE aE))
 intro k cl;have cl:k<=ks.length:=cl;refine⟨fun J=>?_,fun J=>?_⟩
 .have J:decide ((k:Int) < ((ks.length:Nat):Int))=true:=J;have fO:k < ks.length:=aC0
  have l9:=j2 (n:=k) fO;have e1:=lh k fO;generalize ks[k]=q at*;have hx:=iQ q;have dI:=KE (z6 g q) az7
  have bZ:List.length (α:=aa s7) (bE.take k)+1<=4294967296:=by
   show(bE.take k).length+1<=4294967296;rw[aq0];omega
  exact⟨az7,q,l9,bx [9] (cH [(0,ap 2001),(5,eX 5002),(18,b0 aj ks),(19,ab (ks.length:Nat)),(20,ab (k:Nat)),(7,ab q)] (LF z R L nm n rm l g over true 5002 (bE.take k))) <| az dI ⟨bZ,rfl,az7,k+1,fO,az7,ac.trans (ac.sub (K':=SH ks 35 (k+1)) (B':=LF z R L nm n rm l g over true 35 (bE.take (k+1))) aE ⟨rfl,rfl,rfl,rfl,rfl,rfl,rfl,ap1 (fun aF=>some (ba.row 128 s7 aF)) e1,trivial⟩) (ac.trans (ac.a7 35 5002 rfl) (ac.sub aE aE))⟩⟩
 .have J:decide ((k:Int) < ((ks.length:Nat):Int))=false:=J;have fO:k=ks.length:=aB5
  have dA:bE.take k=bE:=au0 az7;exact bx [] (ac.dX 5002 rfl) ⟨rfl,er bu rfl ⟨dA,rfl,rfl,trivial⟩⟩
end
def h1 (f:Nat->Bool) (z:Nat):Nat->aD3
 |0=>[]
 |s+1=>if f s=true then m4 (h1 f z s) (s/2 ^z) else h1 f z s
def LG (f:Nat->Bool) (z:Nat): ∀s,(h1 f z s).Nodup
 |0=>av1
 |s+1=>by
  show(if f s=true then m4 (h1 f z s) (s/2 ^z) else h1 f z s).Nodup
  split
  .exact So (LG f z s)
  .exact LG f z s
def LH (f:Nat->Bool) (z n:Nat): ∀s,s<=n*2 ^z-> ∀k,k∈h1 f z s->k < n
 |0,_,k,h=>by cases h
 |s+1,ax,k,h=>by
  have h:k∈(if f s=true then m4 (h1 f z s) (s/2 ^z) else h1 f z s):=h;have H:s/2 ^z < n:=(aw8 (Nat.two_pow_pos z)).2 az7
  split at h
  .rcases CB.1 h with h |h
   .exact LH f z n s az7 k h
   .omega
  .exact LH f z n s az7 k h
section
variable {z R:Nat} {L:aD5} {nm:aD2}
abbrev CM (z R:Int) (L:aD5) (nm:aD2) (n rm:Int) (l:aD3):av:=bM z R L++[(46,.cells [.ptr 1001 0,.d (.str nm),.d (.int .i64 z),.d (.int .i64 n),.d (.int .i64 rm),.mp 43,.mp 44,.d (.bool false),.d (.bool false)]),(43,.map aj aj (fR l)),(44,.map aj jx [])]
def agO (h:cc z R L) {d:aL} (H:dk L nm=some d) (rm:Int) (aw:rm < 0):Fn prog 83 [ap 1001,bS nm,.c (.one (.bH (.pointer none))),ab rm] (bM z R L) [] (.cm [oV,dJ 1]) (bM z R L):=by refine aU [] func83 ?_;exact az (jh _ _ L h.toir nm d H) ⟨fun _ _=>⟨fun _=>rL bu rfl aE ⟨rfl,rfl,rfl,rfl,trivial⟩ rfl,fun h=>ap0 (oj h) az7⟩,fun h=>by cases h⟩
abbrev agP (am:Nat) (nm:aD2) (N s:Nat):aW:=[(2,.c (.one (.bH (.pointer none)))),(11,ap 46),(55,ab (N:Nat)),(56,ab (s:Nat))]
def agQ (h:cc z R L) {d:aL} (H:dk L nm=some d) (rm:Int) (aw:0<=rm):Fn prog 83 [ap 1001,bS nm,.c (.one (.bH (.pointer none))),ab rm] (bM z R L) [2001,2002,2003] (.cm [.one (.ptr 2001 0),dJ 0]) (ib z R L nm (d.im.t.length:Nat) rm (h1 (fun _=>true) z (d.im.t.length*2 ^z)) [] false false):=by
 have mX:=(h.fQ d (cO H).1).1.ez;have fl:=h.toir.M (cO H).1;have ki:d.im.z=z:=(h.fQ d (cO H).1).2.1;have xM:=h.b3;have ao:=iO h.b3
 have oF:((d.im.t.length:Nat):Int)*((2 ^((d.im.z:Nat):Int).toNat:Nat):Int)=((d.im.t.length*2 ^z:Nat):Int):=by
  rw[ki];show((d.im.t.length:Nat):Int)*((2 ^z:Nat):Int)=_;rw[aw9]
 have mk:d.im.t.length*2 ^z<=256*8:=au6 mX ao.2;have m1:(0:Int)<=((d.im.t.length:Nat):Int)/\(0:Int)<=((d.im.z:Nat):Int)/\((d.im.z:Nat):Int)<=64:=aA5
 have m2:c5 (((d.im.t.length:Nat):Int)*((2 ^((d.im.z:Nat):Int).toNat:Nat):Int)):=by rw[oF];omega
 have c4:(0:Int)<=((d.im.t.length:Nat):Int)/\(0:Int)<=((z:Nat):Int)/\((z:Nat):Int)<=64:=aA5
 have CN:((d.im.t.length:Nat):Int)*((2 ^((z:Nat):Int).toNat:Nat):Int)=((d.im.t.length*2 ^z:Nat):Int):=by
  show((d.im.t.length:Nat):Int)*((2 ^z:Nat):Int)=_;rw[aw9]
 have ec:c5 (((d.im.t.length:Nat):Int)*((2 ^((z:Nat):Int).toNat:Nat):Int)):=by rw[CN];omega
 refine aU [6,7,10,11] func83 ?_;refine az (jh _ _ L h.toir nm d H) ⟨fun _ _=>⟨fun h=>ap0 (gd h) az7,fun _=>bx [7,10,11] (ac.sub (K':=[(0,ap 1001),(1,bS nm),(2,.c (.one (.bH (.pointer none)))),(3,ab rm),(10,di d.am)]) (B':=bM z R L) aE ⟨rfl,rfl,rfl,rfl,trivial⟩) <| az (hG (vO d.im) fl rfl rfl rfl rfl) <| az (hG (mV d.im) fl rfl rfl rfl rfl) ⟨rfl,rfl,rfl,bx [10,11] (ac.trans (ac.rX 46 (l':=[.ptr 1001 0,.d (.str nm),.d (.int .i64 ((z:Nat):Int)),.d (.int .i64 ((d.im.t.length:Nat):Int)),.d (.int .i64 rm),.mp 43,.mp 44,.d (.bool false),.d (.bool false)]) rfl ⟨rfl,rfl,ap1 Int.ofNat ki,rfl,rfl,rfl,rfl,rfl,rfl,trivial⟩) (ac.sub (K':=[(2,.c (.one (.bH (.pointer none)))),(11,ap 46)]) (B':=CM z R L nm (d.im.t.length:Nat) rm []) aE ⟨rfl,rfl,rfl,rfl,rfl,rfl,rfl,trivial⟩)) ⟨c4,ec,rfl,ed [10,11] (X:=Nat) (fun s=>agP d.am nm (d.im.t.length*2 ^z) s) (fun s=>CM z R L nm (d.im.t.length:Nat) rm (h1 (fun _=>true) z s)) (fun s=>s<=d.im.t.length*2 ^z) (fun s=>d.im.t.length*2 ^z - s) 0 (ap9 _) ?_ ?_⟩⟩⟩,fun h=>by cases h⟩
 .exact ac.sub ⟨rfl,rfl,CN,rfl,trivial⟩ ⟨rfl,rfl,rfl,rfl,rfl,rfl,rfl,trivial⟩
 intro s ax;have ax:s<=d.im.t.length*2 ^z:=ax;refine⟨fun J=>?_,fun J=>?_⟩
 .have J:decide ((s:Int) < ((d.im.t.length*2 ^z:Nat):Int))=true:=J;have jb:s < d.im.t.length*2 ^z:=aC0
  have cE:(0:Int)<=(s:Int)/\(0:Int)<=((z:Nat):Int)/\((z:Nat):Int)<=64:=aA5
  have rT:(s:Int)/((2 ^((z:Nat):Int).toNat:Nat):Int)=((s/2 ^z:Nat):Int):=by
   show(s:Int)/((2 ^z:Nat):Int)=_;rfl
  exact bx [11] (ac.sub (K':=[(2,.c (.one (.bH (.pointer none)))),(11,ap 46),(55,ab ((d.im.t.length*2 ^z:Nat):Int)),(56,ab (s:Nat)),(12,ab (s:Nat))]) (B':=CM z R L nm (d.im.t.length:Nat) rm (h1 (fun _=>true) z s)) aE ⟨rfl,rfl,rfl,rfl,rfl,rfl,rfl,trivial⟩) <| bx [] (ac.sub (K':=[(2,.c (.one (.bH (.pointer none)))),(11,ap 46),(55,ab ((d.im.t.length*2 ^z:Nat):Int)),(56,ab (s:Nat)),(12,ab (s:Nat))]) (B':=CM z R L nm (d.im.t.length:Nat) rm (h1 (fun _=>true) z s)) aE ⟨rfl,rfl,rfl,rfl,rfl,rfl,rfl,trivial⟩) ⟨cE,trivial,rfl,az7,s+1,jb,az7,ac.sub aE ⟨rfl,rfl,rfl,rfl,rfl,ap1 (fun aF=>some (ba.map aj aj aF)) ((CA (s/2 ^z) _).trans (ap1 fR (show m4 (h1 (fun _=>true) z s) (s/2 ^z)=h1 (fun _=>true) z (s+1) from(vj rfl).symm))),rfl,trivial⟩⟩
 .have J:decide ((s:Int) < ((d.im.t.length*2 ^z:Nat):Int))=false:=J;have jb:s=d.im.t.length*2 ^z:=aB5
  subst jb;exact⟨_,_,_,ac.trans (ac.a7 46 2001 rfl) (ac.trans (ac.a7 43 2002 rfl) (ac.a7 44 2003 rfl)),rfl,aE,⟨rfl,rfl,rfl,rfl,rfl,rfl,rfl,trivial⟩,rfl⟩
abbrev xQ (s g:Int) (es:aD4):av:=[(5001,.cells [.d (.int .i64 s),.d (.int .i64 g),.mp 5002]),(5002,.map aj aj es)]
abbrev SJ (z R:Int) (L:aD5) (s g:Int) (es:aD4):av:=bM z R L++xQ s g es
abbrev F8 (z R:Int) (L:aD5) (nm:aD2) (n rm:Int) (l:aD3) (s g:Int) (es:aD4):av:=CM z R L nm n rm l++xQ s g es
abbrev agR (z R:Int) (L:aD5) (nm:aD2) (n rm:Int) (l:aD3) (pO:aD6) (over done:Bool) (s g:Int) (es:aD4):av:=ib z R L nm n rm l pO over done++xQ s g es
def agS (h:cc z R L) {d:aL} (H:dk L nm=some d) (rm:Int) (aw:rm < 0) (s g:Int) (es:aD4):Fn prog 83 [ap 1001,bS nm,ap 5001,ab rm] (bM z R L++[(5001,.cells [.d (.int .i64 s),.d (.int .i64 g),.mp 5002]),(5002,.map aj aj es)]) [] (.cm [oV,dJ 1]) (bM z R L++[(5001,.cells [.d (.int .i64 s),.d (.int .i64 g),.mp 5002]),(5002,.map aj aj es)]):=by refine aU [] func83 ?_;exact az (jh _ _ L h.toir nm d H) ⟨fun _ _=>⟨fun _=>bd,fun h=>ap0 (oj h) az7⟩,fun h=>by cases h⟩
abbrev agT (am:Nat) (nm:aD2) (N s:Nat):aW:=[(2,ap 5001),(11,ap 46),(55,ab (N:Nat)),(56,ab (s:Nat))]
def agU (h:cc z R L) {d:aL} (H:dk L nm=some d) (rm:Int) (aw:0<=rm) (g:Int) (es:aD4) (aV:1<=g):Fn prog 83 [ap 1001,bS nm,ap 5001,ab rm] (SJ z R L ((d.im.t.length*2 ^z:Nat):Int) g es) [2001,2002,2003] (.cm [.one (.ptr 2001 0),dJ 0]) (agR z R L nm (d.im.t.length:Nat) rm (h1 (mw g es) z (d.im.t.length*2 ^z)) [] false false ((d.im.t.length*2 ^z:Nat):Int) g es):=by
 have mX:=(h.fQ d (cO H).1).1.ez;have fl:=h.toir.M (cO H).1;have ki:d.im.z=z:=(h.fQ d (cO H).1).2.1;have xM:=h.b3;have ao:=iO h.b3
 have oF:((d.im.t.length:Nat):Int)*((2 ^((d.im.z:Nat):Int).toNat:Nat):Int)=((d.im.t.length*2 ^z:Nat):Int):=by
  rw[ki];show((d.im.t.length:Nat):Int)*((2 ^z:Nat):Int)=_;rw[aw9]
 have mk:d.im.t.length*2 ^z<=256*8:=au6 mX ao.2;have m1:(0:Int)<=((d.im.t.length:Nat):Int)/\(0:Int)<=((d.im.z:Nat):Int)/\((d.im.z:Nat):Int)<=64:=aA5
 have m2:c5 (((d.im.t.length:Nat):Int)*((2 ^((d.im.z:Nat):Int).toNat:Nat):Int)):=by rw[oF];omega
 have c4:(0:Int)<=((d.im.t.length:Nat):Int)/\(0:Int)<=((z:Nat):Int)/\((z:Nat):Int)<=64:=aA5
 have CN:((d.im.t.length:Nat):Int)*((2 ^((z:Nat):Int).toNat:Nat):Int)=((d.im.t.length*2 ^z:Nat):Int):=by
  show((d.im.t.length:Nat):Int)*((2 ^z:Nat):Int)=_;rw[aw9]
 have ec:c5 (((d.im.t.length:Nat):Int)*((2 ^((z:Nat):Int).toNat:Nat):Int)):=by rw[CN];omega
 refine aU [6,7,10,11] func83 ?_;refine az (jh _ _ L h.toir nm d H) ⟨fun _ _=>⟨fun h=>ap0 (gd h) az7,fun _=>az (Fn.a7 [(1001,5001),(1002,5002)] (Lz ((d.im.t.length*2 ^z:Nat):Int) g es)) <| az (hG (mV d.im) fl rfl rfl rfl rfl) <| az (hG (vO d.im) fl rfl rfl rfl rfl) ⟨m1,m2,fun bf=>?_,fun _=>?_⟩⟩,fun h=>by cases h⟩
 .exfalso;have bf:(!decide (((d.im.t.length*2 ^z:Nat):Int)=((d.im.t.length:Nat):Int)*((2 ^((d.im.z:Nat):Int).toNat:Nat):Int)))=true:=bf;rw[oF,aq1 rfl] at bf
  cases bf
 refine bx [7,10,11] (cH [(0,ap 1001),(1,bS nm),(2,ap 5001),(3,ab rm),(10,di d.am)] (SJ z R L ((d.im.t.length*2 ^z:Nat):Int) g es)) <| az (hG (vO d.im) fl rfl rfl rfl rfl) <| az (hG (mV d.im) fl rfl rfl rfl rfl) ⟨rfl,rfl,rfl,bx [10,11] (ac.trans (ac.rX 46 (l':=[.ptr 1001 0,.d (.str nm),.d (.int .i64 ((z:Nat):Int)),.d (.int .i64 ((d.im.t.length:Nat):Int)),.d (.int .i64 rm),.mp 43,.mp 44,.d (.bool false),.d (.bool false)]) rfl ⟨rfl,rfl,ap1 Int.ofNat ki,rfl,rfl,rfl,rfl,rfl,rfl,trivial⟩) (cH [(2,ap 5001),(11,ap 46)] (F8 z R L nm (d.im.t.length:Nat) rm [] ((d.im.t.length*2 ^z:Nat):Int) g es))) ⟨c4,ec,rfl,ed [10,11] (X:=Nat) (fun s=>agT d.am nm (d.im.t.length*2 ^z) s) (fun s=>F8 z R L nm (d.im.t.length:Nat) rm (h1 (mw g es) z s) ((d.im.t.length*2 ^z:Nat):Int) g es) (fun s=>s<=d.im.t.length*2 ^z) (fun s=>d.im.t.length*2 ^z - s) 0 (ap9 _) ?_ ?_⟩⟩
 .exact ac.sub ⟨rfl,rfl,CN,rfl,trivial⟩ aE
 intro s ax;have ax:s<=d.im.t.length*2 ^z:=ax;refine⟨fun J=>?_,fun J=>?_⟩
 .have J:decide ((s:Int) < ((d.im.t.length*2 ^z:Nat):Int))=true:=J;have jb:s < d.im.t.length*2 ^z:=aC0
  have cE:(0:Int)<=(s:Int)/\(0:Int)<=((z:Nat):Int)/\((z:Nat):Int)<=64:=aA5
  have rT:(s:Int)/((2 ^((z:Nat):Int).toNat:Nat):Int)=((s/2 ^z:Nat):Int):=by
   show(s:Int)/((2 ^z:Nat):Int)=_;rfl
  refine bx [11] (cH [(2,ap 5001),(11,ap 46),(55,ab ((d.im.t.length*2 ^z:Nat):Int)),(56,ab (s:Nat)),(12,ab (s:Nat))] (F8 z R L nm (d.im.t.length:Nat) rm (h1 (mw g es) z s) ((d.im.t.length*2 ^z:Nat):Int) g es)) <| az (Fn.a7 [(1001,5001),(1002,5002)] (SB ((d.im.t.length*2 ^z:Nat):Int) g es s aV az7 az7)) ⟨fun hf=>?_,fun hf=>?_⟩
  .have hf:mw g es s=true:=hf;exact bx [] (cH [(2,ap 5001),(11,ap 46),(55,ab ((d.im.t.length*2 ^z:Nat):Int)),(56,ab (s:Nat)),(12,ab (s:Nat))] (F8 z R L nm (d.im.t.length:Nat) rm (h1 (mw g es) z s) ((d.im.t.length*2 ^z:Nat):Int) g es)) ⟨cE,trivial,rfl,az7,s+1,jb,az7,ac.sub aE ⟨rfl,rfl,rfl,rfl,rfl,ap1 (fun aF=>some (ba.map aj aj aF)) ((CA (s/2 ^z) _).trans (ap1 fR (show m4 (h1 (mw g es) z s) (s/2 ^z)=h1 (mw g es) z (s+1) from(vj hf).symm))),rfl,rfl,rfl,trivial⟩⟩
  .have hf:mw g es s=false:=hf;exact⟨az7,s+1,jb,az7,ac.sub aE ⟨rfl,rfl,rfl,rfl,rfl,ap1 (fun aF=>some (ba.map aj aj (fR aF))) (show h1 (mw g es) z s=h1 (mw g es) z (s+1) from(mu (by rw[hf];decide)).symm),rfl,rfl,rfl,trivial⟩⟩
 .have J:decide ((s:Int) < ((d.im.t.length*2 ^z:Nat):Int))=false:=J;have jb:s=d.im.t.length*2 ^z:=aB5
  subst jb;exact⟨_,_,_,ac.trans (ac.a7 46 2001 rfl) (ac.trans (ac.a7 43 2002 rfl) (ac.a7 44 2003 rfl)),rfl,aE,aE,rfl⟩
end
end
section
def agV (z R:Int) (L:aD5) (nm:aD2) (n rm:Int) (l:aD3) (g:aD6) (done:Bool) (a aT:Int):Fn prog 120 [ap 2001,ab a,ab aT] (ib z R L nm n rm l g true done) [] (ab 0) (ib z R L nm n rm l g true done):=by refine aU [] func120 ?_;exact gV bd
def p2 (l:aD3):aD3:=(kC (l.map fun k:Nat=>(k:Int))).map Int.toNat
def agW (l:aD3):kC (e8 (fR l))=(p2 l).map fun k:Nat=>(k:Int):=by
 unfold p2;rw[uv,at6]
 conv=>lhs;rw[<-List.map_id (kC (l.map fun k:Nat=>(k:Int)))]
 refine ar9 fun x hx=>?_
 obtain⟨k,_,rfl⟩:=ar6.1 ((uz _).mem_iff.1 hx);rfl
def z7 (l:aD3):(p2 l).Perm l:=by
 have h:=(uz (l.map fun k:Nat=>(k:Int))).map Int.toNat;rw[at6] at h
 have e:l.map (Int.toNat∘fun k:Nat=>(k:Int))=l:=by
  conv=>rhs;rw[<-List.map_id l]
  exact ar9 fun x _=>rfl
 rw[e] at h;exact h
structure SK where
 e:Int
 l:aD3
 g:List (Nat×aD2)
 over:Bool
def lS (z:Nat) (L:aD5) (nm:aD2) (rm a aT:Int):aD3->aD3->List (Nat×aD2)->SK
 | [],l,g=>⟨0,l,g,false⟩
 |k::ks,l,g=>if((k*2 ^z+2 ^z:Nat):Int)<=a\/a<=((k*2 ^z:Nat):Int) - aT then lS z L nm rm a aT ks l g else if(ea z L nm rm l g k).e=0 then lS z L nm rm a aT ks (ea z L nm rm l g k).l (ea z L nm rm l g k).g else⟨(ea z L nm rm l g k).e,(ea z L nm rm l g k).l,(ea z L nm rm l g k).g,(ea z L nm rm l g k).over⟩
def agX {z:Nat} {L:aD5} {nm:aD2} {rm:Int} {l:aD3} {g:aD6} {k:Nat} (U:(ea z L nm rm l g k).e=0):(ea z L nm rm l g k).over=false/\(ea z L nm rm l g k).g=g++[(k,gm z L nm (k:Int))]:=by
 unfold ea at U⊢
 split at U
 .exact ap0 U (show¬(171:Int)=0 by decide)
 .rename_i c;rw[mu c];exact⟨rfl,rfl⟩
abbrev agY (a aT:Int) (b:Nat) (ks:aE5) (i:Nat):aW:=[(0,ap 2001),(1,ab a),(2,ab aT),(7,xP 182 b),(27,b0 aj ks),(28,ab (ks.length:Nat)),(29,ab (i:Nat))]
def agZ {z R:Nat} {L:aD5} (h:cc z R L) (nm:aD2) (n rm:Int) (l:aD3) (g:aD6) (done:Bool) (a aT:Int) (E:1<=aT) (G:aT<=9223372036854775807) (ak: ∀k,k∈l->k<=256) (pB:l.length<=256) (hn:l.Nodup) (aV: ∀k,k∈l->k∉g.map Prod.fst):
  Fn prog 120 [ap 2001,ab a,ab aT] (ib z R L nm n rm l g false done) [] (ab (lS z L nm rm a aT (p2 l) l g).e) (ib z R L nm n rm (lS z L nm rm a aT (p2 l) l g).l (lS z L nm rm a aT (p2 l) l g).g (lS z L nm rm a aT (p2 l) l g).over done):=by
 have F7:=agD (fR l) (Lo hn) (Lp fun k Z=>by have:=ak k Z;omega) (by rw[Lm];omega);rw[agW] at F7;have ao:=iO h.b3;have xM:=h.b3;have h6:(p2 l).length=l.length:=(z7 l).length_eq;have vN: ∀k,k∈p2 l->k<=256/\k∉g.map Prod.fst:=fun k Z=>⟨ak k ((z7 l).mem_iff.1 Z),aV k ((z7 l).mem_iff.1 Z)⟩
 have xR:(p2 l).Nodup:=(z7 l).nodup_iff.2 hn;generalize p2 l=ic at*;generalize eu:lS z L nm rm a aT ic l g=bn at*;refine aU [3,4,9] func120 ?_;refine dR ⟨fun h=>ap0 (gd h) az7,fun _=>bB.fJ (du.mark 2001 9001 rfl az8) fun b=>bx [4,9] (cH [(0,ap 2001),(1,ab a),(2,ab aT)] (s6 z R L nm n rm l g false done b)) <| bo (pd (m:=9001) (b:=b) rfl rfl rfl) ?_⟩;refine bx [9] (cH [(0,ap 2001),(1,ab a),(2,ab aT),(7,xP 182 b)] (s6 z R L nm n rm l g false done b)) <| az (Fn.a7 [(1001,2002),(2001,9101)] (Lj (fR l))) <| az (Fn.a7 [(1001,2002),(2001,9101)] F7) <| ed [9] (X:=Nat×aD3×List (Nat×aD2)) (fun x=>agY a aT b (ic.map fun k:Nat=>(k:Int)) x.1) (fun x=>s6 z R L nm n rm x.2.1 x.2.2 false done b) (fun x=>x.1<=ic.length/\lS z L nm rm a aT (ic.drop x.1) x.2.1 x.2.2=bn/\ ∀k,k∈ic.drop x.1->k∉x.2.2.map Prod.fst) (fun x=>ic.length - x.1) (0,l,g) ⟨ap9 _,eu,fun k Z=>(vN k Z).2⟩ ?_ ?_
 .exact ac.sub aE aE
 rintro⟨i,hi,g2⟩ ⟨aG,aw,Z⟩;have aG:i<=ic.length:=aG;have aw:lS z L nm rm a aT (ic.drop i) hi g2=bn:=aw;have Z: ∀k,k∈ic.drop i->k∉g2.map Prod.fst:=Z;refine⟨fun J=>?_,fun J=>?_⟩
 .have J:decide ((i:Int) < (((ic.map fun k:Nat=>(k:Int)).length:Nat):Int))=true:=J;have dC:i < ic.length:=by have:=gd J;rw[aq3] at this;omega
  have B6:ic.drop i=ic[i]::ic.drop (i+1):=aw3 dC
  have l9:fi (α:=aa aj) (ic.map fun k:Nat=>(k:Int)) i=some ((ic[i]:Nat):Int):=by
   show(ic.map fun k:Nat=>(k:Int))[i]? =_;rw[ar1,ao7 dC];rfl
  have dx:=xR.sublist (List.drop_sublist i ic);rw[B6] at aw Z dx;have Jh:=(as2.1 dx).1;have O:=(vN _ (ar4 dC)).1;generalize ic[i]=k at*;have w6:=SF h nm n rm hi g2 done k (Z k (aq4 ..)) b;have bv:=agX (z:=z) (L:=L) (nm:=nm) (rm:=rm) (l:=hi) (g:=g2) (k:=k);have aw:(if((k*2 ^z+2 ^z:Nat):Int)<=a\/a<=((k*2 ^z:Nat):Int) - aT then lS z L nm rm a aT (ic.drop (i+1)) hi g2 else if(ea z L nm rm hi g2 k).e=0 then lS z L nm rm a aT (ic.drop (i+1)) (ea z L nm rm hi g2 k).l (ea z L nm rm hi g2 k).g else⟨(ea z L nm rm hi g2 k).e,(ea z L nm rm hi g2 k).l,(ea z L nm rm hi g2 k).g,(ea z L nm rm hi g2 k).over⟩)=bn:=aw;generalize ea z L nm rm hi g2 k=r at*;have mk:k*2 ^z<=256*8:=au6 O ao.2
  have oF:(k:Int)*((2 ^((z:Nat):Int).toNat:Nat):Int)=((k*2 ^z:Nat):Int):=by
   show(k:Int)*((2 ^z:Nat):Int)=_;rw[aw9]
  have qX:(1:Int)*((2 ^((z:Nat):Int).toNat:Nat):Int)=((2 ^z:Nat):Int):=by rw[Int.one_mul];rfl
  have cE:(0:Int)<=(k:Int)/\(0:Int)<=((z:Nat):Int)/\((z:Nat):Int)<=64:=aA5
  have cG:c5 ((k:Int)*((2 ^((z:Nat):Int).toNat:Nat):Int)):=by rw[oF];omega
  have c4:(0:Int)<=(1:Int)/\(0:Int)<=((z:Nat):Int)/\((z:Nat):Int)<=64:=aA5
  have ec:c5 ((1:Int)*((2 ^((z:Nat):Int).toNat:Nat):Int)):=by rw[qX];omega
  have mn:c5 ((k:Int)*((2 ^((z:Nat):Int).toNat:Nat):Int)+(1:Int)*((2 ^((z:Nat):Int).toNat:Nat):Int)):=by rw[oF,qX];omega
  have rS:c5 ((k:Int)*((2 ^((z:Nat):Int).toNat:Nat):Int) - aT):=by rw[oF];omega
  refine⟨az7,_,l9,cE,cG,c4,ec,mn,fun cy=>?_,fun cy=>?_⟩
  .have cy:=gd (show decide ((k:Int)*((2 ^((z:Nat):Int).toNat:Nat):Int)+(1:Int)*((2 ^((z:Nat):Int).toNat:Nat):Int)<=a)=true from cy);rw[oF,qX] at cy;rw[vj (.inl az7)] at aw;exact⟨az7,(i+1,hi,g2),⟨dC,aw,fun q aY=>Z q (ap4 _ aY)⟩,by show ic.length - (i+1) < ic.length - i;omega,ac.sub aE aE⟩
  have cy:=oj (show decide ((k:Int)*((2 ^((z:Nat):Int).toNat:Nat):Int)+(1:Int)*((2 ^((z:Nat):Int).toNat:Nat):Int)<=a)=false from cy);rw[oF,qX] at cy;refine⟨rS,fun cu=>?_,fun cu=>?_⟩
  .have cu:=gd (show decide (a<=(k:Int)*((2 ^((z:Nat):Int).toNat:Nat):Int) - aT)=true from cu);rw[oF] at cu;rw[vj (.inr cu)] at aw;exact⟨az7,(i+1,hi,g2),⟨dC,aw,fun q aY=>Z q (ap4 _ aY)⟩,by show ic.length - (i+1) < ic.length - i;omega,ac.sub aE aE⟩
  have cu:=oj (show decide (a<=(k:Int)*((2 ^((z:Nat):Int).toNat:Nat):Int) - aT)=false from cu);rw[oF] at cu;rw[mu (by rintro(e |e) <;>omega)] at aw;refine bx [] (cH [(0,ap 2001),(1,ab a),(2,ab aT),(7,xP 182 b),(27,b0 aj (ic.map fun k:Nat=>(k:Int))),(28,ab ((ic.map fun k:Nat=>(k:Int)).length:Nat)),(29,ab (i:Nat)),(9,ab (k:Nat))] (s6 z R L nm n rm hi g2 false done b)) <| bo (fun N=>agF rfl rfl rfl rfl w6 aA9 rfl N) ?_;refine⟨fun U=>?_,fun U=>?_⟩
  .have U:(!decide (r.e=0))=true:=U;have U: ¬r.e=0:=by simpa using U
   rw[mu U] at aw;subst aw;exact bd
  .have U:(!decide (r.e=0))=false:=U;have U:r.e=0:=by simpa using U
   obtain⟨fd,gD⟩:=bv U;rw[vj U] at aw
   exact⟨az7,(i+1,r.l,r.g),⟨dC,aw,fun q aY aD=>by
    rw[gD,au2,ar7] at aD;rcases aD with aD |aD
    .exact Z q (ap4 _ aY) aD
    .have aD:q=k:=by simpa using aD
     exact Jh (aD▸aY)⟩,by show ic.length - (i+1) < ic.length - i;omega,ac.sub aE ⟨rfl,rfl,rfl,rfl,ap1 (fun aF=>some (ba.cells (CL nm z n rm aF done))) fd,rfl,rfl,rfl,trivial⟩⟩
 .have J:decide ((i:Int) < (((ic.map fun k:Nat=>(k:Int)).length:Nat):Int))=false:=J;have dC:i=ic.length:=by have:=oj J;rw[aq3] at this;omega
  subst dC;rw[List.drop_length] at aw;subst aw;exact bd
section
variable {z R:Nat} {L:aD5} {nm:aD2} {rm:Int} {l:aD3} {g:aD6}
def ag0 {d:aL} (H:dk L nm=some d) {k:Nat} (Z:k < d.im.t.length):gm z L nm (k:Int)=fe z L nm (cf L nm) k:=by unfold gm;rw[H];simp only;rw[vj ⟨az7,az7⟩];rfl
structure fU (z R:Nat) (L:aD5) (nm:aD2) (l:aD3) (g:aD6):Prop where
 cs:cc z R L
 h9:(dk L nm).isSome=true
 lt: ∀k,k∈l->k < b6 L nm
 ho:l.Nodup
 gt: ∀p,p∈g->p.1 < b6 L nm/\p.2.length=16*2 ^z
 CO:(g.map Prod.fst).Nodup
 dj: ∀k,k∈l->k∉g.map Prod.fst
def fU.aR (h:fU z R L nm l g):b6 L nm<=256:=by obtain⟨d,H⟩:=as5.1 h.h9;have:=(h.cs.fQ d (cO H).1).1.ez;unfold b6;rw[H];exact this
def fU.ku (h:fU z R L nm l g):l.length<=256:=av9 (FR _ l h.ho h.lt) h.aR
def fU.LI (h:fU z R L nm l g):g.length<=256:=by
 have:=FR (b6 L nm) (g.map Prod.fst) h.CO fun x hx=>by
  obtain⟨p,ao,rfl⟩:=ar6.1 hx;exact(h.gt p ao).1
 rw[aq3] at this;exact av9 this h.aR
def fU.nil (h:fU z R L nm l g):fU z R L nm [] g:=⟨h.cs,h.h9,fun k Z=>(by cases Z),av1,h.gt,h.CO,fun k Z=>(by cases Z)⟩
def fU.q0 {L':aD5} {t:aD2} (h:fU z R L nm l g) (ak:iD L t L'):fU z R L' nm l g:=
 ⟨ak.cs h.cs,by rw[(ak.aR nm).2];exact h.h9,fun k Z=>by rw[(ak.aR nm).1];exact h.lt k Z,h.ho,fun p ao=>by rw[(ak.aR nm).1];exact h.gt p ao,h.CO,h.dj⟩
def fU.SL (h:fU z R L nm l g) (rm:Int) {k:Nat} (Z:k∈l):fU z R L nm (ea z L nm rm l g k).l (ea z L nm rm l g k).g:=by
 unfold ea
 split
 .exact h.nil
 .obtain⟨d,H⟩:=as5.1 h.h9;have ax:b6 L nm=d.im.t.length:=aB2
  have iP:=h.lt k Z;refine⟨h.cs,h.h9,fun q aY=>h.lt q (List.mem_of_mem_erase aY),h.ho.erase _,fun p ao=>?_,?_,fun q aY aD=>?_⟩
  .have ao:p∈g++[(k,gm z L nm (k:Int))]:=ao;rcases ar7.1 ao with ao |ao
   .exact h.gt p ao
   .obtain rfl:=aq6.1 ao;refine⟨iP,?_⟩;show(gm z L nm (k:Int)).length=_;rw[ag0 H az7,xA h.cs.tomZ H (h.cs.bY nm).1 k]
  .show((g++[(k,gm z L nm (k:Int))]).map Prod.fst).Nodup;rw[au2];refine List.nodup_append.2 ⟨h.CO,List.pairwise_singleton _ _,fun a ha b O=>?_⟩;have O:b=k:=by simpa using O
   rintro rfl;exact h.dj k Z (O▸ha)
  .have aY:q∈l.erase k:=aY;have aD:q∈(g++[(k,gm z L nm (k:Int))]).map Prod.fst:=aD;rw[au2,ar7] at aD;rcases aD with aD |aD
   .exact h.dj q (List.mem_of_mem_erase aY) aD
   .have aD:q=k:=by simpa using aD
    exact((h.ho.mem_erase_iff).1 aY).1 aD
def fU.LJ (rm a aT:Int): ∀(ks l:aD3) (g:aD6),fU z R L nm l g->(∀k,k∈ks->k∈l)->ks.Nodup->fU z R L nm (lS z L nm rm a aT ks l g).l (lS z L nm rm a aT ks l g).g
 | [],l,g,h,_,_=>h
 |k::ks,l,g,h,LK,hn=>by
  unfold lS;have hn:=as2.1 hn
  split
  .exact fU.LJ rm a aT ks l g h (fun q aY=>LK q (ap4 _ aY)) hn.2
  .have Z:=h.SL rm (LK k (aq4 ..))
   split
   .rename_i U;refine fU.LJ rm a aT ks _ _ Z (fun q aY=>?_) hn.2;have Jj:=LK q (ap4 _ aY);unfold ea at U⊢
    split
    .rename_i c;rw[vj c] at U;exact ap0 U (show¬(171:Int)=0 by decide)
    .exact(h.ho.mem_erase_iff).2 ⟨fun e=>hn.1 (e▸aY),Jj⟩
   .exact Z
def fU.Lv (h:fU z R L nm l g) (n rm:Int) (over done:Bool):Fn prog 328 [ap 2001] (ib z R L nm n rm l g over done) [] (.cm [.one (.d (.bool (jP z L nm rm l g over done).s0)),dJ (jP z L nm rm l g over done).e])
  (ib z R L nm n rm (jP z L nm rm l g over done).l (jP z L nm rm l g over done).g (jP z L nm rm l g over done).over (jP z L nm rm l g over done).done):=
 agM h.cs nm n rm l g over done (fun k Z=>by have:=h.lt k Z;have:=h.aR;omega) (by have:=h.ku;omega) h.ho h.dj
def jQ (z:Nat) (L:aD5) (nm:aD2) (rm a aT:Int) (l:aD3) (g:aD6) (over:Bool):SK:=if over=true then⟨0,l,g,true⟩ else if aT < 1 then⟨0,l,g,false⟩ else lS z L nm rm a aT (p2 l) l g
def fU.ag1 (h:fU z R L nm l g) (rm a aT:Int) (over:Bool):fU z R L nm (jQ z L nm rm a aT l g over).l (jQ z L nm rm a aT l g over).g:=by
 unfold jQ
 split
 .exact h
 .split
  .exact h
  .exact fU.LJ rm a aT _ l g h (fun k Z=>(z7 l).mem_iff.1 Z) ((z7 l).nodup_iff.2 h.ho)
def ag2 (z R:Int) (L:aD5) (nm:aD2) (n rm:Int) (l:aD3) (g:aD6) (done:Bool) (a aT:Int) (E:aT < 1):Fn prog 120 [ap 2001,ab a,ab aT] (ib z R L nm n rm l g false done) [] (ab 0) (ib z R L nm n rm l g false done):=by refine aU [] func120 ?_;exact dR ⟨fun _=>bd,fun h=>ap0 (oj h) az7⟩
def fU.ag3 (h:fU z R L nm l g) (n rm:Int) (over done:Bool) (a aT:Int) (G:aT<=9223372036854775807):Fn prog 120 [ap 2001,ab a,ab aT] (ib z R L nm n rm l g over done) [] (ab (jQ z L nm rm a aT l g over).e)
  (ib z R L nm n rm (jQ z L nm rm a aT l g over).l (jQ z L nm rm a aT l g over).g (jQ z L nm rm a aT l g over).over done):=by
 cases over with
 |true=>exact agV z R L nm n rm l g done a aT
 |false=>
  by_cases E:aT < 1
  .have e:jQ z L nm rm a aT l g false=⟨0,l,g,false⟩:=(mu az8).trans (vj E);rw[e];exact ag2 z R L nm n rm l g done a aT E
  .have e:jQ z L nm rm a aT l g false=lS z L nm rm a aT (p2 l) l g:=(mu az8).trans (mu E);rw[e];exact agZ h.cs nm n rm l g done a aT az7 G (fun k Z=>by have:=h.lt k Z;have:=h.aR;omega) h.ku h.ho h.dj
def fU.ag4 (h:fU z R L nm l g) (n rm:Int) (over:Bool):Fn prog 142 [ap 2001] (ib z R L nm n rm l g over true) [] (.cm [.one (.d (.cr s7 (nP g))),.one (.d (.int .i64 n)),.one (.d (.bool true))]) (ib z R L nm n rm l g over true):=
 agN z R L nm n rm l g over h.CO (fun p ao=>by
  have E:=h.gt p ao;have G:=h.aR;have ag:=iO h.cs.b3;exact⟨az7,by rw[E.2];omega⟩) (by have:=h.LI;omega)
end
def SM (l:aE5):(kC l).Pairwise fun a b=>xO a b=true:=
 List.pairwise_mergeSort (le:=xO) (fun a b c E G=>aq1 (Int.le_trans (gd E) (gd G))) (fun a b=>by
  rcases Int.le_total a b with h |h
  .rw[show xO a b=true from aq1 h];rfl
  .rw[show xO b a=true from aq1 h];exact Bool.or_true _) l
def ag5 {l m:aE5} (ao:m.Perm l) (ax:m.Pairwise fun a b=>xO a b=true):kC l=m:=
 List.Perm.eq_of_pairwise (fun a b _ _ E G=>Int.le_antisymm (gd E) (gd G)) (SM l) ax ((uz l).trans ao.symm)
end
section
section
variable {z R:Nat} {L:aD5} {top base:aD2}
def ag6 {j:Nat} (h:cc z R L) {d:aL} (H:dk L top=some d) (V:j<=cf L top) (fx: ∀i,i < j->eD L (i+1) top≠base) (oG:j=cf L top\/eD L (j+1) top=base):(c6 L (cf L top) top).take j=j6 L top base:=by
 have cx:=(h.bY top).1;have ak:=o5 cx;unfold j6;refine(R9 _ _ j az7 (fun i x aG hx=>?_) ?_).symm
 .rw[FT cx az7] at hx;injection hx with hx
  subst hx;have:=fx i aG;simp[this]
 .rcases oG with oG |oG
  .exact .inl az7
  .by_cases c:j=cf L top
   .exact .inl az7
   .exact .inr ⟨_,FT cx az7,by rw[oG];simp⟩
def ag7 {j:Nat} (h:cc z R L) {d:aL} (H:dk L top=some d) (V:j<=cf L top) (oG:eD L (j+1) top=base):hs L top base=true:=by
 have cx:=(h.bY top).1;unfold hs;rw[H,Option.isSome_some,ax8,au3]
 by_cases c:j=cf L top
 .rw[c,K3 h cx ⟨d,H⟩] at oG;exact .inl (aq1 oG.symm)
 .refine .inr (aq1 ?_);have:=FT cx (i:=j) az7;rw[oG] at this;exact at9 this
def ag8 (h:cc z R L) {d:aL} (H:dk L top=some d) (fx: ∀i,i<=cf L top->eD L (i+1) top≠base):hs L top base=false:=by
 have cx:=(h.bY top).1;unfold hs;rw[H,Option.isSome_some,ax8,at1];constructor
 .refine as7 fun e=>fx _ (ao9 _) ?_
  rw[K3 h cx ⟨d,H⟩,e]
 .refine as7 fun e=>?_
  obtain⟨i,aG,hx⟩:=aw4 e;have ak:=o5 cx;have:=FT cx (i:=i) az7;rw[ao7 aG,hx] at this;injection this with this
  exact fx i az7 this.symm
abbrev SN (base:aD2) (a:aD2) (c:Nat):aW:=[(0,ap 1001),(2,bS base),(8,eX c),(9,bS a),(10,ab 0)]
abbrev SO (z R:Int) (L:aD5) (c:Nat) (x:aF4):av:=bM z R L++[(c,.row 9 .str x)]
def LL (h:cc z R L) {d:aL} (H:dk L top=some d) (base:aD2):Fn prog 137 [ap 1001,bS top,bS base] (bM z R L) [] (.cm [.one (.d (.cr .str (j6 L top base))),.one (.d (.bool (hs L top base)))]) (bM z R L):=by
 have cx:=(h.bY top).1;have iw:=(h.bY top).2;have fG:=o5 cx;have g8:=fun j V=>K2 h cx ⟨d,H⟩ j V
 have oG:=K3 h cx ⟨d,H⟩
 have vH:e7 L top=(eD L 1 top,0):=by
  unfold e7;rw[show eD L 1 top=d.back by rw[zE];show(match dk L top with |none=>top |some d=>d.back)=_;rw[H],H]
 have ix: ∀j,j < cf L top->e7 L (eD L (j+1) top)=(eD L (j+1+1) top,0)/\eD L (j+1) top≠[]:=fun j V=>by
  obtain⟨e,U⟩:=g8 (j+1) V;refine⟨?_,Cs h ⟨e,U⟩⟩;unfold e7;rw[zE L (j+1),U]
 have wQ: ∀j,j < cf L top->(c6 L (cf L top) top).take (j+1)=(c6 L (cf L top) top).take j++[eD L (j+1) top]:=fun j V=>Fu cx j V
 have iQ:=fun j V fx U=>ag6 (j:=j) (base:=base) h H V fx U
 have ag9:=fun j V U=>ag7 (j:=j) (base:=base) h H V U
 have ag':=fun fx=>ag8 (base:=base) h H fx
 have y9:=FI h top;rw[vH] at y9;generalize j6 L top base=jO at*;generalize hs L top base=rZ at*;generalize c6 L (cf L top) top=ht at*;generalize cf L top=sx at*;refine aU [3,5,7] func137 ?_;refine az y9 <| ed [5,7] (X:=Nat) (fun j=>SN base (eD L (j+1) top) 5002) (fun j=>SO z R L 5002 (ht.take j)) (fun j=>j<=sx/\ ∀i,i < j->eD L (i+1) top≠base) (fun j=>sx - j) 0 ⟨ap9 _,fun i aG=>ap0 aG (ay8 i)⟩ ?_ ?_
 .exact(ac.nil 8 5002 9 .str rfl rfl).trans (ac.sub aE aE)
 rintro j ⟨V,fx⟩;refine gV ⟨fun E=>?_,fun E=>?_⟩
 .have E:(!decide (eD L (j+1) top=base))=true:=E;have E: ¬eD L (j+1) top=base:=aC9
  refine⟨fun G=>?_,fun G=>?_⟩
  .have G:eD L (j+1) top=[]:=gd G
   have CP:j=sx:=by
    rcases ax6 j sx with bf |bf
    .exact ap0 G (ix j bf).2
    .omega
   have LM:ht.take j=jO:=iQ j V fx (.inl CP)
   have wI:rZ=false:=ag' fun i aG=>by
    rcases ax6 i j with bf |bf
    .exact fx i bf
    .rw[show i=j by omega];exact E
   exact bx [] (bu) <| gV ⟨_,_,_,ac.dX 5002 rfl,rfl,⟨LM,(show decide (eD L (j+1) top=base)=rZ by rw[as7 E,wI]),trivial⟩,aE,rfl⟩
  .have G: ¬eD L (j+1) top=[]:=oj G
   have CP:j < sx:=by
    rcases ax6 j sx with bf |bf
    .exact bf
    .exact ap0 (by rw[show j=sx by omega];exact oG) G
   have SP:=FI h (eD L (j+1) top);rw[(ix j CP).1] at SP;have m:List.length (α:=aD2) (ht.take j)+1<=4294967296:=aB8
   have e:=wQ j CP;refine bx [7] (bu) ⟨m,rfl,az SP ⟨j+1,⟨CP,fun i aG=>?_⟩,az7,?_⟩⟩
   .rcases ax6 i j with bf |bf
    .exact fx i bf
    .rw[show i=j by omega];exact E
   refine ac.trans (ac.sub (K':=SN base (eD L (j+1+1) top) 29) (B':=SO z R L 29 (ht.take (j+1))) aE ⟨rfl,rfl,rfl,rfl,ap1 (fun aF:List aD2=>some (ba.row 9 .str aF)) e.symm,trivial⟩) ?_;exact(ac.a7 29 5002 rfl).trans (ac.sub aE aE)
 .have E:(!decide (eD L (j+1) top=base))=false:=E;have E:eD L (j+1) top=base:=aC9
  have LM:ht.take j=jO:=iQ j V fx (.inr E);have wI:rZ=true:=ag9 j V E;exact bx [] (bu) <| gV ⟨_,_,_,ac.dX 5002 rfl,rfl,⟨LM,(show decide (eD L (j+1) top=base)=rZ by rw[aq1 E,wI]),trivial⟩,aE,rfl⟩
abbrev F9 (top base:aD2) (over:Bool):List bw:=[.ptr 1001 0,.d (.str top),.d (.str base),.d (.bool over)]
abbrev pe (z R:Int) (L:aD5) (top base:aD2) (over:Bool):av:=bM z R L++[(2001,.cells (F9 top base over))]
def s8 (L:aD5) (top base:aD2):Int:=if(dk L top).isSome=false then 140 else if hs L top base=false\/j6 L top base=[] then 1 else 0
def aha (h:cc z R L) (top base:aD2) (U:s8 L top base≠0):Fn prog 78 [ap 1001,bS top,bS base] (bM z R L) [] (.cm [oV,dJ (s8 L top base)]) (bM z R L):=by
 unfold s8 at U⊢
 cases H:dk L top with
 |none=>
  rw[vj (show(none:Option aL).isSome=false from rfl)];refine aU [] func78 ?_;exact az (adU _ _ L top H) bd
 |some d=>
  have bI: ¬(some d).isSome=false:=by simp
  rw[H,mu bI] at U;rw[mu bI];have O:hs L top base=false\/j6 L top base=[]:=at0 fun x=>U (mu x)
  rw[vj O];have ki:=LL h H base;generalize hs L top base=rZ at*;generalize j6 L top base=jO at*;refine aU [] func78 ?_;refine az (jh _ _ L h.toir top d H) ⟨fun _ _=>az ki ⟨fun _=>?_,fun E=>?_⟩,fun h=>by cases h⟩
  .exact bd
  .refine⟨fun _=>?_,fun G=>?_⟩
   .exact bd
   .exfalso;have E:(!rZ)=false:=E;have G:decide (((jO.length:Nat):Int)=0)=false:=G;have G:=oj G;rcases O with O |O
    .rw[O] at E;cases E
    .rw[O] at G;exact G rfl
def ahb (U:s8 L top base=0):(∃d,dk L top=some d)/\hs L top base=true/\j6 L top base≠[]:=by
 unfold s8 at U
 split at U
 .exact ap0 U az8
 .rename_i E
  split at U
  .exact ap0 U az8
  .rename_i G;refine⟨as5.1 (by rw[Bool.not_eq_false] at E;exact E),?_,fun e=>G (.inr e)⟩
   cases e:hs L top base with
   |true=>rfl
   |false=>exact ap0 (.inl e) G
def ahc (h:cc z R L) (top base:aD2) (U:s8 L top base=0):Fn prog 78 [ap 1001,bS top,bS base] (bM z R L) [2001] (.cm [.one (.ptr 2001 0),dJ 0]) (pe z R L top base false):=by
 obtain⟨⟨d,H⟩,E,G⟩:=ahb U;have ki:=LL h H base;rw[E] at ki;generalize j6 L top base=jO at*;refine aU [] func78 ?_;refine az (jh _ _ L h.toir top d H) ⟨fun _ _=>az ki <| dR ⟨fun ag=>?_,fun _=>?_⟩,fun h=>by cases h⟩
 .exfalso;have ag:decide (((jO.length:Nat):Int)=0)=true:=ag;have ag:=gd ag;exact G (List.length_eq_zero_iff.1 az7)
 exact⟨rfl,_,_,_,(ac.a7 32 2001 rfl).trans (ac.rX 2001 (l':=F9 top base false) rfl aE),rfl,aE,aE,rfl⟩
def ahd (z R:Int) (L:aD5) (top base:aD2) (over:Bool):Fn prog 331 [ap 2001] (pe z R L top base over) [] (gT over) (pe z R L top base over):=by refine aU [] func331 ?_;exact bd
def ahe (z R:Int) (L:aD5) (top base:aD2) (over:Bool):Fn prog 330 [ap 2001] (pe z R L top base over) [] gU (pe z R L top base true):=by refine aU [] func330 ?_;exact⟨_,_,_,ac.rX 2001 (l':=F9 top base true) rfl aE,rfl,trivial,aE,rfl⟩
def SQ (h:cc z R L) (top base:aD2) (over:Bool) (n:aD2) (k:Nat) {e:aL} (U:dk L n=some e):Fn prog 335 [bS n,ab (k:Int),ap 3001] (pe z R L top base over++[(3001,.cells [.ptr 2001 0])]) [] (gT (g' L n k)) (pe z R L top base over++[(3001,.cells [.ptr 2001 0])]):=by
 have mX:=(h.fQ e (cO U).1).1.ez;have fl:=h.toir.M (cO U).1;have ahf:g' L n k=(decide (e.im.t.length<=k)||decide ((e.im.t.getD k b7).1=0)):=by unfold g';rw[U]
 rw[ahf];refine aU [] func335 ?_;refine az (jh _ _ L h.toir n e U) <| az (hG (mV e.im) fl rfl rfl rfl rfl) ⟨fun E=>?_,fun E=>?_⟩
 .have E:((e.im.t.length:Nat):Int)<=(k:Int):=gd E;exact er bu rfl (show true=_ by rw[aq1 (by omega:e.im.t.length<=k)];rfl)
 .have E: ¬((e.im.t.length:Nat):Int)<=(k:Int):=oj E;refine az (hG (zx e.im mX k az7) fl rfl rfl rfl rfl) ?_;exact er bu rfl (show decide ((e.im.t.getD k b7).1=0)=_ by rw[as7 (by omega: ¬e.im.t.length<=k)];rfl)
def pf (L:aD5) (top base:aD2) (over:Bool):Int×Bool:=if over=true then(0,false) else match nN L top base with
 |some k=>((k:Int),true)
 |none=>(0,false)
abbrev ahg (l:aF4) (n k:Nat):aW:=[(1,ap 1),(5,b0 .str l),(7,.c (.one (.cW 335 [.p 1 0]))),(50,ab (n:Int)),(51,ab (k:Int))]
abbrev ahh (l:aF4) (n k i:Nat):aW:=[(1,ap 1),(5,b0 .str l),(7,.c (.one (.cW 335 [.p 1 0]))),(50,ab (n:Int)),(51,ab (k:Int)),(8,ab (k:Int)),(54,b0 .str l),(55,ab (l.length:Nat)),(56,ab (i:Int))]
abbrev Ga (z R:Int) (L:aD5) (top base:aD2) (over:Bool):av:=pe z R L top base over++[(1,.cells [.ptr 2001 0])]
def ahi {α:Type} (p:α->Bool) {l:List α} {i:Nat} (h:i < l.length) (au:(l.take i).any p=false) (E:p l[i]=false):(l.take (i+1)).any p=false:=by rw[ax3,ao7 h,List.any_append,au];show(false||(p l[i]||false))=false;rw[E];rfl
def ahj (h:cc z R L) (base:aD2) (over:Bool) {d:aL} (H:dk L top=some d):Fn prog 333 [ap 2001] (pe z R L top base over) [] (.cm [.one (.d (.int .i64 (pf L top base over).1)),.one (.d (.bool (pf L top base over).2))]) (pe z R L top base over):=by
 have ki:=LL h H base;have mX:=(h.fQ d (cO H).1).1.ez;have fl:=h.toir.M (cO H).1;have cL:b6 L top=d.im.t.length:=aB2
 have Rz:(j6 L top base).length<=16:=by
  have E:(j6 L top base).length<=(c6 L (cf L top) top).length:=(List.takeWhile_sublist _).length_le;rw[o5 (h.bY top).1] at E;have:=(h.bY top).2;omega
 have g8: ∀n,n∈j6 L top base-> ∃e,dk L n=some e:=fun n hn=>(Sa h H n hn).2
 have bk: ∀k,pc L top base k=(g' L top k&&(j6 L top base).any fun n=> !g' L n k):=fun k=>rfl
 have ahk:over=true->pf L top base over=(0,false):=fun e=>vj e
 have ahl:over=false->hs L top base=false->pf L top base over=(0,false):=fun af al=>by
  unfold pf nN;rw[af,al];rfl
 have ahm:over=false->hs L top base=true-> ∀k,k < b6 L top->pc L top base k=true->(∀j,j < k->pc L top base j=false)->pf L top base over=((k:Int),true):=fun af al k Z ao hn=>by
  unfold pf nN;rw[af,mu az8,vj al,List.find?_range_eq_some.2 ⟨ao,List.mem_range.2 Z,fun j V=>by simp[hn j V]⟩]
 have ahn:over=false->(∀k,k < b6 L top->pc L top base k=false)->pf L top base over=(0,false):=fun af hn=>by
  unfold pf;rw[af,mu az8,afV hn]
 have FZ:=fun k=>SQ h top base over top k H
 have aho:=fun n (hn:n∈j6 L top base) k=>SQ h top base over n k (g8 n hn).choose_spec
 generalize pf L top base over=SR at*;generalize hs L top base=rZ at*;generalize j6 L top base=jO at*;generalize b6 L top=n at*;subst cL;refine aU [5] func333 ?_;refine⟨rfl,az (jh _ _ L h.toir top d H) ⟨rfl,az ki ⟨rfl,fun ai=>?_,fun ai=>?_⟩⟩⟩
 .have e:=ahk ai;exact er bu rfl ⟨ap1 Prod.fst e.symm,ap1 Prod.snd e.symm,trivial⟩
 have ai:over=false:=ai;refine⟨fun _ _=>⟨fun aG=>?_,fun aG=>?_⟩,fun h=>by cases h⟩
 .have aG:rZ=false:=by
   have aG:(!rZ)=true:=aG;simpa using aG
  have e:=ahl ai aG;exact er bu rfl ⟨ap1 Prod.fst e.symm,ap1 Prod.snd e.symm,trivial⟩
 have aG:rZ=true:=by
  have aG:(!rZ)=false:=aG;simpa using aG
 refine bx [] (cH [(1,ap 1),(4,di d.am),(5,b0 .str jO)] (Ga z R L top base over)) <| az (hG (mV d.im) fl rfl rfl rfl rfl) <| ed [16] (X:=Nat) (ahg jO d.im.t.length) (fun _=>Ga z R L top base over) (fun k=>k<=d.im.t.length/\ ∀j,j < k->pc L top base j=false) (fun k=>d.im.t.length - k) 0 ⟨ap9 _,fun j V=>ap0 V (ay8 j)⟩ ?_ ?_
 .exact ac.sub aE aE
 rintro k ⟨Z,fx⟩;have Z:k<=d.im.t.length:=Z;refine⟨fun J=>?_,fun J=>?_⟩
 .have J:decide ((k:Int) < ((d.im.t.length:Nat):Int))=true:=J;have cl:k < d.im.t.length:=aC0
  refine ed [12,16] (X:=Nat) (ahh jO d.im.t.length k) (fun _=>Ga z R L top base over) (fun i=>i<=jO.length/\(g' L top k&&(jO.take i).any fun n=> !g' L n k)=false) (fun i=>jO.length - i) 0 ⟨ap9 _,Bool.and_false _⟩ ?_ ?_
  .exact ac.sub aE aE
  rintro i ⟨dC,nQ⟩;have dC:i<=jO.length:=dC;refine⟨fun J=>?_,fun J=>?_⟩
  .have J:decide ((i:Int) < ((jO.length:Nat):Int))=true:=J;have vQ:i < jO.length:=aC0
   have bf:=aho _ (ar4 vQ) k;have iQ:=fun(a:(jO.take i).any (fun n=> !g' L n k)=false) (b:(!g' L jO[i] k)=false)=>ahi (fun n=> !g' L n k) vQ a b
   have mK:=ar4 vQ;have l9:=j2 (n:=i) vQ;generalize jO[i]=nm at*;refine⟨az7,nm,l9,bx [16] (cH [(1,ap 1),(5,b0 .str jO),(7,.c (.one (.cW 335 [.p 1 0]))),(50,ab (d.im.t.length:Nat)),(51,ab (k:Int)),(8,ab (k:Int)),(54,b0 .str jO),(55,ab (jO.length:Nat)),(56,ab (i:Int)),(10,bS nm)] (Ga z R L top base over)) <| az (Fn.a7 [(3001,1)] (FZ k)) ⟨fun g1=>?_,fun g1=>?_⟩⟩
   .have g1:g' L top k=true:=g1;refine az (Fn.a7 [(3001,1)] bf) ⟨fun g2=>?_,fun g2=>?_⟩
    .have g2:(!g' L nm k)=true:=g2
     have Cv:pc L top base k=true:=by
      rw[bk,g1,ax8,List.any_eq_true];exact⟨nm,mK,g2⟩
     have e:=ahm ai aG k cl Cv fx;exact er bu rfl ⟨ap1 Prod.fst e.symm,ap1 Prod.snd e.symm,trivial⟩
    .have g2:(!g' L nm k)=false:=g2;rw[g1,ax8] at nQ;exact⟨az7,i+1,⟨vQ,by rw[g1,ax8];exact iQ nQ g2⟩,az7,ac.sub aE aE⟩
   .have g1:g' L top k=false:=g1;exact⟨az7,i+1,⟨vQ,by rw[g1];rfl⟩,az7,ac.sub aE aE⟩
  .have J:decide ((i:Int) < ((jO.length:Nat):Int))=false:=J;have vQ:i=jO.length:=aB5
   have Cv:pc L top base k=false:=by
    rw[bk,<-nQ,vQ,ar2]
   exact⟨az7,k+1,⟨cl,fun j V=>by
    rcases ax6 j k with bf |bf
    .exact fx j bf
    .rw[show j=k by omega];exact Cv⟩,az7,ac.sub aE aE⟩
 .have J:decide ((k:Int) < ((d.im.t.length:Nat):Int))=false:=J;have fO:k=d.im.t.length:=aB5
  have e:=ahn ai fun j V=>fx j az7
  exact er bu rfl ⟨ap1 Prod.fst e.symm,ap1 Prod.snd e.symm,trivial⟩
def ahp (h:cc z R L) (base:aD2) (over:Bool) {d:aL} (H:dk L top=some d):Fn prog 332 [ap 2001] (pe z R L top base over) [] (.cm [.one (.d (.bool (hH z L top base over).done)),dJ (hH z L top base over).e]) (pe z R (hH z L top base over).L top base (hH z L top base over).over):=by
 have uA:=ahj h base over H;have mX:=(h.fQ d (cO H).1).1.ez;have fl:=h.toir.M (cO H).1;have ki:d.im.z=z:=(h.fQ d (cO H).1).2.1;have xM:=h.b3;have ao:=iO h.b3
 cases over with
 |true=>
  have e:hH z L top base true=⟨false,160,L,true⟩:=rfl;rw[e];refine aU [] func332 ?_;exact az (jh _ _ L h.toir top d H) ⟨rfl,gV bd⟩
 |false=>
  have bI:hH z L top base false=match nN L top base with
   |some k=>⟨false,(fu z L top ((k*2 ^z:Nat):Int) (gm z L top (k:Int))).e,(fu z L top ((k*2 ^z:Nat):Int) (gm z L top (k:Int))).L,false⟩
   |none=>⟨decide ((hV L top base).e=0),(hV L top base).e,(hV L top base).L,decide ((hV L top base).e=0)⟩:=by
   unfold hH;rw[H];rfl
  cases hn:nN L top base with
  |some k=>
   rw[hn] at bI;have bI:hH z L top base false=⟨false,(fu z L top ((k*2 ^z:Nat):Int) (gm z L top (k:Int))).e,(fu z L top ((k*2 ^z:Nat):Int) (gm z L top (k:Int))).L,false⟩:=bI;rw[bI]
   have J:pf L top base false=((k:Int),true):=by
    unfold pf;rw[hn];rfl
   rw[J] at uA
   have Z:k < d.im.t.length:=by
    have:=(Sp hn).2.1;unfold b6 at this;rw[H] at this;exact this
   have SS:(k:Int)*((2 ^((d.im.z:Nat):Int).toNat:Nat):Int)=((k*2 ^z:Nat):Int):=by
    rw[ki];show(k:Int)*((2 ^z:Nat):Int)=_;rw[aw9]
   have dI:=K1 h top (k:Int)
   have bZ:(gm z L top (k:Int)).length<=1000000000:=by
    have:gm z L top (k:Int)=fe z L top (cf L top) k:=by
     unfold gm;rw[H];simp only;rw[vj ⟨az7,az7⟩];rfl
    rw[this,xA h.tomZ H (h.bY top).1 k];omega
   have F2:=KW h top ((k*2 ^z:Nat):Int) (gm z L top (k:Int)) bZ;rw[<-SS] at F2⊢;generalize gm z L top (k:Int)=x at*;generalize fu z L top ((k:Int)*((2 ^((d.im.z:Nat):Int).toNat:Nat):Int)) x=aoO at*;have m1:(0:Int)<=(k:Int)/\(0:Int)<=((d.im.z:Nat):Int)/\((d.im.z:Nat):Int)<=64:=aA5
   have mk:k*2 ^z<=256*8:=au6 az7 ao.2;have m2:c5 ((k:Int)*((2 ^((d.im.z:Nat):Int).toNat:Nat):Int)):=by rw[SS];omega
   refine aU [6] func332 ?_;exact az (jh _ _ L h.toir top d H) ⟨rfl,dR ⟨fun _ _=>az uA ⟨fun _=>bx [] (cH [(0,ap 2001),(4,di d.am),(5,ab (k:Int))] (pe z R L top base false)) <| az (hG (vO d.im) fl rfl rfl rfl rfl) ⟨m1,m2,az dI <| az F2 ⟨rfl,bd⟩⟩,fun h=>ap0 (show true=false from h) az8⟩,fun h=>by cases h⟩⟩
  |none=>
   rw[hn] at bI;have bI:hH z L top base false=⟨decide ((hV L top base).e=0),(hV L top base).e,(hV L top base).L,decide ((hV L top base).e=0)⟩:=bI;rw[bI]
   have J:pf L top base false=(0,false):=by
    unfold pf;rw[hn];rfl
   rw[J] at uA;have xS:=aft h top base;generalize hV L top base=aoP at*;refine aU [7] func332 ?_;exact az (jh _ _ L h.toir top d H) ⟨rfl,dR ⟨fun _ _=>az uA <| dR <| bx [] (cH [(0,ap 2001)] (pe z R L top base false)) <| az xS ⟨rfl,bd⟩,fun h=>by cases h⟩⟩
end
end
section
section
variable {P:aD9} {ids:aD3} {K:aW} {B:av}
def ahq {o:Oper} {T:aE4} {x v:aE0} {c i off:Nat} {e:aE4} {u:bz} {xs:List (aa u)} {y y':aa u} {Gb:D} {c':aF2} (ai:o.op= .store T x v) (aG:P.info? T=some c') (aO:c'.size=1) (hx:a1 K x= .c (.one (.fX c (aR u) i off)))
  (ay:a1 K v= .c (.one (.d Gb))) (dh:ae B c=some (.row e u xs)) (aC:fi xs i=some y) (rO:off < aR u) (mT:n3 u y') (J: ∀j,j < aR u->fq u y' j=if j=off then Gb else fq u y j)
  (E: ∀{I:Nat->Prop} {w:aD8} {aF:aE7},gA I w Gb aF->aF.cells=List.toArray [aF]/\aF.oneCell'=true) (N:Nat):
  bC P N ids o K B .undef ⟨[c],[],[(c,some (.row e u (xs.set i y')))]⟩:=by
 have m1:x∈o.op.operands:=aA4
 have m2:v∈o.op.operands:=aA4
 have vR:i < xs.length:=AT aC;refine bC.hz dh fun K' B' g1 C ρ F a w ah ar gh=>?_
 obtain⟨bj,jH,cs,dP,ma⟩:=ah.holds c _ gh;have Ih:=ar.fX ((g1 x m1).trans hx);have al:gA (bX C B' F w) w Gb (a.eval v):=ar.ev ((g1 v m2).trans ay);obtain⟨hA,iY⟩:=E al;obtain⟨sl,dP⟩:=dP;rcases dP with⟨_,au⟩ |⟨g,cap,fW,oe,_,aV,D8,aD,cL,cq⟩
 .omega
 .have yG:g=(ρ c).bh:=jH g (by rw[oe];rfl);subst yG
  have ST:i*aR u+off < xs.length*aR u:=by
   have:=av5 (aR u) vR;rw[aw7] at this;omega
  have aoQ:xs.length*aR u<=cap*aR u:=av5 _ D8;have tJ:w.heap[(ρ c).bh]? =some (.cells (List.toArray fW.toList) e (0,0)):=by simpa using aV
  have oP:i*aR u+off+ [a.eval v].length<=fW.toList.length:=aB1
  have tK:=A7 (P:=P) (ev:=a.eval) (w:=w) ai Ih hA aG aO tJ oP (by simpa using iY);refine⟨_,tK,D6 ((bj _).2 (by rw[oe];rfl)),fun I U=>?_⟩;have og:=setRow_heap w (ρ c).bh fW (List.take (i*aR u+off) fW.toList++[a.eval v]++List.drop (i*aR u+off+ [a.eval v].length) fW.toList).toArray e (0,0) aV
  have hj:(List.take (i*aR u+off) fW.toList++[a.eval v]++List.drop (i*aR u+off+ [a.eval v].length) fW.toList)=fW.toList.set (i*aR u+off) (a.eval v):=by
   rw[List.set_eq_take_append_cons_drop,vj aB1];simp
  rw[hj] at og;refine⟨bj,jH,cs.set (i*aR u+off) (a.eval v),⟨by simp[sl],.inr ⟨(ρ c).bh,cap,_,by rw[oe];simp,ap9 _,by rw[hj];exact og,by simpa using D8,aD,by simp[cL],?_⟩⟩,fun j aF aO=>?_⟩
  .rw[<-cq];simp[List.take_set]
  .by_cases kM:i=j
   .subst kM;rw[au1 vR] at aO;injection aO with aO
    subst aO;have H:=ma i y aC;refine cw.mk u y' _ mT fun q aY=>?_
    rw[J q aY]
    by_cases bo:q=off
    .rw[vj bo];subst bo;exact⟨a.eval v,by rw[au1 az7],gA.mono U _ _ al⟩
    .rw[mu bo];obtain⟨x,hx,oQ⟩:=cw.cell u y _ q H aY;exact⟨x,by rw[as6 az7];exact hx,gA.mono U _ _ oQ⟩
   .rw[as6 kM] at aO;have H:=ma j aF aO;refine cw.mk u aF _ (cw.wf u aF _ H) fun q aY=>?_
    obtain⟨x,hx,oQ⟩:=cw.cell u aF _ q H aY;refine⟨x,?_,gA.mono U _ _ oQ⟩;rw[as6 ?_]
    .exact hx
    .intro e;have E:(i*aR u+off)/aR u=i:=by rw[ax5,Nat.mul_add_div az7,Nat.div_eq_of_lt rO,aw0]
     have G:(j*aR u+q)/aR u=j:=by rw[ax5,Nat.mul_add_div az7,Nat.div_eq_of_lt aY,aw0]
     rw[e,G] at E;exact kM E.symm
end
def ahr {I:Nat->Prop} {w:aD8} {n:Int} {aF:aE7} (h:gA I w (.int .i64 n) aF):aF.cells=List.toArray [aF]/\aF.oneCell'=true:=by have h:aF= .int .i64 n:=h;subst h;exact⟨rfl,rfl⟩
def ahs:(prog.info? 3).map (·.size)=some 1:=by kernel_rfl
abbrev hI:bz:=.bT aj (.bT aj aj)
abbrev dN:=Int×Int×Int
abbrev aF1:=List dN
abbrev aht (x:dN):List bw:=[.d (.int .i64 x.1),.d (.int .i64 x.2.1),.d (.int .i64 x.2.2)]
def gP (l:aF1):Int:=match l.getLast? with
 |none=>0
 |some x=>x.1+x.2.1
def lT (l:aF1) (n k:Int):List dN:=if n < 1 then l else match l.getLast? with
 |some x=>if x.2.2=k then l.set (l.length - 1) (x.1,x.2.1+n,x.2.2) else l++[(gP l,n,k)]
 |none=>l++[(gP l,n,k)]
def z8 {α:Type} {l:List α} {x:α} (h:l.getLast? =some x):0 < l.length/\fi l (l.length - 1)=some x:=by rw[List.getLast?_eq_getElem?] at h;exact⟨by have:=(ap6.1 h).1;omega,h⟩
def LN {α:Type} {l:List α} (h:l.getLast? =none):l=[]:=aA6
def ahu (l:aF1) (O: ∀x,l.getLast? =some x-> -4611686018427387904<=x.1/\x.1<=4611686018427387903/\ -4611686018427387904<=x.2.1/\x.2.1<=4611686018427387903) (ak:l.length<=4294967296):
  Fn prog 264 [eX 1001] [(1001,.row 66 hI l)] [] (ab (gP l)) [(1001,.row 66 hI l)]:=by
 refine aU [] func264 ?_;refine⟨fun h=>?_,fun h=>?_⟩
 .have h:((l.length:Nat):Int)=0:=gd h;have au:l=[]:=List.length_eq_zero_iff.1 az7;subst au;exact bd
 .have h: ¬((l.length:Nat):Int)=0:=oj h
  cases hx:l.getLast? with
  |none=>rw[LN hx] at h;exact ap0 rfl h
  |some x=>
   have O:=O x hx;obtain⟨au,aV⟩:=z8 hx;have e:(((l.length:Nat):Int) - 1).toNat=l.length - 1:=aA5
   have m:c5 (((l.length:Nat):Int) - 1):=aA5
   have m2:(0:Int)<=((l.length:Nat):Int) - 1/\(((l.length:Nat):Int) - 1).toNat < l.length:=aA5
   have m3:c5 (x.1+x.2.1):=aA5
   have qK:fi l (((l.length:Nat):Int) - 1).toNat=some x:=by rw[e];exact aV
   refine⟨m,⟨m2.1,az7⟩,x,qK,m,⟨m2.1,az7⟩,x,qK,m3,rfl,?_⟩;exact er bu rfl (show x.1+x.2.1=gP l by unfold gP;rw[hx])
def SU (l:aF1) (n k:Int) (O: ∀x,l.getLast? =some x-> -4611686018427387904<=x.1/\x.1<=4611686018427387903/\ -4611686018427387904<=x.2.1/\x.2.1<=4611686018427387903) (hn:n<=4611686018427387903) (ak:l.length<=1000000000):
  Fn prog 262 [eX 1001,ab n,ab k] [(1001,.row 66 hI l)] [1002] (eX 1002) [(1002,.row 66 hI (lT l n k))]:=by
 obtain⟨ii,ahv,ahw⟩:=k8 ahs;have oG:=ahu l O az7;refine aU [] func262 ?_;refine⟨fun h=>?_,fun h=>?_⟩
 .have h:n < 1:=gd h;have e:lT l n k=l:=vj h;exact⟨_,_,_,ac.a7 1001 1002 rfl,rfl,rfl,⟨ap1 (fun aF:List dN=>some (ba.row 66 hI aF)) e.symm,trivial⟩,rfl⟩
 have h: ¬n < 1:=oj h;have m:c5 (((l.length:Nat):Int) - 1):=aA5
 refine⟨m,?_⟩
 cases hx:l.getLast? with
 |none=>
  have au:=LN hx;subst au;refine⟨fun G=>ap0 G az8,fun _=>az oG ⟨(show(0+1:Nat)<=4294967296 from by decide),rfl,?_⟩⟩;have e:lT [] n k=[(gP [],n,k)]:=by unfold lT;rw[mu h];rfl
  exact⟨_,_,_,ac.a7 42 1002 rfl,rfl,rfl,⟨ap1 (fun aF:List dN=>some (ba.row 66 hI aF)) e.symm,trivial⟩,rfl⟩
 |some x=>
  have O:=O x hx;obtain⟨au,aV⟩:=z8 hx;have e:(((l.length:Nat):Int) - 1).toNat=l.length - 1:=aA5
  have qK:fi l (((l.length:Nat):Int) - 1).toNat=some x:=by rw[e];exact aV
  have m2:(0:Int)<=((l.length:Nat):Int) - 1/\((l.length:Nat):Int) - 1 < l.length:=aA5
  refine⟨fun _=>?_,fun G=>?_⟩
  .refine⟨m2,x,qK,fun Z=>?_,fun Z=>?_⟩
   .have Z:x.2.2=k:=gd Z;have m3:c5 (x.2.1+n):=aA5
    refine⟨m2,x,qK,m3,m2,bo (fun N=>ahq (u:=hI) (y:=x) (y':=((x.1,x.2.1+n,x.2.2):dN)) (off:=1) rfl ahv ahw rfl rfl rfl qK az8 ⟨trivial,trivial,trivial⟩ (fun j V=>?_) ahr N) ?_⟩
    .match j,V with
     |0,_=>rfl
     |1,_=>rfl
     |2,_=>rfl
    have al:lT l n k=l.set (((l.length:Nat):Int) - 1).toNat (x.1,x.2.1+n,x.2.2):=by
     unfold lT;rw[mu h,hx,e];show(if x.2.2=k then _ else _)=_;rw[vj Z]
    exact⟨_,_,_,ac.a7 1001 1002 rfl,rfl,rfl,⟨ap1 (fun aF:List dN=>some (ba.row 66 hI aF)) al.symm,trivial⟩,rfl⟩
   .have Z: ¬x.2.2=k:=oj Z;refine az oG ?_;have jf:List.length (α:=dN) l+1<=4294967296:=aA5
    refine⟨jf,rfl,?_⟩
    have al:lT l n k=l++[(gP l,n,k)]:=by
     unfold lT;rw[mu h,hx];show(if x.2.2=k then _ else _)=_;rw[mu Z]
    exact⟨_,_,_,ac.a7 42 1002 rfl,rfl,rfl,⟨ap1 (fun aF:List dN=>some (ba.row 66 hI aF)) al.symm,trivial⟩,rfl⟩
  .have G: ¬((l.length:Nat):Int) - 1≥0:=oj G;omega
def m7 (ks:aE5):List dN:=ks.foldl (fun l k=>lT l 1 k) []
structure xT (ks:aE5) (l:aF1):Prop where
 CQ:gP l=(ks.length:Int)
 Gc: ∀x,x∈l->0<=x.1/\1<=x.2.1/\x.1+x.2.1<=(ks.length:Int)/\ ∀k:Nat,x.1<=(k:Int)->(k:Int) < x.1+x.2.1->ks[k]? =some x.2.2
 len:l.length<=ks.length
def ahx (l:aF1) (x:dN):gP (l++[x])=x.1+x.2.1:=by unfold gP;rw[List.getLast?_concat]
def xT.add {ks:aE5} {l:aF1} (h:xT ks l) (k:Int):xT (ks++[k]) (lT l 1 k):=by
 have mf: ∀x,x∈l->0<=x.1/\1<=x.2.1/\x.1+x.2.1<=((ks++[k]).length:Int)/\ ∀j:Nat,x.1<=(j:Int)->(j:Int) < x.1+x.2.1->(ks++[k])[j]? =some x.2.2:=fun x hx=>by
  obtain⟨E,G,ag,aS⟩:=h.Gc x hx;refine⟨E,G,by rw[ap3];simp;omega,fun j fg fM=>?_⟩;rw[as0 az7];exact aS j fg fM
 have og:xT (ks++[k]) (l++[(gP l,1,k)]):=by
  refine⟨?_,fun x hx=>?_,by simp;exact h.len⟩
  .rw[ahx,h.CQ,ap3];simp
  .rcases ar7.1 hx with hx |hx
   .exact mf x hx
   .rw[aq6] at hx;subst hx;refine⟨by show 0<=gP l;rw[h.CQ];omega,(show(1:Int)<=1 from by decide),by show gP l+1<=_;rw[h.CQ,ap3];simp,fun j fg fM=>?_⟩;have fg:gP l<=(j:Int):=fg;have fM:(j:Int) < gP l+1:=fM;rw[h.CQ] at fg fM;have:j=ks.length:=aA5
    subst this;rw[as3 (ao9 _)];simp
 unfold lT;rw[mu az8]
 cases hx:l.getLast? with
 |none=>exact og
 |some x=>
  simp only
  split
  .rename_i Z;obtain⟨au,aV⟩:=z8 hx;have Gd:x∈l:=at9 aV;have oG:x.1+x.2.1=(ks.length:Int):=by have:=h.CQ;unfold gP at this;rw[hx] at this;exact this
   obtain⟨E,G,ag,aS⟩:=h.Gc x Gd;refine⟨?_,fun y aC=>?_,by rw[at7,ap3];have:=h.len;omega⟩
   .unfold gP;rw[List.getLast?_eq_getElem?,at7,au1 az7];show x.1+(x.2.1+1)=_;rw[ap3];simp;omega
   .rcases List.mem_or_eq_of_mem_set aC with aC |rfl
    .exact mf y aC
    .refine⟨E,by show 1<=x.2.1+1;omega,by show x.1+(x.2.1+1)<=_;rw[ap3];simp;omega,fun j fg fM=>?_⟩;have fg:x.1<=(j:Int):=fg;have fM:(j:Int) < x.1+(x.2.1+1):=fM;show(ks++[k])[j]? =some x.2.2
     by_cases V:(j:Int) < x.1+x.2.1
     .rw[as0 az7];exact aS j fg V
     .have:j=ks.length:=aA5
      subst this;rw[as3 (ao9 _),Z];simp
  .exact og
def SV (ks:aE5) (k:Int):m7 (ks++[k])=lT (m7 ks) 1 k:=by unfold m7;rw[ax4];rfl
def SW (ks:aE5):xT ks (m7 ks):=by
 have key: ∀n,n<=ks.length->xT (ks.take n) (m7 (ks.take n)):=fun n=>by
  induction n with
  |zero=>intro _;exact⟨rfl,(fun _ h=>by cases h),ao9 _⟩
  |succ n bl=>
   intro hn;rw[ax3,ao7 az7];show xT (ks.take n++[ks[n]]) (m7 (ks.take n++[ks[n]]));rw[SV];exact(bl az7).add _
 have:=key ks.length (ao9 _)
 rwa[ar2] at this
abbrev ahy (ks:aE5) (j:Nat):aW:=[(3,eX 5002),(9,b0 aj ks),(10,ab (ks.length:Nat)),(11,ab (j:Nat))]
def ahz (ks:aE5) (Z:ks.length<=65536):Fn prog 230 [b0 aj ks] [] [] (b0 hI (m7 ks)) []:=by
 refine aU [] func230 ?_;refine⟨fun h=>?_,fun _=>?_⟩
 .exfalso;have h:(65536:Int) < ((ks.length:Nat):Int):=gd h;omega
 refine ed [] (X:=Nat) (ahy ks) (fun j=>[(5002,.row 66 hI (m7 (ks.take j)))]) (fun j=>j<=ks.length) (fun j=>ks.length - j) 0 (ap9 _) ?_ ?_
 .exact(ac.nil 3 5002 66 hI rfl rfl).trans (ac.sub aE aE)
 intro j V;refine⟨fun J=>?_,fun J=>?_⟩
 .have J:decide ((j:Int) < ((ks.length:Nat):Int))=true:=J;have fg:j < ks.length:=aC0
  have bv:=SW (ks.take j);have br:(ks.take j).length=j:=aB8
  have uA:m7 (ks.take (j+1))=lT (m7 (ks.take j)) 1 ks[j]:=by
   rw[ax3,ao7 fg];exact SV _ _
  refine⟨az7,ks[j],j2 (n:=j) fg,?_⟩;refine az (Fn.a7 [(1001,5002)] (SU (m7 (ks.take j)) 1 ks[j] (fun x hx=>?_) az8 (by have:=bv.len;omega))) ?_
  .have:=bv.Gc x (at9 (z8 hx).2);omega
  exact⟨az7,j+1,fg,az7,ac.trans (ac.sub (K':=[(3,eX 1002),(9,b0 aj ks),(10,ab (ks.length:Nat)),(11,ab ((j+1:Nat):Int))]) (B':=[(1002,.row 66 hI (m7 (ks.take (j+1))))]) aE ⟨ap1 (fun aF:List dN=>some (ba.row 66 hI aF)) uA.symm,trivial⟩) ((ac.a7 1002 5002 rfl).trans (ac.sub aE aE))⟩
 .have J:decide ((j:Int) < ((ks.length:Nat):Int))=false:=J;have fM:j=ks.length:=aB5
  subst fM;exact⟨_,_,_,ac.dX 5002 rfl,rfl,(show m7 (ks.take ks.length)=m7 ks by rw[ar2]),trivial,rfl⟩
section
variable {z R:Nat} {L:aD5}
end
end
end Go.Proofs.YtgclhiekndohdaaGreat
