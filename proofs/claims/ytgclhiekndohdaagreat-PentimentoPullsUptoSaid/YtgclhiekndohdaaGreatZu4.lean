/-
A part of the proof of this claim: lemmas, with no condition beyond what each says.
-/
import Derived.Test.YtgclhiekndohdaaGreatZu3
set_option linter.all false
set_option maxRecDepth 100000
set_option maxHeartbeats 0
namespace Go.Proofs.YtgclhiekndohdaaGreat
open Go.RowKit Go.Proofs _root_.Go.Proofs.Tryz Tryz
section
def fJ.Bs {I:Nat->Prop} {w:aH9} {L L':List (Nat×bc)} (h:L.Perm L'): ∀{F:Nat->Prop},fJ I w L F->fJ I w L' F:=by
 induction h with
 |nil=>exact fun h=>h
 |cons x h bk=>
  rintro F ⟨cI,cS,p,E,G,ah,aS,bB⟩;exact⟨cI,cS,p,E,G,ah,aS,bk bB⟩
 |swap x y l=>
  rintro F ⟨cI,cS,p,E,G,ah,aS,rJ,ug,r,g1,g2,cL,g8,pJ⟩;refine⟨rJ,fun aH=>cI aH\/ug aH,r,fun aH=>by rw[E,g1];exact Lr,fun aH aM aD=>?_,cL,g8,cI,ug,p,fun aH=>Iff.rfl,fun aH aM aD=>G aH aM ((g1 aH).2 (.inr aD)),ah,aS,pJ⟩;rcases aD with aD |aD
  .exact G aH aD ((g1 aH).2 (.inl aM))
  .exact g2 aH aM aD
 |trans _ _ oW oX=>exact fun h=>oX (oW h)
def ac.Bs {ids:aH4} {K:aW} {B:ay} (q:Nat) {L L':List (Nat×bc)} (ag:L.Perm L') (a2:ae B q=some (.az (.bt L))):ac ids K B K ((q,.az (.bt L'))::B):=by
 rintro N C a w ⟨hn,H,ρ,F,ak,au⟩;obtain⟨bH,aY⟩:=ak.hT (w':=w) (ch:=.az (.bt L')) a2 (cU.refl _ _) fun I a7=>((ak.holds q _ a2:fJ _ w L (F q)).Bs ag).cj a7 (at0 _) fun _ _=>rfl
 exact⟨hn,H,ρ,F,bH,au.mono aY fun _ _ _=>rfl⟩
def ahq {s:bL}:(je s).pc:=by rintro I F w p ⟨ρ,cg,E,G,ah,aS⟩;obtain⟨bg,_⟩:=G 1001 _ rfl;exact(aS _).2 ⟨1001,_,rfl,(bg _).2 (by rw[E])⟩
def Mz (L:aH6):Prop:= ∀d,d∈L->d.cT=none
def ahr {d:aI} (h:d.cT=none):k0 d=je d.im:=by unfold k0;rw[h]
def ahs (L:aH6) (cG:Mz L): ∀p∈gQ L,p.2.pc:=fun p ag=>by
 obtain⟨d,H,rfl⟩:=av7.1 ag;show(k0 d).pc;rw[ahr (cG d H)];exact ahq
def aht (L:aH6): ∀p∈jU L,p.2.pc:=fun p ag=>by
 obtain⟨d,_,rfl⟩:=av7.1 ag;exact fun I F w p h=>(h.1 _).2 rfl
def D2 (z size R:Nat) (E:z<=3) (G:size<=256) (ah:R<=512):Fn prog 117 [ab (z:Int),ab (size:Int),ab (R:Int)] [] [1001] (.b4 [.one (.ptr 1001 0),dw 0]) [(1001,.az (je (gl z size R)))]:=by
 refine aP [3] func117 ?_;refine av (Fn.aT [(1001,1002),(1002,2002)] (LU size G)) <| av (Fn.aT [(1001,1003),(1002,2003)] (G6 (R:Int) aD7 aD7)) <| bw [] (cz [(0,ab (z:Int)),(8,ap 1002),(9,ab 0),(10,ap 1003),(11,ab 0)] [(1002,.az (rR (List.replicate size b9))),(1003,.az (rS (List.replicate R (0:Int))))]) <| dh <| dh ⟨fun h=>?_,fun h=>?_⟩
 .exfalso;have h:(z:Int) < 0:=gd h;omega
 refine⟨fun h=>?_,fun h=>?_⟩
 .exfalso;have h:(3:Int) < (z:Int):=gd h;omega
 exact⟨rfl,rfl,_,_,_,ac.trans (ac.trans (ac.aT 41 1001 rfl) (ac.trans (ac.aT 39 1004 rfl) (ac.Sg 1004 rfl))) (ac.close 1001 (dz (gl z size R)) aA rfl fun _ _ _ _ h=>h),rfl,aA,aA,rfl⟩
abbrev Bt (nm:aH3) (x:aa .aL):aa .str×aa .aL:=((nm:aa .str),x)
def TI (nm:aH3) (x:aa .aL): ∀L:List aI,dk L nm=none->dp (aF:=.str) (aJ:=.aL) (cW L) (nm:aa .str) x=(cW L++[Bt nm x]:List (aa .str×aa .aL))
 | [],_=>rfl
 |d::L,h=>by
  rw[uy] at h
  by_cases e:d.nm=nm
  .rw[vj e] at h;cases h
  .rw[mu e] at h;have bk:=TI nm x L h;show dp (aF:=.str) (aJ:=.aL) (ma d::cW L) (nm:aa .str) x=_;rw[show dp (aF:=.str) (aJ:=.aL) (ma d::cW L) (nm:aa .str) x=(match fT .str (nm:aa .str) (ma d).1 with |true=>Bt nm x::cW L |false=>ma d::dp (aF:=.str) (aJ:=.aL) (cW L) (nm:aa .str) x:List (aa .str×aa .aL)) from rfl];rw[show fT .str (nm:aa .str) (ma d).1=false from rM (aF:=.str) qD (fun h=>e h.symm)];simp only;rw[bk];rfl
abbrev k1 (L:aH6) (nm back:aH3) (ad am:Nat) (im:bL):List aI:=L++[⟨nm,back,ad,am,im,none⟩]
def iI.add {L:aH6} (h:iI L) {nm back:aH3} {ad am:Nat} {im:bL} (ar:dk L nm=none) (ha:ad∉L.map (·.ad)) (aC:am∉L.map (·.am)):iI (k1 L nm back ad am im):=by
 have key: ∀{α:Type} (f:aI->α) (d:aI),(L.map f).Nodup->f d∉L.map f->((L++[d]).map f).Nodup:=fun f d E G=>by
  rw[ay6];refine List.nodup_append.2 ⟨E,aD9,fun a ha b O e=>?_⟩;rw[au9,aC9,au5] at O;exact G (by rw[<-O,<-e];exact ha)
 refine⟨key _ _ h.kb fun hx=>?_,key _ _ h.nH ha,key _ _ h.y8 aC⟩;obtain⟨d,H,e⟩:=av7.1 hx;have:=List.find?_eq_none.1 ar d H;exact this (by simpa using e)
abbrev D3 (nm back:aH3):aW:=[(0,ap 1001),(1,bN nm),(3,bN back),(9,ap 2001),(10,ab 0)]
abbrev D4 (z R:Int) (L:aH6) (im:bL):ay:=bP z R L++[(2001,.az (je im))]
def ahu (L:aH6) (nm back:aH3) (ad am:Nat) (im:bL):cW (k1 L nm back ad am im)=(cW L++[Bt nm (some ad:aI4)]:List (aa .str×aa .aL)):=by
 induction L with
 |nil=>rfl
 |cons d L bk=>
  show ma d::cW (k1 L nm back ad am im)=ma d::(cW L++[Bt nm (some ad:aI4)]);rw[bk]
abbrev ahv (L:aH6) (nm back:aH3) (am:Nat) (im:bL):List aI:=⟨nm,back,0,am,im,none⟩::L
def TJ {f:aI->Nat×bc} (L:aH6) (d:aI):(f d::L.map f).Perm ((L++[d]).map f):=by rw[ay6];exact List.perm_append_comm (l₁:=[f d]) (l₂:=L.map f)
abbrev ahw (nm back:aH3) (am:Nat):aW:=[(0,ap 1001),(1,bN nm),(3,bN back),(9,dd am)]
abbrev ahx (z R:Int) (L:aH6) (am:Nat) (im:bL):ay:=[(1001,.cells (uw z R)),(1002,.map .str .aL (cW L)),(1003,.az (.bt (jU L))),(1004,.az (.bt ((am,je im)::gQ L)))]
def ahy (z size R:Nat) (E:z<=3) (G:size<=256) (ah:R<=512) (L:aH6) (eM:iI L) (bl:Mz L) (nm back:aH3) (al:nm.length<=4294967296) (aj:gZ nm=true) (ar:dk L nm=none) (p1:L.length < 16) (k:Nat) (O:back=[]\/(dk L back).isSome=true/\ef L back k/\k+1<=8):
  cD prog 62 [ap 1001,bN nm,ab (size:Int),bN back] (bP z R L) [] (X:={p:Nat×Nat//iI (k1 L nm back p.1 p.2 (gl z size R))}) (fun _=>ab 0) (fun p=>bP z R (k1 L nm back p.1.1 p.1.2 (gl z size R))):=by
 have hx:(bX (aF:=.str) (aJ:=.aL) (cW L) nm).getD (cO .aL)=none:=aG2
 have bW:(cW L).length=L.length:=au3 ..;have hs:=Bm z R L back
 have TK:(decide (back=[])||(dk L back).isSome)=true:=by
  rcases O with O |⟨O,_⟩
  .rw[au1 O];rfl
  .rw[O,Bool.or_true]
 rw[TK] at hs;have nu:=D2 z size R E G ah;refine ia [2,10] func62 ?_;refine av (Fn.aT [(1001,2001)] nu) ⟨rfl,bw [10] (cz (D3 nm back) (D4 z R L (gl z size R))) <| av (qO _ al) ⟨fun af=>?_,fun af=>?_⟩⟩
 .rw[aj] at af;cases af
 refine⟨fun ao=>?_,fun ao=>?_⟩
 .exact at1 ao aD8
 refine⟨fun d5 br=>?_,fun br=>?_⟩
 .exfalso;have:(bX (aF:=.str) (aJ:=.aL) (cW L) nm).getD (cO .aL)=some d5:=br;rw[hx] at this
  cases this
 refine⟨fun c0=>?_,fun c0=>?_⟩
 .exfalso;have c0:(16:Int)<=((cW L).length:Int):=gd c0;omega
 refine av hs ⟨fun ft=>at1 ft aD8,fun _=>⟨fun hl=>?_,fun hl=>?_⟩⟩
 focus
  have hl: ¬back=[]:=by simpa using hl
  obtain⟨_,Z,pY⟩:=O.resolve_left hl;have fO:=Bp z R L eM back k Z aD7;have ze:=pX Z;generalize c6 L k back=bs at fO ze;refine av fO ?_;have m1: -9223372036854775808<=(bs.length:Int)+1/\(bs.length:Int)+1<=9223372036854775807:=aE5
  refine⟨m1,fun ng=>?_,fun _=>?_⟩
  .exfalso;have ng:(8:Int) < (bs.length:Int)+1:=gd ng;omega
 all_goals
  refine bG.fW (dF.name 9 2001 rfl rfl) fun am=>bG.le (K':=ahw nm back am) (B':=ahx z R L am (gl z size R)) (ac.trans (ac.put 1004 2001 aD8 rfl rfl) (ac.sub aA aA)) <| bG.fW (dF.Dw 1004 (L:=(am,je (gl z size R))::gQ L) (ahs (ahv L nm back am (gl z size R)) (fun d H=>(at7.1 H).elim (fun e=>by rw[e]) (bl d))) rfl) fun dL=>bG.iF eY aE0 ⟨rfl,_,aes (c:=1002) (d:=72) (q:=1003) (aF:=.str) (l:=Hl am back) (h:=fun _=>rfl) rfl underlying94 (dk:=.string) aE0 rfl rfl rfl rfl rfl rfl rfl aD8 aD8 aD8 (aht L),fun v e aB=>?_⟩
  obtain⟨ad,GR,rfl,rfl⟩:=aB;have MA:ad∉L.map (·.ad):=fun h=>GR (by unfold jU;rw[ax7];exact h)
  have ahz:am∉L.map (·.am):=fun h=>(aw6.1 dL.down).1 (by show am∈(gQ L).map (·.1);unfold gQ;rw[ax7];exact h)
  have pn:dp (aF:=.str) (aJ:=.aL) (cW L) (nm:aa .str) (some ad:aI4)=cW (k1 L nm back ad am (gl z size R)):=(TI nm _ L ar).trans (ahu L nm back ad am (gl z size R)).symm;exact⟨⟨(ad,am),eM.add ar MA ahz⟩,_,_,_,ac.trans (ac.Bs 1003 (TJ (f:=fun d=>(d.ad,uv d.am d.back)) L ⟨nm,back,ad,am,gl z size R,none⟩) rfl) (ac.Bs 1004 (TJ (f:=fun d=>(d.am,k0 d)) L ⟨nm,back,ad,am,gl z size R,none⟩) rfl),rfl,rfl,⟨rfl,at2 (fun e=>some (a8.map .str .aL e)) pn,rfl,rfl,trivial⟩,rfl⟩
def ahA (z R:Int) (size:Int) (L:aH6) (nm back:aH3) (al:nm.length<=4294967296) (h:(gZ nm&&mB z size R)=false):Fn prog 62 [ap 1001,bN nm,ab size,bN back] (bP z R L) [] (ab 1) (bP z R L):=by
 rcases Bool.eq_false_or_eq_true (mB z size R) with G |G
 .have aj:gZ nm=false:=by rw[G,Bool.and_true] at h;exact h
  unfold mB at G;simp only[as8,aw0] at G;obtain⟨⟨⟨bM,bU⟩,a3,a4⟩,a5,fj⟩:=G;obtain⟨b,rfl⟩:=aD1 a5;obtain⟨aH,rfl⟩:=aD1 bM;obtain⟨r,rfl⟩:=aD1 a3;have nu:=D2 b aH r aD7 aD7 aD7;refine aP [2] func62 ?_;refine av (Fn.aT [(1001,2001)] nu) ⟨rfl,bw [] (cz (D3 nm back) (D4 b r L (gl b aH r))) <| av (qO _ al) ⟨fun af=>?_,fun af=>?_⟩⟩
  .exact bb
  .rw[aj] at af;cases af
 .have nu:=agI z size R G;refine aP [2] func62 ?_;refine av nu ⟨rfl,bw [] (cz [(0,ap 1001),(1,bN nm),(3,bN back),(10,ab 1)] (bP z R L)) <| av (qO _ al) ⟨fun af=>?_,fun af=>?_⟩⟩
  .exact bb
  refine⟨fun ao=>?_,fun ao=>?_⟩
  .exact bb
  .exact at1 ao aD8
def ahB (z size R:Nat) (E:z<=3) (G:size<=256) (ah:R<=512) (L:aH6) (nm back:aH3) (al:nm.length<=4294967296) (aj:gZ nm=true) (ar:(dk L nm).isSome=true\/16<=L.length):
  Fn prog 62 [ap 1001,bN nm,ab (size:Int),bN back] (bP z R L) [] (ab 143) (bP z R L):=by
 have hx:(bX (aF:=.str) (aJ:=.aL) (cW L) nm).getD (cO .aL)=((dk L nm).map (·.ad):Option Nat):=jA nm L;have bW:(cW L).length=L.length:=au3 ..;have nu:=D2 z size R E G ah;refine aP [2] func62 ?_;refine av (Fn.aT [(1001,2001)] nu) ⟨rfl,bw [] (cz (D3 nm back) (D4 z R L (gl z size R))) <| av (qO _ al) ⟨fun af=>?_,fun af=>?_⟩⟩
 .rw[aj] at af;cases af
 refine⟨fun ao=>?_,fun ao=>?_⟩
 .exact at1 ao aD8
 refine⟨fun d5 br=>?_,fun br=>?_⟩
 .exact bb
 refine⟨fun c0=>?_,fun c0=>?_⟩
 .exact bb
 .exfalso;have c0: ¬(16:Int)<=((cW L).length:Int):=oj c0;have br:(bX (aF:=.str) (aJ:=.aL) (cW L) nm).getD (cO .aL)=none:=br;rw[hx] at br;rcases ar with ar |ar
  .obtain⟨d,H⟩:=aw9.1 ar;rw[H] at br
   cases br
  .omega
def ahC (z size R:Nat) (E:z<=3) (G:size<=256) (ah:R<=512) (L:aH6) (nm back:aH3) (al:nm.length<=4294967296) (aj:gZ nm=true) (ar:dk L nm=none) (p1:L.length < 16) (O:(decide (back=[])||(dk L back).isSome)=false):
  Fn prog 62 [ap 1001,bN nm,ab (size:Int),bN back] (bP z R L) [] (ab 140) (bP z R L):=by
 have hx:(bX (aF:=.str) (aJ:=.aL) (cW L) nm).getD (cO .aL)=none:=aG2
 have bW:(cW L).length=L.length:=au3 ..;have hs:=Bm z R L back;rw[O] at hs;have nu:=D2 z size R E G ah;refine aP [2] func62 ?_;refine av (Fn.aT [(1001,2001)] nu) ⟨rfl,bw [] (cz (D3 nm back) (D4 z R L (gl z size R))) <| av (qO _ al) ⟨fun af=>?_,fun af=>?_⟩⟩
 .rw[aj] at af;cases af
 refine⟨fun ao=>?_,fun ao=>?_⟩
 .exact at1 ao aD8
 refine⟨fun d5 br=>?_,fun br=>?_⟩
 .exfalso;have:(bX (aF:=.str) (aJ:=.aL) (cW L) nm).getD (cO .aL)=some d5:=br;rw[hx] at this
  cases this
 refine⟨fun c0=>?_,fun c0=>?_⟩
 .exfalso;have c0:(16:Int)<=((cW L).length:Int):=gd c0;omega
 exact av hs ⟨fun _=>bb,fun ft=>at1 ft aD8⟩
def ahD (z size R:Nat) (E:z<=3) (G:size<=256) (ah:R<=512) (L:aH6) (eM:iI L) (nm back:aH3) (al:nm.length<=4294967296) (aj:gZ nm=true) (ar:dk L nm=none) (p1:L.length < 16) (xi:back≠[]) (O:(dk L back).isSome=true) (k:Nat) (Z:ef L back k) (hr:k<=1000000) (pY:8 < k+1):
  Fn prog 62 [ap 1001,bN nm,ab (size:Int),bN back] (bP z R L) [] (ab 142) (bP z R L):=by
 have hx:(bX (aF:=.str) (aJ:=.aL) (cW L) nm).getD (cO .aL)=none:=aG2
 have bW:(cW L).length=L.length:=au3 ..;have hs:=Bm z R L back;rw[O,Bool.or_true] at hs;have nu:=D2 z size R E G ah;refine aP [2] func62 ?_;refine av (Fn.aT [(1001,2001)] nu) ⟨rfl,bw [] (cz (D3 nm back) (D4 z R L (gl z size R))) <| av (qO _ al) ⟨fun af=>?_,fun af=>?_⟩⟩
 .rw[aj] at af;cases af
 refine⟨fun ao=>?_,fun ao=>?_⟩
 .exact at1 ao aD8
 refine⟨fun d5 br=>?_,fun br=>?_⟩
 .exfalso;have:(bX (aF:=.str) (aJ:=.aL) (cW L) nm).getD (cO .aL)=some d5:=br;rw[hx] at this
  cases this
 refine⟨fun c0=>?_,fun c0=>?_⟩
 .exfalso;have c0:(16:Int)<=((cW L).length:Int):=gd c0;omega
 refine av hs ⟨fun ft=>at1 ft aD8,fun _=>⟨fun hl=>?_,fun hl=>at1 (by simpa using hl) xi⟩⟩;have fO:=Bp z R L eM back k Z hr;have ze:=pX Z;generalize c6 L k back=bs at fO ze;refine av fO ?_;have m1: -9223372036854775808<=(bs.length:Int)+1/\(bs.length:Int)+1<=9223372036854775807:=aE5
 refine⟨m1,fun _=>?_,fun ng=>?_⟩
 .exact bb
 .exfalso;have ng: ¬(8:Int) < (bs.length:Int)+1:=oj ng;omega
def zf (l:aJ5) (v:aH3):Int:=match l.idxOf? v with
 |some i=>(i:Nat)
 |none=> -1
def ahE (l:aJ5) (v:aH3) (al:l.length<=4294967296):Fn prog 138 [bE .str l,bN v] [] [] (ab (zf l v)) []:=by
 refine aP [] func138 ?_;refine dZ [] (X:=Nat) (fun k=>[(0,bE .str l),(1,bN v),(7,ab (l.length:Nat)),(8,ab (k:Nat))]) (fun _=>[]) (fun k=>k<=l.length/\ ∀(i:Nat),i < k->l[i]? ≠some v) (fun k=>l.length - k) 0 ⟨at6 _,fun i h=>at1 h (aC7 _)⟩ ?_ ?_
 .exact ac.sub aA trivial
 intro k ⟨Z,ag⟩;refine⟨fun h=>?_,fun h=>?_⟩
 .have cd:k < l.length:=by
   have h:decide ((k:Int) < (l.length:Int))=true:=h;simpa using h
  refine⟨aD7,l[k],lE (n:=k) cd,fun G=>?_,fun G=>?_⟩
  .have G:v=l[k]:=gd G;refine⟨_,_,_,bn,rfl,(show((k:Nat):Int)=zf l v from ?_),trivial,rfl⟩
   have:l.idxOf? v=some k:=by
    rw[List.idxOf?_eq_some_iff];refine⟨cd,by simp[G],fun j V=>?_⟩;have:=ag j V;rw[as7 aD7] at this;simpa using this
   rw[zf,this]
  .have G: ¬v=l[k]:=oj G;have m1: -9223372036854775808<=(k:Int)+1/\(k:Int)+1<=9223372036854775807:=aE5
   have m2:k+1<=l.length:=aE5
   have m3:l.length - (k+1) < l.length - k:=aE5
   refine⟨m1,k+1,⟨m2,fun i hi=>?_⟩,m3,ac.sub aA trivial⟩;rcases aB8 i k with aS |aS
   .exact ag i aS
   .have:i=k:=aE5
    subst this;rw[as7 cd];intro e;injection e with e
    exact G e.symm
 .have h:decide ((k:Int) < (l.length:Int))=false:=h;have ey:k=l.length:=aH1
  refine⟨_,_,_,bn,rfl,(show(-1:Int)=zf l v from ?_),trivial,rfl⟩
  have:l.idxOf? v=none:=by
   rw[List.idxOf?_eq_none_iff];intro aC;obtain⟨i,hi,e⟩:=aA5 aC;have:=ag i aD7;rw[as7 hi] at this;exact this (by rw[e])
  rw[zf,this]
def MB (l:aJ5) (v:aH3) (al:l.length<=4294967296):Fn prog 80 [bE .str l,bN v] [] [] (gb (l.contains v)) []:=by
 refine aP [] func80 ?_;refine av (ahE l v al) ⟨_,_,_,bn,rfl,(show decide (0<=zf l v)=l.contains v from ?_),trivial,rfl⟩;unfold zf
 cases h:l.idxOf? v with
 |none=>
  rw[List.idxOf?_eq_none_iff] at h;simp[h]
 |some i=>
  obtain⟨hi,e,_⟩:=List.idxOf?_eq_some_iff.1 h
  have:v∈l:=by
   have:=av5 hi
   rwa[show l[i]=v by simpa using e] at this
  simp[this]
def ahF (z R:Int) (L:aH6) (nm back:aH3) (h:(dk L nm).isSome=false\/(decide (back=[])||(dk L back).isSome)=false):Fn prog 334 [ap 1001,bN nm,bN back] (bP z R L) [] (ab 140) (bP z R L):=by
 have hs:=Bm z R L back;refine aP [] func334 ?_;refine⟨fun d5 br=>?_,fun br=>?_⟩
 .obtain⟨d,H,_⟩:=agJ br;have O:(decide (back=[])||(dk L back).isSome)=false:=h.resolve_left (by rw[H];intro h;cases h);rw[O] at hs;exact av hs ⟨fun _=>bb,fun ft=>at1 ft aD8⟩
 .exact bb
def ahG (z R:Int) (L:aH6) (eM:iI L) (nm back:aH3) (d:aI) (H:dk L nm=some d) (Z:(decide (back=[])||(dk L back).isSome)=true) (k:Nat) (cw:ef L back k) (hr:k<=1000000) (h:nm=back\/nm∈c6 L k back):Fn prog 334 [ap 1001,bN nm,bN back] (bP z R L) [] (ab 141) (bP z R L):=by
 have hs:=Bm z R L back;rw[Z] at hs;have hx:(bX (aF:=.str) (aJ:=.aL) (cW L) nm).getD (cO .aL)=some d.ad:=by rw[jA,H];rfl
 have fO:=Bp z R L eM back k cw hr;have ze:=pX cw;generalize c6 L k back=bs at fO ze h;have l2:=MB bs nm aD7;refine aP [] func334 ?_;refine⟨fun d5 br=>av hs ⟨fun ft=>at1 ft aD8,fun _=>⟨fun hl=>?_,fun hl=>?_⟩⟩,fun O=>at1 (show(bX (aF:=.str) (aJ:=.aL) (cW L) nm).getD (cO .aL)=none from O) aF2⟩
 .exact bb
 .have hl: ¬nm=back:=oj hl;have aC:bs.contains nm=true:=by simpa using h.resolve_left hl
  rw[aC] at l2;exact av fO <| av l2 ⟨fun _=>bb,fun ft=>at1 ft aD8⟩
def eO (nm back:aH3) (d:aI):aI:=if d.nm=nm then {d with back:=back} else d
def d4 (L:aH6) (nm back:aH3):List aI:=L.map (eO nm back)
def zg (nm back:aH3) (d:aI):(eO nm back d).nm=d.nm:=by unfold eO;split <;>rfl
def Hs (nm back:aH3) (d:aI):(eO nm back d).ad=d.ad:=by unfold eO;split <;>rfl
def Ht (nm back:aH3) (d:aI):(eO nm back d).am=d.am:=by unfold eO;split <;>rfl
def D5 (nm back:aH3) (d:aI):(eO nm back d).im=d.im:=by unfold eO;split <;>rfl
def TL (nm back:aH3) (d:aI):(eO nm back d).cT=d.cT:=by unfold eO;split <;>rfl
def ahH (L:aH6) (nm back:aH3):cW (d4 L nm back)=cW L:=by
 unfold cW d4;rw[ax7];refine aw2 fun d _=>?_
 show ma (eO nm back d)=ma d;unfold ma;rw[zg,Hs]
def ahI (L:aH6) (nm back:aH3):gQ (d4 L nm back)=gQ L:=by
 unfold gQ d4;rw[ax7];refine aw2 fun d _=>?_
 show((eO nm back d).am,k0 (eO nm back d))=_;unfold k0;rw[Ht,D5,TL]
def iI.d4 {L:aH6} (h:iI L) (nm back:aH3):iI (d4 L nm back):=by
 have key: ∀{α:Type} (f:aI->α),(∀d,f (eO nm back d)=f d)->(Go.Proofs.YtgclhiekndohdaaGreat.d4 L nm back).map f=L.map f:=fun f hf=>by
  unfold Go.Proofs.YtgclhiekndohdaaGreat.d4;rw[ax7];exact aw2 fun d _=>hf d
 exact⟨by rw[key _ (zg nm back)];exact h.kb,by rw[key _ (Hs nm back)];exact h.nH,by rw[key _ (Ht nm back)];exact h.y8⟩
def MC {L:aH6} {nm:aH3} (back:aH3) (h:nm∉L.map (·.nm)):d4 L nm back=L:=by unfold d4;refine(aw2 fun d H=>?_).trans (List.map_id' L);unfold eO;rw[mu fun e=>h (by rw[<-e];exact aw1 H)]
def MD {back:aH3} {nm:aH3}: ∀{L:aH6},(L.map (·.nm)).Nodup->(L.map (·.ad)).Nodup-> ∀{d:aI},dk L nm=some d->fX (jU L) d.ad (uv d.am back)=jU (d4 L nm back)
 | [],_,_,d,h=>by cases h
 |e::L,hn,ha,d,h=>by
  rw[au9] at hn ha;obtain⟨cC,dg⟩:=aw6.1 hn;obtain⟨bM,bU⟩:=aw6.1 ha;rw[uy] at h;show fX ((e.ad,uv e.am e.back)::jU L) d.ad (uv d.am back)=jU (eO nm back e::d4 L nm back);unfold fX
  by_cases c:e.nm=nm
  .rw[vj c] at h;injection h with h
   subst h;rw[vj rfl,MC back (by rw[<-c];exact cC)];unfold eO;rw[vj c];rfl
  .rw[mu c] at h;have a6: ¬e.ad=d.ad:=fun x=>bM (by rw[x];exact aw1 (f:=fun d:aI=>d.ad) (cP h).1)
   rw[mu a6,MD dg bU h];unfold eO;rw[mu c];rfl
def mF (nm back n:aH3): ∀L:List aI,dk (d4 L nm back) n=(dk L n).map (eO nm back)
 | []=>rfl
 |d::L=>by
  show dk (eO nm back d::d4 L nm back) n=_;rw[uy,uy,zg,mF nm back n L]
  split <;>rfl
def ahJ {L:aH6} (hn:(L.map (·.nm)).Nodup) {nm back:aH3} {d:aI} (h:dk L nm=some d):d4 (d4 L nm back) nm d.back=L:=by
 induction L with
 |nil=>cases h
 |cons e L bk=>
  rw[au9] at hn;obtain⟨cC,dg⟩:=aw6.1 hn;rw[uy] at h;show eO nm d.back (eO nm back e)::d4 (d4 L nm back) nm d.back=e::L
  by_cases c:e.nm=nm
  .rw[vj c] at h;injection h with h
   subst h;have cG:nm∉L.map (·.nm):=by rw[<-c];exact cC
   rw[MC back cG,MC _ cG]
   congr 1
   unfold eO;rw[vj c,vj c]
  .rw[mu c] at h;rw[bk dg h]
   congr 1
   unfold eO;rw[mu c,mu c]
abbrev ahK (nm back rr:aH3) (ad:Nat):aW:=[(0,ap 1001),(1,bN nm),(2,bN back),(7,dd ad),(8,bN rr)]
abbrev ahL (rr:aH3) (ad:Nat) (l:aJ5) (j:Nat):aW:=[(0,ap 1001),(7,dd ad),(8,bN rr),(46,bE .str l),(47,ab (l.length:Nat)),(48,ab (j:Nat))]
def TM {I:Nat->Prop} {w:aH9} {s:aH3} {aH:aI8} (h:gL I w (.str s) aH):aH.cells=List.toArray [aH]/\aH.oneCell'=true:=by have h:aH= .string ⟨s.toArray⟩:=h;subst h;exact⟨rfl,rfl⟩
def ahM (z R:Int) (L:aH6) (eM:iI L) (al: ∀d,d∈L->d.nm.length<=100000) (p1:L.length<=100) (nm back:aH3) (d:aI) (H:dk L nm=some d) (Z:(decide (back=[])||(dk L back).isSome)=true) (k:Nat) (cw:ef L back k) (hr:k<=1000000) (h: ¬(nm=back\/nm∈c6 L k back))
  (Bu:aH3->Nat) (ahN: ∀n∈mD L,ef (d4 L nm back) n (Bu n)/\Bu n<=1000000) (r:Int) (Hu:aH6) (bu:(∀n∈mD L,Bu n<=8)->r=0/\Hu=d4 L nm back) (gg:(∃n∈mD L,8 < Bu n)->r=142/\Hu=L):
  Fn prog 334 [ap 1001,bN nm,bN back] (bP z R L) [] (ab r) (bP z R Hu):=by
 obtain⟨pW,hd,he⟩:=lp Hm;have hs:=Bm z R L back;rw[Z] at hs;have hx:(bX (aF:=.str) (aJ:=.aL) (cW L) nm).getD (cO .aL)=some d.ad:=by rw[jA,H];rfl
 have fO:=Bp z R L eM back k cw hr;have ze:=pX cw;generalize c6 L k back=bs at fO ze h;have l2:=MB bs nm aD7
 have yI:bs.contains nm=false:=by
  have:=fun e=>h (.inr e)
  simpa using this
 rw[yI] at l2;have lq:=eM.D (cP H).1;have D6:=eM.d4 nm back;have lf:dk (d4 L nm back) nm=some (eO nm back d):=by rw[mF,H];rfl
 have TN:=D6.D (cP lf).1;rw[Hs,Ht,show(eO nm back d).back=back by unfold eO;rw[vj (cP H).2]] at TN;have pn:=ahH L nm back;have xj:=ahI L nm back;have tc:fX (jU L) d.ad (uv d.am back)=jU (d4 L nm back):=MD eM.kb eM.nH H
 have ahO:fX (jU (d4 L nm back)) d.ad (uv d.am d.back)=jU L:=by
  have:=MD (back:=d.back) D6.kb D6.nH lf;rw[Hs,Ht,ahJ eM.kb H] at this;exact this
 have A4:=TC z R (d4 L nm back) D6 (fun x hx=>by
  obtain⟨y,aD,rfl⟩:=av7.1 hx;rw[zg];exact al y aD) (by unfold d4;rw[au3];exact p1)
 have mG:mD (d4 L nm back)=mD L:=by unfold mD;rw[pn]
 rw[mG] at A4;have bW:=TB L;generalize mD L=l at*;refine aP [6,8,12] func334 ?_;refine⟨fun d5 br=>av hs ⟨fun ft=>at1 ft aD8,fun _=>⟨fun hl=>?_,fun hl=>?_⟩⟩,fun O=>at1 (show(bX (aF:=.str) (aJ:=.aL) (cW L) nm).getD (cO .aL)=none from O) aF2⟩
 .exact at1 (.inl (gd hl)) h
 refine av fO <| av l2 ⟨fun ft=>at1 ft aD8,fun _=>bw [8,12] (bn) <| bm (fun N=>kx (b:=d.ad) rfl aG3 N) ?_⟩;refine bm (fun N=>kY rfl underlying106 rfl rfl hd aF4 rfl N) ?_;refine bm (my (q:=1003) rfl underlying9 rfl rfl rfl lq rfl) ?_;refine bm (fun N=>kx (b:=d.ad) rfl aG3 N) ?_;refine bm (fun N=>kY rfl underlying106 rfl rfl hd aF4 rfl N) ?_;refine bm (GN (q:=1003) (b:=d.ad) (j:=1) (y:=.str back) (l:=Hl d.am d.back) (h':=fun _=>rfl) rfl hd he rfl rfl rfl lq (Nat.lt_succ_self 1) TM) ?_;refine bw [12] (ac.sub (K':=ahK nm back d.back d.ad) (B':=bP z R (d4 L nm back)) ⟨rfl,rfl,rfl,hx,rfl,trivial⟩ ⟨rfl,at2 (fun e=>some (a8.map .str .aL e)) pn.symm,at2 (fun e=>some (a8.az (.bt e))) tc,at2 (fun e=>some (a8.az (.bt e))) xj.symm,trivial⟩) <| av A4 ?_;refine dZ [12] (X:=Nat) (ahL d.back d.ad l) (fun _=>bP z R (d4 L nm back)) (fun j=>j<=l.length/\ ∀n∈l.take j,Bu n<=8) (fun j=>l.length - j) 0 ⟨at6 _,fun n hn=>by rw[List.take_zero] at hn;cases hn⟩ ?_ ?_
 .exact ac.sub aA aA
 intro j ⟨V,ME⟩;refine⟨fun h=>?_,fun h=>?_⟩
 .have h:decide ((j:Int) < (l.length:Nat))=true:=h;have fE:j < l.length:=aE6
  have m3:(0:Int)<=(j:Int):=aE5
  have rZ:c5 ((j:Int)+1):=aE5
  obtain⟨TO,DM⟩:=ahN _ (av5 fE);have lj:=av5 fE;have rE:=ay2 fE;have iq:=Bp z R (d4 L nm back) D6 _ _ TO DM;have ahP:=pX TO;refine⟨m3,l[j],lE (n:=j) fE,?_⟩;generalize l[j]=n at*;generalize c6 (d4 L nm back) (Bu n) n=ns at iq ahP;refine av iq ⟨fun ng=>?_,fun ng=>?_⟩
  .have ng:(8:Int) < (ns.length:Int):=gd ng;obtain⟨rfl,rfl⟩:=gg ⟨n,lj,aD7⟩;refine bw [] (cz [(7,dd d.ad),(8,bN d.back)] (bP z R (d4 Hu nm back))) <| bm (kx (b:=d.ad) rfl rfl) ?_;refine bm (fun N=>kY rfl underlying106 rfl rfl hd aF4 rfl N) ?_;refine bm (GN (q:=1003) (b:=d.ad) (j:=1) (y:=.str d.back) (l:=Hl d.am back) (h':=fun _=>rfl) rfl hd he rfl rfl rfl TN (Nat.lt_succ_self 1) TM) ?_;exact s4 bn rfl rfl ⟨rfl,at2 (fun e=>some (a8.map .str .aL e)) pn,at2 (fun e=>some (a8.az (.bt e))) ahO,at2 (fun e=>some (a8.az (.bt e))) xj,trivial⟩ rfl
  .have ng: ¬(8:Int) < (ns.length:Int):=oj ng;refine⟨rZ,j+1,⟨fE,fun sH vC=>?_⟩,aD7,ac.sub aA aA⟩;rw[rE] at vC;rcases av9.1 vC with vC |vC
   .exact ME sH vC
   .rw[au5] at vC;subst vC;omega
 .have h:decide ((j:Int) < (l.length:Nat))=false:=h;have fE:j=l.length:=aH1
  subst fE;rw[av0] at ME;obtain⟨rfl,rfl⟩:=bu ME;exact bb
end
section
abbrev ahQ (nm:aH3):ay:=[(2001,.cells [.ptr 1001 0]),(2002,.cells [.d (.str nm)])]
abbrev TP (z R:Int) (L:aH6) (nm:aH3):ay:=bP z R L++ahQ nm
def ahR (z R:Nat) (L:aH6) (dr:nJ z R L) (nm:aH3) (bI:aI) (ar:dk L nm=some bI) (cQ:Nat) (hp:ef L nm cQ) (pY:cQ<=100) (k:Nat) (Z:k < bI.im.t.length):
  Fn prog 186 [ab (k:Int),ap 2001,ap 2002] (TP z R L nm) [] (bE .u8 (fl z L nm cQ k)) (TP z R L nm):=by
 have dR:=Mm z R L dr nm bI ar cQ hp pY k Z;generalize fl z L nm cQ k=y at dR;refine aP [] func186 ?_;exact av dR bb
def MF (z R:Int) (L:aH6) (nm:aH3) (ar:dk L nm=none) (g:Nat) (x y:D):
  Fn prog 124 [ap 1001,bN nm,.c (.one (.c2 g [.p 3001 0,.p 3002 0]))] (bP z R L++[(3001,.cells [.d x]),(3002,.cells [.d y])]) [] (ab 140) (bP z R L++[(3001,.cells [.d x]),(3002,.cells [.d y])]):=by
 have hx:(bX (aF:=.str) (aJ:=.aL) (cW L) nm).getD (cO .aL)=none:=aG2
 refine aP [2] func124 ?_;refine⟨rfl,rfl,rfl,bw [] (bn) ?_⟩;exact⟨fun d5 O=>at1 (show(bX (aF:=.str) (aJ:=.aL) (cW L) nm).getD (cO .aL)=some d5 from O) aF2,fun _=>bb⟩
def e2.sub {N:Nat} {ids:aH4} {C:fc} {K K':aW} {B B':ay} {a:Act} {w:aH9} (h:e2 N ids C K B a w) (cR:yA K K') (de:la B B'):e2 N ids C K' B' a w:=ac.sub cR de N C a w h
def ahS (t:List e9):j' (.az (rR t)):=by rintro mS s2 I F w p ku _ ag ⟨es,h,aV⟩;exact⟨es,h,j'.iQ (c:=1001) (DF (bq:=pi (t.length:Nat) es) ⟨j'.cells rfl,j'.map,trivial⟩) mS s2 I F w p ku (fun _ h=>by cases h) ag aV⟩
def ahT (l:aI7):j' (.az (rS l)):=by
 rintro mS s2 I F w p ku _ ag ⟨ρ,cg,E,G,ah,aS⟩;refine⟨dv ρ 1001 ku,cg,dB ..,fun d ch H=>?_,ah,aS⟩;have c':=G d ch H;rw[co] at H
 split at H
 .rename_i e;injection H with H
  subst H e;obtain⟨g1,aE,T,g2,cL⟩:=c';rw[dB];rw[E] at g1 g2;exact⟨fun b=>by rw[ag];exact g1 b,aE,T,by rw[ag];exact g2,cf.mono (cm.refl _ _) _ aE (fun c J=>dD _ _ (fun e=>by subst e;cases J)) cL⟩
 .rename_i e;rw[dD _ _ (az2 e)];rw[co] at H
  split at H
  .injection H with H
   subst H;exact Holds.cj (cm.refl _ _) (fun _ _=>rfl) (at0 _) _ (fun c J=>by cases J) c'
  .cases H
def ahU (f:lF):j' (.az (na f)):=by intro mS s2 I F w p ku _ ag h;have h:w4 (fun _=>none) f I F w p:=h;show w4 (fun _=>none) f I F w ku;unfold w4 at*;rw[ag];exact h
def ahV (s:bL):GT (dz s):=⟨j'.cells rfl,ahS _,ahT _,ahU _,trivial⟩
def ie (nm:aH3) (im:bL) (cT:Option (Nat->Nat)) (d:aI):aI:=if d.nm=nm then {d with im:=im,cT:=cT} else d
def dn (L:aH6) (nm:aH3) (im:bL) (cT:Option (Nat->Nat)):List aI:=L.map (ie nm im cT)
section
variable (nm:aH3) (im:bL) (cT:Option (Nat->Nat)) (d:aI)
def Bv:(ie nm im cT d).nm=d.nm:=by unfold ie;split <;>rfl
def MG:(ie nm im cT d).ad=d.ad:=by unfold ie;split <;>rfl
def TQ:(ie nm im cT d).am=d.am:=by unfold ie;split <;>rfl
def zh:(ie nm im cT d).back=d.back:=by unfold ie;split <;>rfl
def Hv (L:aH6):cW (dn L nm im cT)=cW L:=by
 unfold cW dn;rw[ax7];refine aw2 fun d _=>?_
 show ma (ie nm im cT d)=ma d;unfold ma;rw[Bv,MG]
def Hw (L:aH6):jU (dn L nm im cT)=jU L:=by
 unfold jU dn;rw[ax7];refine aw2 fun d _=>?_
 show((ie nm im cT d).ad,uv (ie nm im cT d).am (ie nm im cT d).back)=_;rw[MG,TQ,zh]
def vQ (n:aH3): ∀L:List aI,dk (dn L nm im cT) n=(dk L n).map (ie nm im cT)
 | []=>rfl
 |d::L=>by
  show dk (ie nm im cT d::dn L nm im cT) n=_;rw[uy,uy,Bv,vQ n L]
  split <;>rfl
end
def zi {L:aH6} {nm:aH3} {d:aI} (h:dk L nm=some d) (im:bL) (cT:Option (Nat->Nat)):dk (dn L nm im cT) nm=some {d with im:=im,cT:=cT}:=by rw[vQ,h];show some (ie nm im cT d)=_;unfold ie;rw[vj (cP h).2]
def Hx {L:aH6} {nm n:aH3} (a6:n≠nm) (im:bL) (cT:Option (Nat->Nat)):dk (dn L nm im cT) n=dk L n:=by
 rw[vQ]
 cases h:dk L n with
 |none=>rfl
 |some d=>
  show some (ie nm im cT d)=_;unfold ie;rw[mu (fun e=>a6 ((cP h).2.symm.trans e))]
def ahW {L:aH6} {nm:aH3} (im:bL) (cT:Option (Nat->Nat)) (h:nm∉L.map (·.nm)):dn L nm im cT=L:=by unfold dn;refine(aw2 fun d H=>?_).trans (List.map_id' L);unfold ie;rw[mu fun e=>h (by rw[<-e];exact aw1 H)]
def Hy {nm:aH3} {im:bL} {cT:Option (Nat->Nat)}: ∀{L:aH6},(L.map (·.nm)).Nodup->(L.map (·.am)).Nodup-> ∀{d:aI},dk L nm=some d->fX (gQ L) d.am (k0 {d with im:=im,cT:=cT})=gQ (dn L nm im cT)
 | [],_,_,d,h=>by cases h
 |e::L,hn,ha,d,h=>by
  rw[au9] at hn ha;obtain⟨cC,dg⟩:=aw6.1 hn;obtain⟨bM,bU⟩:=aw6.1 ha;rw[uy] at h;show fX ((e.am,k0 e)::gQ L) d.am _=gQ (ie nm im cT e::dn L nm im cT);unfold fX
  by_cases c:e.nm=nm
  .rw[vj c] at h;injection h with h
   subst h;rw[vj rfl,ahW im cT (by rw[<-c];exact cC)];unfold ie;rw[vj c];rfl
  .rw[mu c] at h;have a6: ¬e.am=d.am:=fun x=>bM (by rw[x];exact aw1 (f:=fun d:aI=>d.am) (cP h).1)
   rw[mu a6,Hy dg bU h];unfold ie;rw[mu c];rfl
def TR {b:Nat} {o:bc}: ∀L:List (Nat×bc),jS (fX L b o) b=jS L b
 | []=>rfl
 |(a,q)::L=>by
  unfold fX
  by_cases e:a=b
  .rw[vj e];show(if a=b then L else _)=if a=b then L else _
   rw[vj e,vj e]
  .rw[mu e];show(if a=b then _ else(a,q)::jS (fX L b o) b)=if a=b then L else(a,q)::jS L b
   rw[mu e,mu e,TR L]
def MH {L:aH6} (nm:aH3) (im:bL) (cT:Option (Nat->Nat)) {n:aH3} {k:Nat} (h:ef L n k):ef (dn L nm im cT) n k:=by
 induction h with
 |gone h=>exact .gone (by rw[vQ,h];rfl)
 |base E G=>exact .base (d:=ie nm im cT _) (by rw[vQ,E];rfl) (by rw[zh];exact G)
 |step E G ah bk=>exact .step (d:=ie nm im cT _) (by rw[vQ,E];rfl) (by rw[zh];exact G) (by rw[zh];exact bk)
def Bw (L:aH6) (nm:aH3) (im:bL) (cT:Option (Nat->Nat)): ∀(k:Nat) (n:aH3),c6 (dn L nm im cT) k n=c6 L k n
 |0,_=>rfl
 |k+1,n=>by
  show(match dk (dn L nm im cT) n with |none=>[] |some d=>d.back::c6 (dn L nm im cT) k d.back)=match dk L n with |none=>[] |some d=>d.back::c6 L k d.back
  rw[vQ]
  cases h:dk L n with
  |none=>rfl
  |some d=>
   show(ie nm im cT d).back::c6 (dn L nm im cT) k (ie nm im cT d).back=d.back::c6 L k d.back;rw[zh,Bw L nm im cT k]
def iI.dn {L:aH6} (h:iI L) (nm:aH3) (im:bL) (cT:Option (Nat->Nat)):iI (dn L nm im cT):=by
 have key: ∀{α:Type} (f:aI->α),(∀d,f (ie nm im cT d)=f d)->(Go.Proofs.YtgclhiekndohdaaGreat.dn L nm im cT).map f=L.map f:=fun f hf=>by
  unfold Go.Proofs.YtgclhiekndohdaaGreat.dn;rw[ax7];exact aw2 fun d _=>hf d
 exact⟨by rw[key _ (Bv nm im cT)];exact h.kb,by rw[key _ (MG nm im cT)];exact h.nH,by rw[key _ (TQ nm im cT)];exact h.y8⟩
def nJ.dn {z R:Nat} {L:aH6} (h:nJ z R L) {nm:aH3} {bI:aI} (ar:dk L nm=some bI) {im:bL} (aw:iv bI.im im) (cT:Option (Nat->Nat)):nJ z R (dn L nm im cT):=by
 obtain⟨e8,gH,mA⟩:=h.fK bI (cP ar).1
 have key: ∀d,d∈Go.Proofs.YtgclhiekndohdaaGreat.dn L nm im cT-> ∃e,e∈L/\ie nm im cT e=d:=fun d H=>by
  obtain⟨e,U,rfl⟩:=av7.1 H;exact⟨e,U,rfl⟩
 refine⟨h.toiI.dn nm im cT,h.b3,h.xg,by unfold Go.Proofs.YtgclhiekndohdaaGreat.dn;rw[au3];exact h.len,fun d H=>?_,fun d H O=>?_,fun d H=>?_,fun d H=>?_⟩
 .obtain⟨e,U,rfl⟩:=key d H;unfold ie
  split
  .exact⟨aw.ok,aw.z.trans gH,aw.lJ.trans mA⟩
  .exact h.fK e U
 .obtain⟨e,U,rfl⟩:=key d H;rw[zh] at O⊢;obtain⟨cc,h'⟩:=h.iw e U O;exact⟨ie nm im cT cc,by rw[vQ,h'];rfl⟩
 .obtain⟨e,U,rfl⟩:=key d H;rw[Bv];exact h.ne e U
 .obtain⟨e,U,rfl⟩:=key d H;rw[Bv];obtain⟨k,Z,H⟩:=h.ux e U;exact⟨k,Z,MH nm im cT H⟩
def Bx {L:aH6} {n:aH3} {k ec:Nat} (h:ef L n k) (h':ef L n ec):k=ec:=by
 induction h generalizing ec with
 |gone h=>
  cases h' with
  |gone _=>rfl
  |base _ _=>rfl
  |step E _ _=>rw[h] at E;cases E
 |base E G=>
  cases h' with
  |gone _=>rfl
  |base _ _=>rfl
  |step g1 g2 _=>rw[E] at g1;injection g1 with g1;rw[<-g1] at g2;exact at1 G g2
 |step E G ah bk=>
  cases h' with
  |gone h=>rw[E] at h;cases h
  |base g1 g2=>rw[E] at g1;injection g1 with g1;rw[<-g1] at g2;exact at1 g2 G
  |step g1 g2 cL=>rw[E] at g1;injection g1 with g1;rw[<-g1] at cL;rw[bk cL]
def MI {L:aH6} {n:aH3} {k:Nat} (h:ef L n k): ∀x,x∈c6 L k n-> ∃j,j < k/\ef L x j:=by
 induction h with
 |gone _=>intro x hx;cases hx
 |base _ _=>intro x hx;cases hx
 | @step n d k E G ah bk=>
  intro x hx;unfold c6 at hx;rw[E] at hx;rcases at7.1 hx with rfl |hx
  .exact⟨k,Nat.lt_succ_self k,ah⟩
  .obtain⟨j,V,H⟩:=bk x hx;exact⟨j,aD7,H⟩
def MJ {L:aH6} {n:aH3} {k:Nat} (h:ef L n k):n∉c6 L k n:=fun hx=>by
 obtain⟨j,V,H⟩:=MI h n hx;have:=Bx h H;omega
def Hz {z:Nat} {L:aH6} {nm:aH3} {im:bL} {cT:Option (Nat->Nat)} {c:Nat}: ∀(ns:aJ5) (i:Nat),nm∉ns->hg z (dn L nm im cT) c ns i=hg z L c ns i
 | [],_,_=>rfl
 |n::ns,i,h=>by
  have a6:n≠nm:=fun e=>h (by rw[e];exact au7 ..)
  have bk:=Hz (z:=z) (L:=L) (nm:=nm) (im:=im) (cT:=cT) (c:=c) ns (i+1) fun aC=>h (at4 _ aC)
  unfold hg;rw[Hx a6,bk]
def ht (z:Nat) (L:aH6) (nm:aH3) (cQ c:Nat):aH3:=(hg z L c (c6 L cQ nm) 1).1
def TS {z:Nat} {L:aH6} {nm:aH3} {bI:aI} (ar:dk L nm=some bI) {cQ:Nat} (hp:ef L nm cQ) (im:bL) (cT:Option (Nat->Nat)) (c:Nat):
  fl z (dn L nm im cT) nm cQ c=if c < im.t.length/\(im.t.getD c b9).1≠0 then eh im c none else ht z L nm cQ c:=by
 unfold fl ht;rw[Bw]
 conv=>lhs;unfold hg
 rw[zi ar];simp only
 split
 .rfl
 .rw[Hz _ _ (MJ hp)]
abbrev By (z R:Int) (L:aH6) (nm:aH3) (am:Nat):ay:=[(8001,.cells [.d (.int .i64 z),.d (.int .i64 R),.mp 8002]),(8002,.map .str .aL (cW L)),(8003,.az (.bt (jU L))),(8004,.az (.bt (jS (gQ L) am))),(8005,.cells [.ptr 8001 0]),(8006,.cells [.d (.str nm)])]
def td (z R:Int) (L:aH6) (nm:aH3) (am:Nat) (bs:Nat->Nat):bp->bc:=.pM am (.nD (By z R L nm am) bs)
def TT (z R:Int) (L:aH6) (nm:aH3) (am:Nat):GT (By z R L nm am):=⟨j'.cells rfl,j'.map,j'.bt,j'.bt,j'.cells rfl,j'.cells rfl,trivial⟩
abbrev md (z R:Int) (L:aH6) (nm:aH3):ay:=[(8001,.cells [.d (.int .i64 z),.d (.int .i64 R),.mp 8002]),(8002,.map .str .aL (cW L)),(8003,.az (.bt (jU L))),(8004,.az (.bt (gQ L))),(8005,.cells [.ptr 8001 0]),(8006,.cells [.d (.str nm)])]
abbrev D7 (am cX dJ dN:Nat):Nat->Nat:=fun c=>cond (Nat.beq c 1001) am (cond (Nat.beq c 1002) cX (cond (Nat.beq c 1003) dJ dN))
abbrev p2 (cX dJ dN:Nat):Nat->Nat:=fun c=>cond (Nat.beq c 1002) cX (cond (Nat.beq c 1003) dJ dN)
abbrev TU (am cX dJ dN:Nat):ay:=[(9001,.b5 1001 (e7 am)),(9002,.b5 1002 (e7 cX)),(9003,.b5 1003 (e7 dJ)),(9004,.b5 1004 (e7 dN))]
abbrev MK (bs:Nat->Nat):ay:=[(7001,.b5 8001 (e7 (bs 8001))),(7002,.b5 8002 (e7 (bs 8002))),(7003,.b5 8003 (e7 (bs 8003))),(7004,.b5 8004 (e7 (bs 8004))),(7005,.b5 8005 (e7 (bs 8005))),(7006,.b5 8006 (e7 (bs 8006)))]
def ahX (z R:Nat) (L:aH6) (dr:nJ z R L) (nm:aH3) (bI:aI) (ar:dk L nm=some bI) (cQ:Nat) (hp:ef L nm cQ) (pY:cQ<=100) (k:Nat) (Z:k < bI.im.t.length):
  Fn prog 186 [ab (k:Int),ap 8005,ap 8006] (md z R L nm) [] (bE .u8 (fl z L nm cQ k)) (md z R L nm):=
 Fn.aT [(1001,8001),(1002,8002),(1003,8003),(1004,8004),(2001,8005),(2002,8006)] (ahR z R L dr nm bI ar cQ hp pY k Z)
def ahY (z R:Nat) (L:aH6) (dr:nJ z R L) (nm:aH3) (bI:aI) (ar:dk L nm=some bI) (cQ:Nat) (hp:ef L nm cQ) (pY:cQ<=100) (s:bL) (aw:iv bI.im s) (bs:Nat->Nat) (c:Nat) (J:c < s.t.length) (aM:(s.t[c]).1=0):
  G' s (td z R L nm bI.am bs) (bs 8005) (bs 8006) c (ht z L nm cQ c):=by
 have bW:(ht z L nm cQ c).length<=1000000:=by
  have:=Ts dr c (c6 L cQ nm) 1;unfold ht;omega
 refine⟨bW,?_⟩;have fg:=dr.toiI.M (cP ar).1
 have J': ∀cT,fl z (dn L nm s cT) nm cQ c=ht z L nm cQ c:=fun cT=>by
  rw[TS ar hp,mu fun h=>h.2 (by rw[at3,as7 J];exact aM)]
 have kw: ∀cT,Fn prog 186 [ab (c:Int),ap 8005,ap 8006] (md z R (dn L nm s cT) nm) [] (bE .u8 (ht z L nm cQ c)) (md z R (dn L nm s cT) nm):=fun cT=>by
  have:=ahX z R (dn L nm s cT) (dr.dn ar aw cT) nm _ (zi ar s cT) cQ (MH nm s cT hp) pY c J;rw[J' cT] at this;exact this
 have TV: ∀cX dJ dN,k0 {bI with im:=s,cT:=some (p2 cX dJ dN)}= .nD (dz s) (D7 bI.am cX dJ dN):=fun cX dJ dN=>rfl
 have l3: ∀cX dJ dN,fX (gQ L) bI.am (.nD (dz s) (D7 bI.am cX dJ dN))=gQ (dn L nm s (some (p2 cX dJ dN))):=fun cX dJ dN=>by
  rw[<-TV];exact Hy dr.kb dr.y8 ar
 have ahZ: ∀cX dJ dN,eZ (gQ (dn L nm s (some (p2 cX dJ dN)))) bI.am=some (.nD (dz s) (D7 bI.am cX dJ dN)):=fun cX dJ dN=>by
  have:=(dr.toiI.dn nm s (some (p2 cX dJ dN))).M (cP (zi ar s (some (p2 cX dJ dN)))).1;rw[TV] at this;exact this
 have ah0: ∀cX dJ dN,jS (gQ (dn L nm s (some (p2 cX dJ dN)))) bI.am=jS (gQ L) bI.am:=fun cX dJ dN=>by
  rw[<-l3,TR]
 refine Fn.via (X:=Nat×Nat×Nat) (args':=fun _=>[ab (c:Int),ap 8005,ap 8006]) (uh:=fun x=>md z R (dn L nm s (some (p2 x.1 x.2.1 x.2.2))) nm++(MK bs++TU bI.am x.1 x.2.1 x.2.2)) (m0:=fun x=>md z R (dn L nm s (some (p2 x.1 x.2.1 x.2.2))) nm) (iR:=fun _=>[]) (res':=fun _=>bE .u8 (ht z L nm cQ c)) (nA:=fun x=>md z R (dn L nm s (some (p2 x.1 x.2.1 x.2.2))) nm)
  aE0 3 rfl ?_ (fun x=>kw _) (fun x=>aA) (fun x=>rfl) (fun x=>rfl) ?_
 .intro N C a w ML;have E:=ac.jy 9000 1001 bI.am rfl N C a w (ac.aey 9000 1001 9001 bI.am rfl rfl aD8 N C a w ML);obtain⟨cX,G⟩:=dF.mark 1002 9002 rfl aD8 N C a w E;obtain⟨dJ,ah⟩:=dF.mark 1003 9003 rfl aD8 N C a w G;obtain⟨dN,aS⟩:=dF.mark 1004 9004 rfl aD8 N C a w ah;have bB:=ac.Lm 9100 (dz s) (fun c=>c+8000) (D7 bI.am cX dJ dN) aA aA rfl N C a w aS;have ej:=ac.place 8006 7006 (bs 8006) rfl rfl aD8 N C a w (ac.place 8005 7005 (bs 8005) rfl rfl aD8 N C a w (ac.place 8004 7004 (bs 8004) rfl rfl aD8 N C a w (ac.place 8003 7003 (bs 8003) rfl rfl aD8 N C a w (ac.place 8002 7002 (bs 8002) rfl rfl aD8 N C a w (ac.place 8001 7001 (bs 8001) rfl rfl aD8 N C a w bB)))));have hE:=ac.Lo 9000 (By z R L nm bI.am) (fun c=>c - 1000) bs rfl aA rfl rfl (DF (TT z R L nm bI.am)) N C a w ej;have h6:=ac.aeI 8004 9100 bI.am rfl rfl fg aD8 N C a w hE;have wK:=ac.Lp 1 8005 7005 (bs 8005) rfl rfl N C a w h6;have CN:=ac.Lp 2 8006 7006 (bs 8006) rfl rfl N C a w wK;have aY:=Hv nm s (some (p2 cX dJ dN)) L;have cw:=Hw nm s (some (p2 cX dJ dN)) L;refine⟨(cX,dJ,dN),e2.sub CN aA ⟨rfl,at2 (fun e=>some (a8.map .str .aL e)) aY.symm,at2 (fun e=>some (a8.az (.bt e))) cw.symm,at2 (fun e=>some (a8.az (.bt e))) (l3 cX dJ dN),rfl,rfl,rfl,rfl,rfl,rfl,rfl,rfl,rfl,rfl,rfl,rfl,trivial⟩⟩
 .rintro⟨cX,dJ,dN⟩;have aY:=Hv nm s (some (p2 cX dJ dN)) L;have cw:=Hw nm s (some (p2 cX dJ dN)) L
  refine⟨bE .u8 (ht z L nm cQ c),_,ac.trans (cz [(3,bE .u8 (ht z L nm cQ c))] (md z R (dn L nm s (some (p2 cX dJ dN))) nm++(MK bs++TU bI.am cX dJ dN)))
   (ac.trans (ac.AV 8004 9100 bI.am rfl (ahZ cX dJ dN) rfl) (ac.trans (ac.aeA 9100 bI.am rfl)
   (ac.trans (ac.Lm 9000 (By z R L nm bI.am) (fun c=>c - 1000) bs ⟨rfl,at2 (fun e=>some (a8.map .str .aL e)) aY,at2 (fun e=>some (a8.az (.bt e))) cw,at2 (fun e=>some (a8.az (.bt e))) (ah0 cX dJ dN),rfl,rfl,trivial⟩ aA rfl)
   (ac.trans (ac.aez 9000 1001 9001 bI.am rfl rfl) (ac.Lo 9100 (dz s) (fun c=>c+8000) (D7 bI.am cX dJ dN) rfl aA rfl rfl (DF (ahV s))))))),?_,?_,?_⟩
  .exact rfl
  .exact aA
  .rfl
def TW {f:aI9} {args:List aN} {res:aN} {s s':bL} {bo:bp->bc} (h:Fn prog f (ap 1001::args) (fY s bo) [] res (fY s' bo)) (E:om 1001 [1002,1003,1004] (ap 1001::args) (dz s) [(9000,.b5 1001 bo)] [] []=true) (G:oo 1001 (m8 [1002,1003,1004] [] []) res (dz s') [(9000,.b5 1001 bo)]=true):
  Fn prog f (ap 1001::args) [(1001,.az (je s)),(9000,.b5 1001 bo)] [] res [(1001,.az (je s')),(9000,.b5 1001 bo)]:=
 Fn.close (bq:=dz s) (dI:=dz s') (aK:=[(9000,.b5 1001 bo)]) (aO:=[(9000,.b5 1001 bo)]) [1002,1003,1004] h (fun _ _ _ _ h=>h) (fun _ _ _ _ h=>h) E G
abbrev lL (x y:D):ay:=[(3001,.cells [.d x]),(3002,.cells [.d y])]
abbrev Bz (d3 cX dJ dN k2 lM:Nat):Nat->Nat:=fun c=>cond (Nat.beq c 8001) d3 (cond (Nat.beq c 8002) cX (cond (Nat.beq c 8003) dJ (cond (Nat.beq c 8004) dN (cond (Nat.beq c 8005) k2 lM))))
abbrev D8:aN:=.c (.one (.c2 186 [.p 8005 0,.p 8006 0]))
abbrev HA (z R:Int) (L:aH6) (nm:aH3) (am:Nat) (s:bL) (d3 cX dJ dN k2 lM:Nat) (x y:D):ay:=[(7000,.az (je s)),(9000,.b5 7000 (td z R L nm am (Bz d3 cX dJ dN k2 lM)))]++(MK (Bz d3 cX dJ dN k2 lM)++lL x y)
abbrev TX:aH4:=[8001,8002,8003,8004,8005,8006,3001,3002]
abbrev MM (am:Nat):aW:=[(0,dd am),(1,D8),(2,ap 3001),(3,ap 3002)]
abbrev ah1 (k2 lM:Nat):aW:=[(0,ap 7000),(1,nG k2 lM),(2,ap 3001),(3,ap 3002)]
def ac.TY (z R:Int) (L:aH6) (nm:aH3) (am:Nat) (im:bL) (cG:eZ (gQ L) am=some (je im)) (x y:D):
  dF (X:=Nat×Nat×Nat×Nat×Nat×Nat) TX (MM am) (md z R L nm++lL x y) (fun p=>ah1 p.2.2.2.2.1 p.2.2.2.2.2) (fun p=>HA z R L nm am im p.1 p.2.1 p.2.2.1 p.2.2.2.1 p.2.2.2.2.1 p.2.2.2.2.2 x y):=by
 intro N C a w ML;have E:=ac.AV 8004 7000 am rfl cG rfl N C a w ML;obtain⟨d3,G⟩:=dF.mark 8001 7001 rfl aD8 N C a w E;obtain⟨cX,ah⟩:=dF.mark 8002 7002 rfl aD8 N C a w G;obtain⟨dJ,aS⟩:=dF.mark 8003 7003 rfl aD8 N C a w ah;obtain⟨dN,bB⟩:=dF.mark 8004 7004 rfl aD8 N C a w aS;obtain⟨k2,ej⟩:=dF.mark 8005 7005 rfl aD8 N C a w bB;obtain⟨lM,hE⟩:=dF.mark 8006 7006 rfl aD8 N C a w ej;have h6:=ac.Lm 9000 (By z R L nm am) (fun c=>c - 1000) (Bz d3 cX dJ dN k2 lM) aA aA rfl N C a w hE;have wK:=ac.aeB 1 186 8005 8006 7005 7006 k2 lM rfl rfl rfl N C a w h6;have CN:=ac.Lq 0 7000 am rfl rfl N C a w wK;have ah2:=ac.pM 9000 7000 am rfl rfl aD8 N C a w CN;exact⟨(d3,cX,dJ,dN,k2,lM),e2.sub ah2 aA aA⟩
def ac.TZ (z R:Int) (L:aH6) (eM:iI L) (nm:aH3) (bI:aI) (ar:dk L nm=some bI) (ag:bI.cT=none) (s:bL) (d3 cX dJ dN k2 lM:Nat) (x y:D) (r:Int):
  ac TX [(6,ab r)] (HA z R L nm bI.am s d3 cX dJ dN k2 lM x y) [(6,ab r)] (md z R (dn L nm s none) nm++lL x y):=by
 have fg:=eM.M (cP ar).1;have aY:=Hv nm s none L;have cw:=Hw nm s none L;have ak:fX (gQ L) bI.am (je s)=gQ (dn L nm s none):=Hy (cT:=none) (im:=s) eM.kb eM.y8 ar
 exact ac.trans (ac.aex 9000 7000 bI.am rfl rfl aD8) (ac.trans (ac.Lo 9000 (By z R L nm bI.am) (fun c=>c - 1000) (Bz d3 cX dJ dN k2 lM) rfl aA rfl rfl (DF (TT z R L nm bI.am)))
  (ac.trans (ac.Lt 8004 7000 bI.am rfl rfl fg aD8) (ac.sub aA ⟨rfl,at2 (fun e=>some (a8.map .str .aL e)) aY.symm,at2 (fun e=>some (a8.az (.bt e))) cw.symm,at2 (fun e=>some (a8.az (.bt e))) ak,rfl,rfl,rfl,rfl,trivial⟩)))
def ah3 (z R:Int) (L:aH6) (eM:iI L) (nm:aH3) (bI:aI) (ar:dk L nm=some bI) (ag:bI.cT=none) (a:Int) (bs:aH3) (r:Int) (s':bL)
  (h: ∀bF:Nat->Nat,Fn prog 126 [ap 1001,ab a,bE .u8 bs,nG (bF 8005) (bF 8006)] (fY bI.im (td z R L nm bI.am bF)) [] (ab r) (fY s' (td z R L nm bI.am bF))):
  Fn prog 125 [dd bI.am,D8,ap 3001,ap 3002] (md z R L nm++lL (.int .i64 a) (.b' .u8 bs)) [] (ab r) (md z R (dn L nm s' none) nm++lL (.int .i64 a) (.b' .u8 bs)):=by
 have fg:eZ (gQ L) bI.am=some (je bI.im):=by
  have:=eM.M (cP ar).1
  rwa[show k0 bI=je bI.im by unfold k0;rw[ag]] at this
 refine aP [1] func125 ?_;refine bG.le (cz (MM bI.am) (md z R L nm++lL (.int .i64 a) (.b' .u8 bs))) <| bG.fW (ac.TY z R L nm bI.am bI.im fg _ _) fun p=>?_
 obtain⟨d3,cX,dJ,dN,k2,lM⟩:=p;exact bw [] (bn) <| av (Fn.aT [(1001,7000)] (TW (h (Bz d3 cX dJ dN k2 lM)) rfl rfl)) ⟨_,_,_,ac.trans (cz [(6,ab r)] (HA z R L nm bI.am s' d3 cX dJ dN k2 lM (.int .i64 a) (.b' .u8 bs))) (ac.TZ z R L eM nm bI ar ag s' d3 cX dJ dN k2 lM _ _ r),rfl,rfl,aA,rfl⟩
def ah4 (z R:Int) (L:aH6) (eM:iI L) (nm:aH3) (bI:aI) (ar:dk L nm=some bI) (ag:bI.cT=none) (a l:Int) (r:Int) (s':bL)
  (h: ∀bF:Nat->Nat,Fn prog 128 [ap 1001,ab a,ab l,nG (bF 8005) (bF 8006)] (fY bI.im (td z R L nm bI.am bF)) [] (ab r) (fY s' (td z R L nm bI.am bF))):
  Fn prog 127 [dd bI.am,D8,ap 3001,ap 3002] (md z R L nm++lL (.int .i64 a) (.int .i64 l)) [] (ab r) (md z R (dn L nm s' none) nm++lL (.int .i64 a) (.int .i64 l)):=by
 have fg:eZ (gQ L) bI.am=some (je bI.im):=by
  have:=eM.M (cP ar).1
  rwa[show k0 bI=je bI.im by unfold k0;rw[ag]] at this
 refine aP [1] func127 ?_;refine bG.le (cz (MM bI.am) (md z R L nm++lL (.int .i64 a) (.int .i64 l))) <| bG.fW (ac.TY z R L nm bI.am bI.im fg _ _) fun p=>?_
 obtain⟨d3,cX,dJ,dN,k2,lM⟩:=p;exact bw [] (bn) <| av (Fn.aT [(1001,7000)] (TW (h (Bz d3 cX dJ dN k2 lM)) rfl rfl)) ⟨_,_,_,ac.trans (cz [(6,ab r)] (HA z R L nm bI.am s' d3 cX dJ dN k2 lM (.int .i64 a) (.int .i64 l))) (ac.TZ z R L eM nm bI ar ag s' d3 cX dJ dN k2 lM _ _ r),rfl,rfl,aA,rfl⟩
def ah5 (z R:Int) (L:aH6) (eM:iI L) (nm:aH3) (bI:aI) (ar:dk L nm=some bI) (ag:bI.cT=none) (a l:Int) (r:Int) (s':bL)
  (h:Fn prog 130 [ap 1001,ab a,ab l] (dz bI.im) [] (ab r) (dz s')):
  Fn prog 129 [dd bI.am,D8,ap 3001,ap 3002] (md z R L nm++lL (.int .i64 a) (.int .i64 l)) [] (ab r) (md z R (dn L nm s' none) nm++lL (.int .i64 a) (.int .i64 l)):=by
 have fg:eZ (gQ L) bI.am=some (je bI.im):=by
  have:=eM.M (cP ar).1
  rwa[show k0 bI=je bI.im by unfold k0;rw[ag]] at this
 have aY:=Hv nm s' none L;have cw:=Hw nm s' none L;have ak:fX (gQ L) bI.am (je s')=gQ (dn L nm s' none):=Hy (cT:=none) (im:=s') eM.kb eM.y8 ar;have J:Fn prog 130 [ap 1001,ab a,ab l] [(1001,.az (je bI.im))] [] (ab r) [(1001,.az (je s'))]:=Fn.close (bq:=dz bI.im) (dI:=dz s') (aK:=[]) (aO:=[]) [1002,1003,1004] h (fun _ _ _ _ h=>h) (fun _ _ _ _ h=>h) rfl rfl;have a2:=(cD.bt (c:=1001) (q:=8004) (b:=bI.am) (args:=[ab a,ab l]) (aK:=[]) (ba:=[]) (X:=Unit) (res:=fun _=>ab r) (aO:=fun _=>[]) (o:=je bI.im) (o':=fun _=>je s') (L:=gQ L) J.x fg rfl ⟨rfl,rfl⟩ rfl (fun _=>rfl)).fn;refine aP [] func129 ?_;exact av a2 <| s4 bn rfl rfl ⟨rfl,at2 (fun e=>some (a8.map .str .aL e)) aY.symm,at2 (fun e=>some (a8.az (.bt e))) cw.symm,at2 (fun e=>some (a8.az (.bt e))) ak,rfl,rfl,rfl,rfl,trivial⟩ rfl
def MN (z R:Int) (L L':aH6) (eM:iI L) (nm:aH3) (bI:aI) (ar:dk L nm=some bI) (f:Nat) (r:Int) (x y:D)
  (hf:Fn prog f [dd bI.am,D8,ap 3001,ap 3002] (md z R L nm++lL x y) [] (ab r) (md z R L' nm++lL x y)):
  Fn prog 124 [ap 1001,bN nm,.c (.one (.c2 f [.p 3001 0,.p 3002 0]))] (bP z R L++lL x y) [] (ab r) (bP z R L'++lL x y):=by
 obtain⟨pW,hd,he⟩:=lp xf;have cG:=eM.D (cP ar).1;have hx:(bX (aF:=.str) (aJ:=.aL) (cW L) nm).getD (cO .aL)=some bI.ad:=aG2
 refine aP [2] func124 ?_;refine⟨rfl,rfl,rfl,bw [] (bn) ?_⟩;refine⟨fun d5 O=>bm (fun N=>kx (b:=bI.ad) rfl aG3 N) ?_,fun O=>at1 (show(bX (aF:=.str) (aJ:=.aL) (cW L) nm).getD (cO .aL)=none from O) aF2⟩;refine bm (fun N=>kY rfl underlying106 rfl rfl hd aF4 rfl N) ?_;refine bm (my (q:=1003) rfl underlying46 rfl rfl rfl cG rfl) ?_;exact av (Fn.aT [(8001,1001),(8002,1002),(8003,1003),(8004,1004),(8005,3),(8006,4)] hf) bb
def T0 (z R:Int) (L L':aH6) (nm:aH3) (a:Int) (bs:aH3) (r:Int)
  (h:Fn prog 124 [ap 1001,bN nm,.c (.one (.c2 125 [.p 3001 0,.p 3002 0]))] (bP z R L++lL (.int .i64 a) (.b' .u8 bs)) [] (ab r) (bP z R L'++lL (.int .i64 a) (.b' .u8 bs))):
  Fn prog 68 [ap 1001,bN nm,ab a,bE .u8 bs] (bP z R L) [] (ab r) (bP z R L'):=by
 refine aP [] func68 ?_;exact⟨rfl,rfl,av (Fn.aT [(3001,6),(3002,7)] h) bb⟩
def T1 (z R:Int) (L L':aH6) (nm:aH3) (a l:Int) (r:Int)
  (h:Fn prog 124 [ap 1001,bN nm,.c (.one (.c2 127 [.p 3001 0,.p 3002 0]))] (bP z R L++lL (.int .i64 a) (.int .i64 l)) [] (ab r) (bP z R L'++lL (.int .i64 a) (.int .i64 l))):
  Fn prog 70 [ap 1001,bN nm,ab a,ab l] (bP z R L) [] (ab r) (bP z R L'):=by
 refine aP [] func70 ?_;exact⟨rfl,rfl,av (Fn.aT [(3001,6),(3002,7)] h) bb⟩
def T2 (z R:Int) (L L':aH6) (nm:aH3) (a l:Int) (r:Int)
  (h:Fn prog 124 [ap 1001,bN nm,.c (.one (.c2 129 [.p 3001 0,.p 3002 0]))] (bP z R L++lL (.int .i64 a) (.int .i64 l)) [] (ab r) (bP z R L'++lL (.int .i64 a) (.int .i64 l))):
  Fn prog 72 [ap 1001,bN nm,ab a,ab l] (bP z R L) [] (ab r) (bP z R L'):=by
 refine aP [] func72 ?_;exact⟨rfl,rfl,av (Fn.aT [(3001,6),(3002,7)] h) bb⟩
def Fn.res {P:aI0} {f:aI9} {args:List aN} {aK:ay} {ba:aH4} {res res':aN} {aO:ay} (h:Fn P f args aK ba res aO) (al:tR res res'):Fn P f args aK ba res' aO:=
 ⟨h.1,fun ρ F I w b0 bM bU a3 a4 a5 fj=>(h.2 ρ F I w b0 bM bU a3 a4 a5 fj).mono fun e w' ⟨x,ρ',F',r1,r2,fQ,I',j9,l6,mv,l7,m9,ot⟩=>⟨x,ρ',F',r1,r2,fQ,I',j9,l6,mv,l7,m9,wQ al ot⟩⟩
def cD.to {P:aI0} {f:aI9} {args:List aN} {aK:ay} {ba:aH4} {X Y:Type} {res:X->aN} {aO:X->ay} {res':Y->aN} {nA:Y->ay} (h:cD P f args aK ba res aO) (g:X->Y) (E: ∀x,res x=res' (g x)) (G: ∀x,aO x=nA (g x)):cD P f args aK ba res' nA:=
 ⟨h.1,fun ρ F I w b0 bM bU a3 a4 a5 fj=>(h.2 ρ F I w b0 bM bU a3 a4 a5 fj).mono fun e w' ⟨y,x,ρ',F',r1,r2,fQ,I',j9,l6,mv,l7,m9,ot⟩=>by
  rw[G] at mv l7 m9;rw[E] at ot;exact⟨g y,x,ρ',F',r1,r2,fQ,I',j9,l6,mv,l7,m9,ot⟩⟩
def BA (L:aH6):Nat->aH3->Nat
 |0,_=>0
 |f+1,nm=>match dk L nm with
  |none=>0
  |some d=>if d.back=[] then 0 else BA L f d.back+1
def ce (L:aH6) (nm:aH3):Nat:=BA L 100 nm
def ah6 {L:aH6} {nm:aH3} {k:Nat} (h:ef L nm k): ∀f,k<=f->BA L f nm=k:=by
 induction h with
 |gone h=>
  intro f _
  cases f with
  |zero=>rfl
  |succ f=>unfold BA;rw[h]
 |base E G=>
  intro f _
  cases f with
  |zero=>rfl
  |succ f=>unfold BA;rw[E];simp only;rw[vj G]
 |step E G _ bk=>
  intro f hf
  cases f with
  |zero=>omega
  |succ f=>unfold BA;rw[E];simp only;rw[mu G,bk f aD7]
def r4 {L:aH6} {nm:aH3} {k:Nat} (h:ef L nm k) (Z:k<=100):ce L nm=k:=ah6 h 100 Z
structure b6 (z R:Nat) (L:aH6):Prop extends nJ z R L where
 vR:Mz L
 HB: ∀d,d∈L->gZ d.nm=true
def D9 {s:aH3} (h:gZ s=true):1<=s.length/\s.length<=15:=by unfold gZ at h;simp only[as8] at h;exact⟨gd h.1.1,gd h.1.2⟩
section
variable {z R:Nat} {L:aH6}
def b6.T3 (h:b6 z R L): ∀d,d∈L->d.nm.length<=100000:=fun d H=>by
 have:=D9 (h.HB d H);omega
def b6.b5 (h:b6 z R L) (nm:aH3):ef L nm (ce L nm)/\ce L nm<=8:=by
 cases e:dk L nm with
 |none=>
  have:=ef.gone e;rw[r4 this aD7];exact⟨this,aD7⟩
 |some d=>
  obtain⟨k,Z,H⟩:=h.ux d (cP e).1;rw[(cP e).2] at H;rw[r4 H aD7];exact⟨H,Z⟩
def b6.nil (E:z<=3) (G:R<=512):b6 z R []:=
 ⟨⟨⟨az4,az4,az4⟩,E,G,at6 _,(fun _ h=>by cases h),(fun _ h=>by cases h),(fun _ h=>by cases h),(fun _ h=>by cases h)⟩,(fun _ h=>by cases h),(fun _ h=>by cases h)⟩
def MO: ∀{L:aH6},(L.map (·.nm)).Nodup-> ∀{d:aI},d∈L->dk L d.nm=some d
 | [],_,d,h=>by cases h
 |e::L,hn,d,h=>by
  rw[au9] at hn;obtain⟨cC,dg⟩:=aw6.1 hn;rw[uy];rcases at7.1 h with rfl |h
  .rw[vj rfl]
  .rw[mu fun x=>cC (by rw[x];exact aw1 (f:=fun d:aI=>d.nm) h),MO dg h]
def BB (hn:(L.map (·.nm)).Nodup) {nm:aH3} {d:aI} (h:dk L nm=some d) (ag:d.cT=none):dn L nm d.im none=L:=by
 unfold dn;refine(aw2 fun e U=>?_).trans (List.map_id' L);unfold ie
 split
 .rename_i c;have:=MO hn U;rw[c,h] at this;injection this with this
  subst this;rw[<-ag]
 .rfl
def b6.dn (h:b6 z R L) {nm:aH3} {bI:aI} (ar:dk L nm=some bI) {im:bL} (aw:iv bI.im im):b6 z R (dn L nm im none):=by
 refine⟨h.tonJ.dn ar aw none,fun d H=>?_,fun d H=>?_⟩
 .obtain⟨e,U,rfl⟩:=av7.1 H;unfold ie
  split
  .rfl
  .exact h.vR e U
 .obtain⟨e,U,rfl⟩:=av7.1 H;rw[Bv];exact h.HB e U
end
structure nK where
 e:Int
 L:List aI
def fw (z:Nat) (L:aH6) (nm:aH3) (a:Int) (bs:aH3):nK:=match dk L nm with
 |none=>⟨140,L⟩
 |some d=>if bs.length % 16≠0 then⟨1,L⟩ else if dS d.im a ((bs.length/16:Nat):Int)≠0 then⟨dS d.im a ((bs.length/16:Nat):Int),L⟩ else
  ⟨Bi d.im a.toNat (bs.length/16),dn L nm (xd d.im a.toNat (bs.length/16) bs (ht z L nm (ce L nm))) none⟩
def ky (z:Nat) (L:aH6) (nm:aH3) (a l:Int):nK:=match dk L nm with
 |none=>⟨140,L⟩
 |some d=>if dS d.im a l≠0 then⟨dS d.im a l,L⟩ else
  ⟨Bl d.im a.toNat l.toNat,dn L nm (xe d.im a.toNat l.toNat (ht z L nm (ce L nm))) none⟩
def kz (L:aH6) (nm:aH3) (a l:Int):nK:=match dk L nm with
 |none=>⟨140,L⟩
 |some d=>if dS d.im a l≠0 then⟨dS d.im a l,L⟩ else⟨0,dn L nm (Bk d.im a.toNat l.toNat) none⟩
def tf {s:bL} {a l:Int} (h:dS s a l=0):a=((a.toNat:Nat):Int)/\l=((l.toNat:Nat):Int):=by
 unfold dS at h
 split at h
 .cases h
 .split at h
  .cases h
  .omega
section
variable {z R:Nat} {L:aH6}
def ah7 (h:b6 z R L) (nm:aH3) (a l:Int):b6 z R (kz L nm a l).L:=by
 unfold kz
 cases ar:dk L nm with
 |none=>exact h
 |some d=>
  simp only
  split
  .exact h
  .rename_i G;have G:dS d.im a l=0:=ax9 G;obtain⟨af,ao⟩:=tf G;rw[af,ao] at G;exact h.dn ar (Bj (h.fK d (cP ar).1).1 (pk G) _ (at0 _)).eq
def T4 (h:b6 z R L) {nm:aH3} {bI:aI} (ar:dk L nm=some bI) (bF:Nat->Nat):Me bI.im (td z R L nm bI.am bF) (bF 8005) (bF 8006) (ht z L nm (ce L nm)):=fun s' aw c J aM=>by
 have H:=h.b5 nm;exact ahY z R L h.tonJ nm bI ar (ce L nm) H.1 aD7 s' aw bF c J aM
def MP (h:b6 z R L) (nm:aH3) (a:Int) (bs:aH3) (fO:bs.length<=1000000000):
  Fn prog 68 [ap 1001,bN nm,ab a,bE .u8 bs] (bP z R L) [] (ab (fw z L nm a bs).e) (bP z R (fw z L nm a bs).L):=by
 unfold fw
 cases ar:dk L nm with
 |none=>exact T0 z R L L nm a bs 140 (MF z R L nm ar _ _ _)
 |some d=>
  have ag:=h.vR d (cP ar).1;have ai:=(h.fK d (cP ar).1).1
  have key: ∀(r:Int) (s':bL),(∀bF:Nat->Nat,Fn prog 126 [ap 1001,ab a,bE .u8 bs,nG (bF 8005) (bF 8006)] (fY d.im (td z R L nm d.am bF)) [] (ab r) (fY s' (td z R L nm d.am bF)))->
    Fn prog 68 [ap 1001,bN nm,ab a,bE .u8 bs] (bP z R L) [] (ab r) (bP z R (dn L nm s' none)):=fun r s' hi=>
   T0 z R L _ nm a bs r (MN z R L _ h.toiI nm d ar _ r _ _ (ah3 z R L h.toiI nm d ar ag a bs r s' hi))
  simp only
  split
  .rename_i E;have:=key 1 d.im fun bF=>agj d.im _ _ _ a bs E fO
   rwa[BB h.kb ar ag] at this
  .rename_i E;have E:bs.length=16*(bs.length/16):=aE5
   split
   .rename_i G;have:=key _ d.im fun bF=>agk d.im _ _ _ ai a _ bs E aD7 G
    rwa[BB h.kb ar ag] at this
   .rename_i G;have G:dS d.im a ((bs.length/16:Nat):Int)=0:=ax9 G;have e:=(tf G).1;have ah:=G;rw[e] at ah;refine key _ _ fun bF=>?_
    have:=agy d.im _ _ _ ai a.toNat _ bs E ah _ (T4 h ar bF)
    rwa[<-e] at this
def ah8 (h:b6 z R L) (nm:aH3) (a l:Int):
  Fn prog 70 [ap 1001,bN nm,ab a,ab l] (bP z R L) [] (ab (ky z L nm a l).e) (bP z R (ky z L nm a l).L):=by
 unfold ky
 cases ar:dk L nm with
 |none=>exact T1 z R L L nm a l 140 (MF z R L nm ar _ _ _)
 |some d=>
  have ag:=h.vR d (cP ar).1;have ai:=(h.fK d (cP ar).1).1
  have key: ∀(r:Int) (s':bL),(∀bF:Nat->Nat,Fn prog 128 [ap 1001,ab a,ab l,nG (bF 8005) (bF 8006)] (fY d.im (td z R L nm d.am bF)) [] (ab r) (fY s' (td z R L nm d.am bF)))->
    Fn prog 70 [ap 1001,bN nm,ab a,ab l] (bP z R L) [] (ab r) (bP z R (dn L nm s' none)):=fun r s' hi=>
   T1 z R L _ nm a l r (MN z R L _ h.toiI nm d ar _ r _ _ (ah4 z R L h.toiI nm d ar ag a l r s' hi))
  simp only
  split
  .rename_i G;have:=key _ d.im fun bF=>agE d.im _ _ _ ai a l G
   rwa[BB h.kb ar ag] at this
  .rename_i G;have G:dS d.im a l=0:=ax9 G;obtain⟨af,ao⟩:=tf G;have ah:=G;rw[af,ao] at ah;refine key _ _ fun bF=>?_
   have:=agC d.im _ _ _ ai a.toNat l.toNat ah _ (T4 h ar bF)
   rwa[<-af,<-ao] at this
def ah9 (h:b6 z R L) (nm:aH3) (a l:Int):
  Fn prog 72 [ap 1001,bN nm,ab a,ab l] (bP z R L) [] (ab (kz L nm a l).e) (bP z R (kz L nm a l).L):=by
 unfold kz
 cases ar:dk L nm with
 |none=>exact T2 z R L L nm a l 140 (MF z R L nm ar _ _ _)
 |some d=>
  have ag:=h.vR d (cP ar).1;have ai:=(h.fK d (cP ar).1).1
  have key: ∀(r:Int) (s':bL),Fn prog 130 [ap 1001,ab a,ab l] (dz d.im) [] (ab r) (dz s')->
    Fn prog 72 [ap 1001,bN nm,ab a,ab l] (bP z R L) [] (ab r) (bP z R (dn L nm s' none)):=fun r s' hi=>
   T2 z R L _ nm a l r (MN z R L _ h.toiI nm d ar _ r _ _ (ah5 z R L h.toiI nm d ar ag a l r s' hi))
  simp only
  split
  .rename_i G;have:=key _ d.im (agm d.im ai a l G)
   rwa[BB h.kb ar ag] at this
  .rename_i G;have G:dS d.im a l=0:=ax9 G;obtain⟨af,ao⟩:=tf G;have ah:=G;rw[af,ao] at ah;have:=agA d.im ai a.toNat l.toNat ah;rw[<-af,<-ao] at this;exact key _ _ this
def mH (z:Nat) (L:aH6) (nm:aH3) (a l:Int):aH3×Int:=match dk L nm with
 |none=>([],140)
 |some d=>if dS d.im a l=0 then(jD z L nm (ce L nm) a.toNat l.toNat,0) else([],dS d.im a l)
def T5 (h:b6 z R L) (nm:aH3) (a l:Int):
  Fn prog 57 [ap 1001,bN nm,ab a,ab l] (bP z R L) [] (.b4 [.one (.d (.b' .u8 (mH z L nm a l).1)),dw (mH z L nm a l).2]) (bP z R L):=by
 unfold mH
 cases ar:dk L nm with
 |none=>exact(ag7 z R L nm ar a l).res aA
 |some d=>
  simp only
  split
  .rename_i G;obtain⟨af,ao⟩:=tf G;have ah:=G;rw[af,ao] at ah;have H:=h.b5 nm;have:=ag6 z R L h.tonJ nm d ar (ce L nm) H.1 aD7 a.toNat l.toNat ah
   rwa[<-af,<-ao] at this
  .rename_i G;exact(ag8 z R L h.tonJ nm d ar a l G).res aA
def fh (L:aH6) (nm:aH3):aH3×Int:=match dk L nm with
 |none=>([],140)
 |some d=>(d.back,0)
def HC (h:b6 z R L) (nm:aH3):Fn prog 134 [ap 1001,bN nm] (bP z R L) [] (.b4 [.one (.d (.str (fh L nm).1)),dw (fh L nm).2]) (bP z R L):=by
 unfold fh
 cases ar:dk L nm with
 |none=>exact agM z R L nm ar
 |some d=>exact agL z R L h.toiI nm d ar
def T6 (h:b6 z R L) (nm:aH3):Fn prog 135 [ap 1001,bN nm] (bP z R L) [] (bE .str (r3 L nm)) (bP z R L):=ahf z R L h.toiI h.T3 (by have:=h.len;omega) nm
def ij (z R:Nat) (L:aH6) (nm:aH3) (size:Int) (back:aH3) (p:aJ9):nK:=
 if(gZ nm&&mB z size R)=false then⟨1,L⟩ else if(dk L nm).isSome=true\/16<=L.length then⟨143,L⟩ else if(decide (back=[])||(dk L back).isSome)=false then⟨140,L⟩
 else if back≠[]/\8 < ce L back+1 then⟨142,L⟩ else⟨0,k1 L nm back p.1 p.2 (gl z size.toNat R)⟩
def ah' (L M:aH6) (nm:aH3):dk (L++M) nm=(dk L nm).or (dk M nm):=by unfold dk;rw[List.find?_append]
def zj {nm back:aH3} {ad am:Nat} {im:bL} (n:aH3):dk (k1 L nm back ad am im) n=(dk L n).or (if nm=n then some ⟨nm,back,ad,am,im,none⟩ else none):=by show dk (L++_) n=_;rw[ah',uy];rfl
def T7 {L':aH6} (Z: ∀n d,dk L n=some d-> ∃cZ,dk L' n=some cZ/\cZ.back=d.back) (hs: ∀d,d∈L->d.back≠[]-> ∃e,dk L d.back=some e) {n:aH3} {k:Nat} (h:ef L n k):(∃d,dk L n=some d)->ef L' n k:=by
 induction h with
 |gone h=>rintro⟨d,H⟩;rw[h] at H;cases H
 |base E G=>
  intro _;obtain⟨cZ,af,ao⟩:=Z _ _ E;exact .base af (by rw[ao];exact G)
 |step E G ah bk=>
  intro _;obtain⟨cZ,af,ao⟩:=Z _ _ E;exact .step af (by rw[ao];exact G) (by rw[ao];exact bk (hs _ (cP E).1 G))
def aia {z size R:Int} (h:mB z size R=true):(0<=size/\size<=256)/\(0<=R/\R<=512)/\0<=z/\z<=3:=by unfold mB at h;simp only[as8,aw0] at h;omega
def b6.add (h:b6 z R L) {nm back:aH3} {size ad am:Nat} (eM:iI (k1 L nm back ad am (gl z size R))) (aw:size<=256) (hn:gZ nm=true) (ar:dk L nm=none) (p1:L.length < 16) (O:back=[]\/(dk L back).isSome=true/\ce L back+1<=8):b6 z R (k1 L nm back ad am (gl z size R)):=by
 have MQ: ∀n d,dk L n=some d->dk (k1 L nm back ad am (gl z size R)) n=some d:=fun n d H=>by rw[zj,H];rfl
 have xk:dk (k1 L nm back ad am (gl z size R)) nm=some ⟨nm,back,ad,am,gl z size R,none⟩:=by rw[zj,ar,vj rfl];rfl
 have pH: ∀d,d∈k1 L nm back ad am (gl z size R)->d∈L\/d=⟨nm,back,ad,am,gl z size R,none⟩:=fun d H=>by
  rcases av9.1 H with H |H
  .exact .inl H
  .exact .inr (au5.1 H)
 have m6: ∀n k,(∃d,dk L n=some d)->ef L n k->ef (k1 L nm back ad am (gl z size R)) n k:=fun n k H Z=>T7 (fun n d H=>⟨d,MQ n d H,rfl⟩) h.iw Z H
 refine⟨⟨eM,h.b3,h.xg,by rw[as9];exact p1,fun d H=>?_,fun d H iO=>?_,fun d H=>?_,fun d H=>?_⟩,fun d H=>?_,fun d H=>?_⟩
 .rcases pH d H with H |rfl
  .exact h.fK d H
  .exact⟨agF h.b3 aw h.xg,rfl,au2 ..⟩
 .rcases pH d H with H |rfl
  .obtain⟨e,U⟩:=h.iw d H iO;exact⟨e,MQ _ _ U⟩
  .rcases O with O |⟨O,_⟩
   .exact at1 O iO
   .obtain⟨e,U⟩:=aw9.1 O;exact⟨e,MQ _ _ U⟩
 .rcases pH d H with H |rfl
  .exact h.ne d H
  .intro e;have:=(D9 hn).1;have e:nm=[]:=e;rw[e] at this;exact at1 this aD8
 .rcases pH d H with H |rfl
  .obtain⟨k,Z,p3⟩:=h.ux d H;exact⟨k,Z,m6 _ _ ⟨d,MO h.kb H⟩ p3⟩
  .by_cases MR:back=[]
   .exact⟨0,at6 _,.base xk MR⟩
   .rcases O with O |⟨O,aib⟩
    .exact at1 O MR
    .exact⟨ce L back+1,aib,.step xk MR (m6 _ _ (aw9.1 O) (h.b5 back).1)⟩
 .rcases pH d H with H |rfl
  .exact h.vR d H
  .rfl
 .rcases pH d H with H |rfl
  .exact h.HB d H
  .exact hn
def aic (h:b6 z R L) (nm:aH3) (size:Int) (back:aH3) (al:nm.length<=4294967296):
  cD prog 62 [ap 1001,bN nm,ab size,bN back] (bP z R L) [] (X:={p:Nat×Nat//b6 z R (ij z R L nm size back p).L}) (fun p=>ab (ij z R L nm size back p.1).e) (fun p=>bP z R (ij z R L nm size back p.1).L):=by
 have HD: ∀e:Int,(∀p,ij z R L nm size back p=⟨e,L⟩)->Fn prog 62 [ap 1001,bN nm,ab size,bN back] (bP z R L) [] (ab e) (bP z R L)->
   cD prog 62 [ap 1001,bN nm,ab size,bN back] (bP z R L) [] (X:={p:Nat×Nat//b6 z R (ij z R L nm size back p).L}) (fun p=>ab (ij z R L nm size back p.1).e) (fun p=>bP z R (ij z R L nm size back p.1).L):=fun e U hf=>
  hf.x.to (fun _=>⟨(0,0),by rw[U];exact h⟩) (fun _=>by rw[U]) (fun _=>by rw[U])
 by_cases E:(gZ nm&&mB z size R)=false
 .exact HD 1 (fun p=>vj E) (ahA z R size L nm back al E)
 have t1:gZ nm=true/\mB z size R=true:=by
  rw[Bool.not_eq_false,as8] at E;exact E
 obtain⟨⟨b9,kr⟩,_⟩:=aia t1.2;obtain⟨en,rfl⟩: ∃n:Nat,size=(n:Int):=⟨size.toNat,aD7⟩;have aw:en<=256:=aE5
 by_cases G:(dk L nm).isSome=true\/16<=L.length
 .exact HD 143 (fun p=>(mu E).trans (vj G)) (ahB z en R h.b3 aw h.xg L nm back al t1.1 G)
 have ar:dk L nm=none:=by
  cases e:dk L nm with
  |none=>rfl
  |some d=>exact at1 (.inl (by rw[e];rfl)) G
 have p1:L.length < 16:=by
  rcases aB8 L.length 16 with bd |bd
  .exact bd
  .exact at1 (.inr bd) G
 by_cases ah:(decide (back=[])||(dk L back).isSome)=false
 .exact HD 140 (fun p=>(mu E).trans ((mu G).trans (vj ah))) (ahC z en R h.b3 aw h.xg L nm back al t1.1 ar p1 ah)
 have H:=h.b5 back
 by_cases aS:back≠[]/\8 < ce L back+1
 .have O:(dk L back).isSome=true:=by
   rw[Bool.not_eq_false,ay9] at ah;exact ah.resolve_left fun e=>aS.1 (gd e)
  exact HD 142 (fun p=>(mu E).trans ((mu G).trans ((mu ah).trans (vj aS)))) (ahD z en R h.b3 aw h.xg L h.toiI nm back al t1.1 ar p1 aS.1 O _ H.1 aD7 aS.2)
 have O:back=[]\/(dk L back).isSome=true/\ce L back+1<=8:=by
  by_cases e:back=[]
  .exact .inl e
  .rw[Bool.not_eq_false,ay9] at ah;have h6: ¬8 < ce L back+1:=fun x=>aS ⟨e,x⟩
   exact .inr ⟨ah.resolve_left fun x=>e (gd x),aD7⟩
 have aY: ∀p,ij z R L nm (en:Int) back p=⟨0,k1 L nm back p.1 p.2 (gl z en R)⟩:=fun p=>(mu E).trans ((mu G).trans ((mu ah).trans (mu aS)))
 exact(ahy z en R h.b3 aw h.xg L h.toiI h.vR nm back al t1.1 ar p1 (ce L back) (O.imp id fun x=>⟨x.1,H.1,x.2⟩)).to (fun p=>⟨p.1,by rw[aY];exact h.add p.2 aw t1.1 ar p1 O⟩) (fun p=>by rw[aY]) (fun p=>by rw[aY])
def ig (L:aH6) (nm back:aH3):nK:=
 if(dk L nm).isSome=false\/(decide (back=[])||(dk L back).isSome)=false then⟨140,L⟩ else if nm=back\/nm∈c6 L (ce L back) back then⟨141,L⟩
 else if∀n∈mD L,ce (d4 L nm back) n<=8 then⟨0,d4 L nm back⟩ else⟨142,L⟩
def xl {nm back:aH3} {d:aI} (h:d.nm≠nm):eO nm back d=d:=by unfold eO;rw[mu h]
def HE {nm back:aH3} {d:aI} (h:d.nm=nm):(eO nm back d).back=back:=by unfold eO;rw[vj h]
def MS {nm back:aH3} {n:aH3} {k:Nat} (h:ef L n k):n≠nm->nm∉c6 L k n->ef (d4 L nm back) n k:=by
 induction h with
 |gone h=>intro _ _;exact .gone (by rw[mF,h];rfl)
 | @base n d E G=>
  intro a6 _;have e:=(cP E).2;exact .base (d:=d) (by rw[mF,E];show some (eO nm back d)=_;rw[xl (by rw[e];exact a6)]) G
 | @step n d k E G ah bk=>
  intro a6 O;have e:=(cP E).2;unfold c6 at O;rw[E] at O;simp only[at7,not_or] at O;exact .step (d:=d) (by rw[mF,E];show some (eO nm back d)=_;rw[xl (by rw[e];exact a6)]) G (bk (fun x=>O.1 x.symm) O.2)
def aid {nm back:aH3} {k:Nat} (cw:ef L back k) (E:nm≠back) (G:nm∉c6 L k back) {n:aH3} {j:Nat} (h:ef L n j): ∃i,i<=j+k+1/\ef (d4 L nm back) n i:=by
 have s7:ef (d4 L nm back) back k:=MS cw (az2 E) G
 have xk: ∀d,dk L nm=some d-> ∃i,i<=k+1/\ef (d4 L nm back) nm i:=fun d H=>by
  have e:dk (d4 L nm back) nm=some (eO nm back d):=by rw[mF,H];rfl
  have vN:=HE (back:=back) (cP H).2
  by_cases O:back=[]
  .exact⟨0,at6 _,.base e (by rw[vN];exact O)⟩
  .exact⟨k+1,at0 _,.step e (by rw[vN];exact O) (by rw[vN];exact s7)⟩
 induction h with
 |gone h=>exact⟨0,at6 _,.gone (by rw[mF,h];rfl)⟩
 | @base n d g1 g2=>
  have e:=(cP g1).2
  by_cases c:n=nm
  .subst c;obtain⟨i,hi,H⟩:=xk d g1;exact⟨i,aD7,H⟩
  .exact⟨0,at6 _,.base (d:=d) (by rw[mF,g1];show some (eO nm back d)=_;rw[xl (by rw[e];exact c)]) g2⟩
 | @step n d j g1 g2 cL bk=>
  have e:=(cP g1).2
  by_cases c:n=nm
  .subst c;obtain⟨i,hi,H⟩:=xk d g1;exact⟨i,aD7,H⟩
  .obtain⟨i,hi,H⟩:=bk;exact⟨i+1,aD7,.step (d:=d) (by rw[mF,g1];show some (eO nm back d)=_;rw[xl (by rw[e];exact c)]) g2 H⟩
def b6.T8 (h:b6 z R L) {nm back:aH3} (E:nm≠back) (G:nm∉c6 L (ce L back) back) (n:aH3):ef (d4 L nm back) n (ce (d4 L nm back) n)/\ce (d4 L nm back) n<=20:=by have O:=h.b5 back;have hn:=h.b5 n;obtain⟨i,hi,H⟩:=aid O.1 E G hn.1;rw[r4 H aD7];exact⟨H,aD7⟩
def T9 {nm back:aH3} (h: ¬((dk L nm).isSome=false\/(decide (back=[])||(dk L back).isSome)=false)):(∃d,dk L nm=some d)/\(decide (back=[])||(dk L back).isSome)=true:=by
 constructor
 .cases e:dk L nm with
  |none=>exact at1 (.inl (by rw[e];rfl)) h
  |some d=>exact⟨d,rfl⟩
 .cases e:(decide (back=[])||(dk L back).isSome) with
  |false=>exact at1 (.inr e) h
  |true=>rfl
def b6.set (h:b6 z R L) {nm back:aH3} (Z:(decide (back=[])||(dk L back).isSome)=true) (E:nm≠back) (G:nm∉c6 L (ce L back) back) (h6: ∀n∈mD L,ce (d4 L nm back) n<=8):b6 z R (d4 L nm back):=by
 have key: ∀d,d∈d4 L nm back-> ∃e,e∈L/\eO nm back e=d:=fun d H=>by
  obtain⟨e,U,rfl⟩:=av7.1 H;exact⟨e,U,rfl⟩
 refine⟨⟨h.toiI.d4 nm back,h.b3,h.xg,by unfold d4;rw[au3];exact h.len,fun d H=>?_,fun d H O=>?_,fun d H=>?_,fun d H=>?_⟩,fun d H=>?_,fun d H=>?_⟩
 .obtain⟨e,U,rfl⟩:=key d H;rw[D5];exact h.fK e U
 .obtain⟨e,U,rfl⟩:=key d H
  have iw: ∃x,dk L (eO nm back e).back=some x:=by
   by_cases c:e.nm=nm
   .rw[HE c] at O⊢;rw[ay9] at Z;exact aw9.1 (Z.resolve_left fun x=>O (gd x))
   .rw[xl c] at O⊢;exact h.iw e U O
  obtain⟨x,hx⟩:=iw;exact⟨eO nm back x,by rw[mF,hx];rfl⟩
 .obtain⟨e,U,rfl⟩:=key d H;rw[zg];exact h.ne e U
 .obtain⟨e,U,rfl⟩:=key d H;rw[zg]
  have aC:e.nm∈mD L:=by
   unfold mD pZ;rw[List.mem_mergeSort,D0];exact aw1 U
  exact⟨_,h6 _ aC,(h.T8 E G e.nm).1⟩
 .obtain⟨e,U,rfl⟩:=key d H;rw[TL];exact h.vR e U
 .obtain⟨e,U,rfl⟩:=key d H;rw[zg];exact h.HB e U
def MT (h:b6 z R L) (nm back:aH3):b6 z R (ig L nm back).L:=by
 unfold ig
 split
 .exact h
 .rename_i E
  split
  .exact h
  .rename_i G
   split
   .rename_i ah;exact h.set (T9 E).2 (fun e=>G (.inl e)) (fun e=>G (.inr e)) ah
   .exact h
def aie (h:b6 z R L) (nm back:aH3):Fn prog 334 [ap 1001,bN nm,bN back] (bP z R L) [] (ab (ig L nm back).e) (bP z R (ig L nm back).L):=by
 have H:=h.b5 back
 by_cases E:(dk L nm).isSome=false\/(decide (back=[])||(dk L back).isSome)=false
 .rw[show ig L nm back=⟨140,L⟩ from vj E];exact ahF z R L nm back E
 obtain⟨⟨d,jw⟩,Z⟩:=T9 E
 by_cases G:nm=back\/nm∈c6 L (ce L back) back
 .rw[show ig L nm back=⟨141,L⟩ from(mu E).trans (vj G)];exact ahG z R L h.toiI nm back d jw Z _ H.1 aD7 G
 have h0:=fun n=>h.T8 (back:=back) (fun e=>G (.inl e)) (fun e=>G (.inr e)) n
 refine ahM z R L h.toiI h.T3 (by have:=h.len;omega) nm back d jw Z _ H.1 aD7 G (fun n=>ce (d4 L nm back) n) (fun n _=>⟨(h0 n).1,by have:=(h0 n).2;omega⟩) _ _ (fun bd=>?_) (fun bd=>?_)
 .rw[show ig L nm back=⟨0,d4 L nm back⟩ from(mu E).trans ((mu G).trans (vj bd))];exact⟨rfl,rfl⟩
 .have gg: ¬ ∀n∈mD L,ce (d4 L nm back) n<=8:=fun dM=>by
   obtain⟨n,hn,h6⟩:=bd;have:=dM n hn;omega
  rw[show ig L nm back=⟨142,L⟩ from(mu E).trans ((mu G).trans (mu gg))];exact⟨rfl,rfl⟩
end
end
section
section
variable {z R:Nat} {L:aH6}
def gz (z:Nat) (L:aH6) (nm:aH3) (k:Int):aH3:=match dk L nm with
 |none=>[]
 |some d=>if 0<=k/\k < (d.im.t.length:Nat) then fl z L nm (ce L nm) k.toNat else[]
def MU (h:b6 z R L) (nm:aH3) (k:Int):Fn prog 114 [ap 1001,bN nm,ab k] (bP z R L) [] (bE .u8 (gz z L nm k)) (bP z R L):=by
 unfold gz
 cases ar:dk L nm with
 |none=>
  have hx:(bX (aF:=.str) (aJ:=.aL) (cW L) nm).getD (cO .aL)=none:=aG2
  simp only;refine aP [2,4] func114 ?_;refine bw [4] (bn) ?_;exact⟨fun d5 O=>at1 (show(bX (aF:=.str) (aJ:=.aL) (cW L) nm).getD (cO .aL)=some d5 from O) aF2,fun _=>bb⟩
 |some bI=>
  simp only
  split
  .rename_i Z;have H:=h.b5 nm;have:=Mm z R L h.tonJ nm bI ar (ce L nm) H.1 aD7 k.toNat aD7
   rwa[show((k.toNat:Nat):Int)=k by omega] at this
  .rename_i Z;obtain⟨pW,hd,he⟩:=lp xf;have lq:=h.toiI.D (cP ar).1;have fg:=h.toiI.M (cP ar).1;have hx:(bX (aF:=.str) (aJ:=.aL) (cW L) nm).getD (cO .aL)=some bI.ad:=aG2
   refine aP [2,4] func114 ?_;refine bw [4] (bn) ?_;refine⟨fun d5 O=>⟨fun _=>?_,fun E=>?_⟩,fun O=>at1 (show(bX (aF:=.str) (aJ:=.aL) (cW L) nm).getD (cO .aL)=none from O) aF2⟩
   .exact bb
   have E: ¬k < 0:=oj E;refine bm (fun N=>kx (b:=bI.ad) rfl aG3 N) ?_;refine bm (fun N=>kY rfl underlying106 rfl rfl hd aF4 rfl N) ?_;refine bm (my (q:=1003) rfl underlying46 rfl rfl rfl lq rfl) ?_;refine av (h1 (nc bI.im) fg rfl rfl rfl rfl) ⟨fun _=>?_,fun G=>?_⟩
   .exact bb
   .exfalso;have G: ¬((bI.im.t.length:Nat):Int)<=k:=oj G;omega
def T' (z:Nat) (L:aH6) (nm:aH3) (c:Nat):Nat:=(hg z L c (nm::c6 L (ce L nm) nm) 0).2
def qP (z:Nat) (L:aH6) (nm:aH3) (n:Nat):List Int:=(List.range n).map fun c=>((T' z L nm c:Nat):Int)
def aif (z:Nat) (L:aH6) (nm:aH3) (j:Nat):qP z L nm (j+1)=qP z L nm j++[((T' z L nm j:Nat):Int)]:=by unfold qP;rw[List.range_succ,ay6];rfl
def HF (z:Nat) (L:aH6) (nm:aH3) (j:Nat):(qP z L nm j).length=j:=by unfold qP;rw[au3,List.length_range]
end
end
section
section
variable {z R:Nat} {L:aH6}
def MV (h:b6 z R L) {nm:aH3} {k:Nat} (H:ef L nm k) (ar: ∃d,dk L nm=some d): ∀j,j<=k-> ∃e,dk L (eN L j nm)=some e
 |0,_=>ar
 |j+1,V=>by
  obtain⟨e,U⟩:=MV h H ar j aD7;have jB:=Hn H j aD7;rw[Bn,U];simp only;generalize aC:k - j=m at jB
  cases jB with
  |gone aV=>rw[U] at aV;cases aV
  |base _ _=>omega
  |step E G _=>
   rw[U] at E;injection E with E
   subst E;exact h.iw e (cP U).1 G
def MW (h:b6 z R L) {nm:aH3} {k:Nat} (H:ef L nm k) (ar: ∃d,dk L nm=some d):eN L (k+1) nm=[]:=by
 obtain⟨e,U⟩:=MV h H ar k (at0 _);have jB:=Hn H k (at0 _);rw[Nat.sub_self] at jB;rw[Bn,U];simp only
 cases jB with
 |gone aV=>rw[U] at aV;cases aV
 |base E G=>
  rw[U] at E;injection E with E
  subst E;exact G
def D' (h:b6 z R L) {n:aH3} (hn: ∃e,dk L n=some e):n≠[]:=by obtain⟨e,U⟩:=hn;rw[<-(cP U).2];exact h.ne e (cP U).1
end
def Ua {z:Nat} {L L':aH6} {nm vS:aH3} {cQ vT N:Nat} (h: ∀c,c < N->fl z L nm cQ c=fl z L' vS vT c): ∀n,n<=N*2 ^z->jD z L nm cQ 0 n=jD z L' vS vT 0 n
 |0,_=>rfl
 |n+1,hn=>by
  have bk:=Ua h n aD7;have ag:0 < 2 ^z:=Nat.two_pow_pos z;have bv:n/2 ^z < N:=(aA9 ag).2 aD7;show jD z L nm cQ 0 n++jC z L nm cQ (0+n)=jD z L' vS vT 0 n++jC z L' vS vT (0+n);rw[bk,ax6];unfold jC;rw[h _ bv]
section
variable {z:Nat} {L:aH6} {c:Nat}
def MX: ∀(ns:aJ5) (i j:Nat),(hg z L c ns i).1=(hg z L c ns j).1
 | [],_,_=>rfl
 |n::ns,i,j=>by
  unfold hg
  cases dk L n with
  |none=>rfl
  |some d=>
   simp only
   split
   .rfl
   .exact MX ns _ _
def HG {n:aH3} {ns:aJ5} {i:Nat} {d:aI} (H:dk L n=some d) (h:c < d.im.t.length/\(d.im.t.getD c b9).1≠0):hg z L c (n::ns) i=(eh d.im c none,i+1):=by unfold hg;rw[H];simp only;rw[vj h]
def Ub {n:aH3} {ns:aJ5} {i:Nat} {d:aI} (H:dk L n=some d) (h: ¬(c < d.im.t.length/\(d.im.t.getD c b9).1≠0)):hg z L c (n::ns) i=hg z L c ns (i+1):=by
 conv=>lhs;unfold hg
 rw[H];simp only;rw[mu h]
def zk {nm:aH3} {cQ:Nat} {d:aI} (H:dk L nm=some d) (h: ¬(c < d.im.t.length/\(d.im.t.getD c b9).1≠0)):fl z L nm cQ c=ht z L nm cQ c:=by unfold fl ht;rw[Ub H h]
def MY {nm:aH3} {cQ:Nat} {d:aI} (H:dk L nm=some d):ht z L nm (cQ+1) c=fl z L d.back cQ c:=by
 unfold ht fl
 rw[show c6 L (cQ+1) nm=d.back::c6 L cQ d.back by
  conv=>lhs;unfold c6
  rw[H]]
 exact MX _ _ _
end
section
variable {z R:Nat} {L:aH6}
def b6.MZ (h:b6 z R L) {nm:aH3} (ar: ∃d,dk L nm=some d): ∀n,n∈nm::c6 L (ce L nm) nm-> ∃e,dk L n=some e:=fun n hn=>by
 rcases at7.1 hn with rfl |hn
 .exact ar
 .exact Mi h.tonJ (h.b5 nm).1 n hn
def M0 (h:b6 z R L) {nm:aH3} {d:aI} (H:dk L nm=some d) (O:d.back≠[]):ce L nm=ce L d.back+1:=by have E:=(h.b5 d.back);exact r4 (.step H O E.1) aD7
end
def aig {s:bL} (ax:gk s) {c:Nat} (J:c < s.t.length):(Bk s 0 (e0 s)).t[c]? =some b9:=by
 have c1:=oA ax.z
 have hw:16*e0 s=s.t.length*aG s:=by
  unfold e0 aG;rw[aC5]
 have ag:0 < aG s:=by have:=up ax.z;omega
 have aC:(c+1)*aG s<=s.t.length*aG s:=az6 _ J;rw[aA6] at aC;have Z:c < cH (aG s) 0 (e0 s):=(uq c1).1 ⟨aD7,by rw[Nat.mul_zero,Nat.zero_div,ax6,ax6];omega⟩;have H:=(Bj ax (a:=0) (l:=e0 s) aD7 _ (at0 _)).done c Z
 have e:(bj (aG s) 0 (e0 s) c).b - (bj (aG s) 0 (e0 s) c).a=aG s:=by
  show min (16*(0+e0 s) - (16*0/aG s+c)*aG s) (aG s) - (16*0 - (16*0/aG s+c)*aG s)=aG s;rw[Nat.mul_zero,Nat.zero_div,ax6,ax6,Nat.zero_sub];omega
 rw[vj e,Nat.mul_zero,Nat.zero_div,ax6] at H;exact H
def Uc {s:bL} (ax:gk s) {n:Nat} (hn:n<=e0 s):dS s 0 (n:Int)=0:=by unfold dS;rw[mu aD7,mu aD7]
def aih {z R:Nat} {L:aH6} (h:b6 z R L) {nm:aH3} {d:aI} (H:dk L nm=some d) {n:Nat} (hn:n<=e0 d.im):mH z L nm 0 (n:Int)=(jD z L nm (ce L nm) 0 n,0):=by unfold mH;rw[H];simp only;rw[vj (Uc (h.fK d (cP H).1).1 hn)];rfl
def BC {z R:Nat} {L:aH6} (h:b6 z R L) {nm:aH3} {d:aI} (H:dk L nm=some d):e0 d.im=d.im.t.length*2 ^z:=by unfold e0;rw[(h.fK d (cP H).1).2.1]
def iV (L:aH6) (t:aH3) (L':aH6):Prop:=L'=L\/ ∃d im,dk L t=some d/\iv d.im im/\L'=dn L t im none
structure M1 (L:aH6) (t n:aH3):Prop where
 ne:n≠t
 Ud:t∉c6 L (ce L n) n
section
variable {z R:Nat} {L L':aH6} {t n:aH3}
def xm (h:b6 z R L) (nm:aH3) (a:Int) (bs:aH3):iV L nm (fw z L nm a bs).L:=by
 unfold fw
 cases ar:dk L nm with
 |none=>exact .inl rfl
 |some d=>
  simp only
  split
  .exact .inl rfl
  .rename_i E
   split
   .exact .inl rfl
   .rename_i G;have G:dS d.im a ((bs.length/16:Nat):Int)=0:=ax9 G;have e:=(tf G).1;rw[e] at G;exact .inr ⟨d,_,ar,agz (h.fK d (cP ar).1).1 aD7 G _,rfl⟩
def HH (h:b6 z R L) (nm:aH3) (a l:Int):iV L nm (ky z L nm a l).L:=by
 unfold ky
 cases ar:dk L nm with
 |none=>exact .inl rfl
 |some d=>
  simp only
  split
  .exact .inl rfl
  .rename_i G;have G:dS d.im a l=0:=ax9 G;obtain⟨af,ao⟩:=tf G;rw[af,ao] at G;exact .inr ⟨d,_,ar,agD (h.fK d (cP ar).1).1 G _,rfl⟩
def vU (h:b6 z R L) (nm:aH3) (a l:Int):iV L nm (kz L nm a l).L:=by
 unfold kz
 cases ar:dk L nm with
 |none=>exact .inl rfl
 |some d=>
  simp only
  split
  .exact .inl rfl
  .rename_i G;have G:dS d.im a l=0:=ax9 G;obtain⟨af,ao⟩:=tf G;rw[af,ao] at G;exact .inr ⟨d,_,ar,(Bj (h.fK d (cP ar).1).1 (pk G) _ (at0 _)).eq,rfl⟩
def iV.cs (h:b6 z R L) (al:iV L t L'):b6 z R L':=by
 rcases al with rfl |⟨d,im,ar,aw,rfl⟩
 .exact h
 .exact h.dn ar aw
def HI (h:b6 z R L) (t:aH3) (im:bL) (cT:Option (Nat->Nat)) (n:aH3):ce (dn L t im cT) n=ce L n:=by have H:=h.b5 n;exact r4 (MH t im cT H.1) aD7
def iV.ce (h:b6 z R L) (al:iV L t L') (n:aH3):Go.Proofs.YtgclhiekndohdaaGreat.ce L' n=Go.Proofs.YtgclhiekndohdaaGreat.ce L n:=by
 rcases al with rfl |⟨d,im,ar,aw,rfl⟩
 .rfl
 .exact HI h t im none n
def iV.off (h:b6 z R L) (al:iV L t L') (o:M1 L t n):M1 L' t n/\dk L' n=dk L n/\ ∀c,fl z L' n (Go.Proofs.YtgclhiekndohdaaGreat.ce L' n) c=fl z L n (Go.Proofs.YtgclhiekndohdaaGreat.ce L n) c:=by
 have zl:=al.ce h n;rcases al with rfl |⟨d,im,ar,aw,rfl⟩
 .exact⟨o,rfl,fun _=>rfl⟩
 .refine⟨⟨o.ne,by rw[zl,Bw];exact o.Ud⟩,Hx o.ne im none,fun c=>?_⟩;rw[zl];unfold fl;rw[Bw,Hz];intro aC;rcases at7.1 aC with e |aC
  .exact o.ne e.symm
  .exact o.Ud aC
def M2 (h:b6 z R L) {d:aI} (H:dk L t=some d) (O:d.back≠[]):M1 L t d.back:=by
 have E:=(h.b5 d.back).1;have G:ef L t (Go.Proofs.YtgclhiekndohdaaGreat.ce L d.back+1):=.step H O E;refine⟨fun e=>?_,fun aC=>?_⟩
 .rw[e] at E G;have:=Bx E G;omega
 .obtain⟨j,V,ah⟩:=MI E t aC;have:=Bx ah G;omega
end
end
section
def g0 (x:aH3) (j:Nat):aH3:=(x.take (j*16+16)).drop (j*16)
def tg (x:aH3) (j i:Nat):(g0 x j)[i]? =if i < 16 then x[j*16+i]? else none:=by
 unfold g0;rw[aC3,ay5]
 by_cases h:i < 16
 .rw[vj h,vj aD7]
 .rw[mu h,mu aD7]
def M3 {X:aH3} {off n:Nat} {ys:aH3} (E:off+n<=X.length) (G:ys.length=n) (m:Nat):(laid X off n ys)[m]? =if m < off then X[m]? else if m < off+n then ys[m - off]? else X[m]? :=by
 unfold laid;have af:(X.take off).length=off:=aF0
 have ao:ys.take n=ys:=ax3 aD7;rw[ao]
 by_cases cu:m < off
 .rw[vj cu,aw8,av8 aD7,ay5,vj cu]
 .rw[mu cu]
  by_cases cp:m < off+n
  .rw[vj cp,aw8,aw4 aD7,af,av8 aD7]
  .rw[mu cp,aw4 (by rw[as9];omega),as9,af,G,aC3]
   congr 1
   omega
def aii {X bs:aH3} {t W a l j pa BD Ea:Nat} (lN:X.length=W) (O:bs.length=16*l) (V:j*16+16<=W) (af:pa=16*a - 16*t) (ao:BD=min (16*(a+l) - 16*t) W) (br:Ea=16*t+pa - 16*a) (ag:pa<=BD) (a2:16*t < 16*(a+l)):
  g0 (laid X pa (BD - pa) ((bs.take (Ea+BD - pa)).drop Ea)) j=if a<=t+j/\t+j < a+l then g0 bs (t+j - a) else g0 X j:=by
 have bW:((bs.take (Ea+BD - pa)).drop Ea).length=BD - pa:=by
  rw[ax8,at9];omega
 refine aB2 fun i=>?_
 rw[tg,M3 aD7 bW]
 by_cases hi:i < 16
 .rw[vj hi]
  by_cases c:a<=t+j/\t+j < a+l
  .rw[vj c,tg,vj hi,mu aD7,vj aD7,aC3,ay5,vj aD7]
   congr 1
   omega
  .rw[mu c,tg,vj hi]
   by_cases cp:j*16+i < pa
   .rw[vj cp]
   .rw[mu cp,mu aD7]
 .rw[mu hi]
  split
  .rw[tg,mu hi]
  .rw[tg,mu hi]
def HJ (n j:Nat) (h:j*16+16<=n):g0 (List.replicate n 0) j=List.replicate 16 0:=by
 unfold g0;rw[List.take_replicate,List.drop_replicate]
 congr 1
 omega
def r5 (z:Nat) (L:aH6) (nm:aH3) (cQ s:Nat):jC z L nm cQ s=g0 (fl z L nm cQ (s/2 ^z)) (s % 2 ^z):=rfl
def Ue {z:Nat} {L L':aH6} {nm vS:aH3} {cQ vT a:Nat}: ∀n,(∀i,i < n->jC z L nm cQ (a+i)=jC z L' vS vT (a+i))->jD z L nm cQ a n=jD z L' vS vT a n
 |0,_=>rfl
 |n+1,h=>by
  show jD z L nm cQ a n++jC z L nm cQ (a+n)=jD z L' vS vT a n++jC z L' vS vT (a+n);rw[Ue n fun i hi=>h i aD7,h n (Nat.lt_succ_self n)]
section
variable {z R:Nat} {L:aH6} {nm:aH3} {d:aI}
def aij (h:b6 z R L) (H:dk L nm=some d) (c:Nat):(ht z L nm (ce L nm) c).length=16*2 ^z:=Mn h.tonJ c _ _ fun n hn=>h.MZ ⟨d,H⟩ n (at4 _ hn)
def BE (h:b6 z R L) (H:dk L nm=some d):aG d.im=16*2 ^z:=by unfold aG;rw[(h.fK d (cP H).1).2.1]
def aik {s:bL} {c:Nat} {y:aH3} (h:(s.t.getD c b9).1≠0):eh s c (some y)=eh s c none:=by
 unfold eh;rw[at3] at h
 cases e:s.t[c]? with
 |none=>rfl
 |some q=>
  rw[e] at h;simp only[az5] at h;simp only
  split
  .rfl
  .first |rfl |(rw[mu h])
def ail {s:bL} {c:Nat} {y:aH3} (J:c < s.t.length) (h:(s.t.getD c b9).1=0) (aD:y.length=aG s):eh s c (some y)=y:=by unfold eh;rw[at3] at h;rw[as7 J] at h⊢;simp only[az5] at h;simp only;rw[mu (by rw[h];decide),vj h,vj aD]
def M4 (h:b6 z R L) (H:dk L nm=some d) {c:Nat} (J:c < d.im.t.length):fl z L nm (ce L nm) c=eh d.im c (some (ht z L nm (ce L nm) c)):=by
 by_cases Z:(d.im.t.getD c b9).1=0
 .rw[zk H (fun bd=>bd.2 Z),ail J Z (by rw[aij h H,BE h H])]
 .rw[aik Z];unfold fl;rw[HG H ⟨J,Z⟩]
def Uf (h:b6 z R L) (H:dk L nm=some d) {im:bL} (aw:iv d.im im) {c:Nat} (J:c < d.im.t.length):fl z (dn L nm im none) nm (ce (dn L nm im none) nm) c=eh im c (some (ht z L nm (ce L nm) c)):=by
 have h':=h.dn H aw;have c4:=zi H im none;rw[M4 h' c4 (by show c < im.t.length;rw[aw.ez];exact J),HI h nm im none nm];show eh im c (some _)=_
 have e:ht z (dn L nm im none) nm (ce L nm) c=ht z L nm (ce L nm) c:=by
  unfold ht;rw[Bw,Hz _ _ (MJ (h.b5 nm).1)]
 rw[e]
def Ug (h:b6 z R L) (H:dk L nm=some d) {im:bL} (aw:iv d.im im) {c:Nat} (J: ¬c < d.im.t.length):fl z (dn L nm im none) nm (ce (dn L nm im none) nm) c=fl z L nm (ce L nm) c:=by have c4:=zi H im none;rw[HI h nm im none nm,TS H (h.b5 nm).1,mu fun bd=>J (by rw[<-aw.ez];exact bd.1),zk H fun bd=>J bd.1]
def Uh (h:b6 z R L) (H:dk L nm=some d) {c:Nat} (J:c < d.im.t.length) (y:Option aH3):(eh d.im c y).length=16*2 ^z:=by rw[vK (h.fK d (cP H).1).1 J,BE h H]
end
def BF {W a l:Nat} (c1:y3 W) (al:0 < l) {c:Nat}:(16*a/W<=c/\c < 16*a/W+cH W a l)↔(16*a < (c+1)*W/\c*W < 16*(a+l)):=by
 have ag:0 < W:=by rcases c1 with h |h |h |h <;>omega
 have cl:16*a/W<=c↔16*a < (c+1)*W:=by
  rw[<-Nat.lt_succ_iff,Nat.succ_eq_add_one,aA9 ag]
 constructor
 .rintro⟨E,G⟩;have:=(uq c1 (a:=a) (l:=l) (k:=c - 16*a/W)).2 aD7;rw[show 16*a/W+(c - 16*a/W)=c by omega] at this;exact⟨cl.1 E,this.2⟩
 .rintro⟨E,G⟩;have E:=cl.2 E;refine⟨E,?_⟩;have:=(uq c1 (a:=a) (l:=l) (k:=c - 16*a/W)).1 ⟨al,by rw[show 16*a/W+(c - 16*a/W)=c by omega];exact G⟩;omega
def Ui {X bs:aH3} {b a l c:Nat} (O:b<=3) (lN:X.length=16*2 ^b) (Kc:bs.length=16*l) (dP:16*a < (c+1)*(16*2 ^b)/\c*(16*2 ^b) < 16*(a+l)) {j:Nat} (V:j < 2 ^b):
  g0 (laid X (bj (16*2 ^b) a l (c - 16*a/(16*2 ^b))).a ((bj (16*2 ^b) a l (c - 16*a/(16*2 ^b))).b - (bj (16*2 ^b) a l (c - 16*a/(16*2 ^b))).a) (pU bs (bj (16*2 ^b) a l (c - 16*a/(16*2 ^b))))) j=
   if a<=c*2 ^b+j/\c*2 ^b+j < a+l then g0 bs (c*2 ^b+j - a) else g0 X j:=by
 have ag:=jf O;have c1:0 < 16*2 ^b:=aE5
 have J:16*a/(16*2 ^b)<=c:=by
  rw[<-Nat.lt_succ_iff,Nat.succ_eq_add_one,aA9 c1];exact dP.1
 have ol:16*a/(16*2 ^b)+(c - 16*a/(16*2 ^b))=c:=aE5
 have cq:c*(16*2 ^b)=16*(c*2 ^b):=aC5 ..;have asI:(c+1)*(16*2 ^b)=16*(c*2 ^b)+16*2 ^b:=by rw[aA6,cq]
 unfold pU;refine aii (t:=c*2 ^b) (W:=16*2 ^b) lN Kc aD7 ?_ ?_ ?_ ?_ aD7
 .show 16*a - (16*a/(16*2 ^b)+(c - 16*a/(16*2 ^b)))*(16*2 ^b)=_;rw[ol,cq]
 .show min (16*(a+l) - (16*a/(16*2 ^b)+(c - 16*a/(16*2 ^b)))*(16*2 ^b)) (16*2 ^b)=_;rw[ol,cq]
 .show(16*a/(16*2 ^b)+(c - 16*a/(16*2 ^b)))*(16*2 ^b)+(16*a - (16*a/(16*2 ^b)+(c - 16*a/(16*2 ^b)))*(16*2 ^b)) - 16*a=16*(c*2 ^b)+(16*a - (16*a/(16*2 ^b)+(c - 16*a/(16*2 ^b)))*(16*2 ^b)) - 16*a;rw[ol,cq]
 .show 16*a - (16*a/(16*2 ^b)+(c - 16*a/(16*2 ^b)))*(16*2 ^b)<=min (16*(a+l) - (16*a/(16*2 ^b)+(c - 16*a/(16*2 ^b)))*(16*2 ^b)) (16*2 ^b);rw[ol,cq];omega
section
variable {z R:Nat} {L:aH6} {nm:aH3}
def HK {a:Int} {bs:aH3} (U:(fw z L nm a bs).e=0): ∃d,dk L nm=some d/\bs.length=16*(bs.length/16)/\a=((a.toNat:Nat):Int)/\dS d.im a.toNat ((bs.length/16:Nat):Int)=0/\ic d.im a.toNat (bs.length/16) (cH (aG d.im) a.toNat (bs.length/16))<=d0 d.im.l/\
  (fw z L nm a bs).L=dn L nm (iU d.im a.toNat (bs.length/16) bs (ht z L nm (ce L nm)) (cH (aG d.im) a.toNat (bs.length/16))) none:=by
 unfold fw at U⊢
 cases ar:dk L nm with
 |none=>rw[ar] at U;exact at1 U (show¬(140:Int)=0 by decide)
 |some d=>
  rw[ar] at U;simp only at U⊢
  split at U
  .exact at1 U (show¬(1:Int)=0 by decide)
  .rename_i E
   split at U
   .rename_i G;exact at1 U G
   .rename_i G;rw[mu E,mu G];have G:dS d.im a ((bs.length/16:Nat):Int)=0:=ax9 G;have af:=(tf G).1;have U:Bi d.im a.toNat (bs.length/16)=0:=U;unfold Bi at U
    split at U
    .rename_i ah;refine⟨d,rfl,aD7,af,by rw[<-af];exact G,ah,?_⟩;show dn L nm (xd d.im a.toNat (bs.length/16) bs _) none=_;unfold xd;rw[vj ah]
    .exact at1 U aD8
def HL (h:b6 z R L) {a:Int} {bs:aH3} (U:(fw z L nm a bs).e=0) (s:Nat):
  jC z (fw z L nm a bs).L nm (ce (fw z L nm a bs).L nm) s=if a.toNat<=s/\s < a.toNat+bs.length/16 then g0 bs (s - a.toNat) else jC z L nm (ce L nm) s:=by
 obtain⟨d,H,fO,ha,dP,dL,cG⟩:=HK U;rw[cG];obtain⟨ax,j5,_⟩:=h.fK d (cP H).1;have dM:=pk dP;have c1:=oA ax.z;have xn:=BE h H;have ag:=jf h.b3;generalize a.toNat=a0 at*;have a7:=(Bh ax fO dM (ht z L nm (ce L nm)) dL _ (at0 _)).1;have lh:0 < 2 ^z:=aE5
 have V:s % 2 ^z < 2 ^z:=Nat.mod_lt _ lh;have aw:s/2 ^z*2 ^z+s % 2 ^z=s:=by rw[aB7];exact Nat.div_add_mod s _
 have xh:e0 d.im=d.im.t.length*2 ^z:=BC h H;rw[r5,r5]
 by_cases J:s/2 ^z < d.im.t.length
 .rw[Uf h H a7.eq J,M4 h H J];have lN:=Uh h H J (some (ht z L nm (ce L nm) (s/2 ^z)))
  by_cases aj:16*a0/aG d.im<=s/2 ^z/\s/2 ^z < 16*a0/aG d.im+cH (aG d.im) a0 (bs.length/16)
  .have nF:0 < bs.length/16:=by
    refine Nat.pos_of_ne_zero fun e=>?_
    rw[e] at aj;have:cH (aG d.im) a0 0=0:=rfl;omega
   have p3:=(a7.done (s/2 ^z - 16*a0/aG d.im) aD7).2 (some (ht z L nm (ce L nm) (s/2 ^z)));rw[show 16*a0/aG d.im+(s/2 ^z - 16*a0/aG d.im)=s/2 ^z by omega] at p3;rw[p3];have qx:=(BF c1 nF).1 aj;rw[xn] at qx⊢;rw[Ui h.b3 lN fO qx V,aw]
  .have xo:=(a7.jz (s/2 ^z) aD7).2 (some (ht z L nm (ce L nm) (s/2 ^z)));rw[xo,mu];rintro⟨g1,g2⟩;apply aj;refine(BF c1 aD7).2 ?_;rw[xn];have af:(s/2 ^z+1)*(16*2 ^z)=16*(s/2 ^z*2 ^z)+16*2 ^z:=by rw[aA6,aC5]
   have ao:s/2 ^z*(16*2 ^z)=16*(s/2 ^z*2 ^z):=aC5 ..;rw[af,ao];omega
 .rw[Ug h H a7.eq J,mu];rintro⟨g1,g2⟩;apply J;rw[aA9 lh,<-xh];omega
end
def aim {n off m:Nat} (h:off+m<=n):laid (List.replicate n 0) off m (uu m)=List.replicate n (0:UInt8):=by
 refine aB2 fun i=>?_
 rw[M3 (by rw[au2];exact h) au2];simp only[aB4]
 split
 .rfl
 .split
  .rw[vj aD7,vj aD7]
  .rfl
def ain {X:aH3} {n:Nat} (h:X.length=n):laid X 0 n (uu n)=List.replicate n (0:UInt8):=by unfold laid;rw[List.take_zero,aD4,ax3 (by rw[au2];exact at0 _),au2,List.drop_eq_nil_of_le aD7,av2]
def M5 {s:bL} {c:Nat} (h:s.t[c]? =some ut) (aH:Option aH3):eh s c aH=iH s:=by unfold eh;rw[h];rfl
def Uj {s:bL} (ax:gk s) {a l:Nat} (dM:a+l<=e0 s) (y:Nat->aH3) (dL:hc s a l (cH (aG s) a l)<=d0 s.l): ∀k,k<=cH (aG s) a l-> ∀j,j < k->
  eh (ep s a l y k) (16*a/aG s+j) (some (y (16*a/aG s+j)))=laid (eh s (16*a/aG s+j) (some (y (16*a/aG s+j)))) (bj (aG s) a l j).a ((bj (aG s) a l j).b - (bj (aG s) a l j).a) (uu ((bj (aG s) a l j).b - (bj (aG s) a l j).a))
 |0,_,j,V=>at1 V aD7
 |k+1,Z,j,V=>by
  have h:=y7 ax dM y dL k aD7;have ey:k < cH (aG s) a l:=aE5
  obtain⟨J,_⟩:=rY ax dM ey;obtain⟨d3,cX,dJ,dN⟩:=rV (oA ax.z) ey;have pV:(bj (aG s) a l k).c=16*a/aG s+k:=rfl;have e3:(bj (aG s) a l k).c < (ep s a l y k).t.length:=aG6
  have l8:=h.jz (16*a/aG s+k) (.inr (at0 _));have af:ep s a l y (k+1)=vM (ep s a l y k) (bj (aG s) a l k) (y (bj (aG s) a l k).c):=rfl;unfold vM at af;rw[Hk h.eq] at af;have bW:=vK ax (c:=16*a/aG s+k) J (some (y (16*a/aG s+k)));have asJ:iH (ep s a l y k)=iH s:=by unfold iH;rw[h.eq.aG]
  have bk:j < k->_:=Uj ax dM y dL k aD7 j
  by_cases hw:kZ s (bj (aG s) a l k)=true
  .rw[vj hw] at af;have ag:=Md h.eq.ok (c:=(bj (aG s) a l k).c) e3 (q:=ut) (.inr rfl);rw[<-af] at ag
   by_cases jR:j < k
   .rw[(ag.jz (16*a/aG s+j) (by rw[pV];omega)).2];exact bk jR
   .have:j=k:=aE5
    subst this;have hw:(bj (aG s) a l j).b - (bj (aG s) a l j).a=aG s:=gd hw;have bB:=M5 ag.DW (some (y (16*a/aG s+j)));rw[pV] at bB;rw[bB,hw,show(bj (aG s) a l j).a=0 by omega,ain bW];unfold iH;rw[ag.eq.aG,h.eq.aG]
  .have hw:kZ s (bj (aG s) a l k)=false:=by simpa using hw
   rw[hw,mu aD8] at af
   by_cases G:((ep s a l y k).t.getD (bj (aG s) a l k).c b9).1=2
   .rw[vj G] at af;rw[af]
    by_cases jR:j < k
    .exact bk jR
    .have:j=k:=aE5
     subst this;rw[l8.2]
     have ah:(s.t.getD (16*a/aG s+j) b9).1=2:=by
      rw[at3] at G⊢;rw[show(ep s a l y j).t[(bj (aG s) a l j).c]? =s.t[16*a/aG s+j]? from l8.1] at G;exact G
     have aS:s.t[16*a/aG s+j]? =some ut:=by
      rw[at3] at ah
      cases e:s.t[16*a/aG s+j]? with
      |none=>rw[e] at ah;exact at1 ah aD8
      |some q=>
       rw[e] at ah;have ah:q.1=2:=ah;rcases ax.slot _ _ e with g |g |⟨bd,g,_⟩
       .rw[g] at ah;exact at1 ah aD8
       .rw[g]
       .rw[g] at ah;exact at1 ah (show¬(1:Int)=2 by decide)
     rw[M5 aS];unfold iH;rw[aim aD7]
   .rw[mu G] at af;have ag:=Mb (y:=y (bj (aG s) a l k).c) (bs:=uu ((bj (aG s) a l k).b - (bj (aG s) a l k).a)) h.eq.ok e3 d3 (by rw[h.eq.aG];exact cX) au2 (Mg dL h ey hw G);rw[<-af] at ag
    by_cases jR:j < k
    .rw[(ag.jz (16*a/aG s+j) (by rw[pV];omega)).2];exact bk jR
    .have:j=k:=aE5
     subst this;have:=ag.DW (some (y (16*a/aG s+j)));rw[pV] at this;rw[this,l8.2]
section
variable {z R:Nat} {L:aH6} {nm:aH3}
def Uk {a l:Int} (U:(ky z L nm a l).e=0): ∃d,dk L nm=some d/\a=((a.toNat:Nat):Int)/\l=((l.toNat:Nat):Int)/\dS d.im a.toNat l.toNat=0/\hc d.im a.toNat l.toNat (cH (aG d.im) a.toNat l.toNat)<=d0 d.im.l/\
  (ky z L nm a l).L=dn L nm (ep d.im a.toNat l.toNat (ht z L nm (ce L nm)) (cH (aG d.im) a.toNat l.toNat)) none:=by
 unfold ky at U⊢
 cases ar:dk L nm with
 |none=>rw[ar] at U;exact at1 U (show¬(140:Int)=0 by decide)
 |some d=>
  rw[ar] at U;simp only at U⊢
  split at U
  .rename_i G;exact at1 U G
  .rename_i G;rw[mu G];have G:dS d.im a l=0:=ax9 G;obtain⟨af,ao⟩:=tf G;have U:Bl d.im a.toNat l.toNat=0:=U;unfold Bl at U
   split at U
   .rename_i ah;refine⟨d,rfl,af,ao,by rw[<-af,<-ao];exact G,ah,?_⟩;show dn L nm (xe d.im a.toNat l.toNat _) none=_;unfold xe;rw[vj ah]
   .exact at1 U aD8
def Ul (h:b6 z R L) {a l:Int} (U:(ky z L nm a l).e=0) (s:Nat):
  jC z (ky z L nm a l).L nm (ce (ky z L nm a l).L nm) s=if a.toNat<=s/\s < a.toNat+l.toNat then List.replicate 16 0 else jC z L nm (ce L nm) s:=by
 obtain⟨d,H,ha,al,dP,dL,cG⟩:=Uk U;rw[cG];obtain⟨ax,j5,_⟩:=h.fK d (cP H).1;have dM:=pk dP;have c1:=oA ax.z;have xn:=BE h H;have ag:=jf h.b3;generalize a.toNat=a0 at*;generalize l.toNat=vV at*;have a7:=y7 ax dM (ht z L nm (ce L nm)) dL _ (at0 _);have M6:=Uj ax dM (ht z L nm (ce L nm)) dL _ (at0 _);have lh:0 < 2 ^z:=aE5
 have V:s % 2 ^z < 2 ^z:=Nat.mod_lt _ lh;have aw:s/2 ^z*2 ^z+s % 2 ^z=s:=by rw[aB7];exact Nat.div_add_mod s _
 have xh:e0 d.im=d.im.t.length*2 ^z:=BC h H;rw[r5,r5]
 by_cases J:s/2 ^z < d.im.t.length
 .rw[Uf h H a7.eq J,M4 h H J];have lN:=Uh h H J (some (ht z L nm (ce L nm) (s/2 ^z)))
  by_cases aj:16*a0/aG d.im<=s/2 ^z/\s/2 ^z < 16*a0/aG d.im+cH (aG d.im) a0 vV
  .have nF:0 < vV:=by
    refine Nat.pos_of_ne_zero fun e=>?_
    rw[e] at aj;have:cH (aG d.im) a0 0=0:=rfl;omega
   have p3:=M6 (s/2 ^z - 16*a0/aG d.im) aD7;rw[show 16*a0/aG d.im+(s/2 ^z - 16*a0/aG d.im)=s/2 ^z by omega] at p3;rw[p3];have qx:=(BF c1 nF).1 aj;have Eb:s/2 ^z - 16*a0/aG d.im < cH (aG d.im) a0 vV:=aE5
   obtain⟨d3,cX,dJ,dN⟩:=rV c1 Eb
   have aio:uu ((bj (aG d.im) a0 vV (s/2 ^z - 16*a0/aG d.im)).b - (bj (aG d.im) a0 vV (s/2 ^z - 16*a0/aG d.im)).a)=pU (List.replicate (16*vV) 0) (bj (aG d.im) a0 vV (s/2 ^z - 16*a0/aG d.im)):=by
    unfold pU;rw[List.take_replicate,List.drop_replicate]
    congr 1
    omega
   rw[aio];rw[xn] at qx⊢;rw[Ui h.b3 lN au2 qx V,aw]
   split
   .rw[HJ _ _ aD7]
   .rfl
  .have xo:=(a7.jz (s/2 ^z) aD7).2 (some (ht z L nm (ce L nm) (s/2 ^z)));rw[xo,mu];rintro⟨g1,g2⟩;apply aj;refine(BF c1 aD7).2 ?_;rw[xn];have af:(s/2 ^z+1)*(16*2 ^z)=16*(s/2 ^z*2 ^z)+16*2 ^z:=by rw[aA6,aC5]
   have ao:s/2 ^z*(16*2 ^z)=16*(s/2 ^z*2 ^z):=aC5 ..;rw[af,ao];omega
 .rw[Ug h H a7.eq J,mu];rintro⟨g1,g2⟩;apply J;rw[aA9 lh,<-xh];omega
end
end
section
def HM: ∀(n:Nat) (l:aH4),l.Nodup->(∀x,x∈l->x < n)->l.length<=n
 |0,[],_,_=>at0 _
 |0,x::l,_,h=>at1 (h x (au7 ..)) (aC7 x)
 |n+1,l,hn,h=>by
  have E:(l.erase n).Nodup:=hn.erase n
  have G:=HM n (l.erase n) E fun x hx=>by
   have pG:=(hn.mem_erase_iff).1 hx;have:=h x pG.2;have:=pG.1;omega
  have ah:l.length<=(l.erase n).length+1:=by
   rw[List.length_erase]
   split <;>omega
  omega
def M7 {α m':Type} {f:α->m'}: ∀{l:List α},(∀x,x∈l-> ∀y,y∈l->f x=f y->x=y)->l.Nodup->(l.map f).Nodup
 | [],_,_=>az4
 |a::l,hi,hn=>by
  obtain⟨cC,dg⟩:=aw6.1 hn;rw[au9];refine aw6.2 ⟨fun aC=>?_,M7 (fun x hx y aD=>hi x (at4 _ hx) y (at4 _ aD)) dg⟩;obtain⟨y,aD,e⟩:=av7.1 aC;have:=hi y (at4 _ aD) a (au7 ..) e;exact cC (this▸aD)
section
variable {z R:Nat} {L:aH6} {nm:aH3}
def HN {a:Int} {bs:aH3} (h:b6 z R L) (U:(fw z L nm a bs).e≠0):(fw z L nm a bs).L=L:=by
 unfold fw at U⊢
 cases ar:dk L nm with
 |none=>rfl
 |some d=>
  rw[ar] at U;simp only at U⊢
  split at U
  .rename_i E;rw[vj E]
  .rename_i E;rw[mu E]
   split at U
   .rename_i G;rw[vj G]
   .rename_i G;rw[mu G];have U:Bi d.im a.toNat (bs.length/16)≠0:=U;unfold Bi at U
    split at U
    .exact at1 rfl U
    .rename_i ah;show dn L nm (xd d.im a.toNat (bs.length/16) bs _) none=L;unfold xd;rw[mu ah,BB h.kb ar (h.vR d (cP ar).1)]
def M8 {a l:Int} (h:b6 z R L) (U:(ky z L nm a l).e≠0):(ky z L nm a l).L=L:=by
 unfold ky at U⊢
 cases ar:dk L nm with
 |none=>rfl
 |some d=>
  rw[ar] at U;simp only at U⊢
  split at U
  .rename_i G;rw[vj G]
  .rename_i G;rw[mu G];have U:Bl d.im a.toNat l.toNat≠0:=U;unfold Bl at U
   split at U
   .exact at1 rfl U
   .rename_i ah;show dn L nm (xe d.im a.toNat l.toNat _) none=L;unfold xe;rw[mu ah,BB h.kb ar (h.vR d (cP ar).1)]
def aip (h:b6 z R L) {a:Int} {bs:aH3} (U:(fw z L nm a bs).e=0): ∃d im,dk L nm=some d/\iv d.im im/\(fw z L nm a bs).L=dn L nm im none/\ ∀c,(im.t.getD c b9).1=if 0 < bs.length/16/\16*a.toNat < (c+1)*(16*2 ^z)/\c*(16*2 ^z) < 16*(a.toNat+bs.length/16) then 1 else(d.im.t.getD c b9).1:=by
 obtain⟨d,H,fO,ha,dP,dL,cG⟩:=HK U;obtain⟨ax,j5,_⟩:=h.fK d (cP H).1;have dM:=pk dP;have c1:=oA ax.z;have xn:=BE h H;generalize a.toNat=a0 at*;have a7:=(Bh ax fO dM (ht z L nm (ce L nm)) dL _ (at0 _)).1;refine⟨d,_,H,a7.eq,cG,fun c=>?_⟩
 by_cases nF:0 < bs.length/16
 .by_cases aj:16*a0/aG d.im<=c/\c < 16*a0/aG d.im+cH (aG d.im) a0 (bs.length/16)
  .have qx:=(BF c1 nF).1 aj;rw[xn] at qx;rw[vj ⟨nF,qx⟩];have p3:=(a7.done (c - 16*a0/aG d.im) aD7).1;rw[show 16*a0/aG d.im+(c - 16*a0/aG d.im)=c by omega] at p3;unfold hq vG at p3;simp only[Bool.not_eq_false',as8] at p3;exact gd p3.1
  .have qx:=fun x=>aj ((BF c1 nF).2 x)
   rw[xn] at qx;rw[mu fun x=>qx x.2];have xo:=(a7.jz c aD7).1;rw[at3,at3,xo]
 .have aM:bs.length/16=0:=aE5
  rw[mu fun x=>nF x.1,aM];rfl
end
def HO {L:aH6} {nm:aH3} {k:Nat} (h:ef L nm k) {i:Nat} (hi:i < k):(c6 L k nm)[i]? =some (eN L (i+1) nm):=by
 have E:=Ho h i hi;have G:=pX h;rw[aB1] at E;have ah:=List.append_cancel_left E;rw[as7 aD7] at ah⊢;injection ah with ah
 rw[ah]
def Um {α:Type} (p:α->Bool): ∀(l:List α) (j:Nat),j<=l.length->(∀i x,i < j->l[i]? =some x->p x=true)->(j=l.length\/ ∃x,l[j]? =some x/\p x=false)->l.takeWhile p=l.take j
 | [],j,V,_,_=>by
  have:j=0:=aF8
  subst this;rfl
 |a::l,0,_,_,h=>by
  rcases h with h |⟨x,hx,ag⟩
  .cases h
  .injection hx with hx
   subst hx;rw[List.takeWhile_cons,ag];rfl
 |a::l,j+1,V,E,G=>by
  have ha:=E 0 a (Nat.succ_pos j) rfl;rw[List.takeWhile_cons,ha];show a::l.takeWhile p=a::l.take j;rw[Um p l j aF8 (fun i x hi hx=>E (i+1) x aD7 hx) (G.imp (fun e=>by simpa using e) id)]
def kA (L:aH6) (top base:aH3):List aH3:=(c6 L (ce L top) top).takeWhile fun n=> !decide (n=base)
def hN (L:aH6) (top base:aH3):Bool:=(dk L top).isSome&&(decide (base=[])||decide (base∈c6 L (ce L top) top))
def hu (L:aH6) (n:aH3) (k:Nat):Bool:=match dk L n with
 |none=>true
 |some d=>decide (d.im.t.length<=k)||decide ((d.im.t.getD k b9).1=0)
def p4 (L:aH6) (top base:aH3) (k:Nat):Bool:=hu L top k&&(kA L top base).any fun n=> !hu L n k
def b7 (L:aH6) (nm:aH3):Nat:=match dk L nm with
 |none=>0
 |some d=>d.im.t.length
def oC (L:aH6) (top base:aH3):Option Nat:=if hN L top base=true then(List.range (b7 L top)).find? (p4 L top base) else none
structure aiq where
 done:Bool
 e:Int
 L:List aI
 over:Bool
def h2 (z:Nat) (L:aH6) (top base:aH3) (over:Bool):aiq:=if(over|| !(dk L top).isSome)=true then⟨false,160,L,over⟩ else match oC L top base with
 |some k=>⟨false,(fw z L top ((k*2 ^z:Nat):Int) (gz z L top (k:Int))).e,(fw z L top ((k*2 ^z:Nat):Int) (gz z L top (k:Int))).L,over⟩
 |none=>⟨decide ((ig L top base).e=0),(ig L top base).e,(ig L top base).L,decide ((ig L top base).e=0)⟩
def k3 (z:Nat) (L:aH6) (nm:aH3):aH3:=match dk L nm with
 |none=>[]
 |some d=>jD z L nm (ce L nm) 0 (d.im.t.length*2 ^z)
def M9 {z:Nat} {L L':aH6} {nm:aH3} (aw:b7 L' nm=b7 L nm) (Z:(dk L' nm).isSome=(dk L nm).isSome) (h: ∀s,s < b7 L nm*2 ^z->jC z L' nm (ce L' nm) s=jC z L nm (ce L nm) s):k3 z L' nm=k3 z L nm:=by
 unfold k3;unfold b7 at aw h
 cases e:dk L nm with
 |none=>
  rw[e] at Z
  cases cc:dk L' nm with
  |none=>rfl
  |some cZ=>rw[cc] at Z;cases Z
 |some d=>
  rw[e] at Z aw h
  cases cc:dk L' nm with
  |none=>rw[cc] at Z;cases Z
  |some cZ=>
   rw[cc] at aw;simp only at aw h⊢;rw[aw]
   exact Ue _ fun i hi=>by
    rw[ax6];exact h i hi
section
variable {z R:Nat} {L:aH6} {nm:aH3}
def M' (L:aH6) {t n:aH3} {d:aI} {im:bL} (H:dk L t=some d) (aw:iv d.im im):b7 (dn L t im none) n=b7 L n/\(dk (dn L t im none) n).isSome=(dk L n).isSome:=by
 by_cases e:n=t
 .subst e;unfold b7;rw[zi H,H];exact⟨aw.ez,rfl⟩
 .unfold b7;rw[Hx e];exact⟨rfl,rfl⟩
def air (h:b6 z R L) {d:aI} (H:dk L nm=some d) {k:Nat} (Z:k < d.im.t.length):k3 z (fw z L nm ((k*2 ^z:Nat):Int) (gz z L nm (k:Int))).L nm=k3 z L nm:=by
 have dR:gz z L nm (k:Int)=fl z L nm (ce L nm) k:=by
  unfold gz;rw[H];simp only;rw[vj ⟨aD7,aD7⟩];rfl
 rw[dR]
 by_cases U:(fw z L nm ((k*2 ^z:Nat):Int) (fl z L nm (ce L nm) k)).e=0
 .obtain⟨cZ,im,c4,aw,cG,_⟩:=aip h U;have hw:=HL h U;have bW:(fl z L nm (ce L nm) k).length=16*2 ^z:=za h.tonJ H (h.b5 nm).1 k;have ag:=jf h.b3;rw[bW,show 16*2 ^z/16=2 ^z by omega] at hw;rw[cG] at hw⊢;obtain⟨g1,g2⟩:=M' L (n:=nm) c4 aw;refine M9 g1 g2 fun s _=>?_
  rw[hw s];show(if k*2 ^z<=s/\s < k*2 ^z+2 ^z then _ else _)=_
  split
  .rename_i c
   have hK:s/2 ^z=k:=by
    rw[Nat.div_eq_iff aD7];omega
   have fu:s % 2 ^z=s - k*2 ^z:=by
    have E:=Nat.div_add_mod s (2 ^z);rw[hK,aB7] at E;omega
   rw[r5,hK,fu];rfl
  .rfl
 .rw[HN h U]
end
section
variable {z R:Nat} {L:aH6} {top base:aH3}
def Un (h:b6 z R L) {d:aI} (H:dk L top=some d) (hi:hN L top base=true):c6 L (ce L top) top=kA L top base++(if base=[] then[] else base::c6 L (ce L base) base)/\(base=[]\/ ∃e,dk L base=some e)/\ce L base+(kA L top base).length+(if base=[] then 0 else 1)=ce L top:=by
 have key: ∀(k:Nat) (nm:aH3),ef L nm k->(∃d,dk L nm=some d)->(base=[]\/base∈c6 L k nm)->c6 L k nm=(c6 L k nm).takeWhile (fun n=> !decide (n=base))++(if base=[] then[] else base::c6 L (ce L base) base)/\(base=[]\/ ∃e,dk L base=some e):=by
  intro k nm cw
  induction cw with
  |gone aV=>rintro⟨d,H⟩;rw[aV] at H;cases H
  |base E G=>
   rintro _ O;rcases O with O |O
   .rw[vj O];exact⟨rfl,.inl O⟩
   .cases O
  | @step nm d k E G ah bk=>
   rintro _ O;have hs:=h.iw d (cP E).1 G
   have fO:c6 L (k+1) nm=d.back::c6 L k d.back:=by
    conv=>lhs;unfold c6
    rw[E]
   rw[fO] at O⊢;rw[List.takeWhile_cons]
   by_cases e:d.back=base
   .rw[au1 e];have Na: ¬base=[]:=by rw[<-e];exact G
    rw[mu Na];refine⟨?_,.inr (by rw[<-e];exact hs)⟩;show d.back::c6 L k d.back=[]++_;rw[aD4,e];rw[e] at ah;rw[Bx ah (h.b5 base).1]
   .rw[ax2 e];obtain⟨g1,g2⟩:=bk hs (O.imp id fun x=>(at7.1 x).resolve_left fun y=>e y.symm);refine⟨?_,g2⟩;show d.back::c6 L k d.back=d.back::_++_;rw[List.cons_append,<-g1]
 unfold hN at hi;rw[as8,ay9] at hi;obtain⟨g1,g2⟩:=key _ top (h.b5 top).1 ⟨d,H⟩ (hi.2.imp gd gd);refine⟨g1,g2,?_⟩;have al:=at2 List.length g1;rw[pX (h.b5 top).1,as9] at al;have asK:=pX (h.b5 base).1;unfold kA
 by_cases e:base=[]
 .rw[vj e] at al⊢
  have:ce L base=0:=by
   have hn:dk L base=none:=by
    cases x:dk L base with
    |none=>rfl
    |some y=>exact at1 e (D' h ⟨y,x⟩)
   exact r4 (.gone hn) aD7
  rw[List.length_nil] at al;omega
 .rw[mu e] at al⊢;rw[aw7] at al;omega
def Uo (h:b6 z R L) {d:aI} (H:dk L top=some d): ∀n,n∈kA L top base->n≠top/\ ∃e,dk L n=some e:=fun n hn=>by
 have aC:n∈c6 L (ce L top) top:=(List.takeWhile_sublist _).mem hn;refine⟨fun e=>?_,h.MZ ⟨d,H⟩ n (at4 _ aC)⟩;rw[e] at aC;exact MJ (h.b5 top).1 aC
def Up {c:Nat}: ∀(ns jc:aJ5) (i:Nat),(∀n,n∈ns->(∃e,dk L n=some e)/\hu L n c=true)->(hg z L c (ns++jc) i).1=(hg z L c jc 0).1
 | [],jc,i,_=>MX jc i 0
 |n::ns,jc,i,h=>by
  obtain⟨⟨e,U⟩,bd⟩:=h n (au7 ..);unfold hu at bd;rw[U] at bd;simp only[ay9] at bd;rw[List.cons_append,Ub U (fun x=>bd.elim (fun g=>by have:=gd g;omega) fun g=>x.2 (gd g))];exact Up ns jc (i+1) fun x hx=>h x (at4 _ hx)
def Uq (nm back:aH3) {c:Nat}: ∀(ns:aJ5) (i:Nat),hg z (d4 L nm back) c ns i=hg z L c ns i
 | [],_=>rfl
 |n::ns,i=>by
  conv=>lhs;unfold hg
  conv=>rhs;unfold hg
  rw[mF]
  cases dk L n with
  |none=>rfl
  |some d=>
   show(if c < (eO nm back d).im.t.length/\((eO nm back d).im.t.getD c b9).1≠0 then(eh (eO nm back d).im c none,i+1) else _)=_;rw[D5,Uq nm back ns (i+1)]
def ais (nm back:aH3): ∀{k:Nat} {n:aH3},ef L n k->n≠nm->nm∉c6 L k n->c6 (d4 L nm back) k n=c6 L k n:=by
 intro k n cw
 induction cw with
 |gone _=>intro _ _;rfl
 |base _ _=>intro _ _;rfl
 | @step n d k E G ah bk=>
  intro a6 O
  have fO:c6 L (k+1) n=d.back::c6 L k d.back:=by
   conv=>lhs;unfold c6
   rw[E]
  rw[fO] at O⊢;simp only[at7,not_or] at O
  conv=>lhs;unfold c6
  rw[mF,E];show(eO nm back d).back::c6 (d4 L nm back) k (eO nm back d).back=_;rw[xl (by rw[(cP E).2];exact a6),bk (fun x=>O.1 x.symm) O.2]
def ait (h:b6 z R L) {d:aI} (H:dk L top=some d) (hi:hN L top base=true) (aj:(ig L top base).e=0) {c:Nat} (J:c < d.im.t.length) (hn:p4 L top base c=false):fl z (ig L top base).L top (ce (ig L top base).L top) c=fl z L top (ce L top) c:=by
 have zm:=MT h top base
 have cG:(ig L top base).L=d4 L top base:=by
  unfold ig at aj⊢
  split at aj
  .exact at1 aj (show¬(140:Int)=0 by decide)
  .rename_i E
   split at aj
   .exact at1 aj (show¬(141:Int)=0 by decide)
   .rename_i G
    split at aj
    .rename_i ah;rw[mu E,mu G,vj ah]
    .exact at1 aj (show¬(142:Int)=0 by decide)
 have HP:top≠base/\top∉c6 L (ce L base) base:=by
  unfold ig at aj
  split at aj
  .exact at1 aj (show¬(140:Int)=0 by decide)
  .split at aj
   .exact at1 aj (show¬(141:Int)=0 by decide)
   .rename_i G;exact⟨fun e=>G (.inl e),fun e=>G (.inr e)⟩
 rw[cG] at zm⊢;obtain⟨g1,g2,cL⟩:=Un h H hi;have da:dk (d4 L top base) top=some (eO top base d):=by rw[mF,H];rfl
 have iO:(eO top base d).back=base:=HE (cP H).2;have Nb:(eO top base d).im=d.im:=D5 top base d
 by_cases bd:hu L top c=true
 .have Ec:(d.im.t.getD c b9).1=0:=by
   unfold hu at bd;rw[H] at bd;simp only[ay9] at bd;exact bd.elim (fun g=>by have:=gd g;omega) gd
  rw[zk da (by rw[Nb];exact fun x=>x.2 Ec),zk H fun x=>x.2 Ec]
  have dM: ∀n,n∈kA L top base->(∃e,dk L n=some e)/\hu L n c=true:=fun n aC=>by
   refine⟨(Uo h H n aC).2,?_⟩;unfold p4 at hn;rw[bd,aB6] at hn;have:=List.any_eq_false.1 hn n aC;simpa using this
  have af:ht z L top (ce L top) c=(hg z L c (if base=[] then[] else base::c6 L (ce L base) base) 0).1:=by
   unfold ht;rw[g1,Up _ _ _ dM]
  rw[af]
  by_cases O:base=[]
  .rw[vj O];have zl:ce (d4 L top base) top=0:=r4 (.base da (by rw[iO];exact O)) aD7;rw[zl];rfl
  .rw[mu O];have zl:=M0 zm da (by rw[iO];exact O);rw[iO] at zl;rw[zl,MY da,iO];unfold fl;have Ur:=(h.b5 base).1;have Dq:ce (d4 L top base) base=ce L base:=r4 (MS Ur (az2 HP.1) HP.2) (by have:=(h.b5 base).2;omega);rw[Dq,ais top base Ur (az2 HP.1) HP.2,Uq]
 .have Ec:c < d.im.t.length/\(d.im.t.getD c b9).1≠0:=by
   refine⟨J,fun e=>bd ?_⟩;unfold hu;rw[H];simp only[e];simp
  unfold fl;rw[HG da (by rw[Nb];exact Ec),HG H Ec,Nb]
end
end
section
open Go.RowKit Go.Proofs Go.Maps Go.Shelf Go.MapKept _root_.Go.Proofs.Tryz Tryz
open Go.WideElems (Fit rd rg pl rd_val rd_key rg_of)
def aiu {aJ:bz} (p:aa aq×aa aJ):Int:=p.1
def g3 {aJ:bz} (es:List (aa aq×aa aJ)):List Int:=es.map aiu
def Us {I:Nat->Prop} {w:aH9} {aJ:bz}: ∀{l:List (aa aq×aa aJ)} {es:aJ1},io I w aq aJ l es->es.map (·.key)=(g3 l).map encZ
 | [],_,h=>by rw[show _=[] from h];rfl
 |p::l,_,⟨e,r,h,E,_,ah⟩=>by
  rw[h,au9,Us ah,E];rfl
def aiv {P:aI0} {k:aI3} (Z:P.underlying k=some (.int .i64)) (s:Int) (h:(Lit.int .i64 s).wf=true):keyOf P k (encZ s)=some (.int .i64 s):=by simp[keyOf,Z,encZ,mapKey,h]
def Ut: ∀{l m:aI7},l.map encZ=m.map encZ->l=m
 | [],[],_=>rfl
 | [],_::_,h=>by simp at h
 |_::_,[],h=>by simp at h
 |x::l,y::m,h=>by
  simp only[au9,List.cons.injEq] at h;rw[encZ_inj h.1,Ut h.2]
def Nc {P:aI0} {k:aI3} (Z:P.underlying k=some (.int .i64)) {I:Nat->Prop} {w:aH9} {aJ:bz} {es:List (aa aq×aa aJ)} {bT:aJ1} {bY b:Nat} (O:w.heap[b]? =some (.map (List.toArray bT) bY))
  (aC:io I w aq aJ es bT) (de:mm bT bY) (hn:(g3 es).Nodup) (al: ∀s∈g3 es,(Lit.int .i64 s).wf=true) (aw:es.length<=maxLen):
  ∃jE,w.ownsMap P k p0 b es.length jE/\Maps.size jE=es.length/\(intKeys jE).Perm (g3 es):=by
 have bW:=CG aC;have zc:=Us aC
 have DZ: ∀x∈bT,∃s:Int,x.key=encZ s/\rg P k p0 x=(.int .i64 s,.nil)/\ ∃y,rd P k p0 x=some y:=by
  intro x hx;have:x.key∈(g3 es).map encZ:=by rw[<-zc];exact aw1 hx
  obtain⟨s,ag,U⟩:=av7.1 this;have Mq:keyOf P k x.key=some (.int .i64 s):=U▸aiv Z _ (al s ag);have mb:rd P k p0 x=some (.int .i64 s,.nil):=by simp[rd,Mq]
  exact⟨s,U.symm,rg_of mb,_,mb⟩
 have pm:=Go.WideShapes.sorted_perm (bT.map (rg P k p0))
 have hp:(bT.map (rg P k p0)).map (fun p=>Go.intOf p.1)=g3 es:=by
  refine Ut ?_;rw[<-zc,ax7,ax7];refine aw2 fun x hx=>?_
  obtain⟨s,af,ao,_⟩:=DZ x hx;simp[ao,af,Go.intOf]
 refine⟨.map ((bT.map (rg P k p0)).foldr DataW.insert []),⟨List.toArray bT,bY,O,⟨by simp[bW];exact aw,(stamped_iff _ _).2 ⟨de.2,de.1.imp fun h=>by omega,?_⟩,fun x hx=>(DZ x hx).choose_spec.2.2⟩,by simp[bW],rfl⟩,?_,?_⟩
 .have E:(bT.map (·.key)).Pairwise (· ≠ ·):=by
   rw[zc];exact List.pairwise_map.2 (hn.imp fun a6 e=>a6 (encZ_inj e))
  exact List.pairwise_map.1 E
 .show List.length _=_;rw[pm.length_eq,au3,bW]
 .show(List.map (fun p=>Go.intOf (Prod.fst p)) _).Perm _;rw[<-hp];exact pm.map _
def Nd (es:aH5):Fn prog 183 [.c (.one (.mp 1001))] [(1001,.map aq aq es)] [2001] (.c (.one (.c2 236 [.p 2001 0]))) [(2001,.cells [.mp 1001]),(1001,.map aq aq es)]:=by refine aP [] func183 ?_;exact⟨rfl,_,_,_,ac.aT 1 2001 rfl,rfl,rfl,aA,rfl⟩
def hS.Nf {I D:Nat->Prop} {w:aH9} {v:aI8} {l:aI7} (h:hS D w 1 v l.length (l.map encZ)) (cw: ∀b,b < w.heap.size->D b->I b):cy I w (.ci aq) l (fun _=>some v):=by obtain⟨_,A,c,ar,E,G,ah⟩:=h;refine⟨A,c,at2 some ar,E,G,fun ag=>?_⟩;obtain⟨b,o,dO,O,bv,hx⟩:=ah ag;refine⟨b,o,dO,cw b bv O,fun i x hi=>?_⟩;have:=hx i (encZ x) (by rw[av1,show l[i]? =some x from hi];rfl);simpa[cy,aR,encZ] using this
def Uu (es:aH5) (hn:(g3 es).Nodup) (al: ∀s∈g3 es,(Lit.int .i64 s).wf=true) (aw:es.length<=4294967296):
  cD prog 227 [.c (.one (.c2 236 [.p 2001 0]))] [(2001,.cells [.mp 1001]),(1001,.map aq aq es)] [] (X:={hh:List Int//hh.Perm (g3 es)}) (fun g=>bE aq g.1) (fun _=>[(2001,.cells [.mp 1001]),(1001,.map aq aq es)]):=by
 refine⟨aE0,fun ρ F I w b0 a7 c' bg eE bW dG=>?_⟩
 match b0,bW with
 | [v],_=>
  obtain⟨aE,aB,gv,r,hJ,mC,aj⟩:=dG 0 _ v rfl rfl;have aj:r=[]:=aj;have mC:gv= .pointer (some ⟨(ρ 2001).bf,0,none⟩):=mC;subst aj mC hJ aB;obtain⟨_,aE,T,jx,hJ⟩:=c' 2001 _ rfl;obtain⟨x,r,hJ,hx,aj⟩:=hJ;have aj:r=[]:=aj;have hx:x= .map (some (ρ 1001).bf):=hx;subst aj hx hJ;obtain⟨_,bT,bY,iq,aC,de⟩:=c' 1001 _ rfl;have Hr:(4294967296:Nat)<=maxLen:=by decide
  obtain⟨jE,dV,cA,pm⟩:=Nc (P:=prog) (k:=3) aE0 iq aC de hn al aD7;have bv:(ρ 2001).bf < w.heap.size:=ml jx
  have vO:SeqGives Fence.wide 2 prog 236 #[.pointer (some ⟨(ρ 2001).bf,0,none⟩)] encZ (fun hh=>hh.Perm (intKeys jE)) (Maps.size jE) w:=
   AnyZI.keys_gives (ρ:=Lw) {Ss with} Fence.wide _ trivial rfl aD7 (ρ 2001).bf (ρ 1001).bf es.length jE w bv (o1 jx rfl) dV
  have J:=AnyZI.collect_in aeU Fence.wide 4 trivial trivial rfl aD7 236 #[.pointer (some ⟨(ρ 2001).bf,0,none⟩)] trivial (enters_of func236 aE0 rfl) _ _ aG4 aG4 _ vO;refine(callsIn_wide.1 J).mono ?_;rintro e w' ⟨v,hh,rfl,au,fH,Br,gI⟩;have aY:cm I w (fun b=>b < w'.heap.size/\(I b\/w.heap.size<=b)) w':=fun b ix=>⟨⟨au8 (a7 b ix) gI.size,.inl ix⟩,gI.block b (a7 b ix)⟩
  refine⟨⟨hh,au.trans pm⟩,v,ρ,F,rfl,cU.rj gI,fun _ _=>rfl,_,aY,fun b h=>⟨h.1,h.2.imp id .inr⟩,fun c ch J=>Holds.cj aY (fun b O=>gI.block b (bg c ch J b O).1) gI.size ch (fun _ _=>rfl) (c' c ch J),fun c ch J b O=>?_,fun c cn ch ch' b E G=>eE c cn ch ch' b E G,?_⟩
  .have:=bg c ch J b O;exact⟨au8 this.1 gI.size,fun h=>(by rcases h.2 with h |h;exact this.2 h;omega),.inl ⟨c,ch,J,O⟩⟩
  .have ir:=hS.tN fH;exact(ir.zZ fun i _ hi=>(fH.lt i hi).1).Nf fun b E G=>⟨E,.inr G⟩
def po:List Int->Int
 | []=>0
 |x::l=>l.foldl min x
def aiw {l:aI7} (h:0 < l.length):po (l.take 1)=l[0]:=by
 cases l with
 |nil=>simp at h
 |cons x l=>rfl
def aix {l:aI7} {k:Nat} (ar:0 < k) (h:k < l.length):po (l.take (k+1))=min (po (l.take k)) l[k]:=by
 cases l with
 |nil=>simp at h
 |cons x l=>
  cases k with
  |zero=>omega
  |succ k=>
   have Z:k < l.length:=aE6
   show List.foldl min x (l.take (k+1))=min (List.foldl min x (l.take k)) l[k];rw[aB1,as7 Z,aB9];rfl
def Uv: ∀(l:aI7) (x:Int),List.foldl min x l<=x/\(∀y,y∈l->List.foldl min x l<=y)/\(List.foldl min x l=x\/List.foldl min x l∈l)
 | [],x=>⟨Int.le_refl _,fun y h=>aE7,.inl rfl⟩
 |aH::l,x=>by
  obtain⟨E,G,ah⟩:=Uv l (min x aH);show List.foldl min (min x aH) l<=x/\(∀y,y∈aH::l->List.foldl min (min x aH) l<=y)/\(List.foldl min (min x aH) l=x\/List.foldl min (min x aH) l∈aH::l);refine⟨aD7,fun y aD=>?_,?_⟩
  .rcases at7.1 aD with rfl |aD
   .omega
   .exact G y aD
  .rcases ah with ah |ah
   .rcases Int.le_total x aH with c |c
    .exact .inl aD7
    .exact .inr (by rw[ah,show min x aH=aH by omega];exact au7 ..)
   .exact .inr (at4 _ ah)
def Ng {l:aI7} (h:l≠[]):po l∈l/\ ∀y,y∈l->po l<=y:=by
 cases l with
 |nil=>exact at1 rfl h
 |cons x l=>
  obtain⟨E,G,ah⟩:=Uv l x;refine⟨?_,fun y aD=>?_⟩
  .rcases ah with ah |ah
   .show List.foldl min x l∈x::l;rw[ah];exact au7 ..
   .exact at4 _ ah
  .rcases at7.1 aD with rfl |aD
   .exact E
   .exact G y aD
def Uw {l m:aI7} (h:l.Perm m) (hn:m≠[]):po l=po m:=by
 have al:l≠[]:=fun e=>hn (by subst e;exact List.nil_perm.1 h)
 obtain⟨bM,bU⟩:=Ng al;obtain⟨b1,b2⟩:=Ng hn;have:=bU _ (h.mem_iff.2 b1);have:=b2 _ (h.mem_iff.1 bM);omega
def Ux (l:aI7) (ar:0 < l.length) (E:l.length<=1073741824):Fn prog 323 [bE aq l] [] [] (ab (po l)) []:=by
 have aV:=lE (n:=0) ar;have cq:=aiw ar;refine aP [3] func323 ?_;refine⟨fun h=>?_,fun _=>?_⟩
 .have h:decide (((l.length:Nat):Int) < 1)=true:=h;have:=gd h;omega
 refine bw [] (bn) ⟨aD7,l[0],aV,dZ [] (X:=Nat) (fun k=>[(0,bE aq l),(3,ab (po (l.take k))),(4,ab (k:Int))]) (fun _=>[]) (fun k=>1<=k/\k<=l.length) (fun k=>l.length - k) 1 ⟨at0 _,ar⟩ ?_ ?_⟩
 .exact ac.sub ⟨rfl,cq.symm,rfl,trivial⟩ trivial
 rintro k ⟨cd,Z⟩;refine⟨fun J=>?_,fun J=>?_⟩
 .have J:decide ((k:Int) < ((l.length:Nat):Int))=true:=J;have hr:k < l.length:=aF7
  have aw:=aix cd hr;exact⟨aD7,l[k],lE (n:=k) hr,aD7,k+1,⟨aD7,hr⟩,aD7,ac.sub ⟨rfl,aw.symm,rfl,trivial⟩ trivial⟩
 .have J:decide ((k:Int) < ((l.length:Nat):Int))=false:=J;have hr:k=l.length:=aF6
  exact ea bn rfl (show po (l.take k)=po l by rw[hr,av0])
section
variable {P:aI0} {N:Nat} {ids:aH4} {K:aW} {B:ay}
def Uy {o:Oper} {T kt et:aI3} {x:aI2} {c:Nat} (ai:o.op= .call {callee:=.builtin .clear,args:= #[x],argTypes:= #[T]}) (bR:P.underlying T=some (.map kt et)) {aF aJ:bz} {es:List (aa aF×aa aJ)}
  (hx:a1 K x= .c (.one (.mp c))) (J:ae B c=some (.map aF aJ es)) (N:Nat):bx P N ids o K B (.b4 []) ⟨[c],[],[(c,some (.map aF aJ []))]⟩:=by
 have m1:x∈o.op.operands:=aE8
 refine bx.QN J fun K' B' g1 C ρ F a w ak au fG=>?_
 obtain⟨bg,bT,bY,O,aC,de⟩:=ak.holds c _ fG;have af:=au.mp ((g1 x m1).trans hx);have bv:=ml O;have ed:=fun o=>MapKept.run_setObj_map (P:=P) o O
 have aj:(Builtin.clear_ #[T] o.type #[.map (some (ρ c).bf)]).run P w= .ok (.tuple #[]) {w with heap:=w.heap.setIfInBounds (ρ c).bf (.map #[] bY)}:=by
  simp[Builtin.clear_,run_underlying bR,az1 O,ed,Result.andThen]
 refine⟨{w with heap:=w.heap.setIfInBounds (ρ c).bf (.map #[] bY)},?_,t6 ((bg _).2 rfl),fun I aY=>⟨bg,[],bY,by simp[bv],rfl,aD9,fun e U=>by cases U⟩⟩;simp[execOp,ai,resolve,invoke,builtin,af,aj]
def bx.Nh {o:Oper} {c:Nat} {jo:aH4} {cB ch:a8} (J:ae B c=some cB)
  (h: ∀(K':aW) (B':ay),(∀x,x∈o.op.operands->a1 K' x=a1 K x)->(∀d,d∈jo->ae B' d=ae B d)-> ∀(C:fc) (ρ:Nat->bp) (F:Nat->Nat->Prop) (a:Act) (w:aH9),Mem ids C B' ρ F w->eo K' ρ (bZ C B' F w) a w->ae B' c=some cB-> ∃w',(execOp a.eval o).run P w= .ok .skip w'/\cU (F c) w w'/\
   (∀I,cm (bZ C B' F w) w I w'->Holds ρ I (F c) w' (ρ c) ch)):
  bx P N ids o K B .undef ⟨c::jo,[],[(c,some ch)]⟩:=by
 rintro K' B' E G - C a w ⟨hn,H,ρ,F,ak,au⟩ bv fN Q cR;have c3:ae B' c=some cB:=(G c aD9).trans J;obtain⟨w',hx,cF,c'⟩:=h K' B' E (fun d H=>G d (at4 _ H)) C ρ F a w ak au c3;obtain⟨bH,U⟩:=ak.hT c3 cF c';unfold Oper.wp;rw[hx,Oper.upon_skip];exact cR _ _ ⟨kN.trans hn,kO.trans H,ρ,F,bH,(au.mono U fun _ _ _=>rfl).kP (fun e U=>by rw[hn];exact bv e U) rfl⟩
def xp (es:List (aa aq×aa .fn)):bc where
 bo:=fun I F w p=>Holds (fun _=>⟨0,none,0,0⟩) I F w p (.map aq .fn es)
 cj:=fun I F w I' w' p h U bg aM=>Holds.cj U bg aM _ (fun _ _=>rfl) h
def xq (es:List (aa aq×aa .fn)) (ch:a8):Prop:=ch= .map aq .fn es\/ch= .az (xp es)
def xq.holds {es:List (aa aq×aa .fn)} {ch:a8} (h:xq es ch) {ρ:Nat->bp} {I F:Nat->Prop} {w:aH9} {p:bp}:Holds ρ I F w p ch↔(∀b,F b↔b=p.bf)/\ ∃bT bY,w.heap[p.bf]? =some (.map (List.toArray bT) bY)/\io I w aq .fn es bT/\mm bT bY:=by
 rcases h with rfl |rfl
 .exact Iff.rfl
 .exact Iff.rfl
def BG {o:Oper} {T kt et:aI3} {x i v:aI2} {c f g9 ip og m1 m2 m3 b1 b2 b3:Nat} (ai:o.op= .insert T x i v) (bR:P.underlying T=some (.map kt et)) (jQ:P.underlying kt=some (.int .i64)) {es:List (aa aq×aa .fn)} {ch ch':a8} (hx:a1 K x= .c (.one (.mp c))) {key:Int} (Z:a1 K i= .c (.one (.d (.int .i64 key))))
  (aB:a1 K v= .c (.one (.c2 f [.p g9 0,.p ip 0,.p og 0]))) (E:ae B m1=some (.b5 g9 (e7 b1))) (G:ae B m2=some (.b5 ip (e7 b2))) (ah:ae B m3=some (.b5 og (e7 b3)))
  (J:ae B c=some ch) (hw:xq es ch) (o7:xq (dp (aF:=aq) (aJ:=.fn) es key (f,[b1,b2,b3])) ch') (N:Nat):bx P N ids o K B .undef ⟨[c,m1,m2,m3],[],[(c,some ch')]⟩:=by
 have cC:x∈o.op.operands:=aE4
 have dg:i∈o.op.operands:=aE4
 have jd:v∈o.op.operands:=aE4
 refine bx.Nh J fun K' B' g1 g2 C ρ F a w ak au fG=>?_
 obtain⟨bg,bT,bY,O,aC,de⟩:=hw.holds.1 (ak.holds c _ fG);have af:=au.mp ((g1 x cC).trans hx);have ao:a.eval i= .int .i64 key:=au.int ((g1 i dg).trans Z)
 have br:a.eval v=kK (f,[b1,b2,b3]):=by
  have h:=au.ev ((g1 v jd).trans aB);obtain⟨aE,e,nw,r1,af,cr,v2,r2,ao,cv,v3,fQ,br,dm,eu⟩:=h;have cl:=pN (N:=N) (a:=a) ak ((g2 m1 aD9).trans E);have cY:=pN (N:=N) (a:=a) ak ((g2 m2 aD9).trans G);have ek:=pN (N:=N) (a:=a) ak ((g2 m3 aD9).trans ah);have cr:nw= .pointer (some ⟨(ρ g9).bf,0,none⟩):=cr;have cv:v2= .pointer (some ⟨(ρ ip).bf,0,none⟩):=cv;have dm:v3= .pointer (some ⟨(ρ og).bf,0,none⟩):=dm;have eu:fQ=[]:=eu;rw[e,af,ao,br,cr,cv,dm,eu,cl,cY,ek];rfl
 have cw:jn (bZ C B' F w) w .fn (f,[b1,b2,b3]) (kK (f,[b1,b2,b3])):=⟨rfl,⟨fun _=>rfl,fun e=>by cases e⟩,rfl⟩;obtain⟨eC,iM,aj,fV,o5⟩:=z8 (P:=P) (aF:=aq) (aJ:=.fn) bR jQ rfl O aC de key cw;have bv:=ml O;refine⟨{w with heap:=w.heap.setIfInBounds (ρ c).bf (.map (List.toArray eC) iM)},?_,t6 ((bg _).2 rfl),fun I aY=>o7.holds.2 ⟨bg,eC,iM,by simp[bv],fV.mono aY,o5⟩⟩;have aj:(Instr.mapUpdate T (.map (some (ρ c).bf)) (.int .i64 key) (kK (f,[b1,b2,b3]))).run P w= .ok () {w with heap:=w.heap.setIfInBounds (ρ c).bf (.map (List.toArray eC) iM)}:=aj;simp only[execOp,ai,aw3,af,ao,br,aj,au6,ax1]
def aiy (x:Option (aa .fn)):aN:=match x with
 |some x=>.b4 [.one (.d (.fn x)),.one (.d (.lit true))]
 |none=>.b4 [.one .any,.one (.d (.lit false))]
def Uz {I:Nat->Prop} {w:aH9} {x:aa .fn} {v:aI8} (h:jn I w .fn x v):v=kK x:=by have E:=h.2.1.1 rfl;have G:=h.2.2;rw[E] at G;have G:some v=some (kK x):=G;injection G
def Ni {aQ:df} (bl:d6 P aQ) {o:Oper} {T kt et:aI3} {x i:aI2} {c:Nat} (ai:o.op= .lookup T x i true) (bR:P.underlying T=some (.map kt et)) (jQ:P.underlying kt=some (.int .i64)) {ti:b8} (gW:aQ.find et=some ti) {es:List (aa aq×aa .fn)} (hx:a1 K x= .c (.one (.mp c))) {key:Int} (Z:a1 K i= .c (.one (.d (.int .i64 key))))
  (J:ae B c=some (.az (xp es))) {r:Option (aa .fn)} (aj:bX (aF:=aq) (aJ:=.fn) es key=r) (N:Nat):bx P N ids o K B (aiy r) ⟨[c],[],[]⟩:=by
 have cC:x∈o.op.operands:=aE4
 have dg:i∈o.op.operands:=aE4
 subst aj;obtain⟨G2,d,bu⟩:=bl.at_ gW;obtain⟨aH,aM,o4⟩:=bu.zero;refine bx.val fun K' B' g1 g2 C ρ F a w ak au=>?_
 obtain⟨bg,bT,bY,O,aC,de⟩:=(xq.holds (.inr rfl)).1 (ak.holds c _ ((g2 c aD9).trans J));have af:=au.mp ((g1 x cC).trans hx);have ao:a.eval i= .int .i64 key:=au.int ((g1 i dg).trans Z);have Lj:(zeroValue et).run P w= .ok aH w:=by simp[zeroValue,typeInfo,bu.jK,aM]
 have qQ:=fun e=>MapKept.run_checkKey (P:=P) (w:=w) jQ (sE (aF:=aq) (d:=.int .i64) rfl key) e 9999
 rcases z7 (I:=bZ C B' F w) (w:=w) (aF:=aq) (aJ:=.fn) (d:=.int .i64) rfl key es bT 0 aC with⟨bM,bU,_⟩ |⟨j,y,e,bM,bU,_,_,a5,_⟩
 .have hf:=MapKept.run_findKey (P:=P) (w:=w) jQ bM;refine⟨.tuple #[aH,.bool false],?_,by rw[bU];exact⟨[aH,.bool false],rfl,_,_,rfl,trivial,_,_,rfl,rfl,rfl⟩⟩
  have aj:(Instr.lookup T (.map (some (ρ c).bf)) (.int .i64 key) true).run P w= .ok (.tuple #[aH,.bool false]) w:=by
   simp only[gM] at qQ hf;simp[Instr.lookup,run_underlying bR,az1 O,qQ,hf,Lj,Result.andThen]
  simp only[execOp,ai,aw3,af,ao,aj,au6,ax1]
 .have hf:=MapKept.run_findKey (P:=P) (w:=w) jQ bM;have aD:=Uz a5;refine⟨.tuple #[kK y,.bool true],?_,by rw[bU];exact⟨[kK y,.bool true],rfl,_,_,rfl,rfl,_,_,rfl,rfl,rfl⟩⟩
  have aj:(Instr.lookup T (.map (some (ρ c).bf)) (.int .i64 key) true).run P w= .ok (.tuple #[kK y,.bool true]) w:=by
   simp only[gM] at qQ hf;simp[Instr.lookup,run_underlying bR,az1 O,qQ,hf,Result.andThen,aD]
  simp only[execOp,ai,aw3,af,ao,aj,au6,ax1]
def ac.UA (s f g9 ip og m1 m2 m3 b1 b2 b3:Nat) (aw:dX K s= .c (.one (.d (.fn (f,[b1,b2,b3]))))) (E:ae B m1=some (.b5 g9 (e7 b1))) (G:ae B m2=some (.b5 ip (e7 b2))) (ah:ae B m3=some (.b5 og (e7 b3))):ac ids K B ((s,.c (.one (.c2 f [.p g9 0,.p ip 0,.p og 0])))::K) B:=by
 rintro N C a w ⟨hn,H,ρ,F,ak,au⟩;refine⟨hn,H,ρ,F,ak,fun t=>?_⟩;rw[kM]
 split
 .rename_i e;subst e;have h:=au s;rw[aw] at h;have h:a.tmps.getD s undef=kK (f,[b1,b2,b3]):=h;have cl:=pN (N:=N) (a:=a) ak E;have cY:=pN (N:=N) (a:=a) ak G;have ek:=pN (N:=N) (a:=a) ak ah;exact⟨_,h,_,_,rfl,by rw[<-cl];rfl,_,_,rfl,by rw[<-cY];rfl,_,_,rfl,by rw[<-ek];rfl,rfl⟩
 .exact au t
end
abbrev Ed (k:Nat):aa aq×aa aq:=@Prod.mk Int Int (k:Int) 1
abbrev fZ (l:aH4):List (aa aq×aa aq):=l.map Ed
def nL (l:aH4) (k:Nat):aH4:=if k∈l then l else l++[k]
def Nj (l:aH4):(fZ l).length=l.length:=au3 _
def Ee (a b:Nat):fT aq (a:Int) (b:Int)=decide (a=b):=by
 show decide ((a:Int)=(b:Int))=_
 by_cases h:a=b
 .rw[au1 h,au1 aD7]
 .rw[ax2 h,ax2 aD7]
def aiz {l:aH5} {p:aa aq×aa aq} {k x:Int} (h:fT aq k p.1=true):dp (aF:=aq) (aJ:=aq) (p::l) k x= @Prod.mk Int Int k x::l:=by simp only[dp,h];rfl
def aiA {l:aH5} {p:aa aq×aa aq} {k x:Int} (h:fT aq k p.1=false):dp (aF:=aq) (aJ:=aq) (p::l) k x=p::dp (aF:=aq) (aJ:=aq) l k x:=by simp only[dp,h]
def aiB {l:aH5} {p:aa aq×aa aq} {k:Int} (h:fT aq k p.1=true):gN (aF:=aq) (aJ:=aq) (p::l) k=l:=by simp only[gN,h]
def aiC {l:aH5} {p:aa aq×aa aq} {k:Int} (h:fT aq k p.1=false):gN (aF:=aq) (aJ:=aq) (p::l) k=p::gN (aF:=aq) (aJ:=aq) l k:=by simp only[gN,h]
def Ef (k:Nat): ∀l:aH4,dp (aF:=aq) (aJ:=aq) (fZ l) (k:Int) (1:Int)=fZ (nL l k)
 | []=>rfl
 |x::l=>by
  by_cases h:k=x
  .refine(aiz (p:=Ed x) (l:=fZ l) ((Ee k x).trans (au1 h))).trans ?_;subst h;unfold nL;rw[vj (au7 ..)];rfl
  .refine(aiA (p:=Ed x) (l:=fZ l) ((Ee k x).trans (ax2 h))).trans ?_;rw[Ef k l];unfold nL
   by_cases G:k∈l
   .rw[vj G,vj (at4 _ G)];rfl
   .rw[mu G,mu (fun e=>by rcases at7.1 e with e |e;exact h e;exact G e)];rfl
def Nk (k:Nat): ∀l:aH4,gN (aF:=aq) (aJ:=aq) (fZ l) (k:Int)=fZ (l.erase k)
 | []=>rfl
 |x::l=>by
  by_cases h:k=x
  .refine(aiB (p:=Ed x) (l:=fZ l) ((Ee k x).trans (au1 h))).trans ?_;subst h;rw[List.erase_cons_head]
  .refine(aiC (p:=Ed x) (l:=fZ l) ((Ee k x).trans (ax2 h))).trans ?_;rw[Nk k l,List.erase_cons_tail (by simpa using fun e=>h e.symm)];rfl
def Eg {l:aH4} {k x:Nat}:x∈nL l k↔x∈l\/x=k:=by
 unfold nL
 split
 .rename_i h;exact⟨.inl,fun h'=>h'.elim id fun e=>e▸h⟩
 .rw[av9,au5]
def UB {l:aH4} {k:Nat} (h:l.Nodup):(nL l k).Nodup:=by
 unfold nL
 split
 .exact h
 .rename_i Z;rw[List.nodup_append];refine⟨h,aD9,fun a ha b O e=>?_⟩;rw[au5] at O;subst O e;exact Z ha
def vW (l:aH4):g3 (fZ l)=l.map fun k:Nat=>(k:Int):=by unfold g3 fZ;rw[ax7];rfl
def Nl {l:aH4} (h:l.Nodup):(g3 (fZ l)).Nodup:=by rw[vW];exact M7 (fun x _ y _ e=>by have e:(x:Int)=(y:Int):=e;omega) h
def Nm {l:aH4} (h: ∀k,k∈l->k<=1000000): ∀s∈g3 (fZ l),(Lit.int .i64 s).wf=true:=fun s aw=>by
 rw[vW] at aw;obtain⟨k,Z,rfl⟩:=av7.1 aw;have:=h k Z;show(decide (IntKind.i64.min<=(k:Int))&&decide ((k:Int)<=IntKind.i64.max))=true;rw[au1 (show(IntKind.i64.min:Int)<=(k:Int) from Int.le_trans (by decide:IntKind.i64.min<=(0:Int)) aD7),au1 (show(k:Int)<=IntKind.i64.max from Int.le_trans (by omega:(k:Int)<=1000000) aD8)];rfl
def eJ (l:aH4):Nat:=(po (l.map fun k:Nat=>(k:Int))).toNat
def HQ {l:aH4} (h:l≠[]):po (l.map fun k:Nat=>(k:Int))=((eJ l:Nat):Int)/\eJ l∈l/\ ∀y,y∈l->eJ l<=y:=by
 have a6:l.map (fun k:Nat=>(k:Int))≠[]:=aE6
 obtain⟨E,G⟩:=Ng a6;obtain⟨k,Z,U⟩:=av7.1 E;have aC:eJ l=k:=by unfold eJ;rw[<-U];rfl
 refine⟨by rw[aC,U],by rw[aC];exact Z,fun y aD=>?_⟩;have:=G _ (aw1 aD);rw[aC];omega
end
section
section
variable {z R:Nat} {L:aH6} {top base:aH3}
def aiD {vX kt:Nat} (cw:ef L base vX) (bR:ef L top kt) (bv:base=[]\/vX < kt) (E:top≠base) (G:top∉c6 L vX base) {n:aH3} {j:Nat} (h:ef L n j): ∃i,i<=j/\ef (d4 L top base) n i:=by
 have s7:ef (d4 L top base) base vX:=MS cw (az2 E) G
 have xk: ∀d,dk L top=some d-> ∀{j},ef L top j-> ∃i,i<=j/\ef (d4 L top base) top i:=fun d H j V=>by
  have e:dk (d4 L top base) top=some (eO top base d):=by rw[mF,H];rfl
  have vN:=HE (back:=base) (cP H).2;have A6:=Bx V bR
  by_cases O:base=[]
  .exact⟨0,at6 _,.base e (by rw[vN];exact O)⟩
  .exact⟨vX+1,by have:=bv.resolve_left O;omega,.step e (by rw[vN];exact O) (by rw[vN];exact s7)⟩
 induction h with
 |gone h=>exact⟨0,at6 _,.gone (by rw[mF,h];rfl)⟩
 | @base n d g1 g2=>
  have e:=(cP g1).2
  by_cases c:n=top
  .subst c;exact xk d g1 (.base g1 g2)
  .exact⟨0,at6 _,.base (d:=d) (by rw[mF,g1];show some (eO top base d)=_;rw[xl (by rw[e];exact c)]) g2⟩
 | @step n d j g1 g2 cL bk=>
  have e:=(cP g1).2
  by_cases c:n=top
  .subst c;exact xk d g1 (.step g1 g2 cL)
  .obtain⟨i,hi,H⟩:=bk;exact⟨i+1,aD7,.step (d:=d) (by rw[mF,g1];show some (eO top base d)=_;rw[xl (by rw[e];exact c)]) g2 H⟩
def aiE (h:b6 z R L):dk L []=none:=by
 cases x:dk L [] with
 |none=>rfl
 |some y=>exact at1 rfl (D' h ⟨y,x⟩)
def Nn (h:b6 z R L) {d:aI} (H:dk L top=some d) (hi:hN L top base=true):ig L top base=⟨0,d4 L top base⟩:=by
 obtain⟨g1,g2,cL⟩:=Un h H hi;have bR:=(h.b5 top).1;have cw:=(h.b5 base).1
 have bv:base=[]\/ce L base < ce L top:=by
  by_cases e:base=[]
  .exact .inl e
  .rw[mu e] at cL;exact .inr aD7
 have E:top≠base:=fun e=>by
  rcases bv with O |O
  .exact D' h ⟨d,H⟩ (e.trans O)
  .rw[e] at O;omega
 have G:top∉c6 L (ce L base) base:=fun aC=>by
  rcases bv with O |O
  .rw[O,show ce L []=0 from r4 (.gone (aiE h)) aD7] at aC
   cases aC
  .obtain⟨j,V,ah⟩:=MI cw top aC;have:=Bx ah bR;omega
 unfold ig;rw[mu,mu,vj]
 .intro n hn;obtain⟨i,hi,p3⟩:=aiD cw bR bv E G (h.b5 n).1;have:=(h.b5 n).2;rw[r4 p3 aD7];omega
 .exact fun x=>x.elim E G
 .rintro(x |x)
  .rw[H] at x;cases x
  .rw[ax5] at x;rcases g2 with e |⟨e,U⟩
   .exact(oj x.1) e
   .rw[U] at x;cases x.2
def UC {k:Nat} (h:oC L top base=some k):hN L top base=true/\k < b7 L top/\p4 L top base k=true/\ ∀j,j < k->p4 L top base j=false:=by
 unfold oC at h
 split at h
 .rename_i O;obtain⟨g1,g2,cL⟩:=List.find?_range_eq_some.1 h;exact⟨O,List.mem_range.1 g2,g1,fun j V=>by simpa using cL j V⟩
 .cases h
def aiF (O:hN L top base=true) (h:oC L top base=none): ∀k,k < b7 L top->p4 L top base k=false:=by unfold oC at h;rw[vj O] at h;intro k Z;simpa using List.find?_range_eq_none.1 h k Z
def aiG (h: ∀k,k < b7 L top->p4 L top base k=false):oC L top base=none:=by
 unfold oC
 split
 .exact List.find?_range_eq_none.2 fun k Z=>by simp[h k Z]
 .rfl
def aiH (h:b6 z R L) {t:aH3} {d:aI} {im:bL} (H:dk L t=some d) (aw:iv d.im im):kA (dn L t im none) top base=kA L top base/\hN (dn L t im none) top base=hN L top base:=by unfold kA hN;rw[HI h t im none top,Bw,(M' L H aw).2];exact⟨rfl,rfl⟩
end
def aiI {z R:Nat} {L:aH6} {top base:aH3} (h:b6 z R L) {d:aI} (H:dk L top=some d) (hi:hN L top base=true) (hn:oC L top base=none):b6 z R (d4 L top base)/\k3 z (d4 L top base) top=k3 z L top:=by
 have aj:=Nn h H hi;have zm:=MT h top base;rw[aj] at zm;have zm:b6 z R (d4 L top base):=zm;have da:dk (d4 L top base) top=some (eO top base d):=by rw[mF,H];rfl
 refine⟨zm,M9 ?_ (by rw[da,H];rfl) fun s aw=>?_⟩
 .unfold b7;rw[da,H];show(eO top base d).im.t.length=_;rw[D5]
 .have cA:b7 L top=d.im.t.length:=aF1
  rw[cA] at aw;have J:s/2 ^z < d.im.t.length:=(aA9 (Nat.two_pow_pos z)).2 aw;have:=ait h H hi (by rw[aj]) J (aiF hi hn _ (by rw[cA];exact J));rw[aj] at this;rw[r5,r5];exact at2 (fun x=>g0 x (s % 2 ^z)) this
end
section
def ac.th {ids:aH4} {K:aW} {B:ay} (c:Nat) {l l':List bA} (J:ae B c=some (.cells l)) (al:Fv l l'):ac ids K B K ((c,.cells l')::B):=by
 rintro N C a w ⟨hn,H,ρ,F,ak,au⟩
 obtain⟨bH,aY⟩:=ak.hT (w':=w) (ch:=.cells l') J (cU.refl _ _) fun I a7=>by
  obtain⟨E,aE,T,G,ah⟩:=ak.holds c _ J;exact⟨E,aE,T,G,KB al (cf.mono a7 _ _ (fun _ _=>rfl) ah)⟩
 exact⟨hn,H,ρ,F,bH,au.mono aY fun _ _ _=>rfl⟩
def xr (s:bL):Fn prog 140 [ap 1001] (dz s) [] (ab (s.z:Nat)) (dz s):=by refine aP [] func140 ?_;exact bb
end
section
abbrev No (top base:aH3) (over:Bool):List bA:=[.ptr 1001 0,.d (.str top),.d (.str base),.mp 2002,.d (.bool over)]
abbrev iW (z R:Int) (L:aH6) (top base:aH3) (l:aH4) (over:Bool):ay:=bP z R L++[(2001,.cells (No top base over)),(2002,.map aq aq (fZ l))]
def oD (L:aH6) (top:aH3):Int:=if(fh L top).2≠0\/(fh L top).1=[] then 140 else if 1 < (r3 L (fh L top).1).length then 143 else if b7 L (fh L top).1 < b7 L top then 1 else 0
def uA (L:aH6) (top:aH3):aH4:=(List.range (b7 L top)).filter fun k=> !hu L top k
def nM (z n:Nat) (l:aH4) (a aX:Int):aH4:=(List.range n).foldl (fun l k=>if a < ((k*2 ^z+2 ^z:Nat):Int)/\((k*2 ^z:Nat):Int) - aX < a then nL l k else l) l
def qR (L:aH6) (n:aH3) (k:Nat):Int:=match dk L n with
 |none=>0
 |some d=>(d.im.t.getD k b9).1
def iX (z:Nat) (L:aH6) (top base:aH3) (k:Nat):nK:=if qR L top k=1 then fw z L base ((k*2 ^z:Nat):Int) (gz z L top (k:Int)) else if qR L top k=2 then ky z L base ((k*2 ^z:Nat):Int) ((2 ^z:Nat):Int) else⟨0,L⟩
structure aiJ where
 done:Bool
 e:Int
 L:List aI
 l:aH4
 over:Bool
def e' (z:Nat) (L:aH6) (top base:aH3) (l:aH4) (over:Bool):aiJ:=if over=true then⟨false,150,L,l,true⟩ else if l=[] then⟨true,0,(kz L top 0 ((b7 L top*2 ^z:Nat):Int)).L,[],true⟩ else
 ⟨false,(iX z L top base (eJ l)).e,(iX z L top base (eJ l)).L,if(iX z L top base (eJ l)).e=0 then l.erase (eJ l) else l,false⟩
section
variable {z R:Nat} {L:aH6} {top base:aH3}
def aiK (z R:Int) (L:aH6) (top base:aH3) (l:aH4) (over:Bool):Fn prog 320 [ap 2001] (iW z R L top base l over) [] (gb over) (iW z R L top base l over):=by refine aP [] func320 ?_;exact bb
def UD (z R:Int) (L:aH6) (top base:aH3) (l:aH4) (over:Bool):Fn prog 322 [ap 2001] (iW z R L top base l over) [] g' (iW z R L top base [] true):=by refine aP [] func322 ?_;refine bm (Uy rfl underlying206 rfl rfl) ?_;exact⟨_,_,_,ac.th 2001 (l':=No top base true) rfl aA,rfl,trivial,aA,rfl⟩
def aiL (z R:Int) (L:aH6) (top base:aH3) (l:aH4) (over:Bool):Fn prog 319 [ap 2001] (iW z R L top base l over) [] g' (iW z R L top base [] true):=by refine aP [] func319 ?_;exact av (UD z R L top base l over) bb
def HR (U:oD L top=0):(fh L top).2=0/\(fh L top).1≠[]/\(r3 L (fh L top).1).length<=1/\b7 L top<=b7 L (fh L top).1:=by
 unfold oD at U
 split at U
 .exact at1 U aD8
 .rename_i E
  split at U
  .exact at1 U aD8
  .rename_i G
   split at U
   .exact at1 U aD8
   .rename_i ah;refine⟨ax9 fun e=>E (.inl e),fun e=>E (.inr e),aD7,aD7⟩
def Eh (h:b6 z R L) (E:(fh L top).2=0): ∃d,dk L top=some d/\(fh L top).1=d.back/\(d.back≠[]-> ∃e,dk L d.back=some e):=by
 unfold fh at E⊢
 cases H:dk L top with
 |none=>rw[H] at E;exact at1 E aD8
 |some d=>exact⟨d,rfl,rfl,h.iw d (cP H).1⟩
def aiM (h:b6 z R L) (top:aH3) (U:oD L top≠0):Fn prog 76 [ap 1001,bN top] (bP z R L) [] (.b4 [pL,dw (oD L top)]) (bP z R L):=by
 have iO:=HC h top;have yn:=T6 h (fh L top).1;have bu:=fun E=>Eh (top:=top) h E
 have nE:(fh L top).2≠0\/(fh L top).1=[]->oD L top=140:=fun e=>vj e
 have yC: ¬((fh L top).2≠0\/(fh L top).1=[])->1 < (r3 L (fh L top).1).length->oD L top=143:=fun af ao=>(mu af).trans (vj ao)
 have UE: ¬((fh L top).2≠0\/(fh L top).1=[])-> ¬1 < (r3 L (fh L top).1).length->b7 L (fh L top).1 < b7 L top->oD L top=1:=fun af ao br=>(mu af).trans ((mu ao).trans (vj br))
 have A3: ¬((fh L top).2≠0\/(fh L top).1=[])-> ¬1 < (r3 L (fh L top).1).length-> ¬b7 L (fh L top).1 < b7 L top->oD L top=0:=fun af ao br=>(mu af).trans ((mu ao).trans (mu br))
 generalize oD L top=asL at*;generalize fh L top=f0 at*;obtain⟨hO,be⟩:=f0;have iO:Fn prog 134 [ap 1001,bN top] (bP z R L) [] (.b4 [.one (.d (.str hO)),dw be]) (bP z R L):=iO;generalize r3 L hO=us at*;refine aP [4,6] func76 ?_;refine av iO ⟨fun E=>?_,fun E=>?_⟩
 .have E:(!decide (be=0))=true:=E;have E: ¬be=0:=aG9
  exact ea bn rfl ⟨rfl,(nE (.inl E)).symm,trivial⟩
 have E:(!decide (be=0))=false:=E;have E:be=0:=aG9
 refine⟨fun G=>?_,fun G=>?_⟩
 .have G:hO=[]:=gd G;exact ea bn rfl ⟨rfl,(nE (.inr G)).symm,trivial⟩
 have G: ¬hO=[]:=oj G;have hn: ¬(be≠0\/hO=[]):=fun e=>e.elim (fun e=>e E) G
 refine bw [6] (bn) <| av yn ⟨fun ah=>?_,fun ah=>?_⟩
 .have ah:decide ((1:Int) < ((us.length:Nat):Int))=true:=ah;have ah:1 < us.length:=by have:=gd ah;omega
  exact ea bn rfl ⟨rfl,(yC hn ah).symm,trivial⟩
 have ah:decide ((1:Int) < ((us.length:Nat):Int))=false:=ah;have ah: ¬1 < us.length:=by have:=oj ah;omega
 obtain⟨d,H,O,hs⟩:=bu E;have O:hO=d.back:=O;obtain⟨e,r6⟩:=hs (by rw[<-O];exact G);rw[<-O] at r6;have lq:=h.toiI.M (cP H).1;have Np:=h.toiI.M (cP r6).1;have hK:b7 L top=d.im.t.length:=aF1
 have fu:b7 L hO=e.im.t.length:=by unfold b7;rw[r6]
 rw[hK,fu] at UE A3;refine bw [] (cz [(0,ap 1001),(1,bN top),(6,bN hO)] (bP z R L)) <| av (jV _ _ L h.toiI hO e r6) <| av (h1 (nc e.im) Np rfl rfl rfl rfl) <| av (jV _ _ L h.toiI top d H) <| av (h1 (nc d.im) lq rfl rfl rfl rfl) ⟨fun aS=>?_,fun aS=>?_⟩
 .have aS:decide (((e.im.t.length:Nat):Int) < ((d.im.t.length:Nat):Int))=true:=aS;have aS:e.im.t.length < d.im.t.length:=by have:=gd aS;omega
  exact ea bn rfl ⟨rfl,(UE hn ah aS).symm,trivial⟩
 .exfalso;have aS:decide (((e.im.t.length:Nat):Int) < ((d.im.t.length:Nat):Int))=false:=aS;have aS: ¬e.im.t.length < d.im.t.length:=by have:=oj aS;omega
  exact U (A3 hn ah aS)
abbrev aiN (top hO:aH3) (n k:Nat):aW:=[(0,ap 1001),(1,bN top),(6,bN hO),(8,ap 44),(48,ab (n:Nat)),(49,ab (k:Nat))]
abbrev Nq (z R:Int) (L:aH6) (top base:aH3) (l:aH4):ay:=bP z R L++[(44,.cells [.ptr 1001 0,.d (.str top),.d (.str base),.mp 42,.d (.bool false)]),(42,.map aq aq (fZ l))]
def UF (p:Nat->Bool) (k:Nat):(List.range (k+1)).filter p=(List.range k).filter p++if p k=true then[k] else[]:=by
 rw[List.range_succ,List.filter_append]
 cases h:p k with
 |true=>rw[vj rfl,List.filter_cons_of_pos h];rfl
 |false=>rw[mu aD8,List.filter_cons_of_neg (by rw[h];decide)];rfl
def aiO (p:Nat->Bool) (k:Nat) (h:p k=true):nL ((List.range k).filter p) k=(List.range (k+1)).filter p:=by rw[UF,vj h];unfold nL;rw[mu (fun e=>by have:=List.mem_range.1 (aC1.1 e).1;omega)]
def aiP (h:b6 z R L) (top:aH3) (U:oD L top=0):Fn prog 76 [ap 1001,bN top] (bP z R L) [2001,2002] (.b4 [.one (.ptr 2001 0),dw 0]) (iW z R L top (fh L top).1 (uA L top) false):=by
 obtain⟨af,ao,br,c0⟩:=HR U;obtain⟨d,H,O,hs⟩:=Eh h af;obtain⟨e,r6⟩:=hs (by rw[<-O];exact ao);rw[<-O] at r6;have lq:=h.toiI.M (cP H).1;have Np:=h.toiI.M (cP r6).1;have lK:=(h.fK d (cP H).1).1.ez;have hK:b7 L top=d.im.t.length:=aF1
 have fu:b7 L (fh L top).1=e.im.t.length:=by unfold b7;rw[r6]
 have aiQ:uA L top=(List.range d.im.t.length).filter fun k=> !hu L top k:=by unfold uA;rw[hK]
 have aiR: ∀k,k < d.im.t.length->hu L top k=decide ((d.im.t.getD k b9).1=0):=fun k Z=>by
  unfold hu;rw[H];show(decide (d.im.t.length<=k)||_)=_;rw[ax2 aD7];rfl
 rw[hK,fu] at c0;rw[aiQ];have iO:=HC h top;have yn:=T6 h (fh L top).1;have aiS:=aiO (fun k=> !hu L top k);have aiT:=fun k (Z:hu L top k=true)=>UF (fun k=> !hu L top k) k
 generalize fh L top=f0 at*;obtain⟨hO,be⟩:=f0;have af:be=0:=af;have ao: ¬hO=[]:=ao;have br:(r3 L hO).length<=1:=br;subst af;have iO:Fn prog 134 [ap 1001,bN top] (bP z R L) [] (.b4 [.one (.d (.str hO)),dw 0]) (bP z R L):=iO;have yn:Fn prog 135 [ap 1001,bN hO] (bP z R L) [] (bE .str (r3 L hO)) (bP z R L):=yn;generalize r3 L hO=us at*;refine aP [4,6,8,9] func76 ?_;refine av iO <| dh ⟨fun G=>at1 (gd G) ao,fun _=>bw [6,8,9] (cz [(0,ap 1001),(1,bN top),(6,bN hO)] (bP z R L)) <| av yn ⟨fun ah=>?_,fun _=>?_⟩⟩
 .exfalso;have ah:decide ((1:Int) < ((us.length:Nat):Int))=true:=ah;have:=gd ah;omega
 refine bw [8,9] (cz [(0,ap 1001),(1,bN top),(6,bN hO)] (bP z R L)) <| av (jV _ _ L h.toiI hO e r6) <| av (h1 (nc e.im) Np rfl rfl rfl rfl) <| av (jV _ _ L h.toiI top d H) <| av (h1 (nc d.im) lq rfl rfl rfl rfl) ⟨fun aS=>?_,fun _=>?_⟩
 .exfalso;have aS:decide (((e.im.t.length:Nat):Int) < ((d.im.t.length:Nat):Int))=true:=aS;have:=gd aS;omega
 refine bw [9] (cz [(0,ap 1001),(1,bN top),(6,bN hO)] (bP z R L)) ⟨rfl,rfl,bw [] (ac.trans (ac.th 44 (l':=[.ptr 1001 0,.d (.str top),.d (.str hO),.mp 42,.d (.bool false)]) rfl aA) (cz [(0,ap 1001),(1,bN top),(6,bN hO),(8,ap 44)] (Nq z R L top hO []))) <| av (jV _ _ L h.toiI top d H) <| av (h1 (nc d.im) lq rfl rfl rfl rfl) <| dZ [12,13] (X:=Nat) (fun k=>aiN top hO d.im.t.length k) (fun k=>Nq z R L top hO ((List.range k).filter fun k=> !hu L top k)) (fun k=>k<=d.im.t.length) (fun k=>d.im.t.length - k) 0 (at6 _) ?_ ?_⟩
 .exact ac.sub aA aA
 intro k Z;have Z:k<=d.im.t.length:=Z;refine⟨fun J=>?_,fun J=>?_⟩
 .have J:decide ((k:Int) < ((d.im.t.length:Nat):Int))=true:=J;have hr:k < d.im.t.length:=aF7
  have bd:=aiR k hr;refine bw [13] (bn) <| av (jV _ _ L h.toiI top d H) <| av (h1 (Bg d.im lK k hr) lq rfl rfl rfl rfl) ⟨fun bB=>?_,fun bB=>?_⟩
  .have bB:(!decide ((d.im.t.getD k b9).1=0))=true:=bB;have r0:=aiS k (by show(!hu L top k)=true;rw[bd];exact bB);exact bw [] (cz [(0,ap 1001),(1,bN top),(6,bN hO),(8,ap 44),(48,ab (d.im.t.length:Nat)),(49,ab (k:Nat)),(9,ab (k:Nat))] (Nq z R L top hO ((List.range k).filter fun k=> !hu L top k))) ⟨trivial,aD7,k+1,hr,aD7,ac.sub aA ⟨rfl,rfl,rfl,rfl,rfl,at2 (fun aH=>some (a8.map aq aq aH)) ((Ef k _).trans (at2 fZ r0)),trivial⟩⟩
  .have bB:(!decide ((d.im.t.getD k b9).1=0))=false:=bB;have HS:hu L top k=true:=by rw[bd];simpa using bB
   have aw:=aiT k HS;rw[mu (by rw[HS];decide),av2] at aw;exact⟨aD7,k+1,hr,aD7,ac.sub aA ⟨rfl,rfl,rfl,rfl,rfl,at2 (fun aH=>some (a8.map aq aq (fZ aH))) aw.symm,trivial⟩⟩
 .have J:decide ((k:Int) < ((d.im.t.length:Nat):Int))=false:=J;have hr:k=d.im.t.length:=aF6
  subst hr;exact⟨_,_,_,ac.trans (ac.aT 44 2001 rfl) (ac.aT 42 2002 rfl),rfl,aA,aA,rfl⟩
end
section
variable {z R:Nat} {L:aH6} {top base:aH3}
def HT (z n:Nat) (l:aH4) (a aX:Int):nM z (n+1) l a aX=if a < ((n*2 ^z+2 ^z:Nat):Int)/\((n*2 ^z:Nat):Int) - aX < a then nL (nM z n l a aX) n else nM z n l a aX:=by unfold nM;rw[List.range_succ,aB9];rfl
def qS (z:Nat) (L:aH6) (top:aH3) (l:aH4) (over:Bool) (a aX:Int):aH4:=if over=true\/aX < 1 then l else nM z (b7 L top) l a aX
abbrev aiU (am:Nat) (a aX:Int) (n k:Nat):aW:=[(0,ap 2001),(1,ab a),(2,ab aX),(6,dd am),(31,ab (n:Nat)),(32,ab (k:Nat))]
def aiV (h:b6 z R L) (base:aH3) (l:aH4) (over:Bool) (a aX:Int) (vY:aX<=9223372036854775807) {d:aI} (H:dk L top=some d):Fn prog 122 [ap 2001,ab a,ab aX] (iW z R L top base l over) [] g' (iW z R L top base (qS z L top l over a aX) over):=by
 have lK:=(h.fK d (cP H).1).1.ez;have fg:=h.toiI.M (cP H).1;have j5:d.im.z=z:=(h.fK d (cP H).1).2.1;have ag:=jf h.b3;have xt:=h.b3;have cA:b7 L top=d.im.t.length:=aF1
 cases over with
 |true=>
  have e:qS z L top l true a aX=l:=vj (.inl rfl);rw[e];refine aP [] func122 ?_;exact av (jV _ _ L h.toiI top d H) ⟨rfl,fR bb⟩
 |false=>
  have af:aX < 1->qS z L top l false a aX=l:=fun e=>vj (.inr e)
  have ao: ¬aX < 1->qS z L top l false a aX=nM z d.im.t.length l a aX:=fun e=>(mu (fun c=>c.elim (fun c=>by cases c) e)).trans (by rw[cA])
  have au:=fun k=>HT z k l a aX
  have asM:nM z 0 l a aX=l:=rfl;generalize qS z L top l false a aX=kc at*
  have pp: ∀k:Nat,(k:Int)*((2 ^((d.im.z:Nat):Int).toNat:Nat):Int)=((k*2 ^z:Nat):Int):=fun k=>by
   rw[j5];show(k:Int)*((2 ^z:Nat):Int)=_;rw[aB3]
  have r7:(1:Int)*((2 ^((d.im.z:Nat):Int).toNat:Nat):Int)=((2 ^z:Nat):Int):=by
   have:=pp 1;rw[Nat.one_mul] at this;exact this
  refine aP [2] func122 ?_;refine av (jV _ _ L h.toiI top d H) ⟨rfl,dh ⟨fun _ _=>⟨fun al=>?_,fun al=>?_⟩,fun h=>by cases h⟩⟩
  .have al:aX < 1:=gd al;exact s4 bn rfl trivial ⟨rfl,rfl,rfl,rfl,rfl,at2 (fun aH=>some (a8.map aq aq (fZ aH))) (af al).symm,trivial⟩ rfl
  have al: ¬aX < 1:=oj al;have ao:=ao al;refine bw [] (cz [(0,ap 2001),(1,ab a),(2,ab aX),(6,dd d.am)] (iW z R L top base l false)) <| av (h1 (nc d.im) fg rfl rfl rfl rfl) <| dZ [6,7] (X:=Nat) (fun k=>aiU d.am a aX d.im.t.length k) (fun k=>iW z R L top base (nM z k l a aX) false) (fun k=>k<=d.im.t.length) (fun k=>d.im.t.length - k) 0 (at6 _) ?_ ?_
  .exact ac.sub aA aA
  intro k Z;have Z:k<=d.im.t.length:=Z;refine⟨fun J=>?_,fun J=>?_⟩
  .have J:decide ((k:Int) < ((d.im.t.length:Nat):Int))=true:=J;have hr:k < d.im.t.length:=aF7
   have UG:=pp k;have UH:=au k;have mk:k*2 ^z<=256*8:=ay8 aD7 ag.2;have m1:(0:Int)<=(k:Int)/\(0:Int)<=((d.im.z:Nat):Int)/\((d.im.z:Nat):Int)<=64:=aE5
   have m2:c5 ((k:Int)*((2 ^((d.im.z:Nat):Int).toNat:Nat):Int)):=by rw[UG];omega
   have cC:(0:Int)<=(1:Int)/\(0:Int)<=((d.im.z:Nat):Int)/\((d.im.z:Nat):Int)<=64:=aE5
   have dg:c5 ((1:Int)*((2 ^((d.im.z:Nat):Int).toNat:Nat):Int)):=by rw[r7];omega
   have jd:c5 (((k*2 ^z:Nat):Int)+(1:Int)*((2 ^((d.im.z:Nat):Int).toNat:Nat):Int)):=by rw[r7];omega
   have pj:c5 (((k*2 ^z:Nat):Int) - aX):=aE5
   have UI:((k*2 ^z:Nat):Int)+(1:Int)*((2 ^((d.im.z:Nat):Int).toNat:Nat):Int)=((k*2 ^z+2 ^z:Nat):Int):=by rw[r7];omega
   refine av (h1 (xr d.im) fg rfl rfl rfl rfl) ⟨m1,m2,bw [7] (ac.sub (K':=[(0,ap 2001),(1,ab a),(2,ab aX),(6,dd d.am),(31,ab (d.im.t.length:Nat)),(32,ab (k:Nat)),(7,ab (k:Nat)),(8,ab ((k*2 ^z:Nat):Int))]) (B':=iW z R L top base (nM z k l a aX) false) ⟨rfl,rfl,rfl,rfl,rfl,rfl,rfl,UG,trivial⟩ aA) <| av (h1 (xr d.im) fg rfl rfl rfl rfl) ⟨cC,dg,jd,?_⟩⟩;have xu:(¬(a < ((k*2 ^z+2 ^z:Nat):Int)/\((k*2 ^z:Nat):Int) - aX < a))->nM z k l a aX=nM z (k+1) l a aX:=fun e=>by rw[UH,mu e]
   refine⟨fun cu=>?_,fun cu=>?_⟩
   .have cu:decide (a < ((k*2 ^z:Nat):Int)+(1:Int)*((2 ^((d.im.z:Nat):Int).toNat:Nat):Int))=true:=cu;have cu:=gd cu;rw[UI] at cu;refine⟨pj,fun cp=>?_,fun cp=>?_⟩
    .have cp:decide (((k*2 ^z:Nat):Int) - aX < a)=true:=cp;have cp:=gd cp;have a2:nL (nM z k l a aX) k=nM z (k+1) l a aX:=by rw[UH,vj ⟨cu,cp⟩]
     exact bw [] (cz [(0,ap 2001),(1,ab a),(2,ab aX),(6,dd d.am),(31,ab (d.im.t.length:Nat)),(32,ab (k:Nat)),(7,ab (k:Nat))] (iW z R L top base (nM z k l a aX) false)) ⟨trivial,aD7,k+1,hr,aD7,ac.sub aA ⟨rfl,rfl,rfl,rfl,rfl,at2 (fun aH=>some (a8.map aq aq aH)) ((Ef k _).trans (at2 fZ a2)),trivial⟩⟩
    .have cp:decide (((k*2 ^z:Nat):Int) - aX < a)=false:=cp;have cp:=oj cp;exact⟨aD7,k+1,hr,aD7,ac.sub aA ⟨rfl,rfl,rfl,rfl,rfl,at2 (fun aH=>some (a8.map aq aq (fZ aH))) (xu fun e=>cp e.2),trivial⟩⟩
   .have cu:decide (a < ((k*2 ^z:Nat):Int)+(1:Int)*((2 ^((d.im.z:Nat):Int).toNat:Nat):Int))=false:=cu;have cu:=oj cu;rw[UI] at cu;exact⟨aD7,k+1,hr,aD7,ac.sub aA ⟨rfl,rfl,rfl,rfl,rfl,at2 (fun aH=>some (a8.map aq aq (fZ aH))) (xu fun e=>cu e.1),trivial⟩⟩
  .have J:decide ((k:Int) < ((d.im.t.length:Nat):Int))=false:=J;have hr:k=d.im.t.length:=aF6
   subst hr;exact s4 bn rfl trivial ⟨rfl,rfl,rfl,rfl,rfl,at2 (fun aH=>some (a8.map aq aq (fZ aH))) ao.symm,trivial⟩ rfl
abbrev HU (z R:Int) (L:aH6) (top base:aH3) (l:aH4) (x y:Int):ay:=iW z R L top base l false++[(3001,.cells [.ptr 2001 0]),(3002,.cells [.d (.int .i64 x)]),(3003,.cells [.d (.int .i64 y)])]
def aiW (h:b6 z R L) (base:aH3) (l:aH4) (a:Int) (k:Nat) {d:aI} (H:dk L top=some d) (Z:k < d.im.t.length):Fn prog 325 [ap 3001,ap 3002,ap 3003] (HU z R L top base l a (k:Int)) [] (ab (fw z L base a (gz z L top (k:Int))).e) (HU z R (fw z L base a (gz z L top (k:Int))).L top base l a (k:Int)):=by
 have dR:=MU h top (k:Int);have ag:=jf h.b3
 have bW:(gz z L top (k:Int)).length<=1000000000:=by
  have:gz z L top (k:Int)=fl z L top (ce L top) k:=by
   unfold gz;rw[H];simp only;rw[vj ⟨aD7,aD7⟩];rfl
  rw[this,za h.tonJ H (h.b5 top).1 k];omega
 have HV:=MP h base a (gz z L top (k:Int)) bW;generalize gz z L top (k:Int)=x at*;generalize fw z L base a x=r at*;refine aP [] func325 ?_;exact av dR <| av HV ⟨rfl,bb⟩
def aiX (h:b6 z R L) (top base:aH3) (l:aH4) (a aX:Int):Fn prog 326 [ap 3001,ap 3002,ap 3003] (HU z R L top base l a aX) [] (ab (ky z L base a aX).e) (HU z R (ky z L base a aX).L top base l a aX):=by have aiY:=ah8 h base a aX;generalize ky z L base a aX=r at*;refine aP [] func326 ?_;exact av aiY ⟨rfl,bb⟩
abbrev Ei (z R:Int) (L:aH6) (top base:aH3) (l:aH4) (k a aX:Int) (d7 fe fm g4:Nat) (es:List (aa aq×aa .fn)):ay:=iW z R L top base l false++[(4,.cells [.ptr 2001 0]),(5,.cells [.d (.int .i64 k)]),(6,.cells [.d (.int .i64 a)]),(7,.cells [.d (.int .i64 aX)]),(9004,.b5 4 (e7 d7)),(9005,.b5 5 (e7 fe)),(9006,.b5 6 (e7 fm)),(9007,.b5 7 (e7 g4)),(12,.az (xp es))]
def r8 (d7 fe fm g4:Nat):List (aa aq×aa .fn):=dp (aF:=aq) (aJ:=.fn) (dp (aF:=aq) (aJ:=.fn) [] (1:Int) (325,[d7,fm,fe])) (2:Int) (326,[d7,fm,g4])
def aiZ (d7 fe fm g4:Nat):bX (aF:=aq) (aJ:=.fn) (r8 d7 fe fm g4) (1:Int)=some (325,[d7,fm,fe]):=rfl
def ai0 (d7 fe fm g4:Nat):bX (aF:=aq) (aJ:=.fn) (r8 d7 fe fm g4) (2:Int)=some (326,[d7,fm,g4]):=rfl
def ai1 (d7 fe fm g4:Nat) {x:Int} (E:x≠1) (G:x≠2):bX (aF:=aq) (aJ:=.fn) (r8 d7 fe fm g4) x=none:=by have af:fT aq x (1:Int)=false:=ax2 E;have ao:fT aq x (2:Int)=false:=ax2 G;have e:r8 d7 fe fm g4=[(@Prod.mk (aa aq) (aa .fn) (1:Int) (325,[d7,fm,fe])),(@Prod.mk (aa aq) (aa .fn) (2:Int) (326,[d7,fm,g4]))]:=rfl;rw[e];simp only[bX,af,ao]
def ai2 (h:b6 z R L) (base:aH3) (l:aH4) (k:Nat) (a aX:Int) (ha:a=((k*2 ^z:Nat):Int)) (aV:aX=((2 ^z:Nat):Int)) {d:aI} (H:dk L top=some d) (Z:k < d.im.t.length):Fn prog 324 [ap 2001,ab (k:Int),ab a,ab aX] (iW z R L top base l false) [] (ab (iX z L top base k).e) (iW z R (iX z L top base k).L top base l false):=by
 have lK:=(h.fK d (cP H).1).1.ez;have fg:=h.toiI.M (cP H).1;have vZ:qR L top k=(d.im.t.getD k b9).1:=by unfold qR;rw[H]
 have BH:=Bg d.im lK k Z;rw[<-vZ] at BH;have jx:=aiW h base l a k H Z;have iq:=aiX h top base l a aX
 by_cases cu:qR L top k=1
 .have e:iX z L top base k=fw z L base a (gz z L top (k:Int)):=by rw[ha];exact vj cu
  rw[e];rw[cu] at BH;generalize fw z L base a (gz z L top (k:Int))=r at*;refine aP [1,2,3,5] func324 ?_;refine⟨rfl,rfl,rfl,rfl,bG.fW (dF.mark 4 9004 rfl aD8) fun d7=>bG.fW (dF.mark 5 9005 rfl aD8) fun fe=>bG.fW (dF.mark 6 9006 rfl aD8) fun fm=>bG.fW (dF.mark 7 9007 rfl aD8) fun g4=>bw [2,3,5] (bn) ⟨rfl,bm (BG (m1:=9004) (m2:=9006) (m3:=9005) (b1:=d7) (b2:=fm) (b3:=fe) (ch':=.map aq .fn (dp (aF:=aq) (aJ:=.fn) [] (1:Int) (325,[d7,fm,fe]))) rfl underlying390 underlying3 rfl rfl rfl rfl rfl rfl rfl (.inl rfl) (.inl rfl)) ?_⟩⟩;refine bm (BG (m1:=9004) (m2:=9006) (m3:=9007) (b1:=d7) (b2:=fm) (b3:=g4) (ch':=.az (xp (r8 d7 fe fm g4))) rfl underlying390 underlying3 rfl rfl rfl rfl rfl rfl rfl (.inl rfl) (.inr rfl)) ?_;refine bw [3,5] (cz [(4,ap 4),(5,ap 5),(6,ap 6),(7,ap 7),(9,.c (.one (.mp 12)))] (Ei z R L top base l k a aX d7 fe fm g4 (r8 d7 fe fm g4))) <| av (jV _ _ L h.toiI top d H) <| av (h1 BH fg rfl rfl rfl rfl) <| bm (Ni eY (ti:=_) rfl underlying390 underlying3 rfl rfl rfl rfl (aiZ d7 fe fm g4)) ?_;exact⟨rfl,bw [5] (cz [(10,.c (.one (.d (.fn (325,[d7,fm,fe]))))),(11,qq true)] (Ei z R L top base l k a aX d7 fe fm g4 (r8 d7 fe fm g4))) <| bG.le (ac.UA 10 325 4 6 5 9004 9006 9005 d7 fm fe rfl rfl rfl rfl) <| bw [] (bn) <| av (Fn.aT [(3001,4),(3002,6),(3003,5)] jx) bb⟩
 by_cases cp:qR L top k=2
 .have e:iX z L top base k=ky z L base a aX:=by rw[ha,aV];exact(mu cu).trans (vj cp)
  rw[e];rw[cp] at BH;generalize ky z L base a aX=r at*;refine aP [1,2,3,5] func324 ?_;refine⟨rfl,rfl,rfl,rfl,bG.fW (dF.mark 4 9004 rfl aD8) fun d7=>bG.fW (dF.mark 5 9005 rfl aD8) fun fe=>bG.fW (dF.mark 6 9006 rfl aD8) fun fm=>bG.fW (dF.mark 7 9007 rfl aD8) fun g4=>bw [2,3,5] (bn) ⟨rfl,bm (BG (m1:=9004) (m2:=9006) (m3:=9005) (b1:=d7) (b2:=fm) (b3:=fe) (ch':=.map aq .fn (dp (aF:=aq) (aJ:=.fn) [] (1:Int) (325,[d7,fm,fe]))) rfl underlying390 underlying3 rfl rfl rfl rfl rfl rfl rfl (.inl rfl) (.inl rfl)) ?_⟩⟩;refine bm (BG (m1:=9004) (m2:=9006) (m3:=9007) (b1:=d7) (b2:=fm) (b3:=g4) (ch':=.az (xp (r8 d7 fe fm g4))) rfl underlying390 underlying3 rfl rfl rfl rfl rfl rfl rfl (.inl rfl) (.inr rfl)) ?_;refine bw [3,5] (cz [(4,ap 4),(5,ap 5),(6,ap 6),(7,ap 7),(9,.c (.one (.mp 12)))] (Ei z R L top base l k a aX d7 fe fm g4 (r8 d7 fe fm g4))) <| av (jV _ _ L h.toiI top d H) <| av (h1 BH fg rfl rfl rfl rfl) <| bm (Ni eY (ti:=_) rfl underlying390 underlying3 rfl rfl rfl rfl (ai0 d7 fe fm g4)) ?_;exact⟨rfl,bw [5] (cz [(10,.c (.one (.d (.fn (326,[d7,fm,g4]))))),(11,qq true)] (Ei z R L top base l k a aX d7 fe fm g4 (r8 d7 fe fm g4))) <| bG.le (ac.UA 10 326 4 6 7 9004 9006 9007 d7 fm g4 rfl rfl rfl rfl) <| bw [] (bn) <| av (Fn.aT [(3001,4),(3002,6),(3003,7)] iq) bb⟩
 .have e:iX z L top base k=⟨0,L⟩:=(mu cu).trans (mu cp);rw[e];have hw:=fun d7 fe fm g4=>ai1 d7 fe fm g4 cu cp
  generalize qR L top k=cQ at*;refine aP [1,2,3,5] func324 ?_;refine⟨rfl,rfl,rfl,rfl,bG.fW (dF.mark 4 9004 rfl aD8) fun d7=>bG.fW (dF.mark 5 9005 rfl aD8) fun fe=>bG.fW (dF.mark 6 9006 rfl aD8) fun fm=>bG.fW (dF.mark 7 9007 rfl aD8) fun g4=>bw [2,3,5] (bn) ⟨rfl,bm (BG (m1:=9004) (m2:=9006) (m3:=9005) (b1:=d7) (b2:=fm) (b3:=fe) (ch':=.map aq .fn (dp (aF:=aq) (aJ:=.fn) [] (1:Int) (325,[d7,fm,fe]))) rfl underlying390 underlying3 rfl rfl rfl rfl rfl rfl rfl (.inl rfl) (.inl rfl)) ?_⟩⟩;refine bm (BG (m1:=9004) (m2:=9006) (m3:=9007) (b1:=d7) (b2:=fm) (b3:=g4) (ch':=.az (xp (r8 d7 fe fm g4))) rfl underlying390 underlying3 rfl rfl rfl rfl rfl rfl rfl (.inl rfl) (.inr rfl)) ?_;refine bw [3,5] (cz [(4,ap 4),(5,ap 5),(6,ap 6),(7,ap 7),(9,.c (.one (.mp 12)))] (Ei z R L top base l k a aX d7 fe fm g4 (r8 d7 fe fm g4))) <| av (jV _ _ L h.toiI top d H) <| av (h1 BH fg rfl rfl rfl rfl) <| bm (Ni eY (ti:=_) rfl underlying390 underlying3 rfl rfl rfl rfl (hw d7 fe fm g4)) ?_;exact⟨rfl,bw [5] (cz [(11,qq false)] (iW z R L top base l false)) bb⟩
end
section
variable {z R:Nat} {L:aH6} {top base:aH3}
def ai3 (h:b6 z R L) (base:aH3) (l:aH4) (over:Bool) {d:aI} (H:dk L top=some d) (al: ∀k,k∈l->k < d.im.t.length) (hn:l.Nodup):Fn prog 321 [ap 2001] (iW z R L top base l over) [] (.b4 [.one (.d (.bool (e' z L top base l over).done)),dw (e' z L top base l over).e]) (iW z R (e' z L top base l over).L top base (e' z L top base l over).l (e' z L top base l over).over):=by
 have lK:=(h.fK d (cP H).1).1.ez;have fg:=h.toiI.M (cP H).1;have j5:d.im.z=z:=(h.fK d (cP H).1).2.1;have xt:=h.b3;have ag:=jf h.b3
 cases over with
 |true=>
  have e:e' z L top base l true=⟨false,150,L,l,true⟩:=vj rfl;rw[e];refine aP [] func321 ?_;exact av (jV _ _ L h.toiI top d H) ⟨rfl,fR bb⟩
 |false=>
  have r7:(1:Int)*((2 ^((d.im.z:Nat):Int).toNat:Nat):Int)=((2 ^z:Nat):Int):=by
   rw[j5,Int.one_mul];rfl
  have cC:(0:Int)<=(1:Int)/\(0:Int)<=((d.im.z:Nat):Int)/\((d.im.z:Nat):Int)<=64:=aE5
  have dg:c5 ((1:Int)*((2 ^((d.im.z:Nat):Int).toNat:Nat):Int)):=by rw[r7];omega
  by_cases a6:l=[]
  .have cA:b7 L top=d.im.t.length:=aF1
   have e:e' z L top base l false=⟨true,0,(kz L top 0 ((d.im.t.length*2 ^z:Nat):Int)).L,[],true⟩:=by
    unfold e';rw[mu aD8,vj a6,cA]
   rw[e];subst a6;have gY:=ah9 h top 0 ((d.im.t.length*2 ^z:Nat):Int);have asN:=ah7 h top 0 ((d.im.t.length*2 ^z:Nat):Int);have mk:d.im.t.length*2 ^z<=256*8:=ay8 lK ag.2;have em:((d.im.t.length:Nat):Int)*((2 ^z:Nat):Int)=((d.im.t.length*2 ^z:Nat):Int):=by rw[aB3]
   have m3:c5 (((d.im.t.length:Nat):Int)*((2 ^z:Nat):Int)):=by rw[em];omega
   rw[<-em] at gY⊢;generalize kz L top 0 (((d.im.t.length:Nat):Int)*((2 ^z:Nat):Int))=r at*;refine aP [4,6,7] func321 ?_;exact av (jV _ _ L h.toiI top d H) ⟨rfl,dh ⟨fun _ _=>bw [6,7] (cz [(0,ap 2001),(4,dd d.am)] (iW z R L top base [] false)) <| av (h1 (xr d.im) fg rfl rfl rfl rfl) ⟨cC,dg,fR <| bw [7] (ac.sub (K':=[(0,ap 2001),(4,dd d.am),(5,ab ((2 ^z:Nat):Int))]) (B':=iW z R L top base [] false) ⟨rfl,rfl,r7,trivial⟩ aA) <| av (h1 (nc d.im) fg rfl rfl rfl rfl) ⟨m3,av gY ⟨rfl,bw [] (cz [(0,ap 2001)] (iW z R r.L top base [] false)) <| av (UD z R r.L top base [] false) bb⟩⟩⟩,fun h=>by cases h⟩⟩
  .have e:e' z L top base l false=⟨false,(iX z L top base (eJ l)).e,(iX z L top base (eJ l)).L,if(iX z L top base (eJ l)).e=0 then l.erase (eJ l) else l,false⟩:=by
    unfold e';rw[mu aD8,mu a6]
   rw[e];obtain⟨cr,cv,dm⟩:=HQ a6;have Z:=al _ cv
   have CE: ∀g:{hh:List Int//hh.Perm (g3 (fZ l))},po g.1=((eJ l:Nat):Int):=fun g=>by
    rw[Uw g.2 (by rw[vW];simpa using a6),vW];exact cr
   have vH: ∀g:{hh:List Int//hh.Perm (g3 (fZ l))},g.1.length=l.length:=fun g=>by
    rw[g.2.length_eq,vW,au3]
   have ll:l.length<=256:=by
    have:=HM d.im.t.length l hn al;omega
   have nF:0 < l.length:=List.length_pos_iff.2 a6;have Di:=Nj l;have Nr:=Uu (fZ l) (Nl hn) (Nm fun k Z=>by have:=al k Z;omega) aD7;have mk:eJ l*2 ^z<=256*8:=ay8 aD7 ag.2;have em:((eJ l:Nat):Int)*((2 ^z:Nat):Int)=((eJ l*2 ^z:Nat):Int):=by rw[aB3]
   have m3:c5 (((eJ l:Nat):Int)*((2 ^z:Nat):Int)):=by rw[em];omega
   have ai4:=ai2 h base l (eJ l) _ _ em rfl H Z;have da:=Nk (eJ l) l;generalize eJ l=r9 at*;generalize iX z L top base r9=r at*;refine aP [4,9,10,12] func321 ?_;refine av (jV _ _ L h.toiI top d H) ⟨rfl,dh ⟨fun _ _=>bw [9,10,12] (cz [(0,ap 2001),(4,dd d.am)] (iW z R L top base l false)) <| av (h1 (xr d.im) fg rfl rfl rfl rfl) ⟨cC,dg,fun J=>?_,fun _=>?_⟩,fun h=>by cases h⟩⟩
   .exfalso;have J:decide ((((fZ l).length:Nat):Int)=0)=true:=J;have:=gd J;omega
   refine bG.le (ac.sub (K':=[(0,ap 2001),(5,ab ((2 ^z:Nat):Int))]) (B':=iW z R L top base l false) ⟨rfl,r7,trivial⟩ aA) <| bG.iF eY aE0 <| ov ((Fn.aT [(1001,2002),(2001,9001)] (Nd (fZ l))).x) fun _=>ov (cD.aT [(1001,2002),(2001,9001)] Nr) fun g=>?_
   have ai5:=vH g;have zn:=CE g;refine ov ((Ux g.1 aD7 aD7).x) fun _=>bw [12] (ac.sub (K':=[(0,ap 2001),(5,ab ((2 ^z:Nat):Int)),(6,ab (r9:Nat))]) (B':=iW z R L top base l false) ⟨rfl,rfl,zn,trivial⟩ aA) ⟨m3,av ai4 ⟨fun U=>?_,fun U=>?_⟩⟩
   .have U:r.e=0:=gd U;exact bw [] (cz [(0,ap 2001),(6,ab (r9:Nat)),(7,ab r.e)] (iW z R r.L top base l false)) <| s4 bn rfl aA ⟨rfl,rfl,rfl,rfl,rfl,at2 (fun aH=>some (a8.map aq aq aH)) (da.trans (at2 fZ (vj U).symm)),trivial⟩ rfl
   .have U: ¬r.e=0:=oj U;exact s4 bn rfl aA ⟨rfl,rfl,rfl,rfl,rfl,at2 (fun aH=>some (a8.map aq aq (fZ aH))) (mu U).symm,trivial⟩ rfl
end
end
section
section
variable {z R:Nat} {L:aH6}
def iV.aR {L':aH6} {t:aH3} (al:iV L t L') (n:aH3):b7 L' n=b7 L n/\(dk L' n).isSome=(dk L n).isSome:=by
 rcases al with rfl |⟨d,im,ar,aw,rfl⟩
 .exact⟨rfl,rfl⟩
 .exact M' L ar aw
end
end
section
section
variable {z R:Nat} {L:aH6} {top base:aH3} {l:aH4}
structure lO (z R:Nat) (L:aH6) (top:aH3) (l:aH4):Prop where
 cs:b6 z R L
 iw:(dk L top).isSome=true
 lt: ∀k,k∈l->k < b7 L top
 hY:l.Nodup
def lO.r' {L':aH6} {t:aH3} (h:lO z R L top l) (al:iV L t L'):lO z R L' top l:=⟨al.cs h.cs,by rw[(al.aR top).2];exact h.iw,fun k Z=>by rw[(al.aR top).1];exact h.lt k Z,h.hY⟩
def Ej (h:b6 z R L) (top base:aH3) (k:Nat):iV L base (iX z L top base k).L:=by
 unfold iX
 split
 .exact xm h _ _ _
 .split
  .exact HH h _ _ _
  .exact .inl rfl
def lO.step (h:lO z R L top l) (base:aH3) (over:Bool):lO z R (e' z L top base l over).L top (e' z L top base l over).l:=by
 unfold e'
 split
 .exact h
 .split
  .exact⟨(h.r' (vU h.cs _ _ _)).cs,(h.r' (vU h.cs _ _ _)).iw,fun k Z=>(by cases Z),az4⟩
  .have E:=h.r' (Ej h.cs top base (eJ l));refine⟨E.cs,E.iw,fun k Z=>E.lt k ?_,?_⟩
   .have Z:k∈(if(iX z L top base (eJ l)).e=0 then l.erase (eJ l) else l):=Z
    split at Z
    .exact List.mem_of_mem_erase Z
    .exact Z
   .show(if(iX z L top base (eJ l)).e=0 then l.erase (eJ l) else l).Nodup
    split
    .exact h.hY.erase _
    .exact h.hY
def lO.HW (h:b6 z R L) (U:oD L top=0):lO z R L top (uA L top):=by obtain⟨d,H,_⟩:=Eh h (HR U).1;exact⟨h,by rw[H];rfl,fun k Z=>List.mem_range.1 (aC1.1 Z).1,List.nodup_range.filter _⟩
def lO.get (h:lO z R L top l): ∃d,dk L top=some d/\ ∀k,k∈l->k < d.im.t.length:=by obtain⟨d,H⟩:=aw9.1 h.iw;refine⟨d,H,fun k Z=>?_⟩;have:=h.lt k Z;unfold b7 at this;rw[H] at this;exact this
def lO.Ns (h:lO z R L top l) (base:aH3) (over:Bool):Fn prog 321 [ap 2001] (iW z R L top base l over) [] (.b4 [.one (.d (.bool (e' z L top base l over).done)),dw (e' z L top base l over).e]) (iW z R (e' z L top base l over).L top base (e' z L top base l over).l (e' z L top base l over).over):=
 let⟨_,H,al⟩:=h.get
 ai3 h.cs base l over H al h.hY
def ai6 {z n:Nat} {l:aH4} {a aX:Int}: ∀{k:Nat},k∈nM z n l a aX->k∈l\/k < n:=by
 induction n with
 |zero=>exact fun h=>.inl h
 |succ n bk=>
  intro k Z;rw[HT] at Z
  split at Z
  .rcases Eg.1 Z with Z |rfl
   .exact(bk Z).imp id aD7
   .exact .inr aD7
  .exact(bk Z).imp id aD7
def ai7 {z n:Nat} {l:aH4} {a aX:Int} (h:l.Nodup):(nM z n l a aX).Nodup:=by
 induction n with
 |zero=>exact h
 |succ n bk=>
  rw[HT]
  split
  .exact UB bk
  .exact bk
def lO.wr (h:lO z R L top l) (over:Bool) (a aX:Int):lO z R L top (qS z L top l over a aX):=by
 unfold qS
 split
 .exact h
 .exact⟨h.cs,h.iw,fun k Z=>(ai6 Z).elim (h.lt k) id,ai7 h.hY⟩
end
section
variable {z R:Nat} {L:aH6} {top base nm:aH3} {l:aH4}
def ai8 {d:aI} (H:dk L top=some d) {k:Nat} (Z:k < d.im.t.length):gz z L top (k:Int)=fl z L top (ce L top) k:=by unfold gz;rw[H];simp only;rw[vj ⟨aD7,aD7⟩];rfl
structure lr (z R:Nat) (L:aH6) (top base:aH3) (l:aH4):Prop extends lO z R L top l where
 vX:(dk L base).isSome=true
 le:b7 L top<=b7 L base
 f0:fh L top=(base,0)
 ne:base≠[]
def lr.HW (h:b6 z R L) (U:oD L top=0):lr z R L top (fh L top).1 (uA L top):=by obtain⟨af,ao,br,c0⟩:=HR U;obtain⟨d,H,O,hs⟩:=Eh h af;obtain⟨e,r6⟩:=hs (by rw[<-O];exact ao);rw[<-O] at r6;exact⟨lO.HW h U,by rw[r6];rfl,c0,by rw[<-af],ao⟩
def iV.fh {L':aH6} {t:aH3} (al:iV L t L') (n:aH3):fh L' n=fh L n:=by
 rcases al with rfl |⟨d,im,ar,aw,rfl⟩
 .rfl
 .unfold Go.Proofs.YtgclhiekndohdaaGreat.fh;rw[vQ]
  cases H:dk L n with
  |none=>rfl
  |some d=>show(_,_)=(_,_);rw[zh]
def lr.r' {L':aH6} {t:aH3} (h:lr z R L top base l) (al:iV L t L'):lr z R L' top base l:=⟨h.tolO.r' al,by rw[(al.aR base).2];exact h.vX,by rw[(al.aR base).1,(al.aR top).1];exact h.le,by rw[al.fh];exact h.f0,h.ne⟩
def lr.step (h:lr z R L top base l) (over:Bool):lr z R (e' z L top base l over).L top base (e' z L top base l over).l/\ ∃t,iV L t (e' z L top base l over).L:=by
 have aC:=h.tolO.step base over
 have al: ∃t,iV L t (e' z L top base l over).L:=by
  unfold e'
  split
  .exact⟨top,.inl rfl⟩
  .split
   .exact⟨top,vU h.cs _ _ _⟩
   .exact⟨base,Ej h.cs top base _⟩
 refine⟨?_,al⟩;obtain⟨t,al⟩:=al;have E:=h.r' al;exact⟨aC,E.vX,E.le,E.f0,E.ne⟩
def lr.wr (h:lr z R L top base l) (over:Bool) (a aX:Int):lr z R L top base (qS z L top l over a aX):=⟨h.tolO.wr over a aX,h.vX,h.le,h.f0,h.ne⟩
end
def gm (z:Nat) (L:aH6) (nm:aH3) (s:Nat):aH3:=jC z L nm (ce L nm) s
def sa (z:Nat) (L:aH6) (top base:aH3) (l:aH4):Prop:= ∀s,s < b7 L top*2 ^z->s/2 ^z∉l->gm z L top s=gm z L base s
section
variable {z R:Nat} {L L':aH6} {top base t:aH3} {l:aH4}
def lr.dk (h:lr z R L top base l): ∃d,Go.Proofs.YtgclhiekndohdaaGreat.dk L top=some d/\d.back=base:=by
 have O:=h.f0;unfold fh at O
 cases H:Go.Proofs.YtgclhiekndohdaaGreat.dk L top with
 |none=>rw[H] at O;exact at1 (at2 Prod.snd O) (show¬(140:Int)=0 by decide)
 |some d=>
  rw[H] at O;exact⟨d,rfl,at2 Prod.fst O⟩
def xv {L L':aH6} {n sH:aH3} {s:Nat} (h:fl z L' sH (ce L' sH) (s/2 ^z)=fl z L n (ce L n) (s/2 ^z)):gm z L' sH s=gm z L n s:=by unfold gm;rw[r5,r5,h]
def Ek (h:b6 z R L) {d:aI} (H:dk L top=some d) (a6:d.back≠[]) {c:Nat} (aM:(d.im.t.getD c b9).1=0):fl z L top (ce L top) c=fl z L d.back (ce L d.back) c:=by rw[zk H (fun e=>e.2 aM),M0 h H a6,MY H]
def Nt {d:aI} (H:dk L top=some d) {cQ c:Nat} (J:c < d.im.t.length) (aM:(d.im.t.getD c b9).1≠0):fl z L top cQ c=eh d.im c none:=by unfold fl;rw[HG H ⟨J,aM⟩]
def HX {n s:Nat} (h:s < n*2 ^z):s/2 ^z < n:=(aA9 (Nat.two_pow_pos z)).2 h
def ai9 (h:b6 z R L) (al:iV L base L') {d:aI} (H:dk L top=some d) (O:d.back=base) (a6:base≠[]):dk L' top=some d/\b6 z R L'/\ ∀s,s < b7 L top*2 ^z->
  ((d.im.t.getD (s/2 ^z) b9).1≠0->gm z L' top s=gm z L top s)/\((d.im.t.getD (s/2 ^z) b9).1=0->gm z L' top s=gm z L' base s/\gm z L top s=gm z L base s):=by
 subst O;have s7:=M2 h H a6;have fC:=al.cs h
 have c4:dk L' top=some d:=by
  rcases al with rfl |⟨e,im,ar,aw,rfl⟩
  .exact H
  .rw[Hx (fun e=>s7.ne e.symm),H]
 refine⟨c4,fC,fun s aw=>⟨fun aM=>?_,fun aM=>?_⟩⟩
 .have J:=HX aw;have cA:b7 L top=d.im.t.length:=aF1
  rw[cA] at J;exact xv (by rw[Nt c4 J aM,Nt H J aM])
 .exact⟨xv (Ek fC c4 a6 aM),xv (Ek h H a6 aM)⟩
def BI {k s:Nat}:(k*2 ^z<=s/\s < k*2 ^z+2 ^z)↔s/2 ^z=k:=by have ag:=Nat.two_pow_pos z;rw[Nat.div_eq_iff ag];have:(k+1)*2 ^z=k*2 ^z+2 ^z:=aA6 ..;omega
def ai' {k s:Nat} (h:s/2 ^z=k):s - k*2 ^z=s % 2 ^z:=by have E:=Nat.div_add_mod s (2 ^z);rw[h,aB7] at E;omega
def aja (h:lr z R L top base l) {k:Nat} (Z:k < b7 L top) (U:(iX z L top base k).e=0) (s:Nat):gm z (iX z L top base k).L base s=if s/2 ^z=k then gm z L top s else gm z L base s:=by
 obtain⟨d,H,O⟩:=h.dk;have ag:=jf h.cs.b3;have cA:b7 L top=d.im.t.length:=aF1
 have vZ:qR L top k=(d.im.t.getD k b9).1:=by unfold qR;rw[H]
 rw[cA] at Z;have ax:=(h.cs.fK d (cP H).1).1
 by_cases cu:qR L top k=1
 .have e:iX z L top base k=fw z L base ((k*2 ^z:Nat):Int) (gz z L top (k:Int)):=vj cu;rw[e,ai8 H Z] at U⊢;have hw:=HL h.cs U s;have bW:(fl z L top (ce L top) k).length=16*2 ^z:=za h.cs.tonJ H (h.cs.b5 top).1 k;rw[bW,show 16*2 ^z/16=2 ^z by omega] at hw;have hw:gm z (fw z L base ((k*2 ^z:Nat):Int) (fl z L top (ce L top) k)).L base s=if k*2 ^z<=s/\s < k*2 ^z+2 ^z then g0 (fl z L top (ce L top) k) (s - k*2 ^z) else gm z L base s:=hw
  rw[hw]
  by_cases c:s/2 ^z=k
  .rw[vj (BI.2 c),vj c,ai' c];unfold gm;rw[r5,c]
  .rw[mu (fun e=>c (BI.1 e)),mu c]
 .by_cases cp:qR L top k=2
  .have e:iX z L top base k=ky z L base ((k*2 ^z:Nat):Int) ((2 ^z:Nat):Int):=(mu cu).trans (vj cp);rw[e] at U⊢;have hw:gm z (ky z L base ((k*2 ^z:Nat):Int) ((2 ^z:Nat):Int)).L base s=if k*2 ^z<=s/\s < k*2 ^z+2 ^z then List.replicate 16 0 else gm z L base s:=Ul h.cs U s
   rw[hw]
   by_cases c:s/2 ^z=k
   .rw[vj (BI.2 c),vj c];unfold gm;rw[r5,c,Nt H Z (by rw[<-vZ,cp];decide)];have aV:d.im.t[k]? =some d.im.t[k]:=as7 Z;have rn:d.im.t.getD k b9=d.im.t[k]:=by rw[at3,aV];rfl
    have a2:d.im.t[k]? =some ut:=by
     rcases ax.slot k _ aV with e |e |⟨x,e,_⟩
     .rw[rn,e] at vZ;rw[vZ] at cp;exact at1 cp aD8
     .rw[aV,e]
     .rw[rn,e] at vZ;rw[vZ] at cp;exact at1 cp (show¬(1:Int)=2 by decide)
    rw[M5 a2];unfold iH;rw[BE h.cs H,HJ];have:=Nat.mod_lt s (Nat.two_pow_pos z);omega
   .rw[mu (fun e=>c (BI.1 e)),mu c]
  .have e:iX z L top base k=⟨0,L⟩:=(mu cu).trans (mu cp);rw[e];show gm z L base s=_
   split
   .rename_i c;have aV:d.im.t[k]? =some d.im.t[k]:=as7 Z;have rn:d.im.t.getD k b9=d.im.t[k]:=by rw[at3,aV];rfl
    have aM:(d.im.t.getD k b9).1=0:=by
     rcases ax.slot k _ aV with e |e |⟨x,e,_⟩
     .rw[rn,e]
     .exact at1 (by rw[vZ,rn,e]) cp
     .exact at1 (by rw[vZ,rn,e]) cu
    subst O;exact(xv (by rw[c];exact Ek h.cs H h.ne aM)).symm
   .rfl
def ajb (h:b6 z R L) (U:oD L top=0):sa z L top (fh L top).1 (uA L top):=fun s aw hn=>by
 obtain⟨af,ao,_⟩:=HR U;obtain⟨d,H,O,_⟩:=Eh h af;have J:=HX aw
 have bd:hu L top (s/2 ^z)=true:=by
  cases e:hu L top (s/2 ^z) with
  |true=>rfl
  |false=>exact at1 (aC1.2 ⟨List.mem_range.2 J,by rw[e];rfl⟩) hn
 have cA:b7 L top=d.im.t.length:=aF1
 unfold hu at bd;rw[H] at bd;have bd:(decide (d.im.t.length<=s/2 ^z)||decide ((d.im.t.getD (s/2 ^z) b9).1=0))=true:=bd;rw[ax2 aD7,Bool.false_or] at bd;rw[O] at ao⊢;exact xv (Ek h H ao (gd bd))
def ajc (h:lr z R L top base l) (aB:sa z L top base l) {k:Nat} (Z:k < b7 L top) (U:(iX z L top base k).e=0):sa z (iX z L top base k).L top base (l.erase k)/\ ∀s,s < b7 L top*2 ^z->gm z (iX z L top base k).L top s=gm z L top s:=by
 obtain⟨d,H,O⟩:=h.dk;have lD:=Ej h.cs top base k;obtain⟨cl,cY,ek⟩:=ai9 h.cs lD H O h.ne;have bl:=aja h Z U
 have bR: ∀s,s < b7 L top*2 ^z->gm z (iX z L top base k).L top s=gm z L top s:=fun s aw=>by
  by_cases aM:(d.im.t.getD (s/2 ^z) b9).1=0
  .obtain⟨g1,g2⟩:=(ek s aw).2 aM;rw[g1,bl]
   split
   .rfl
   .exact g2.symm
  .exact(ek s aw).1 aM
 refine⟨fun s aw hn=>?_,bR⟩;rw[(lD.aR top).1] at aw;rw[bR s aw,bl]
 split
 .rfl
 .rename_i c;exact aB s aw fun aC=>hn ((List.mem_erase_of_ne c).2 aC)
def ajd (h:lr z R L top base []) (aB:sa z L top base []):sa z (kz L top 0 ((b7 L top*2 ^z:Nat):Int)).L top base []/\(∀s,s < b7 L top*2 ^z->gm z (kz L top 0 ((b7 L top*2 ^z:Nat):Int)).L top s=gm z L top s)/\ ∀k,k < b7 L top->qR (kz L top 0 ((b7 L top*2 ^z:Nat):Int)).L top k=0:=by
 obtain⟨d,H,O⟩:=h.dk;subst O;have ax:=(h.cs.fK d (cP H).1).1;have cA:b7 L top=d.im.t.length:=aF1
 have dM:b7 L top*2 ^z=e0 d.im:=by rw[BC h.cs H,cA]
 have lD:=vU h.cs top 0 ((b7 L top*2 ^z:Nat):Int);have fC:=lD.cs h.cs;have s7:=M2 h.cs H h.ne;obtain⟨_,gH,mA⟩:=lD.off h.cs s7
 have cG:(kz L top 0 ((b7 L top*2 ^z:Nat):Int)).L=dn L top (Bk d.im 0 (e0 d.im)) none:=by
  unfold kz;rw[H];simp only;rw[dM,mu (fun bd=>bd (Uc ax (at0 _)))];rfl
 have c4:dk (kz L top 0 ((b7 L top*2 ^z:Nat):Int)).L top=some {d with im:=Bk d.im 0 (e0 d.im),cT:=none}:=by rw[cG];exact zi H _ _
 have Z: ∀k,k < b7 L top->((Bk d.im 0 (e0 d.im)).t.getD k b9).1=0:=fun k Z=>by
  rw[at3,aig ax aD7];rfl
 have de: ∀s,gm z (kz L top 0 ((b7 L top*2 ^z:Nat):Int)).L d.back s=gm z L d.back s:=fun s=>xv (mA _)
 have bR: ∀s,s < b7 L top*2 ^z->gm z (kz L top 0 ((b7 L top*2 ^z:Nat):Int)).L top s=gm z L d.back s:=fun s aw=>by
  rw[<-de];exact xv (Ek fC c4 h.ne (Z _ (HX aw)))
 refine⟨fun s aw _=>?_,fun s aw=>?_,fun k ey=>?_⟩
 .rw[(lD.aR top).1] at aw;rw[bR s aw,de]
 .rw[bR s aw];exact(aB s aw aD9).symm
 .unfold qR;rw[c4];exact Z k ey
def UJ {n:Nat} {l:aH4} {a aX:Int} {k:Nat} (h:k∈l\/(k < n/\a < ((k*2 ^z+2 ^z:Nat):Int)/\((k*2 ^z:Nat):Int) - aX < a)):k∈nM z n l a aX:=by
 induction n with
 |zero=>
  rcases h with h |h
  .exact h
  .exact at1 h.1 (aC7 _)
 |succ n bk=>
  rw[HT]
  by_cases c:k=n
  .rcases h with h |⟨E,G⟩
   .have:=bk (.inl h)
    split
    .exact Eg.2 (.inl this)
    .exact this
   .subst c;rw[vj G];exact Eg.2 (.inr rfl)
  .have:=bk (h.imp id fun h=>⟨aD7,h.2⟩)
   split
   .exact Eg.2 (.inl this)
   .exact this
def aje (h:lr z R L top base l) (aB:sa z L top base l) {a N:Nat} (lD:iV L top L') (hw: ∀s,¬(a<=s/\s < a+N)->gm z L' top s=gm z L top s):sa z L' top base (qS z L' top l false (a:Int) (N:Int)):=fun s aw hn=>by
 obtain⟨d,H,O⟩:=h.dk;subst O;obtain⟨_,gH,mA⟩:=lD.off h.cs (M2 h.cs H h.ne);rw[(lD.aR top).1] at aw;have de:gm z L' d.back s=gm z L d.back s:=xv (mA _);unfold qS at hn
 by_cases gU:(N:Int) < 1
 .rw[vj (.inr gU)] at hn;rw[de,hw s aD7];exact aB s aw hn
 .rw[mu (by rintro(e |e);cases e;exact gU e)] at hn;have E:s/2 ^z∉l:=fun e=>hn (UJ (.inl e))
  rw[de,hw s fun⟨r1,r2⟩=>hn (UJ (.inr ⟨by rw[(lD.aR top).1];exact HX aw,?_,?_⟩))]
  .exact aB s aw E
  .have:=(BI (z:=z)).2 (rfl:s/2 ^z=s/2 ^z);omega
  .have:=(BI (z:=z)).2 (rfl:s/2 ^z=s/2 ^z);omega
def UK (aw:b7 L' top=b7 L top) (Z:(dk L' top).isSome=(dk L top).isSome) (h: ∀s,s < b7 L top*2 ^z->gm z L' top s=gm z L top s):k3 z L' top=k3 z L top:=M9 aw Z h
def ajf (z:Nat) (L:aH6) (top base:aH3):e' z L top base [] false=⟨true,0,(kz L top 0 ((b7 L top*2 ^z:Nat):Int)).L,[],true⟩:=rfl
def ajg (h:b6 z R L) {k:Nat} (U:(iX z L top base k).e≠0):(iX z L top base k).L=L:=by
 unfold iX at U⊢
 split at U
 .rename_i c;rw[vj c];exact HN h U
 .rename_i c;rw[mu c]
  split at U
  .rename_i c;rw[vj c];exact M8 h U
  .rename_i c;rw[mu c]
def UL (h:lr z R L top base l) (aB:sa z L top base l):sa z (e' z L top base l false).L top base (e' z L top base l false).l/\k3 z (e' z L top base l false).L top=k3 z L top:=by
 by_cases a6:l=[]
 .subst a6;rw[ajf];obtain⟨g1,g2,_⟩:=ajd h aB;have lD:=vU h.cs top 0 ((b7 L top*2 ^z:Nat):Int);exact⟨g1,UK (lD.aR top).1 (lD.aR top).2 g2⟩
 .unfold e';rw[mu aD8,mu a6]
  by_cases U:(iX z L top base (eJ l)).e=0
  .rw[vj U];obtain⟨g1,g2⟩:=ajc h aB (h.lt _ (HQ a6).2.1) U;have lD:=Ej h.cs top base (eJ l);exact⟨g1,UK (lD.aR top).1 (lD.aR top).2 g2⟩
  .rw[mu U,ajg h.cs U];exact⟨aB,rfl⟩
end
section
variable {z R:Nat} {L:aH6} {top base:aH3} {l:aH4}
end
end
section
section
variable {P:aI0} {ids:aH4} {K:aW} {B:ay}
def BJ {o:Oper} {op:BinOp} {T gc:aI3} {x y:aI2} {n m r:Int} (ai:o.op= .binOp op T x y gc) (hx:a1 K x= .c (.one (.d (.int .i64 n)))) (aD:a1 K y= .c (.one (.d (.int .i64 m))))
  (h:(op= .add/\r=IntKind.i64.wrap (n+m))\/(op= .sub/\r=IntKind.i64.wrap (n - m))\/(op= .quo/\m≠0/\r=IntKind.i64.wrap (n.tdiv m))) (N:Nat):bx P N ids o K B (.c (.one (.d (.int .i64 r)))) ⟨[],[],[]⟩:=by
 have m1:x∈o.op.operands:=aE4
 have m2:y∈o.op.operands:=aE4
 refine bx.val fun K' B' g1 g2 C ρ F fq w ak au=>?_
 have af:=au.int ((g1 x m1).trans hx);have ao:=au.int ((g1 y m2).trans aD);refine⟨.int .i64 r,?_,rfl⟩;simp only[execOp,ai,af,ao];rcases h with⟨rfl,rfl⟩ |⟨rfl,rfl⟩ |⟨rfl,aC,rfl⟩
 .simp[eqGuard,go_sem,Op.intArith]
 .simp[eqGuard,go_sem,Op.intArith]
 .simp[eqGuard,go_sem,Op.intDiv,aC]
end
abbrev Nu (s g:Int):List bA:=[.d (.int .i64 s),.d (.int .i64 g),.mp 1002]
abbrev jg (s g:Int) (es:aH5):ay:=[(1001,.cells (Nu s g)),(1002,.map aq aq es)]
def UM (s:Int):Fn prog 132 [ab s] [] [] (gb (decide (0<=s)&&decide (s<=4096))) []:=by
 refine aP [] func132 ?_;refine⟨fun E=>?_,fun E=>?_⟩
 .have E:decide (0<=s)=true:=E;exact ea bn rfl (show decide (s<=4096)=(decide (0<=s)&&decide (s<=4096)) by rw[E];rfl)
 .have E:decide (0<=s)=false:=E;exact ea bn rfl (show false=(decide (0<=s)&&decide (s<=4096)) by rw[E];rfl)
def nh (s g:Int):Bool:=((decide (0<=s)&&decide (s<=4096))&&(!decide (g < 1)&& !decide (64 < g)))&&decide (((g.toNat &&& (g - 1).toNat:Nat):Int)=0)
def Nv {s g:Int} (h:nh s g=true):(0<=s/\s<=4096)/\1<=g/\g<=64:=by unfold nh at h;simp only[as8,av3,aw0,decide_eq_false_iff_not] at h;obtain⟨⟨⟨E,G⟩,ah,aS⟩,_⟩:=h;omega
def UN (s g:Int) (h:nh s g=true):Fn prog 74 [ab s,ab g] [] [2001,2002] (.b4 [.one (.ptr 2001 0),dw 0]) [(2001,.cells [.d (.int .i64 s),.d (.int .i64 g),.mp 2002]),(2002,.map aq aq [])]:=by
 obtain⟨g1,g2,cL⟩:=Nv h;have aj:=UM s;rw[au1 g1.1,au1 g1.2] at aj;unfold nh at h;simp only[as8] at h;have bB:=h.2;have m1:c5 (g - 1):=aE5
 refine aP [] func74 ?_;refine av aj <| dh ⟨fun h=>at1 (gd h) aD7,fun _=>⟨fun h=>at1 (gd h) aD7,fun _=>⟨m1,bm (fun N=>Ml rfl rfl rfl aD7 aD7 aD7 aD7 N) ?_⟩⟩⟩;refine⟨fun h=>?_,fun _=>?_⟩
 .exfalso;have h:(!decide (((g.toNat &&& (g - 1).toNat:Nat):Int)=0))=true:=h;rw[bB] at h
  cases h
 exact⟨rfl,rfl,_,_,_,ac.trans (ac.aT 28 2001 rfl) (ac.aT 26 2002 rfl),rfl,aA,aA,rfl⟩
def ajh (s g:Int) (h:nh s g=false):Fn prog 74 [ab s,ab g] [] [] (.b4 [pL,dw 1]) []:=by
 have aj:=UM s;unfold nh at h;generalize(decide (0<=s)&&decide (s<=4096))=b at*;refine aP [] func74 ?_;refine av aj ⟨fun _=>?_,fun E=>?_⟩
 .exact bb
 have E:b=true:=by
  have E:(!b)=false:=E;simpa using E
 refine⟨fun _=>?_,fun G=>?_⟩
 .exact bb
 refine⟨fun _=>?_,fun ah=>?_⟩
 .exact bb
 have G:decide (g < 1)=false:=G;have ah:decide (64 < g)=false:=ah;rw[E,G,ah] at h;have cv:=oj G;have dm:=oj ah;have m1:c5 (g - 1):=aE5
 refine⟨m1,bm (fun N=>Ml rfl rfl rfl aD7 aD7 aD7 aD7 N) ?_⟩;refine⟨fun _=>?_,fun aS=>?_⟩
 .exact bb
 .exfalso;have aS:(!decide (((g.toNat &&& (g - 1).toNat:Nat):Int)=0))=false:=aS;have h:((true&&(!false&& !false))&&decide (((g.toNat &&& (g - 1).toNat:Nat):Int)=0))=false:=h;generalize decide (((g.toNat &&& (g - 1).toNat:Nat):Int)=0)=c at*
  cases c
  .cases aS
  .cases h
def Nw (s g:Int) (es:aH5):Fn prog 85 [ap 1001] (jg s g es) [] (ab s) (jg s g es):=by refine aP [] func85 ?_;exact bb
def zo (aH:Int):Bool:=decide (0 < aH)
def ke (g:Int) (es:aH5) (k:Nat):Bool:=zo ((bX (aF:=aq) (aJ:=aq) es ((k:Int)/g)).getD (cO aq))
def UO (s g:Int) (es:aH5) (k:Nat) (aV:1<=g) (Z:(k:Int) < s) (aw:s<=4096):Fn prog 141 [ap 1001,ab (k:Int)] (jg s g es) [] (gb (ke g es k)) (jg s g es):=by
 have a2:(0:Int)<=(k:Int)/g:=aD2 aD7 aD7;have El:(k:Int)/g<=(k:Int):=Int.ediv_le_self _ aD7;have m1:c5 ((k:Int)/g):=aE5
 refine aP [] func141 ?_;exact⟨fun _=>⟨fun _=>⟨⟨aD7,aD7⟩,m1,rfl,bb⟩,fun h=>at1 (oj h) aD7⟩,fun h=>at1 (oj h) aD7⟩
def qT (es:aH5) (f:Int):Nat->List (aa aq×aa aq)
 |0=>es
 |n+1=>dp (aF:=aq) (aJ:=aq) (qT es f n) (f+(n:Int)) (1:Int)
abbrev sb (s g:Int) (es:aH5):ay:=jg s g es++[(3001,.cells [.ptr 1001 0])]
def aji (s g:Int) (es:aH5) (k:Int):Fn prog 185 [ab k,ap 3001] (sb s g es) [] g' (sb s g (dp (aF:=aq) (aJ:=aq) es k (1:Int))):=by refine aP [] func185 ?_;exact⟨trivial,bb⟩
abbrev ajj (d9 k:Int):aW:=[(4,ab d9),(5,.c (.one (.c2 185 [.p 3001 0]))),(13,ab k)]
def ajk (s g:Int) (es:aH5) (fr bJ f1 d9:Int) (E:0<=bJ) (G:0<=fr) (ah:bJ<=s) (aS:fr<=s - bJ) (aw:s<=4096) (bB:0<=f1) (ej:d9<=1000000):Fn prog 184 [ap 1001,ab fr,ab bJ,ab f1,ab d9,.c (.one (.c2 185 [.p 3001 0]))] (sb s g es) [] (ab 0) (sb s g (qT es f1 (d9 - f1).toNat)):=by
 have m1:c5 (s - bJ):=aE5
 refine aP [] func184 ?_;refine⟨fun h=>at1 (gd h) aD7,fun _=>⟨fun h=>at1 (gd h) aD7,fun _=>⟨fun h=>at1 (gd h) aD7,fun _=>⟨m1,fun h=>at1 (gd h) aD7,fun _=>dZ [6] (X:=Nat) (fun j=>ajj d9 (f1+(j:Int))) (fun j=>sb s g (qT es f1 j)) (fun j=>j<=(d9 - f1).toNat) (fun j=>(d9 - f1).toNat - j) 0 (at6 _) ?_ ?_⟩⟩⟩⟩
 .exact ac.sub ⟨rfl,rfl,(show f1=f1+((0:Nat):Int) by omega),trivial⟩ aA
 intro j V;have V:j<=(d9 - f1).toNat:=V;refine⟨fun J=>?_,fun J=>?_⟩
 .have J:decide (f1+(j:Int) < d9)=true:=J;have J:=gd J;exact bw [] (bn) <| av (aji s g (qT es f1 j) (f1+(j:Int))) ⟨aD7,j+1,aD7,aD7,ac.sub ⟨rfl,rfl,(show f1+(j:Int)+1=f1+((j+1:Nat):Int) by omega),trivial⟩ aA⟩
 .have J:decide (f1+(j:Int) < d9)=false:=J;have J:=oj J;have fE:j=(d9 - f1).toNat:=aE5
  subst fE;exact bb
def ajl (s g:Int) (es:aH5) (fr bJ f1 d9:Int) (h: ¬(0<=bJ/\0<=fr/\bJ<=s/\fr<=s - bJ)) (aw:0<=s/\s<=4096):Fn prog 184 [ap 1001,ab fr,ab bJ,ab f1,ab d9,.c (.one (.c2 185 [.p 3001 0]))] (sb s g es) [] (ab 1) (sb s g es):=by
 refine aP [] func184 ?_;refine⟨fun _=>?_,fun cr=>?_⟩
 .exact bb
 refine⟨fun _=>?_,fun cv=>?_⟩
 .exact bb
 refine⟨fun _=>?_,fun dm=>?_⟩
 .exact bb
 have cr: ¬bJ < 0:=oj cr;have cv: ¬fr < 0:=oj cv;have dm: ¬s < bJ:=oj dm;have m1:c5 (s - bJ):=aE5
 refine⟨m1,fun _=>?_,fun eu=>?_⟩
 .exact bb
 .exfalso;have eu: ¬s - bJ < fr:=oj eu;exact h aD7
def v1 (s fr bJ:Int):Prop:=0<=bJ/\0<=fr/\bJ<=s/\fr<=s - bJ
instance (s fr bJ:Int):Decidable (v1 s fr bJ):=by unfold v1;infer_instance
def lP (s g:Int) (es:aH5) (fr bJ:Int):List (aa aq×aa aq):=if v1 s fr bJ then qT es (fr/g) ((if bJ=0 then 0 else(fr+bJ+g - 1)/g) - fr/g).toNat else es
abbrev HY (fr bJ d9:Int):aW:=[(1,ab fr),(2,ab bJ),(3,ap 3),(7,ab d9)]
abbrev Em (s g:Int) (es:aH5):ay:=jg s g es++[(3,.cells [.ptr 1001 0])]
def Nx (s g:Int) (es:aH5) (fr bJ:Int) (aw:0<=s/\s<=4096) (aV:1<=g/\g<=64):Fn prog 123 [ap 1001,ab fr,ab bJ] (jg s g es) [] (ab (if v1 s fr bJ then 0 else 1)) (jg s g (lP s g es fr bJ)):=by
 by_cases aB:v1 s fr bJ
 .have bC:lP s g es fr bJ=qT es (fr/g) ((if bJ=0 then 0 else(fr+bJ+g - 1)/g) - fr/g).toNat:=vj aB;rw[bC,vj aB];obtain⟨nw,v2,v3,v4⟩:=aB;have d3:(0:Int)<=fr/g:=aD2 aD7 aD7;have cX:fr/g<=fr:=Int.ediv_le_self _ aD7;have dJ:(0:Int)<=(fr+bJ+g - 1)/g:=aD2 aD7 aD7;have dN:(fr+bJ+g - 1)/g<=fr+bJ+g - 1:=Int.ediv_le_self _ aD7;have cC:c5 (fr+bJ):=aE5
  have dg:c5 (fr+bJ+g):=aE5
  have jd:c5 (fr+bJ+g - 1):=aE5
  have pj:c5 ((fr+bJ+g - 1)/g):=aE5
  have n5:c5 (fr/g):=aE5
  have n6:(0:Int)<=fr+bJ+g - 1/\0 < g:=aE5
  have n7:(0:Int)<=fr/\0 < g:=aE5
  have U:=fun d9 (h:d9<=1000000)=>ajk s g es fr bJ (fr/g) d9 nw v2 v3 v4 aw.2 d3 h
  have jq:=U _ (show(fr+bJ+g - 1)/g<=1000000 by omega);have gG:=U 0 aD8;generalize yV:(fr+bJ+g - 1)/g=d9 at*;generalize El:fr/g=f1 at*;refine aP [4] func123 ?_;refine⟨rfl,?_⟩;refine⟨cC,dg,jd,n6,by rw[yV];exact pj,rfl,fun al=>?_,fun al=>?_⟩
  .have al:bJ=0:=gd al;rw[vj al];refine bw [] (cz (HY fr bJ 0) (Em s g es)) ?_;exact⟨n7,by rw[El];exact n5,av (Fn.arg (args:=[ap 1001,ab fr,ab bJ,ab (fr/g),ab 0,.c (.one (.c2 185 [.p 3001 0]))]) gG ⟨rfl,rfl,rfl,El,rfl,rfl,trivial⟩ |> Fn.aT [(3001,3)]) ⟨rfl,bb⟩⟩
  .have al: ¬bJ=0:=oj al;rw[mu al];refine bw [] (ac.sub (K':=HY fr bJ d9) (B':=Em s g es) ⟨rfl,rfl,rfl,yV,trivial⟩ aA) ?_;exact⟨n7,by rw[El];exact n5,av (Fn.arg (args:=[ap 1001,ab fr,ab bJ,ab (fr/g),ab d9,.c (.one (.c2 185 [.p 3001 0]))]) jq ⟨rfl,rfl,rfl,El,rfl,rfl,trivial⟩ |> Fn.aT [(3001,3)]) ⟨rfl,bb⟩⟩
 .have bC:lP s g es fr bJ=es:=mu aB;rw[bC,mu aB];have U:=fun f1 d9=>ajl s g es fr bJ f1 d9 aB aw
  refine aP [1,4] func123 ?_;refine⟨rfl,bG.nB (2000000+10) aD8 <| bG.nB (2000000+15) aD8 <| bG.nB (2000000+16) aD8 <| bG.nB (2000000+21) aD8 <| bw [4] (bn) <| bm (BJ rfl rfl rfl (.inl ⟨rfl,rfl⟩)) ?_⟩;refine bm (BJ rfl rfl rfl (.inl ⟨rfl,rfl⟩)) ?_;refine bm (BJ rfl rfl rfl (.inr (.inl ⟨rfl,rfl⟩))) ?_;refine bm (fun N=>BJ rfl rfl rfl (.inr (.inr ⟨rfl,aD7,rfl⟩)) N) ?_;refine⟨rfl,?_⟩;generalize IntKind.i64.wrap _=d9;refine⟨fun _=>?_,fun _=>?_⟩
  .show bG _ _ _ _ _ _ _;refine bG.le (cz (HY fr bJ 0) (Em s g es)) <| bG.nB (2000000+32) aD8 <| bw [] (bn) <| bm (fun N=>BJ rfl rfl rfl (.inr (.inr ⟨rfl,aD7,rfl⟩)) N) ?_;exact av (Fn.aT [(3001,3)] (U _ _)) ⟨rfl,bb⟩
  .show bG _ _ _ _ _ _ _;refine bG.le (cz (HY fr bJ d9) (Em s g es)) <| bG.nB (2000000+32) aD8 <| bw [] (bn) <| bm (fun N=>BJ rfl rfl rfl (.inr (.inr ⟨rfl,aD7,rfl⟩)) N) ?_;exact av (Fn.aT [(3001,3)] (U _ _)) ⟨rfl,bb⟩
end
section
open Go.RowKit Go.Proofs Go.Maps Go.Shelf Go.MapKept _root_.Go.Proofs.Tryz Tryz
open Go.WideElems (Fit rd rg pl rd_val rd_key rg_of)
abbrev jW:bz:=.ci .u8
def zp:Int->Int->Bool:=fun x y=>decide (x<=y)
def nN (l:aI7):List Int:=l.mergeSort zp
def En (l:aI7):(nN l).Perm l:=List.mergeSort_perm l zp
def UP (m:Nat):AnyZI.SortsIn prog Su Fence.wide m:=
 ⟨fun bf off cap hh W c' j7 cA=>callsIn_wide.2 (AnyM.slices_Sort_int Sw bf off cap hh W c' j7 cA),
  fun p cap W=>callsIn_wide.2 (AnyM.slices_Sort_int_none Sw p cap W)⟩
def ajm (es:List (aa aq×aa jW)):Fn prog 198 [.c (.one (.mp 1001))] [(1001,.map aq jW es)] [2001] (.c (.one (.c2 243 [.p 2001 0]))) [(2001,.cells [.mp 1001]),(1001,.map aq jW es)]:=by refine aP [] func198 ?_;exact⟨rfl,_,_,_,ac.aT 1 2001 rfl,rfl,rfl,aA,rfl⟩
def ajn (es:aH5) (hn:(g3 es).Nodup) (al: ∀s∈g3 es,(Lit.int .i64 s).wf=true) (aw:es.length<=4294967296):
  Fn prog 169 [.c (.one (.c2 236 [.p 2001 0]))] [(2001,.cells [.mp 1001]),(1001,.map aq aq es)] [] (bE aq (nN (g3 es))) [(2001,.cells [.mp 1001]),(1001,.map aq aq es)]:=by
 refine⟨aE0,fun ρ F I w b0 a7 c' bg eE bW dG=>?_⟩
 match b0,bW with
 | [v],_=>
  obtain⟨aE,aB,gv,r,hJ,mC,aj⟩:=dG 0 _ v rfl rfl;have aj:r=[]:=aj;have mC:gv= .pointer (some ⟨(ρ 2001).bf,0,none⟩):=mC;subst aj mC hJ aB;obtain⟨_,aE,T,jx,hJ⟩:=c' 2001 _ rfl;obtain⟨x,r,hJ,hx,aj⟩:=hJ;have aj:r=[]:=aj;have hx:x= .map (some (ρ 1001).bf):=hx;subst aj hx hJ;obtain⟨_,bT,bY,iq,aC,de⟩:=c' 1001 _ rfl;have Hr:(4294967296:Nat)<=maxLen:=by decide
  obtain⟨jE,dV,cA,pm⟩:=Nc (P:=prog) (k:=3) aE0 iq aC de hn al aD7;have bv:(ρ 2001).bf < w.heap.size:=ml jx
  have vO:SeqGives Fence.wide 2 prog 236 #[.pointer (some ⟨(ρ 2001).bf,0,none⟩)] encZ (fun hh=>hh.Perm (intKeys jE)) (Maps.size jE) w:=
   AnyZI.keys_gives (ρ:=Lw) {Ss with} Fence.wide _ trivial rfl aD7 (ρ 2001).bf (ρ 1001).bf es.length jE w bv (o1 jx rfl) dV
  have J:=AnyZI.sorted_in Sv Fence.wide 5 trivial trivial trivial trivial rfl aD7 (UP _) (enters_of func228 aE0 rfl) 236 #[.pointer (some ⟨(ρ 2001).bf,0,none⟩)] trivial (enters_of func236 aE0 rfl) _ _ aG4 aG4 _ vO;refine(callsIn_wide.1 J).mono ?_;rintro e w' ⟨v,hh,rfl,au,fH,Br,gI⟩;have aY:cm I w (fun b=>b < w'.heap.size/\(I b\/w.heap.size<=b)) w':=fun b ix=>⟨⟨au8 (a7 b ix) gI.size,.inl ix⟩,gI.block b (a7 b ix)⟩
  refine⟨v,ρ,F,rfl,cU.rj gI,fun _ _=>rfl,_,aY,fun b h=>⟨h.1,h.2.imp id .inr⟩,fun c ch J=>Holds.cj aY (fun b O=>gI.block b (bg c ch J b O).1) gI.size ch (fun _ _=>rfl) (c' c ch J),fun c ch J b O=>?_,fun c cn ch ch' b E G=>eE c cn ch ch' b E G,?_⟩
  .have:=bg c ch J b O;exact⟨au8 this.1 gI.size,fun h=>(by rcases h.2 with h |h;exact this.2 h;omega),.inl ⟨c,ch,J,O⟩⟩
  .have Z:hh.mergeSort (fun x y=>decide (x<=y))=nN (g3 es):=Go.mergeSort_of_perm_i (au.trans pm);rw[Z] at fH;have ir:=hS.tN fH;have vP:hh.length=(nN (g3 es)).length:=by rw[<-Z,List.length_mergeSort]
   rw[vP] at ir;exact(ir.zZ fun i _ hi=>(fH.lt i hi).1).Nf fun b E G=>⟨E,.inr G⟩
def ajo (es:List (aa aq×aa jW)) (hn:(g3 es).Nodup) (al: ∀s∈g3 es,(Lit.int .i64 s).wf=true) (aw:es.length<=4294967296):
  Fn prog 169 [.c (.one (.c2 243 [.p 2001 0]))] [(2001,.cells [.mp 1001]),(1001,.map aq jW es)] [] (bE aq (nN (g3 es))) [(2001,.cells [.mp 1001]),(1001,.map aq jW es)]:=by
 refine⟨aE0,fun ρ F I w b0 a7 c' bg eE bW dG=>?_⟩
 match b0,bW with
 | [v],_=>
  obtain⟨aE,aB,gv,r,hJ,mC,aj⟩:=dG 0 _ v rfl rfl;have aj:r=[]:=aj;have mC:gv= .pointer (some ⟨(ρ 2001).bf,0,none⟩):=mC;subst aj mC hJ aB;obtain⟨_,aE,T,jx,hJ⟩:=c' 2001 _ rfl;obtain⟨x,r,hJ,hx,aj⟩:=hJ;have aj:r=[]:=aj;have hx:x= .map (some (ρ 1001).bf):=hx;subst aj hx hJ;obtain⟨_,bT,bY,iq,aC,de⟩:=c' 1001 _ rfl;have Hr:(4294967296:Nat)<=maxLen:=by decide
  obtain⟨jE,dV,cA,pm⟩:=Nc (P:=prog) (k:=3) aE0 iq aC de hn al aD7;have bv:(ρ 2001).bf < w.heap.size:=ml jx
  have vO:SeqGives Fence.wide 2 prog 243 #[.pointer (some ⟨(ρ 2001).bf,0,none⟩)] encZ (fun hh=>hh.Perm (intKeys jE)) (Maps.size jE) w:=
   AnyZI.keys_gives (ρ:=St) {aeV with} Fence.wide _ trivial rfl aD7 (ρ 2001).bf (ρ 1001).bf es.length jE w bv (o1 jx rfl) dV
  have J:=AnyZI.sorted_in Sv Fence.wide 5 trivial trivial trivial trivial rfl aD7 (UP _) (enters_of func228 aE0 rfl) 243 #[.pointer (some ⟨(ρ 2001).bf,0,none⟩)] trivial (enters_of func243 aE0 rfl) _ _ aG4 aG4 _ vO;refine(callsIn_wide.1 J).mono ?_;rintro e w' ⟨v,hh,rfl,au,fH,Br,gI⟩;have aY:cm I w (fun b=>b < w'.heap.size/\(I b\/w.heap.size<=b)) w':=fun b ix=>⟨⟨au8 (a7 b ix) gI.size,.inl ix⟩,gI.block b (a7 b ix)⟩
  refine⟨v,ρ,F,rfl,cU.rj gI,fun _ _=>rfl,_,aY,fun b h=>⟨h.1,h.2.imp id .inr⟩,fun c ch J=>Holds.cj aY (fun b O=>gI.block b (bg c ch J b O).1) gI.size ch (fun _ _=>rfl) (c' c ch J),fun c ch J b O=>?_,fun c cn ch ch' b E G=>eE c cn ch ch' b E G,?_⟩
  .have:=bg c ch J b O;exact⟨au8 this.1 gI.size,fun h=>(by rcases h.2 with h |h;exact this.2 h;omega),.inl ⟨c,ch,J,O⟩⟩
  .have Z:hh.mergeSort (fun x y=>decide (x<=y))=nN (g3 es):=Go.mergeSort_of_perm_i (au.trans pm);rw[Z] at fH;have ir:=hS.tN fH;have vP:hh.length=(nN (g3 es)).length:=by rw[<-Z,List.length_mergeSort]
   rw[vP] at ir;exact(ir.zZ fun i _ hi=>(fH.lt i hi).1).Nf fun b E G=>⟨E,.inr G⟩
end
section
section
variable {P:aI0} {N:Nat} {ids:aH4} {K:aW} {B:ay} {o:Oper}
abbrev zq (f b:Nat):aN:=.c (.one (.bK (.func (.func f) #[.pointer (some ⟨b,0,none⟩)] #[])))
def p5 {f:aI9} {x:aI2} {d m b:Nat} (ai:o.op= .makeFunc (.func f) #[x] #[]) (hx:a1 K x= .c (.one (.ptr d 0))) (aC:ae B m=some (.b5 d (e7 b))) (N:Nat):bx P N ids o K B (zq f b) ⟨[m],[],[]⟩:=by
 have m1:x∈o.op.operands:=aE4
 refine bx.val fun K' B' g1 g2 C ρ F a w ak au=>?_
 have af:=au.ptr ((g1 x m1).trans hx);have ao:=pN (N:=N) (a:=a) ak ((g2 m aD9).trans aC);rw[ao] at af;refine⟨.func (.func f) #[.pointer (some ⟨b,0,none⟩)] #[],?_,rfl⟩;simp[execOp,ai,Instr.makeFunc,af]
def ajp {f:aI9} {c:Call} {t b:Nat} {xs:aJ8} {aK:ay} {res:aN} {aO:ay} (ai:o.op= .call c) (E:c.callee= .value (.tmp t)) (G:c.args.toList=xs) (al:dX K t=zq f b) (hf:Fn P f (.c (.one (.d (.aL (some b))))::xs.map (a1 K)) aK [] res aO) (h7:la B aK) (bu:mV aK [] aO=true) (N:Nat):
  bx P N ids o K B res ⟨ck aK,[],iC aK aO⟩:=by
 have mem: ∀aH∈xs,aH∈o.op.operands:=fun aH aM=>by
  rw[ai];simp only[Op.operands,Call.operands,aB5];exact .inr (aC0.1 (by rw[G];exact aM))
 have yu:Operand.tmp t∈o.op.operands:=by
  rw[ai];simp only[Op.operands,Call.operands,aB5,E];exact .inl aD9
 obtain⟨v,e,⟨rfl,rfl⟩,ax,_⟩:cM P N ids o K B (fun v e=>v=res/\e=⟨ck aK,[],iC aK aO⟩):=CZ (args:=.c (.one (.d (.aL (some b))))::xs.map (a1 K)) mem (fun K' ρ I a w g1 au=>by
  have aB:=au t;have Z:dX K' t=dX K t:=g1 (.tmp t) yu;rw[Z,al] at aB;have e:a.tmps.getD t undef= .func (.func f) #[.pointer (some ⟨b,0,none⟩)] #[]:=aB;refine⟨.pointer (some ⟨b,0,none⟩)::xs.map a.eval,fun fP=>R0 fP ai E G e,aD9,fun i v x aB hx=>?_⟩
  match i with
  |0=>
   simp only[au4,at5] at aB hx;subst aB hx;exact rfl
  |i+1=>exact Au mem g1 au i v x aG0 aG7) ⟨aK,[],res,aO,hf,h7,by rw[bu];rfl,by rw[sF];exact⟨rfl,rfl⟩⟩
 exact ax
end
abbrev Eo (p:Nat×aH3):aa aq×aa jW:=@Prod.mk Int aH3 (p.1:Int) p.2
abbrev kB (g:aH8):List (aa aq×aa jW):=g.map Eo
def UQ (g:aH8):(kB g).length=g.length:=au3 _
def ajq {l:List (aa aq×aa jW)} {p:aa aq×aa jW} {k:Int} {x:aH3} (h:fT aq k p.1=false):dp (aF:=aq) (aJ:=jW) (p::l) k x=p::dp (aF:=aq) (aJ:=jW) l k x:=by simp only[dp,h]
def UR (k:Nat) (x:aH3): ∀g:List (Nat×aH3),k∉g.map Prod.fst->dp (aF:=aq) (aJ:=jW) (kB g) (k:Int) x=kB (g++[(k,x)])
 | [],_=>rfl
 |p::g,h=>by
  rw[au9,at7,not_or] at h;refine(ajq (p:=Eo p) (l:=kB g) ((Ee k p.1).trans (ax2 h.1))).trans ?_;rw[UR k x g h.2];rfl
abbrev Ep (nm:aH3) (bi n rm:Int) (over done:Bool):List bA:=[.ptr 1001 0,.d (.str nm),.d (.int .i64 bi),.d (.int .i64 n),.d (.int .i64 rm),.mp 2002,.mp 2003,.d (.bool over),.d (.bool done)]
abbrev iy (z R:Int) (L:aH6) (nm:aH3) (n rm:Int) (l:aH4) (g:aH8) (over done:Bool):ay:=bP z R L++[(2001,.cells (Ep nm z n rm over done)),(2002,.map aq aq (fZ l)),(2003,.map aq jW (kB g))]
section
variable {z R:Nat} {L:aH6} {nm:aH3}
def ajr (z R:Int) (L:aH6) (nm:aH3) (n rm:Int) (l:aH4) (g:aH8) (over done:Bool):Fn prog 327 [ap 2001] (iy z R L nm n rm l g over done) [] (gb over) (iy z R L nm n rm l g over done):=by refine aP [] func327 ?_;exact bb
def ajs (z R:Int) (L:aH6) (nm:aH3) (n rm:Int) (l:aH4) (g:aH8) (over done:Bool):Fn prog 86 [ap 2001] (iy z R L nm n rm l g over done) [] (gb done) (iy z R L nm n rm l g over done):=by refine aP [] func86 ?_;exact bb
def US (z R:Int) (L:aH6) (nm:aH3) (n rm:Int) (l:aH4) (g:aH8) (over done:Bool):Fn prog 235 [ap 2001] (iy z R L nm n rm l g over done) [] g' (iy z R L nm n rm [] g true done):=by refine aP [] func235 ?_;refine bm (Uy rfl underlying206 rfl rfl) ?_;exact⟨_,_,_,ac.th 2001 (l':=Ep nm z n rm true done) rfl aA,rfl,trivial,aA,rfl⟩
structure ajt where
 e:Int
 l:aH4
 g:List (Nat×aH3)
 over:Bool
def eg (z:Nat) (L:aH6) (nm:aH3) (rm:Int) (l:aH4) (g:aH8) (k:Nat):ajt:=if rm<=((g.length:Nat):Int) then⟨171,[],g,true⟩ else⟨0,l.erase k,g++[(k,gz z L nm (k:Int))],false⟩
def aju (h:b6 z R L) (nm:aH3) (n rm:Int) (l:aH4) (g:aH8) (done:Bool) (k:Nat) (Z:k∉g.map Prod.fst):Fn prog 182 [ap 2001,ab (k:Int)] (iy z R L nm n rm l g false done) [] (ab (eg z L nm rm l g k).e) (iy z R L nm n rm (eg z L nm rm l g k).l (eg z L nm rm l g k).g (eg z L nm rm l g k).over done):=by
 have dR:=MU h nm (k:Int);have bW:=UQ g;have r0:=UR k (gz z L nm (k:Int)) g Z;have da:=Nk k l
 by_cases c:rm<=((g.length:Nat):Int)
 .have e:eg z L nm rm l g k=⟨171,[],g,true⟩:=vj c;rw[e];refine aP [2] func182 ?_;refine⟨rfl,fun _=>?_,fun bd=>?_⟩
  .show bG _ _ _ _ _ _ _;exact bw [] (bn) <| av (US z R L nm n rm l g false done) bb
  .exfalso;have bd:decide (rm<=(((kB g).length:Nat):Int))=false:=bd;have:=oj bd;omega
 .have e:eg z L nm rm l g k=⟨0,l.erase k,g++[(k,gz z L nm (k:Int))],false⟩:=mu c;rw[e];generalize gz z L nm (k:Int)=x at*;refine aP [4] func182 ?_;refine⟨rfl,fun bd=>?_,fun _=>?_⟩
  .exfalso;have bd:decide (rm<=(((kB g).length:Nat):Int))=true:=bd;have:=gd bd;omega
  exact bw [] (bn) <| av dR ⟨trivial,rfl,s4 bn rfl rfl ⟨rfl,rfl,rfl,rfl,rfl,at2 (fun aH=>some (a8.map aq aq aH)) da,at2 (fun aH=>some (a8.map aq jW aH)) r0,trivial⟩ rfl⟩
abbrev uB (z R:Int) (L:aH6) (nm:aH3) (n rm:Int) (l:aH4) (g:aH8) (over done:Bool) (b:Nat):ay:=iy z R L nm n rm l g over done++[(9001,.b5 2001 (e7 b))]
def UT (h:b6 z R L) (nm:aH3) (n rm:Int) (l:aH4) (g:aH8) (done:Bool) (k:Nat) (Z:k∉g.map Prod.fst) (b:Nat):Fn prog 182 [.c (.one (.d (.aL (some b)))),ab (k:Int)] (uB z R L nm n rm l g false done b) [] (ab (eg z L nm rm l g k).e) (uB z R L nm n rm (eg z L nm rm l g k).l (eg z L nm rm l g k).g (eg z L nm rm l g k).over done b):=by
 have J:=aju h nm n rm l g done k Z;generalize eg z L nm rm l g k=r at*
 refine Fn.via (X:=Unit) (args':=fun _=>[ap 2001,ab (k:Int)]) (uh:=fun _=>uB z R L nm n rm l g false done b) (m0:=fun _=>iy z R L nm n rm l g false done) (iR:=fun _=>[]) (res':=fun _=>ab r.e) (nA:=fun _=>iy z R L nm n rm r.l r.g r.over done)
  aE0 2 rfl ?_ (fun _=>J) (fun _=>aA) (fun _=>rfl) (fun _=>rfl) ?_
 .intro N C a w aw;exact⟨(),e2.sub (ac.Lp 0 2001 9001 b rfl rfl N C a w aw) aA aA⟩
 .intro _;exact⟨ab r.e,uB z R L nm n rm r.l r.g r.over done b,ac.sub aA aA,rfl,aA,rfl⟩
structure ajv where
 ux:Bool
 e:Int
 l:aH4
 g:List (Nat×aH3)
 over:Bool
 done:Bool
def kf (z:Nat) (L:aH6) (nm:aH3) (rm:Int) (l:aH4) (g:aH8) (over done:Bool):ajv:=if over=true then⟨false,170,l,g,true,done⟩ else if l=[] then⟨true,0,[],g,true,true⟩ else
 ⟨false,(eg z L nm rm l g (eJ l)).e,(eg z L nm rm l g (eJ l)).l,(eg z L nm rm l g (eJ l)).g,(eg z L nm rm l g (eJ l)).over,done⟩
def ajw (h:b6 z R L) (nm:aH3) (n rm:Int) (l:aH4) (g:aH8) (over done:Bool) (al: ∀k,k∈l->k<=100000) (l4:l.length<=100000) (hn:l.Nodup) (aV: ∀k,k∈l->k∉g.map Prod.fst):Fn prog 328 [ap 2001] (iy z R L nm n rm l g over done) [] (.b4 [.one (.d (.bool (kf z L nm rm l g over done).ux)),dw (kf z L nm rm l g over done).e])
  (iy z R L nm n rm (kf z L nm rm l g over done).l (kf z L nm rm l g over done).g (kf z L nm rm l g over done).over (kf z L nm rm l g over done).done):=by
 cases over with
 |true=>
  have e:kf z L nm rm l g true done=⟨false,170,l,g,true,done⟩:=vj rfl;rw[e];refine aP [] func328 ?_;exact fR bb
 |false=>
  have Di:=Nj l
  by_cases a6:l=[]
  .have e:kf z L nm rm l g false done=⟨true,0,[],g,true,true⟩:=(mu aD8).trans (vj a6);rw[e];subst a6;refine aP [] func328 ?_;exact dh <| fR ⟨_,_,_,ac.th 2001 (l':=Ep nm z n rm true true) rfl aA,rfl,aA,aA,rfl⟩
  .have e:kf z L nm rm l g false done=⟨false,(eg z L nm rm l g (eJ l)).e,(eg z L nm rm l g (eJ l)).l,(eg z L nm rm l g (eJ l)).g,(eg z L nm rm l g (eJ l)).over,done⟩:=(mu aD8).trans (mu a6);rw[e];obtain⟨cr,cv,dm⟩:=HQ a6
   have CE: ∀g:{hh:List Int//hh.Perm (g3 (fZ l))},po g.1=((eJ l:Nat):Int):=fun g=>by
    rw[Uw g.2 (by rw[vW];simpa using a6),vW];exact cr
   have vH: ∀g:{hh:List Int//hh.Perm (g3 (fZ l))},g.1.length=l.length:=fun g=>by
    rw[g.2.length_eq,vW,au3]
   have nF:0 < l.length:=List.length_pos_iff.2 a6;have Nr:=Uu (fZ l) (Nl hn) (Nm fun k Z=>by have:=al k Z;omega) aD7;have yJ:=UT h nm n rm l g done (eJ l) (aV _ cv);generalize eg z L nm rm l g (eJ l)=r at*;generalize eJ l=r9 at*;refine aP [6,7] func328 ?_;refine dh ⟨fun J=>?_,fun _=>?_⟩
   .exfalso;have J:decide ((((fZ l).length:Nat):Int)=0)=true:=J;have:=gd J;omega
   refine bG.fW (dF.mark 2001 9001 rfl aD8) fun b=>bw [7] (cz [(0,ap 2001)] (uB z R L nm n rm l g false done b)) <| bm (p5 (m:=9001) (b:=b) rfl rfl rfl) ?_
   refine bG.le (cz [(0,ap 2001),(4,zq 182 b)] (uB z R L nm n rm l g false done b)) <| bG.iF eY aE0 <| ov ((Fn.aT [(1001,2002),(2001,9101)] (Nd (fZ l))).x) fun _=>⟨_,_,_,fun g=>_,fun g=>_,cD.aT [(1001,2002),(2001,9101)] Nr,aA,rfl,fun _=>rfl,fun Ny=>?_⟩
   have ai5:=vH Ny;have zn:=CE Ny;exact ov ((Fn.res (res':=ab (r9:Int)) (Ux Ny.1 aD7 aD7) zn).x) fun _=>ov ((yJ b).x) fun _=>bb
end
abbrev uC:bz:=.bV aq jW
def BK (g:aH8) (k:Int):aH3:=(bX (aF:=aq) (aJ:=jW) (kB g) k).getD (cO jW)
def UU (g:aH8) (k:Int):aa uC:=@Prod.mk Int aH3 k (BK g k)
def oE (g:aH8):List (aa uC):=(nN (g3 (kB g))).map (UU g)
def HZ (g:aH8):g3 (kB g)=(g.map Prod.fst).map fun k:Nat=>(k:Int):=by unfold g3 kB;rw[ax7,ax7];rfl
def Nz (g:aH8):(oE g).length=g.length:=by unfold oE;rw[au3,(En _).length_eq,HZ,au3,au3]
def NA {B:Nat} (k:Int): ∀g:List (Nat×aH3),(∀p,p∈g->p.2.length<=B)->(BK g k).length<=B
 | [],_=>at6 _
 |p::g,h=>by
  cases e:fT aq k (Eo p).1 with
  |true=>
   have:BK (p::g) k=p.2:=by
    show(bX (aF:=aq) (aJ:=jW) (Eo p::kB g) k).getD (cO jW)=p.2;simp only[bX,e];rfl
   rw[this];exact h p (au7 ..)
  |false=>
   have:BK (p::g) k=BK g k:=by
    show(bX (aF:=aq) (aJ:=jW) (Eo p::kB g) k).getD (cO jW)=(bX (aF:=aq) (aJ:=jW) (kB g) k).getD (cO jW);simp only[bX,e]
   rw[this];exact NA k g fun q a2=>h q (at4 _ a2)
section
variable {z R:Nat} {L:aH6} {nm:aH3}
abbrev UV (ks:aI7) (c k:Nat):aW:=[(0,ap 2001),(5,dY c),(18,bE aq ks),(19,ab (ks.length:Nat)),(20,ab (k:Nat))]
abbrev NB (z R:Int) (L:aH6) (nm:aH3) (n rm:Int) (l:aH4) (g:aH8) (over done:Bool) (c:Nat) (x:List (aa uC)):ay:=iy z R L nm n rm l g over done++[(c,.row 128 uC x)]
def ajx (z R:Int) (L:aH6) (nm:aH3) (n rm:Int) (l:aH4) (g:aH8) (over:Bool) (hn:(g.map Prod.fst).Nodup) (Z: ∀p,p∈g->p.1<=100000/\p.2.length<=100000) (al:g.length<=100000):
  Fn prog 142 [ap 2001] (iy z R L nm n rm l g over true) [] (.b4 [.one (.d (.b' uC (oE g))),dw n,.one (.d (.bool true))]) (iy z R L nm n rm l g over true):=by
 have dL:(g3 (kB g)).Nodup:=by
  rw[HZ];exact M7 (fun x _ y _ e=>by have e:(x:Int)=(y:Int):=e;omega) hn
 have ph: ∀s∈g3 (kB g),(Lit.int .i64 s).wf=true:=fun s aw=>by
  rw[HZ] at aw;obtain⟨k,cd,rfl⟩:=av7.1 aw;obtain⟨p,ag,rfl⟩:=av7.1 cd;have:=(Z p ag).1;show(decide (IntKind.i64.min<=(p.1:Int))&&decide ((p.1:Int)<=IntKind.i64.max))=true;rw[au1 (show(IntKind.i64.min:Int)<=(p.1:Int) from Int.le_trans (by decide:IntKind.i64.min<=(0:Int)) aD7),au1 (show(p.1:Int)<=IntKind.i64.max from Int.le_trans (by omega:(p.1:Int)<=1000000) aD8)];rfl
 have UW:=UQ g;have H0:=ajo (kB g) dL ph aD7;have hr:(nN (g3 (kB g))).length=g.length:=by rw[(En _).length_eq,HZ,au3,au3]
 have l3: ∀k:Nat,(h:k < (nN (g3 (kB g))).length)->(oE g).take k++[UU g (nN (g3 (kB g)))[k]]=(oE g).take (k+1):=fun k h=>by
  rw[aB1];unfold oE;rw[av1,as7 h];rfl
 have gX:=Nz g;have jB:=fun k=>NA (B:=100000) k g fun p ag=>(Z p ag).2
 generalize nN (g3 (kB g))=ks at*;generalize oE g=bF at*;refine aP [4,7,9] func142 ?_;refine dh <| bw [7,9] (bn) <| av (Fn.aT [(1001,2003),(2001,9201)] (ajm (kB g))) <| av (Fn.aT [(1001,2003),(2001,9201)] H0) <| dZ [7,9] (X:=Nat) (fun k=>UV ks 5002 k) (fun k=>NB z R L nm n rm l g over true 5002 (bF.take k)) (fun k=>k<=ks.length) (fun k=>ks.length - k) 0 (at6 _) ?_ ?_
 .exact ac.trans (cz [(0,ap 2001),(5,.c (.one .dC)),(18,bE aq ks),(19,ab (ks.length:Nat)),(20,ab 0)] (iy z R L nm n rm l g over true)) (ac.trans (ac.nil 5 5002 128 uC rfl rfl) (ac.sub aA aA))
 intro k cd;have cd:k<=ks.length:=cd;refine⟨fun J=>?_,fun J=>?_⟩
 .have J:decide ((k:Int) < ((ks.length:Nat):Int))=true:=J;have ey:k < ks.length:=aF7
  have kp:=lE (n:=k) ey;have ed:=l3 k ey;generalize ks[k]=q at*;have hx:=jB q;have dR:=My (BK g q) aD7
  have bW:List.length (α:=aa uC) (bF.take k)+1<=4294967296:=by
   show(bF.take k).length+1<=4294967296;rw[at9];omega
  exact⟨aD7,q,kp,bw [9] (cz [(0,ap 2001),(5,dY 5002),(18,bE aq ks),(19,ab (ks.length:Nat)),(20,ab (k:Nat)),(7,ab q)] (NB z R L nm n rm l g over true 5002 (bF.take k))) <| av dR ⟨bW,rfl,aD7,k+1,ey,aD7,ac.trans (ac.sub (K':=UV ks 35 (k+1)) (B':=NB z R L nm n rm l g over true 35 (bF.take (k+1))) aA ⟨rfl,rfl,rfl,rfl,rfl,rfl,rfl,at2 (fun aH=>some (a8.row 128 uC aH)) ed,trivial⟩) (ac.trans (ac.aT 35 5002 rfl) (ac.sub aA aA))⟩⟩
 .have J:decide ((k:Int) < ((ks.length:Nat):Int))=false:=J;have ey:k=ks.length:=aF6
  have dM:bF.take k=bF:=ax3 aD7;exact bw [] (ac.dH 5002 rfl) ⟨rfl,ea bn rfl ⟨dM,rfl,rfl,trivial⟩⟩
end
def ik (f:Nat->Bool) (z:Nat):Nat->aH4
 |0=>[]
 |s+1=>if f s=true then nL (ik f z s) (s/2 ^z) else ik f z s
def NC (f:Nat->Bool) (z:Nat): ∀s,(ik f z s).Nodup
 |0=>az4
 |s+1=>by
  show(if f s=true then nL (ik f z s) (s/2 ^z) else ik f z s).Nodup
  split
  .exact UB (NC f z s)
  .exact NC f z s
def ND (f:Nat->Bool) (z n:Nat): ∀s,s<=n*2 ^z-> ∀k,k∈ik f z s->k < n
 |0,_,k,h=>by cases h
 |s+1,aw,k,h=>by
  have h:k∈(if f s=true then nL (ik f z s) (s/2 ^z) else ik f z s):=h;have H:s/2 ^z < n:=(aA9 (Nat.two_pow_pos z)).2 aD7
  split at h
  .rcases Eg.1 h with h |h
   .exact ND f z n s aD7 k h
   .omega
  .exact ND f z n s aD7 k h
section
variable {z R:Nat} {L:aH6} {nm:aH3}
abbrev Er (z R:Int) (L:aH6) (nm:aH3) (n rm:Int) (l:aH4):ay:=bP z R L++[(46,.cells [.ptr 1001 0,.d (.str nm),.d (.int .i64 z),.d (.int .i64 n),.d (.int .i64 rm),.mp 43,.mp 44,.d (.bool false),.d (.bool false)]),(43,.map aq aq (fZ l)),(44,.map aq jW [])]
def ajy (h:b6 z R L) {d:aI} (H:dk L nm=some d) (rm:Int) (aj:rm < 0):Fn prog 83 [ap 1001,bN nm,.c (.one (.bK (.pointer none))),ab rm] (bP z R L) [] (.b4 [pL,dw 1]) (bP z R L):=by refine aP [] func83 ?_;exact av (jV _ _ L h.toiI nm d H) ⟨fun _ _=>⟨fun _=>s4 bn rfl aA ⟨rfl,rfl,rfl,rfl,trivial⟩ rfl,fun h=>at1 (oj h) aD7⟩,fun h=>by cases h⟩
abbrev ajz (am:Nat) (nm:aH3) (N s:Nat):aW:=[(2,.c (.one (.bK (.pointer none)))),(11,ap 46),(55,ab (N:Nat)),(56,ab (s:Nat))]
def ajA (h:b6 z R L) {d:aI} (H:dk L nm=some d) (rm:Int) (aj:0<=rm):Fn prog 83 [ap 1001,bN nm,.c (.one (.bK (.pointer none))),ab rm] (bP z R L) [2001,2002,2003] (.b4 [.one (.ptr 2001 0),dw 0]) (iy z R L nm (d.im.t.length:Nat) rm (ik (fun _=>true) z (d.im.t.length*2 ^z)) [] false false):=by
 have lK:=(h.fK d (cP H).1).1.ez;have fg:=h.toiI.M (cP H).1;have j5:d.im.z=z:=(h.fK d (cP H).1).2.1;have xt:=h.b3;have ag:=jf h.b3
 have pp:((d.im.t.length:Nat):Int)*((2 ^((d.im.z:Nat):Int).toNat:Nat):Int)=((d.im.t.length*2 ^z:Nat):Int):=by
  rw[j5];show((d.im.t.length:Nat):Int)*((2 ^z:Nat):Int)=_;rw[aB3]
 have mk:d.im.t.length*2 ^z<=256*8:=ay8 lK ag.2;have m1:(0:Int)<=((d.im.t.length:Nat):Int)/\(0:Int)<=((d.im.z:Nat):Int)/\((d.im.z:Nat):Int)<=64:=aE5
 have m2:c5 (((d.im.t.length:Nat):Int)*((2 ^((d.im.z:Nat):Int).toNat:Nat):Int)):=by rw[pp];omega
 have cC:(0:Int)<=((d.im.t.length:Nat):Int)/\(0:Int)<=((z:Nat):Int)/\((z:Nat):Int)<=64:=aE5
 have Es:((d.im.t.length:Nat):Int)*((2 ^((z:Nat):Int).toNat:Nat):Int)=((d.im.t.length*2 ^z:Nat):Int):=by
  show((d.im.t.length:Nat):Int)*((2 ^z:Nat):Int)=_;rw[aB3]
 have dg:c5 (((d.im.t.length:Nat):Int)*((2 ^((z:Nat):Int).toNat:Nat):Int)):=by rw[Es];omega
 refine aP [6,7,10,11] func83 ?_;refine av (jV _ _ L h.toiI nm d H) ⟨fun _ _=>⟨fun h=>at1 (gd h) aD7,fun _=>bw [7,10,11] (ac.sub (K':=[(0,ap 1001),(1,bN nm),(2,.c (.one (.bK (.pointer none)))),(3,ab rm),(10,dd d.am)]) (B':=bP z R L) aA ⟨rfl,rfl,rfl,rfl,trivial⟩) <| av (h1 (xr d.im) fg rfl rfl rfl rfl) <| av (h1 (nc d.im) fg rfl rfl rfl rfl) ⟨rfl,rfl,rfl,bw [10,11] (ac.trans (ac.th 46 (l':=[.ptr 1001 0,.d (.str nm),.d (.int .i64 ((z:Nat):Int)),.d (.int .i64 ((d.im.t.length:Nat):Int)),.d (.int .i64 rm),.mp 43,.mp 44,.d (.bool false),.d (.bool false)]) rfl ⟨rfl,rfl,at2 Int.ofNat j5,rfl,rfl,rfl,rfl,rfl,rfl,trivial⟩) (ac.sub (K':=[(2,.c (.one (.bK (.pointer none)))),(11,ap 46)]) (B':=Er z R L nm (d.im.t.length:Nat) rm []) aA ⟨rfl,rfl,rfl,rfl,rfl,rfl,rfl,trivial⟩)) ⟨cC,dg,rfl,dZ [10,11] (X:=Nat) (fun s=>ajz d.am nm (d.im.t.length*2 ^z) s) (fun s=>Er z R L nm (d.im.t.length:Nat) rm (ik (fun _=>true) z s)) (fun s=>s<=d.im.t.length*2 ^z) (fun s=>d.im.t.length*2 ^z - s) 0 (at6 _) ?_ ?_⟩⟩⟩,fun h=>by cases h⟩
 .exact ac.sub ⟨rfl,rfl,Es,rfl,trivial⟩ ⟨rfl,rfl,rfl,rfl,rfl,rfl,rfl,trivial⟩
 intro s aw;have aw:s<=d.im.t.length*2 ^z:=aw;refine⟨fun J=>?_,fun J=>?_⟩
 .have J:decide ((s:Int) < ((d.im.t.length*2 ^z:Nat):Int))=true:=J;have hK:s < d.im.t.length*2 ^z:=aF7
  have cr:(0:Int)<=(s:Int)/\(0:Int)<=((z:Nat):Int)/\((z:Nat):Int)<=64:=aE5
  have tc:(s:Int)/((2 ^((z:Nat):Int).toNat:Nat):Int)=((s/2 ^z:Nat):Int):=by
   show(s:Int)/((2 ^z:Nat):Int)=_;rfl
  exact bw [11] (ac.sub (K':=[(2,.c (.one (.bK (.pointer none)))),(11,ap 46),(55,ab ((d.im.t.length*2 ^z:Nat):Int)),(56,ab (s:Nat)),(12,ab (s:Nat))]) (B':=Er z R L nm (d.im.t.length:Nat) rm (ik (fun _=>true) z s)) aA ⟨rfl,rfl,rfl,rfl,rfl,rfl,rfl,trivial⟩) <| bw [] (ac.sub (K':=[(2,.c (.one (.bK (.pointer none)))),(11,ap 46),(55,ab ((d.im.t.length*2 ^z:Nat):Int)),(56,ab (s:Nat)),(12,ab (s:Nat))]) (B':=Er z R L nm (d.im.t.length:Nat) rm (ik (fun _=>true) z s)) aA ⟨rfl,rfl,rfl,rfl,rfl,rfl,rfl,trivial⟩) ⟨cr,trivial,rfl,aD7,s+1,hK,aD7,ac.sub aA ⟨rfl,rfl,rfl,rfl,rfl,at2 (fun aH=>some (a8.map aq aq aH)) ((Ef (s/2 ^z) _).trans (at2 fZ (show nL (ik (fun _=>true) z s) (s/2 ^z)=ik (fun _=>true) z (s+1) from(vj rfl).symm))),rfl,trivial⟩⟩
 .have J:decide ((s:Int) < ((d.im.t.length*2 ^z:Nat):Int))=false:=J;have hK:s=d.im.t.length*2 ^z:=aF6
  subst hK;exact⟨_,_,_,ac.trans (ac.aT 46 2001 rfl) (ac.trans (ac.aT 43 2002 rfl) (ac.aT 44 2003 rfl)),rfl,aA,⟨rfl,rfl,rfl,rfl,rfl,rfl,rfl,trivial⟩,rfl⟩
abbrev zr (s g:Int) (es:aH5):ay:=[(5001,.cells [.d (.int .i64 s),.d (.int .i64 g),.mp 5002]),(5002,.map aq aq es)]
abbrev UX (z R:Int) (L:aH6) (s g:Int) (es:aH5):ay:=bP z R L++zr s g es
abbrev H1 (z R:Int) (L:aH6) (nm:aH3) (n rm:Int) (l:aH4) (s g:Int) (es:aH5):ay:=Er z R L nm n rm l++zr s g es
abbrev ajB (z R:Int) (L:aH6) (nm:aH3) (n rm:Int) (l:aH4) (mz:aH8) (over done:Bool) (s g:Int) (es:aH5):ay:=iy z R L nm n rm l mz over done++zr s g es
def ajC (h:b6 z R L) {d:aI} (H:dk L nm=some d) (rm:Int) (aj:rm < 0) (s g:Int) (es:aH5):Fn prog 83 [ap 1001,bN nm,ap 5001,ab rm] (bP z R L++[(5001,.cells [.d (.int .i64 s),.d (.int .i64 g),.mp 5002]),(5002,.map aq aq es)]) [] (.b4 [pL,dw 1]) (bP z R L++[(5001,.cells [.d (.int .i64 s),.d (.int .i64 g),.mp 5002]),(5002,.map aq aq es)]):=by refine aP [] func83 ?_;exact av (jV _ _ L h.toiI nm d H) ⟨fun _ _=>⟨fun _=>bb,fun h=>at1 (oj h) aD7⟩,fun h=>by cases h⟩
abbrev ajD (am:Nat) (nm:aH3) (N s:Nat):aW:=[(2,ap 5001),(11,ap 46),(55,ab (N:Nat)),(56,ab (s:Nat))]
def ajE (h:b6 z R L) {d:aI} (H:dk L nm=some d) (rm:Int) (aj:0<=rm) (g:Int) (es:aH5) (aV:1<=g):Fn prog 83 [ap 1001,bN nm,ap 5001,ab rm] (UX z R L ((d.im.t.length*2 ^z:Nat):Int) g es) [2001,2002,2003] (.b4 [.one (.ptr 2001 0),dw 0]) (ajB z R L nm (d.im.t.length:Nat) rm (ik (ke g es) z (d.im.t.length*2 ^z)) [] false false ((d.im.t.length*2 ^z:Nat):Int) g es):=by
 have lK:=(h.fK d (cP H).1).1.ez;have fg:=h.toiI.M (cP H).1;have j5:d.im.z=z:=(h.fK d (cP H).1).2.1;have xt:=h.b3;have ag:=jf h.b3
 have pp:((d.im.t.length:Nat):Int)*((2 ^((d.im.z:Nat):Int).toNat:Nat):Int)=((d.im.t.length*2 ^z:Nat):Int):=by
  rw[j5];show((d.im.t.length:Nat):Int)*((2 ^z:Nat):Int)=_;rw[aB3]
 have mk:d.im.t.length*2 ^z<=256*8:=ay8 lK ag.2;have m1:(0:Int)<=((d.im.t.length:Nat):Int)/\(0:Int)<=((d.im.z:Nat):Int)/\((d.im.z:Nat):Int)<=64:=aE5
 have m2:c5 (((d.im.t.length:Nat):Int)*((2 ^((d.im.z:Nat):Int).toNat:Nat):Int)):=by rw[pp];omega
 have cC:(0:Int)<=((d.im.t.length:Nat):Int)/\(0:Int)<=((z:Nat):Int)/\((z:Nat):Int)<=64:=aE5
 have Es:((d.im.t.length:Nat):Int)*((2 ^((z:Nat):Int).toNat:Nat):Int)=((d.im.t.length*2 ^z:Nat):Int):=by
  show((d.im.t.length:Nat):Int)*((2 ^z:Nat):Int)=_;rw[aB3]
 have dg:c5 (((d.im.t.length:Nat):Int)*((2 ^((z:Nat):Int).toNat:Nat):Int)):=by rw[Es];omega
 refine aP [6,7,10,11] func83 ?_;refine av (jV _ _ L h.toiI nm d H) ⟨fun _ _=>⟨fun h=>at1 (gd h) aD7,fun _=>av (Fn.aT [(1001,5001),(1002,5002)] (Nw ((d.im.t.length*2 ^z:Nat):Int) g es)) <| av (h1 (nc d.im) fg rfl rfl rfl rfl) <| av (h1 (xr d.im) fg rfl rfl rfl rfl) ⟨m1,m2,fun bd=>?_,fun _=>?_⟩⟩,fun h=>by cases h⟩
 .exfalso;have bd:(!decide (((d.im.t.length*2 ^z:Nat):Int)=((d.im.t.length:Nat):Int)*((2 ^((d.im.z:Nat):Int).toNat:Nat):Int)))=true:=bd;rw[pp,au1 rfl] at bd
  cases bd
 refine bw [7,10,11] (cz [(0,ap 1001),(1,bN nm),(2,ap 5001),(3,ab rm),(10,dd d.am)] (UX z R L ((d.im.t.length*2 ^z:Nat):Int) g es)) <| av (h1 (xr d.im) fg rfl rfl rfl rfl) <| av (h1 (nc d.im) fg rfl rfl rfl rfl) ⟨rfl,rfl,rfl,bw [10,11] (ac.trans (ac.th 46 (l':=[.ptr 1001 0,.d (.str nm),.d (.int .i64 ((z:Nat):Int)),.d (.int .i64 ((d.im.t.length:Nat):Int)),.d (.int .i64 rm),.mp 43,.mp 44,.d (.bool false),.d (.bool false)]) rfl ⟨rfl,rfl,at2 Int.ofNat j5,rfl,rfl,rfl,rfl,rfl,rfl,trivial⟩) (cz [(2,ap 5001),(11,ap 46)] (H1 z R L nm (d.im.t.length:Nat) rm [] ((d.im.t.length*2 ^z:Nat):Int) g es))) ⟨cC,dg,rfl,dZ [10,11] (X:=Nat) (fun s=>ajD d.am nm (d.im.t.length*2 ^z) s) (fun s=>H1 z R L nm (d.im.t.length:Nat) rm (ik (ke g es) z s) ((d.im.t.length*2 ^z:Nat):Int) g es) (fun s=>s<=d.im.t.length*2 ^z) (fun s=>d.im.t.length*2 ^z - s) 0 (at6 _) ?_ ?_⟩⟩
 .exact ac.sub ⟨rfl,rfl,Es,rfl,trivial⟩ aA
 intro s aw;have aw:s<=d.im.t.length*2 ^z:=aw;refine⟨fun J=>?_,fun J=>?_⟩
 .have J:decide ((s:Int) < ((d.im.t.length*2 ^z:Nat):Int))=true:=J;have hK:s < d.im.t.length*2 ^z:=aF7
  have cr:(0:Int)<=(s:Int)/\(0:Int)<=((z:Nat):Int)/\((z:Nat):Int)<=64:=aE5
  have tc:(s:Int)/((2 ^((z:Nat):Int).toNat:Nat):Int)=((s/2 ^z:Nat):Int):=by
   show(s:Int)/((2 ^z:Nat):Int)=_;rfl
  refine bw [11] (cz [(2,ap 5001),(11,ap 46),(55,ab ((d.im.t.length*2 ^z:Nat):Int)),(56,ab (s:Nat)),(12,ab (s:Nat))] (H1 z R L nm (d.im.t.length:Nat) rm (ik (ke g es) z s) ((d.im.t.length*2 ^z:Nat):Int) g es)) <| av (Fn.aT [(1001,5001),(1002,5002)] (UO ((d.im.t.length*2 ^z:Nat):Int) g es s aV aD7 aD7)) ⟨fun hf=>?_,fun hf=>?_⟩
  .have hf:ke g es s=true:=hf;exact bw [] (cz [(2,ap 5001),(11,ap 46),(55,ab ((d.im.t.length*2 ^z:Nat):Int)),(56,ab (s:Nat)),(12,ab (s:Nat))] (H1 z R L nm (d.im.t.length:Nat) rm (ik (ke g es) z s) ((d.im.t.length*2 ^z:Nat):Int) g es)) ⟨cr,trivial,rfl,aD7,s+1,hK,aD7,ac.sub aA ⟨rfl,rfl,rfl,rfl,rfl,at2 (fun aH=>some (a8.map aq aq aH)) ((Ef (s/2 ^z) _).trans (at2 fZ (show nL (ik (ke g es) z s) (s/2 ^z)=ik (ke g es) z (s+1) from(vj hf).symm))),rfl,rfl,rfl,trivial⟩⟩
  .have hf:ke g es s=false:=hf;exact⟨aD7,s+1,hK,aD7,ac.sub aA ⟨rfl,rfl,rfl,rfl,rfl,at2 (fun aH=>some (a8.map aq aq (fZ aH))) (show ik (ke g es) z s=ik (ke g es) z (s+1) from(mu (by rw[hf];decide)).symm),rfl,rfl,rfl,trivial⟩⟩
 .have J:decide ((s:Int) < ((d.im.t.length*2 ^z:Nat):Int))=false:=J;have hK:s=d.im.t.length*2 ^z:=aF6
  subst hK;exact⟨_,_,_,ac.trans (ac.aT 46 2001 rfl) (ac.trans (ac.aT 43 2002 rfl) (ac.aT 44 2003 rfl)),rfl,aA,aA,rfl⟩
end
end
section
def ajF (z R:Int) (L:aH6) (nm:aH3) (n rm:Int) (l:aH4) (g:aH8) (done:Bool) (a aX:Int):Fn prog 120 [ap 2001,ab a,ab aX] (iy z R L nm n rm l g true done) [] (ab 0) (iy z R L nm n rm l g true done):=by refine aP [] func120 ?_;exact fR bb
def qU (l:aH4):aH4:=(nN (l.map fun k:Nat=>(k:Int))).map Int.toNat
def ajG (l:aH4):nN (g3 (fZ l))=(qU l).map fun k:Nat=>(k:Int):=by
 unfold qU;rw[vW,ax7]
 conv=>lhs;rw[<-List.map_id (nN (l.map fun k:Nat=>(k:Int)))]
 refine aw2 fun x hx=>?_
 obtain⟨k,_,rfl⟩:=av7.1 ((En _).mem_iff.1 hx);rfl
def BL (l:aH4):(qU l).Perm l:=by
 have h:=(En (l.map fun k:Nat=>(k:Int))).map Int.toNat;rw[ax7] at h
 have e:l.map (Int.toNat∘fun k:Nat=>(k:Int))=l:=by
  conv=>rhs;rw[<-List.map_id l]
  exact aw2 fun x _=>rfl
 rw[e] at h;exact h
structure UY where
 e:Int
 l:aH4
 g:List (Nat×aH3)
 over:Bool
def mI (z:Nat) (L:aH6) (nm:aH3) (rm a aX:Int):aH4->aH4->List (Nat×aH3)->UY
 | [],l,g=>⟨0,l,g,false⟩
 |k::ks,l,g=>if((k*2 ^z+2 ^z:Nat):Int)<=a\/a<=((k*2 ^z:Nat):Int) - aX then mI z L nm rm a aX ks l g else if(eg z L nm rm l g k).e=0 then mI z L nm rm a aX ks (eg z L nm rm l g k).l (eg z L nm rm l g k).g else⟨(eg z L nm rm l g k).e,(eg z L nm rm l g k).l,(eg z L nm rm l g k).g,(eg z L nm rm l g k).over⟩
def ajH {z:Nat} {L:aH6} {nm:aH3} {rm:Int} {l:aH4} {g:aH8} {k:Nat} (U:(eg z L nm rm l g k).e=0):(eg z L nm rm l g k).over=false/\(eg z L nm rm l g k).g=g++[(k,gz z L nm (k:Int))]:=by
 unfold eg at U⊢
 split at U
 .exact at1 U (show¬(171:Int)=0 by decide)
 .rename_i c;rw[mu c];exact⟨rfl,rfl⟩
abbrev ajI (a aX:Int) (b:Nat) (ks:aI7) (i:Nat):aW:=[(0,ap 2001),(1,ab a),(2,ab aX),(7,zq 182 b),(27,bE aq ks),(28,ab (ks.length:Nat)),(29,ab (i:Nat))]
def ajJ {z R:Nat} {L:aH6} (h:b6 z R L) (nm:aH3) (n rm:Int) (l:aH4) (g:aH8) (done:Bool) (a aX:Int) (E:1<=aX) (G:aX<=9223372036854775807) (al: ∀k,k∈l->k<=256) (l4:l.length<=256) (hn:l.Nodup) (aV: ∀k,k∈l->k∉g.map Prod.fst):
  Fn prog 120 [ap 2001,ab a,ab aX] (iy z R L nm n rm l g false done) [] (ab (mI z L nm rm a aX (qU l) l g).e) (iy z R L nm n rm (mI z L nm rm a aX (qU l) l g).l (mI z L nm rm a aX (qU l) l g).g (mI z L nm rm a aX (qU l) l g).over done):=by
 have H0:=ajn (fZ l) (Nl hn) (Nm fun k Z=>by have:=al k Z;omega) (by rw[Nj];omega);rw[ajG] at H0;have ag:=jf h.b3;have xt:=h.b3;have ir:(qU l).length=l.length:=(BL l).length_eq;have xo: ∀k,k∈qU l->k<=256/\k∉g.map Prod.fst:=fun k Z=>⟨al k ((BL l).mem_iff.1 Z),aV k ((BL l).mem_iff.1 Z)⟩
 have zs:(qU l).Nodup:=(BL l).nodup_iff.2 hn;generalize qU l=iz at*;generalize h0:mI z L nm rm a aX iz l g=bo at*;refine aP [3,4,9] func120 ?_;refine dh ⟨fun h=>at1 (gd h) aD7,fun _=>bG.fW (dF.mark 2001 9001 rfl aD8) fun b=>bw [4,9] (cz [(0,ap 2001),(1,ab a),(2,ab aX)] (uB z R L nm n rm l g false done b)) <| bm (p5 (m:=9001) (b:=b) rfl rfl rfl) ?_⟩;refine bw [9] (cz [(0,ap 2001),(1,ab a),(2,ab aX),(7,zq 182 b)] (uB z R L nm n rm l g false done b)) <| av (Fn.aT [(1001,2002),(2001,9101)] (Nd (fZ l))) <| av (Fn.aT [(1001,2002),(2001,9101)] H0) <| dZ [9] (X:=Nat×aH4×List (Nat×aH3)) (fun x=>ajI a aX b (iz.map fun k:Nat=>(k:Int)) x.1) (fun x=>uB z R L nm n rm x.2.1 x.2.2 false done b) (fun x=>x.1<=iz.length/\mI z L nm rm a aX (iz.drop x.1) x.2.1 x.2.2=bo/\ ∀k,k∈iz.drop x.1->k∉x.2.2.map Prod.fst) (fun x=>iz.length - x.1) (0,l,g) ⟨at6 _,h0,fun k Z=>(xo k Z).2⟩ ?_ ?_
 .exact ac.sub aA aA
 rintro⟨i,hF,g2⟩ ⟨hi,aj,Z⟩;have hi:i<=iz.length:=hi;have aj:mI z L nm rm a aX (iz.drop i) hF g2=bo:=aj;have Z: ∀k,k∈iz.drop i->k∉g2.map Prod.fst:=Z;refine⟨fun J=>?_,fun J=>?_⟩
 .have J:decide ((i:Int) < (((iz.map fun k:Nat=>(k:Int)).length:Nat):Int))=true:=J;have dc:i < iz.length:=by have:=gd J;rw[au3] at this;omega
  have DO:iz.drop i=iz[i]::iz.drop (i+1):=aA4 dc
  have kp:eR (α:=aa aq) (iz.map fun k:Nat=>(k:Int)) i=some ((iz[i]:Nat):Int):=by
   show(iz.map fun k:Nat=>(k:Int))[i]? =_;rw[av1,as7 dc];rfl
  have dL:=zs.sublist (List.drop_sublist i iz);rw[DO] at aj Z dL;have Lf:=(aw6.1 dL).1;have O:=(xo _ (av5 dc)).1;generalize iz[i]=k at*;have yJ:=UT h nm n rm hF g2 done k (Z k (au7 ..)) b;have bu:=ajH (z:=z) (L:=L) (nm:=nm) (rm:=rm) (l:=hF) (g:=g2) (k:=k);have aj:(if((k*2 ^z+2 ^z:Nat):Int)<=a\/a<=((k*2 ^z:Nat):Int) - aX then mI z L nm rm a aX (iz.drop (i+1)) hF g2 else if(eg z L nm rm hF g2 k).e=0 then mI z L nm rm a aX (iz.drop (i+1)) (eg z L nm rm hF g2 k).l (eg z L nm rm hF g2 k).g else⟨(eg z L nm rm hF g2 k).e,(eg z L nm rm hF g2 k).l,(eg z L nm rm hF g2 k).g,(eg z L nm rm hF g2 k).over⟩)=bo:=aj;generalize eg z L nm rm hF g2 k=r at*;have mk:k*2 ^z<=256*8:=ay8 O ag.2
  have pp:(k:Int)*((2 ^((z:Nat):Int).toNat:Nat):Int)=((k*2 ^z:Nat):Int):=by
   show(k:Int)*((2 ^z:Nat):Int)=_;rw[aB3]
  have r7:(1:Int)*((2 ^((z:Nat):Int).toNat:Nat):Int)=((2 ^z:Nat):Int):=by rw[Int.one_mul];rfl
  have cr:(0:Int)<=(k:Int)/\(0:Int)<=((z:Nat):Int)/\((z:Nat):Int)<=64:=aE5
  have cv:c5 ((k:Int)*((2 ^((z:Nat):Int).toNat:Nat):Int)):=by rw[pp];omega
  have cC:(0:Int)<=(1:Int)/\(0:Int)<=((z:Nat):Int)/\((z:Nat):Int)<=64:=aE5
  have dg:c5 ((1:Int)*((2 ^((z:Nat):Int).toNat:Nat):Int)):=by rw[r7];omega
  have jd:c5 ((k:Int)*((2 ^((z:Nat):Int).toNat:Nat):Int)+(1:Int)*((2 ^((z:Nat):Int).toNat:Nat):Int)):=by rw[pp,r7];omega
  have pj:c5 ((k:Int)*((2 ^((z:Nat):Int).toNat:Nat):Int) - aX):=by rw[pp];omega
  refine⟨aD7,_,kp,cr,cv,cC,dg,jd,fun cu=>?_,fun cu=>?_⟩
  .have cu:=gd (show decide ((k:Int)*((2 ^((z:Nat):Int).toNat:Nat):Int)+(1:Int)*((2 ^((z:Nat):Int).toNat:Nat):Int)<=a)=true from cu);rw[pp,r7] at cu;rw[vj (.inl aD7)] at aj;exact⟨aD7,(i+1,hF,g2),⟨dc,aj,fun q a2=>Z q (at4 _ a2)⟩,by show iz.length - (i+1) < iz.length - i;omega,ac.sub aA aA⟩
  have cu:=oj (show decide ((k:Int)*((2 ^((z:Nat):Int).toNat:Nat):Int)+(1:Int)*((2 ^((z:Nat):Int).toNat:Nat):Int)<=a)=false from cu);rw[pp,r7] at cu;refine⟨pj,fun cp=>?_,fun cp=>?_⟩
  .have cp:=gd (show decide (a<=(k:Int)*((2 ^((z:Nat):Int).toNat:Nat):Int) - aX)=true from cp);rw[pp] at cp;rw[vj (.inr cp)] at aj;exact⟨aD7,(i+1,hF,g2),⟨dc,aj,fun q a2=>Z q (at4 _ a2)⟩,by show iz.length - (i+1) < iz.length - i;omega,ac.sub aA aA⟩
  have cp:=oj (show decide (a<=(k:Int)*((2 ^((z:Nat):Int).toNat:Nat):Int) - aX)=false from cp);rw[pp] at cp;rw[mu (by rintro(e |e) <;>omega)] at aj;refine bw [] (cz [(0,ap 2001),(1,ab a),(2,ab aX),(7,zq 182 b),(27,bE aq (iz.map fun k:Nat=>(k:Int))),(28,ab ((iz.map fun k:Nat=>(k:Int)).length:Nat)),(29,ab (i:Nat)),(9,ab (k:Nat))] (uB z R L nm n rm hF g2 false done b)) <| bm (fun N=>ajp rfl rfl rfl rfl yJ aE9 rfl N) ?_;refine⟨fun U=>?_,fun U=>?_⟩
  .have U:(!decide (r.e=0))=true:=U;have U: ¬r.e=0:=by simpa using U
   rw[mu U] at aj;subst aj;exact bb
  .have U:(!decide (r.e=0))=false:=U;have U:r.e=0:=by simpa using U
   obtain⟨e8,gH⟩:=bu U;rw[vj U] at aj
   exact⟨aD7,(i+1,r.l,r.g),⟨dc,aj,fun q a2 aC=>by
    rw[gH,ay6,av9] at aC;rcases aC with aC |aC
    .exact Z q (at4 _ a2) aC
    .have aC:q=k:=by simpa using aC
     exact Lf (aC▸a2)⟩,by show iz.length - (i+1) < iz.length - i;omega,ac.sub aA ⟨rfl,rfl,rfl,rfl,at2 (fun aH=>some (a8.cells (Ep nm z n rm aH done))) e8,rfl,rfl,rfl,trivial⟩⟩
 .have J:decide ((i:Int) < (((iz.map fun k:Nat=>(k:Int)).length:Nat):Int))=false:=J;have dc:i=iz.length:=by have:=oj J;rw[au3] at this;omega
  subst dc;rw[List.drop_length] at aj;subst aj;exact bb
section
variable {z R:Nat} {L:aH6} {nm:aH3} {rm:Int} {l:aH4} {g:aH8}
def ajK {d:aI} (H:dk L nm=some d) {k:Nat} (Z:k < d.im.t.length):gz z L nm (k:Int)=fl z L nm (ce L nm) k:=by unfold gz;rw[H];simp only;rw[vj ⟨aD7,aD7⟩];rfl
structure f2 (z R:Nat) (L:aH6) (nm:aH3) (l:aH4) (g:aH8):Prop where
 cs:b6 z R L
 iw:(dk L nm).isSome=true
 lt: ∀k,k∈l->k < b7 L nm
 hY:l.Nodup
 gt: ∀p,p∈g->p.1 < b7 L nm/\p.2.length=16*2 ^z
 Et:(g.map Prod.fst).Nodup
 dj: ∀k,k∈l->k∉g.map Prod.fst
def f2.aR (h:f2 z R L nm l g):b7 L nm<=256:=by obtain⟨d,H⟩:=aw9.1 h.iw;have:=(h.cs.fK d (cP H).1).1.ez;unfold b7;rw[H];exact this
def f2.lJ (h:f2 z R L nm l g):l.length<=256:=ay1 (HM _ l h.hY h.lt) h.aR
def f2.NE (h:f2 z R L nm l g):g.length<=256:=by
 have:=HM (b7 L nm) (g.map Prod.fst) h.Et fun x hx=>by
  obtain⟨p,ag,rfl⟩:=av7.1 hx;exact(h.gt p ag).1
 rw[au3] at this;exact ay1 this h.aR
def f2.nil (h:f2 z R L nm l g):f2 z R L nm [] g:=⟨h.cs,h.iw,fun k Z=>(by cases Z),az4,h.gt,h.Et,fun k Z=>(by cases Z)⟩
def f2.r' {L':aH6} {t:aH3} (h:f2 z R L nm l g) (al:iV L t L'):f2 z R L' nm l g:=
 ⟨al.cs h.cs,by rw[(al.aR nm).2];exact h.iw,fun k Z=>by rw[(al.aR nm).1];exact h.lt k Z,h.hY,fun p ag=>by rw[(al.aR nm).1];exact h.gt p ag,h.Et,h.dj⟩
def f2.UZ (h:f2 z R L nm l g) (rm:Int) {k:Nat} (Z:k∈l):f2 z R L nm (eg z L nm rm l g k).l (eg z L nm rm l g k).g:=by
 unfold eg
 split
 .exact h.nil
 .obtain⟨d,H⟩:=aw9.1 h.iw;have aw:b7 L nm=d.im.t.length:=aF1
  have hr:=h.lt k Z;refine⟨h.cs,h.iw,fun q a2=>h.lt q (List.mem_of_mem_erase a2),h.hY.erase _,fun p ag=>?_,?_,fun q a2 aC=>?_⟩
  .have ag:p∈g++[(k,gz z L nm (k:Int))]:=ag;rcases av9.1 ag with ag |ag
   .exact h.gt p ag
   .obtain rfl:=au5.1 ag;refine⟨hr,?_⟩;show(gz z L nm (k:Int)).length=_;rw[ajK H aD7,za h.cs.tonJ H (h.cs.b5 nm).1 k]
  .show((g++[(k,gz z L nm (k:Int))]).map Prod.fst).Nodup;rw[ay6];refine List.nodup_append.2 ⟨h.Et,List.pairwise_singleton _ _,fun a ha b O=>?_⟩;have O:b=k:=by simpa using O
   rintro rfl;exact h.dj k Z (O▸ha)
  .have a2:q∈l.erase k:=a2;have aC:q∈(g++[(k,gz z L nm (k:Int))]).map Prod.fst:=aC;rw[ay6,av9] at aC;rcases aC with aC |aC
   .exact h.dj q (List.mem_of_mem_erase a2) aC
   .have aC:q=k:=by simpa using aC
    exact((h.hY.mem_erase_iff).1 a2).1 aC
def f2.NF (rm a aX:Int): ∀(ks l:aH4) (g:aH8),f2 z R L nm l g->(∀k,k∈ks->k∈l)->ks.Nodup->f2 z R L nm (mI z L nm rm a aX ks l g).l (mI z L nm rm a aX ks l g).g
 | [],l,g,h,_,_=>h
 |k::ks,l,g,h,zt,hn=>by
  unfold mI;have hn:=aw6.1 hn
  split
  .exact f2.NF rm a aX ks l g h (fun q a2=>zt q (at4 _ a2)) hn.2
  .have Z:=h.UZ rm (zt k (au7 ..))
   split
   .rename_i U;refine f2.NF rm a aX ks _ _ Z (fun q a2=>?_) hn.2;have Lh:=zt q (at4 _ a2);unfold eg at U⊢
    split
    .rename_i c;rw[vj c] at U;exact at1 U (show¬(171:Int)=0 by decide)
    .exact(h.hY.mem_erase_iff).2 ⟨fun e=>hn.1 (e▸a2),Lh⟩
   .exact Z
def f2.Ns (h:f2 z R L nm l g) (n rm:Int) (over done:Bool):Fn prog 328 [ap 2001] (iy z R L nm n rm l g over done) [] (.b4 [.one (.d (.bool (kf z L nm rm l g over done).ux)),dw (kf z L nm rm l g over done).e])
  (iy z R L nm n rm (kf z L nm rm l g over done).l (kf z L nm rm l g over done).g (kf z L nm rm l g over done).over (kf z L nm rm l g over done).done):=
 ajw h.cs nm n rm l g over done (fun k Z=>by have:=h.lt k Z;have:=h.aR;omega) (by have:=h.lJ;omega) h.hY h.dj
def kg (z:Nat) (L:aH6) (nm:aH3) (rm a aX:Int) (l:aH4) (g:aH8) (over:Bool):UY:=if over=true then⟨0,l,g,true⟩ else if aX < 1 then⟨0,l,g,false⟩ else mI z L nm rm a aX (qU l) l g
def f2.ajL (h:f2 z R L nm l g) (rm a aX:Int) (over:Bool):f2 z R L nm (kg z L nm rm a aX l g over).l (kg z L nm rm a aX l g over).g:=by
 unfold kg
 split
 .exact h
 .split
  .exact h
  .exact f2.NF rm a aX _ l g h (fun k Z=>(BL l).mem_iff.1 Z) ((BL l).nodup_iff.2 h.hY)
def ajM (z R:Int) (L:aH6) (nm:aH3) (n rm:Int) (l:aH4) (g:aH8) (done:Bool) (a aX:Int) (E:aX < 1):Fn prog 120 [ap 2001,ab a,ab aX] (iy z R L nm n rm l g false done) [] (ab 0) (iy z R L nm n rm l g false done):=by refine aP [] func120 ?_;exact dh ⟨fun _=>bb,fun h=>at1 (oj h) aD7⟩
def f2.ajN (h:f2 z R L nm l g) (n rm:Int) (over done:Bool) (a aX:Int) (G:aX<=9223372036854775807):Fn prog 120 [ap 2001,ab a,ab aX] (iy z R L nm n rm l g over done) [] (ab (kg z L nm rm a aX l g over).e)
  (iy z R L nm n rm (kg z L nm rm a aX l g over).l (kg z L nm rm a aX l g over).g (kg z L nm rm a aX l g over).over done):=by
 cases over with
 |true=>exact ajF z R L nm n rm l g done a aX
 |false=>
  by_cases E:aX < 1
  .have e:kg z L nm rm a aX l g false=⟨0,l,g,false⟩:=(mu aD8).trans (vj E);rw[e];exact ajM z R L nm n rm l g done a aX E
  .have e:kg z L nm rm a aX l g false=mI z L nm rm a aX (qU l) l g:=(mu aD8).trans (mu E);rw[e];exact ajJ h.cs nm n rm l g done a aX aD7 G (fun k Z=>by have:=h.lt k Z;have:=h.aR;omega) h.lJ h.hY h.dj
def f2.ajO (h:f2 z R L nm l g) (n rm:Int) (over:Bool):Fn prog 142 [ap 2001] (iy z R L nm n rm l g over true) [] (.b4 [.one (.d (.b' uC (oE g))),.one (.d (.int .i64 n)),.one (.d (.bool true))]) (iy z R L nm n rm l g over true):=
 ajx z R L nm n rm l g over h.Et (fun p ag=>by
  have E:=h.gt p ag;have G:=h.aR;have ah:=jf h.cs.b3;exact⟨aD7,by rw[E.2];omega⟩) (by have:=h.NE;omega)
end
def ajP (l:aI7):(nN l).Pairwise fun a b=>zp a b=true:=
 List.pairwise_mergeSort (le:=zp) (fun a b c E G=>au1 (Int.le_trans (gd E) (gd G))) (fun a b=>by
  rcases Int.le_total a b with h |h
  .rw[show zp a b=true from au1 h];rfl
  .rw[show zp b a=true from au1 h];exact Bool.or_true _) l
def ajQ {l m:aI7} (ag:m.Perm l) (aw:m.Pairwise fun a b=>zp a b=true):nN l=m:=
 List.Perm.eq_of_pairwise (fun a b _ _ E G=>Int.le_antisymm (gd E) (gd G)) (ajP l) aw ((En l).trans ag.symm)
end
section
section
variable {z R:Nat} {L:aH6} {top base:aH3}
def ajR {j:Nat} (h:b6 z R L) {d:aI} (H:dk L top=some d) (V:j<=ce L top) (gg: ∀i,i < j->eN L (i+1) top≠base) (mJ:j=ce L top\/eN L (j+1) top=base):(c6 L (ce L top) top).take j=kA L top base:=by
 have cw:=(h.b5 top).1;have al:=pX cw;unfold kA;refine(Um _ _ j aD7 (fun i x hi hx=>?_) ?_).symm
 .rw[HO cw aD7] at hx;injection hx with hx
  subst hx;have:=gg i hi;simp[this]
 .rcases mJ with mJ |mJ
  .exact .inl aD7
  .by_cases c:j=ce L top
   .exact .inl aD7
   .exact .inr ⟨_,HO cw aD7,by rw[mJ];simp⟩
def ajS {j:Nat} (h:b6 z R L) {d:aI} (H:dk L top=some d) (V:j<=ce L top) (mJ:eN L (j+1) top=base):hN L top base=true:=by
 have cw:=(h.b5 top).1;unfold hN;rw[H,Option.isSome_some,aB6,ay9]
 by_cases c:j=ce L top
 .rw[c,MW h cw ⟨d,H⟩] at mJ;exact .inl (au1 mJ.symm)
 .refine .inr (au1 ?_);have:=HO cw (i:=j) aD7;rw[mJ] at this;exact ay0 this
def ajT (h:b6 z R L) {d:aI} (H:dk L top=some d) (gg: ∀i,i<=ce L top->eN L (i+1) top≠base):hN L top base=false:=by
 have cw:=(h.b5 top).1;unfold hN;rw[H,Option.isSome_some,aB6,ax5];constructor
 .refine ax2 fun e=>gg _ (at0 _) ?_
  rw[MW h cw ⟨d,H⟩,e]
 .refine ax2 fun e=>?_
  obtain⟨i,hi,hx⟩:=aA5 e;have al:=pX cw;have:=HO cw (i:=i) aD7;rw[as7 hi,hx] at this;injection this with this
  exact gg i aD7 this.symm
abbrev U0 (base:aH3) (a:aH3) (c:Nat):aW:=[(0,ap 1001),(2,bN base),(8,dY c),(9,bN a),(10,ab 0)]
abbrev U1 (z R:Int) (L:aH6) (c:Nat) (x:aJ5):ay:=bP z R L++[(c,.row 9 .str x)]
def NG (h:b6 z R L) {d:aI} (H:dk L top=some d) (base:aH3):Fn prog 137 [ap 1001,bN top,bN base] (bP z R L) [] (.b4 [.one (.d (.b' .str (kA L top base))),.one (.d (.bool (hN L top base)))]) (bP z R L):=by
 have cw:=(h.b5 top).1;have h6:=(h.b5 top).2;have fO:=pX cw;have hs:=fun j V=>MV h cw ⟨d,H⟩ j V
 have mJ:=MW h cw ⟨d,H⟩
 have xi:fh L top=(eN L 1 top,0):=by
  unfold fh;rw[show eN L 1 top=d.back by rw[Bn];show(match dk L top with |none=>top |some d=>d.back)=_;rw[H],H]
 have iO: ∀j,j < ce L top->fh L (eN L (j+1) top)=(eN L (j+1+1) top,0)/\eN L (j+1) top≠[]:=fun j V=>by
  obtain⟨e,U⟩:=hs (j+1) V;refine⟨?_,D' h ⟨e,U⟩⟩;unfold fh;rw[Bn L (j+1),U]
 have rE: ∀j,j < ce L top->(c6 L (ce L top) top).take (j+1)=(c6 L (ce L top) top).take j++[eN L (j+1) top]:=fun j V=>Ho cw j V
 have jB:=fun j V gg U=>ajR (j:=j) (base:=base) h H V gg U
 have ajU:=fun j V U=>ajS (j:=j) (base:=base) h H V U
 have ajV:=fun gg=>ajT (base:=base) h H gg
 have AS:=HC h top;rw[xi] at AS;generalize kA L top base=kc at*;generalize hN L top base=tj at*;generalize c6 L (ce L top) top=hO at*;generalize ce L top=tW at*;refine aP [3,5,7] func137 ?_;refine av AS <| dZ [5,7] (X:=Nat) (fun j=>U0 base (eN L (j+1) top) 5002) (fun j=>U1 z R L 5002 (hO.take j)) (fun j=>j<=tW/\ ∀i,i < j->eN L (i+1) top≠base) (fun j=>tW - j) 0 ⟨at6 _,fun i hi=>at1 hi (aC7 i)⟩ ?_ ?_
 .exact(ac.nil 8 5002 9 .str rfl rfl).trans (ac.sub aA aA)
 rintro j ⟨V,gg⟩;refine fR ⟨fun E=>?_,fun E=>?_⟩
 .have E:(!decide (eN L (j+1) top=base))=true:=E;have E: ¬eN L (j+1) top=base:=aG9
  refine⟨fun G=>?_,fun G=>?_⟩
  .have G:eN L (j+1) top=[]:=gd G
   have Eu:j=tW:=by
    rcases aB8 j tW with bd |bd
    .exact at1 G (iO j bd).2
    .omega
   have NH:hO.take j=kc:=jB j V gg (.inl Eu)
   have ym:tj=false:=ajV fun i hi=>by
    rcases aB8 i j with bd |bd
    .exact gg i bd
    .rw[show i=j by omega];exact E
   exact bw [] (bn) <| fR ⟨_,_,_,ac.dH 5002 rfl,rfl,⟨NH,(show decide (eN L (j+1) top=base)=tj by rw[ax2 E,ym]),trivial⟩,aA,rfl⟩
  .have G: ¬eN L (j+1) top=[]:=oj G
   have Eu:j < tW:=by
    rcases aB8 j tW with bd |bd
    .exact bd
    .exact at1 (by rw[show j=tW by omega];exact mJ) G
   have U2:=HC h (eN L (j+1) top);rw[(iO j Eu).1] at U2;have m:List.length (α:=aH3) (hO.take j)+1<=4294967296:=aF0
   have e:=rE j Eu;refine bw [7] (bn) ⟨m,rfl,av U2 ⟨j+1,⟨Eu,fun i hi=>?_⟩,aD7,?_⟩⟩
   .rcases aB8 i j with bd |bd
    .exact gg i bd
    .rw[show i=j by omega];exact E
   refine ac.trans (ac.sub (K':=U0 base (eN L (j+1+1) top) 29) (B':=U1 z R L 29 (hO.take (j+1))) aA ⟨rfl,rfl,rfl,rfl,at2 (fun aH:List aH3=>some (a8.row 9 .str aH)) e.symm,trivial⟩) ?_;exact(ac.aT 29 5002 rfl).trans (ac.sub aA aA)
 .have E:(!decide (eN L (j+1) top=base))=false:=E;have E:eN L (j+1) top=base:=aG9
  have NH:hO.take j=kc:=jB j V gg (.inr E);have ym:tj=true:=ajU j V E;exact bw [] (bn) <| fR ⟨_,_,_,ac.dH 5002 rfl,rfl,⟨NH,(show decide (eN L (j+1) top=base)=tj by rw[au1 E,ym]),trivial⟩,aA,rfl⟩
abbrev H2 (top base:aH3) (over:Bool):List bA:=[.ptr 1001 0,.d (.str top),.d (.str base),.d (.bool over)]
abbrev p6 (z R:Int) (L:aH6) (top base:aH3) (over:Bool):ay:=bP z R L++[(2001,.cells (H2 top base over))]
def uD (L:aH6) (top base:aH3):Int:=if(dk L top).isSome=false then 140 else if hN L top base=false\/kA L top base=[] then 1 else 0
def ajW (h:b6 z R L) (top base:aH3) (U:uD L top base≠0):Fn prog 78 [ap 1001,bN top,bN base] (bP z R L) [] (.b4 [pL,dw (uD L top base)]) (bP z R L):=by
 unfold uD at U⊢
 cases H:dk L top with
 |none=>
  rw[vj (show(none:Option aI).isSome=false from rfl)];refine aP [] func78 ?_;exact av (agK _ _ L top H) bb
 |some d=>
  have bC: ¬(some d).isSome=false:=by simp
  rw[H,mu bC] at U;rw[mu bC];have O:hN L top base=false\/kA L top base=[]:=ax9 fun x=>U (mu x)
  rw[vj O];have j5:=NG h H base;generalize hN L top base=tj at*;generalize kA L top base=kc at*;refine aP [] func78 ?_;refine av (jV _ _ L h.toiI top d H) ⟨fun _ _=>av j5 ⟨fun _=>?_,fun E=>?_⟩,fun h=>by cases h⟩
  .exact bb
  .refine⟨fun _=>?_,fun G=>?_⟩
   .exact bb
   .exfalso;have E:(!tj)=false:=E;have G:decide (((kc.length:Nat):Int)=0)=false:=G;have G:=oj G;rcases O with O |O
    .rw[O] at E;cases E
    .rw[O] at G;exact G rfl
def ajX (U:uD L top base=0):(∃d,dk L top=some d)/\hN L top base=true/\kA L top base≠[]:=by
 unfold uD at U
 split at U
 .exact at1 U aD8
 .rename_i E
  split at U
  .exact at1 U aD8
  .rename_i G;refine⟨aw9.1 (by rw[Bool.not_eq_false] at E;exact E),?_,fun e=>G (.inr e)⟩
   cases e:hN L top base with
   |true=>rfl
   |false=>exact at1 (.inl e) G
def ajY (h:b6 z R L) (top base:aH3) (U:uD L top base=0):Fn prog 78 [ap 1001,bN top,bN base] (bP z R L) [2001] (.b4 [.one (.ptr 2001 0),dw 0]) (p6 z R L top base false):=by
 obtain⟨⟨d,H⟩,E,G⟩:=ajX U;have j5:=NG h H base;rw[E] at j5;generalize kA L top base=kc at*;refine aP [] func78 ?_;refine av (jV _ _ L h.toiI top d H) ⟨fun _ _=>av j5 <| dh ⟨fun ah=>?_,fun _=>?_⟩,fun h=>by cases h⟩
 .exfalso;have ah:decide (((kc.length:Nat):Int)=0)=true:=ah;have ah:=gd ah;exact G (List.length_eq_zero_iff.1 aD7)
 exact⟨rfl,_,_,_,(ac.aT 32 2001 rfl).trans (ac.th 2001 (l':=H2 top base false) rfl aA),rfl,aA,aA,rfl⟩
def ajZ (z R:Int) (L:aH6) (top base:aH3) (over:Bool):Fn prog 331 [ap 2001] (p6 z R L top base over) [] (gb over) (p6 z R L top base over):=by refine aP [] func331 ?_;exact bb
def aj0 (z R:Int) (L:aH6) (top base:aH3) (over:Bool):Fn prog 330 [ap 2001] (p6 z R L top base over) [] g' (p6 z R L top base true):=by refine aP [] func330 ?_;exact⟨_,_,_,ac.th 2001 (l':=H2 top base true) rfl aA,rfl,trivial,aA,rfl⟩
def U3 (h:b6 z R L) (top base:aH3) (over:Bool) (n:aH3) (k:Nat) {e:aI} (U:dk L n=some e):Fn prog 335 [bN n,ab (k:Int),ap 3001] (p6 z R L top base over++[(3001,.cells [.ptr 2001 0])]) [] (gb (hu L n k)) (p6 z R L top base over++[(3001,.cells [.ptr 2001 0])]):=by
 have lK:=(h.fK e (cP U).1).1.ez;have fg:=h.toiI.M (cP U).1;have aj1:hu L n k=(decide (e.im.t.length<=k)||decide ((e.im.t.getD k b9).1=0)):=by unfold hu;rw[U]
 rw[aj1];refine aP [] func335 ?_;refine av (jV _ _ L h.toiI n e U) <| av (h1 (nc e.im) fg rfl rfl rfl rfl) ⟨fun E=>?_,fun E=>?_⟩
 .have E:((e.im.t.length:Nat):Int)<=(k:Int):=gd E;exact ea bn rfl (show true=_ by rw[au1 (by omega:e.im.t.length<=k)];rfl)
 .have E: ¬((e.im.t.length:Nat):Int)<=(k:Int):=oj E;refine av (h1 (Bg e.im lK k aD7) fg rfl rfl rfl rfl) ?_;exact ea bn rfl (show decide ((e.im.t.getD k b9).1=0)=_ by rw[ax2 (by omega: ¬e.im.t.length<=k)];rfl)
def p7 (L:aH6) (top base:aH3) (over:Bool):Int×Bool:=if over=true then(0,false) else match oC L top base with
 |some k=>((k:Int),true)
 |none=>(0,false)
abbrev aj2 (l:aJ5) (n k:Nat):aW:=[(1,ap 1),(5,bE .str l),(7,.c (.one (.c2 335 [.p 1 0]))),(50,ab (n:Int)),(51,ab (k:Int))]
abbrev aj3 (l:aJ5) (n k i:Nat):aW:=[(1,ap 1),(5,bE .str l),(7,.c (.one (.c2 335 [.p 1 0]))),(50,ab (n:Int)),(51,ab (k:Int)),(8,ab (k:Int)),(54,bE .str l),(55,ab (l.length:Nat)),(56,ab (i:Int))]
abbrev H3 (z R:Int) (L:aH6) (top base:aH3) (over:Bool):ay:=p6 z R L top base over++[(1,.cells [.ptr 2001 0])]
def aj4 {α:Type} (p:α->Bool) {l:List α} {i:Nat} (h:i < l.length) (ar:(l.take i).any p=false) (E:p l[i]=false):(l.take (i+1)).any p=false:=by rw[aB1,as7 h,List.any_append,ar];show(false||(p l[i]||false))=false;rw[E];rfl
def aj5 (h:b6 z R L) (base:aH3) (over:Bool) {d:aI} (H:dk L top=some d):Fn prog 333 [ap 2001] (p6 z R L top base over) [] (.b4 [.one (.d (.int .i64 (p7 L top base over).1)),.one (.d (.bool (p7 L top base over).2))]) (p6 z R L top base over):=by
 have j5:=NG h H base;have lK:=(h.fK d (cP H).1).1.ez;have fg:=h.toiI.M (cP H).1;have cA:b7 L top=d.im.t.length:=aF1
 have TK:(kA L top base).length<=16:=by
  have E:(kA L top base).length<=(c6 L (ce L top) top).length:=(List.takeWhile_sublist _).length_le;rw[pX (h.b5 top).1] at E;have:=(h.b5 top).2;omega
 have hs: ∀n,n∈kA L top base-> ∃e,dk L n=some e:=fun n hn=>(Uo h H n hn).2
 have bl: ∀k,p4 L top base k=(hu L top k&&(kA L top base).any fun n=> !hu L n k):=fun k=>rfl
 have aj6:over=true->p7 L top base over=(0,false):=fun e=>vj e
 have aj7:over=false->hN L top base=false->p7 L top base over=(0,false):=fun af ao=>by
  unfold p7 oC;rw[af,ao];rfl
 have aj8:over=false->hN L top base=true-> ∀k,k < b7 L top->p4 L top base k=true->(∀j,j < k->p4 L top base j=false)->p7 L top base over=((k:Int),true):=fun af ao k Z ag hn=>by
  unfold p7 oC;rw[af,mu aD8,vj ao,List.find?_range_eq_some.2 ⟨ag,List.mem_range.2 Z,fun j V=>by simp[hn j V]⟩]
 have aj9:over=false->(∀k,k < b7 L top->p4 L top base k=false)->p7 L top base over=(0,false):=fun af hn=>by
  unfold p7;rw[af,mu aD8,aiG hn]
 have HS:=fun k=>U3 h top base over top k H
 have aj':=fun n (hn:n∈kA L top base) k=>U3 h top base over n k (hs n hn).choose_spec
 generalize p7 L top base over=U4 at*;generalize hN L top base=tj at*;generalize kA L top base=kc at*;generalize b7 L top=n at*;subst cA;refine aP [5] func333 ?_;refine⟨rfl,av (jV _ _ L h.toiI top d H) ⟨rfl,av j5 ⟨rfl,fun ai=>?_,fun ai=>?_⟩⟩⟩
 .have e:=aj6 ai;exact ea bn rfl ⟨at2 Prod.fst e.symm,at2 Prod.snd e.symm,trivial⟩
 have ai:over=false:=ai;refine⟨fun _ _=>⟨fun hi=>?_,fun hi=>?_⟩,fun h=>by cases h⟩
 .have hi:tj=false:=by
   have hi:(!tj)=true:=hi;simpa using hi
  have e:=aj7 ai hi;exact ea bn rfl ⟨at2 Prod.fst e.symm,at2 Prod.snd e.symm,trivial⟩
 have hi:tj=true:=by
  have hi:(!tj)=false:=hi;simpa using hi
 refine bw [] (cz [(1,ap 1),(4,dd d.am),(5,bE .str kc)] (H3 z R L top base over)) <| av (h1 (nc d.im) fg rfl rfl rfl rfl) <| dZ [16] (X:=Nat) (aj2 kc d.im.t.length) (fun _=>H3 z R L top base over) (fun k=>k<=d.im.t.length/\ ∀j,j < k->p4 L top base j=false) (fun k=>d.im.t.length - k) 0 ⟨at6 _,fun j V=>at1 V (aC7 j)⟩ ?_ ?_
 .exact ac.sub aA aA
 rintro k ⟨Z,gg⟩;have Z:k<=d.im.t.length:=Z;refine⟨fun J=>?_,fun J=>?_⟩
 .have J:decide ((k:Int) < ((d.im.t.length:Nat):Int))=true:=J;have cd:k < d.im.t.length:=aF7
  refine dZ [12,16] (X:=Nat) (aj3 kc d.im.t.length k) (fun _=>H3 z R L top base over) (fun i=>i<=kc.length/\(hu L top k&&(kc.take i).any fun n=> !hu L n k)=false) (fun i=>kc.length - i) 0 ⟨at6 _,Bool.and_false _⟩ ?_ ?_
  .exact ac.sub aA aA
  rintro i ⟨dc,oF⟩;have dc:i<=kc.length:=dc;refine⟨fun J=>?_,fun J=>?_⟩
  .have J:decide ((i:Int) < ((kc.length:Nat):Int))=true:=J;have xw:i < kc.length:=aF7
   have bd:=aj' _ (av5 xw) k;have jB:=fun(a:(kc.take i).any (fun n=> !hu L n k)=false) (b:(!hu L kc[i] k)=false)=>aj4 (fun n=> !hu L n k) xw a b
   have lj:=av5 xw;have kp:=lE (n:=i) xw;generalize kc[i]=nm at*;refine⟨aD7,nm,kp,bw [16] (cz [(1,ap 1),(5,bE .str kc),(7,.c (.one (.c2 335 [.p 1 0]))),(50,ab (d.im.t.length:Nat)),(51,ab (k:Int)),(8,ab (k:Int)),(54,bE .str kc),(55,ab (kc.length:Nat)),(56,ab (i:Int)),(10,bN nm)] (H3 z R L top base over)) <| av (Fn.aT [(3001,1)] (HS k)) ⟨fun g1=>?_,fun g1=>?_⟩⟩
   .have g1:hu L top k=true:=g1;refine av (Fn.aT [(3001,1)] bd) ⟨fun g2=>?_,fun g2=>?_⟩
    .have g2:(!hu L nm k)=true:=g2
     have Eb:p4 L top base k=true:=by
      rw[bl,g1,aB6,List.any_eq_true];exact⟨nm,lj,g2⟩
     have e:=aj8 ai hi k cd Eb gg;exact ea bn rfl ⟨at2 Prod.fst e.symm,at2 Prod.snd e.symm,trivial⟩
    .have g2:(!hu L nm k)=false:=g2;rw[g1,aB6] at oF;exact⟨aD7,i+1,⟨xw,by rw[g1,aB6];exact jB oF g2⟩,aD7,ac.sub aA aA⟩
   .have g1:hu L top k=false:=g1;exact⟨aD7,i+1,⟨xw,by rw[g1];rfl⟩,aD7,ac.sub aA aA⟩
  .have J:decide ((i:Int) < ((kc.length:Nat):Int))=false:=J;have xw:i=kc.length:=aF6
   have Eb:p4 L top base k=false:=by
    rw[bl,<-oF,xw,av0]
   exact⟨aD7,k+1,⟨cd,fun j V=>by
    rcases aB8 j k with bd |bd
    .exact gg j bd
    .rw[show j=k by omega];exact Eb⟩,aD7,ac.sub aA aA⟩
 .have J:decide ((k:Int) < ((d.im.t.length:Nat):Int))=false:=J;have ey:k=d.im.t.length:=aF6
  have e:=aj9 ai fun j V=>gg j aD7
  exact ea bn rfl ⟨at2 Prod.fst e.symm,at2 Prod.snd e.symm,trivial⟩
def aka (h:b6 z R L) (base:aH3) (over:Bool) {d:aI} (H:dk L top=some d):Fn prog 332 [ap 2001] (p6 z R L top base over) [] (.b4 [.one (.d (.bool (h2 z L top base over).done)),dw (h2 z L top base over).e]) (p6 z R (h2 z L top base over).L top base (h2 z L top base over).over):=by
 have v6:=aj5 h base over H;have lK:=(h.fK d (cP H).1).1.ez;have fg:=h.toiI.M (cP H).1;have j5:d.im.z=z:=(h.fK d (cP H).1).2.1;have xt:=h.b3;have ag:=jf h.b3
 cases over with
 |true=>
  have e:h2 z L top base true=⟨false,160,L,true⟩:=rfl;rw[e];refine aP [] func332 ?_;exact av (jV _ _ L h.toiI top d H) ⟨rfl,fR bb⟩
 |false=>
  have bC:h2 z L top base false=match oC L top base with
   |some k=>⟨false,(fw z L top ((k*2 ^z:Nat):Int) (gz z L top (k:Int))).e,(fw z L top ((k*2 ^z:Nat):Int) (gz z L top (k:Int))).L,false⟩
   |none=>⟨decide ((ig L top base).e=0),(ig L top base).e,(ig L top base).L,decide ((ig L top base).e=0)⟩:=by
   unfold h2;rw[H];rfl
  cases hn:oC L top base with
  |some k=>
   rw[hn] at bC;have bC:h2 z L top base false=⟨false,(fw z L top ((k*2 ^z:Nat):Int) (gz z L top (k:Int))).e,(fw z L top ((k*2 ^z:Nat):Int) (gz z L top (k:Int))).L,false⟩:=bC;rw[bC]
   have J:p7 L top base false=((k:Int),true):=by
    unfold p7;rw[hn];rfl
   rw[J] at v6
   have Z:k < d.im.t.length:=by
    have:=(UC hn).2.1;unfold b7 at this;rw[H] at this;exact this
   have U5:(k:Int)*((2 ^((d.im.z:Nat):Int).toNat:Nat):Int)=((k*2 ^z:Nat):Int):=by
    rw[j5];show(k:Int)*((2 ^z:Nat):Int)=_;rw[aB3]
   have dR:=MU h top (k:Int)
   have bW:(gz z L top (k:Int)).length<=1000000000:=by
    have:gz z L top (k:Int)=fl z L top (ce L top) k:=by
     unfold gz;rw[H];simp only;rw[vj ⟨aD7,aD7⟩];rfl
    rw[this,za h.tonJ H (h.b5 top).1 k];omega
   have HV:=MP h top ((k*2 ^z:Nat):Int) (gz z L top (k:Int)) bW;rw[<-U5] at HV⊢;generalize gz z L top (k:Int)=x at*;generalize fw z L top ((k:Int)*((2 ^((d.im.z:Nat):Int).toNat:Nat):Int)) x=U6 at*;have m1:(0:Int)<=(k:Int)/\(0:Int)<=((d.im.z:Nat):Int)/\((d.im.z:Nat):Int)<=64:=aE5
   have mk:k*2 ^z<=256*8:=ay8 aD7 ag.2;have m2:c5 ((k:Int)*((2 ^((d.im.z:Nat):Int).toNat:Nat):Int)):=by rw[U5];omega
   refine aP [6] func332 ?_;exact av (jV _ _ L h.toiI top d H) ⟨rfl,dh ⟨fun _ _=>av v6 ⟨fun _=>bw [] (cz [(0,ap 2001),(4,dd d.am),(5,ab (k:Int))] (p6 z R L top base false)) <| av (h1 (xr d.im) fg rfl rfl rfl rfl) ⟨m1,m2,av dR <| av HV ⟨rfl,bb⟩⟩,fun h=>at1 (show true=false from h) aD8⟩,fun h=>by cases h⟩⟩
  |none=>
   rw[hn] at bC;have bC:h2 z L top base false=⟨decide ((ig L top base).e=0),(ig L top base).e,(ig L top base).L,decide ((ig L top base).e=0)⟩:=bC;rw[bC]
   have J:p7 L top base false=(0,false):=by
    unfold p7;rw[hn];rfl
   rw[J] at v6;have zu:=aie h top base;generalize ig L top base=asO at*;refine aP [7] func332 ?_;exact av (jV _ _ L h.toiI top d H) ⟨rfl,dh ⟨fun _ _=>av v6 <| dh <| bw [] (cz [(0,ap 2001)] (p6 z R L top base false)) <| av zu ⟨rfl,bb⟩,fun h=>by cases h⟩⟩
end
end
section
section
variable {P:aI0} {ids:aH4} {K:aW} {B:ay}
def akb {o:Oper} {T:aI3} {x v:aI2} {c i off:Nat} {e:aI3} {u:bz} {xs:List (aa u)} {y y':aa u} {H4:D} {c9:aJ3} (ai:o.op= .store T x v) (hi:P.info? T=some c9) (aM:c9.size=1) (hx:a1 K x= .c (.one (.ga c (aR u) i off)))
  (aB:a1 K v= .c (.one (.d H4))) (de:ae B c=some (.row e u xs)) (aD:eR xs i=some y) (s7:off < aR u) (ph:oV u y') (J: ∀j,j < aR u->fB u y' j=if j=off then H4 else fB u y j)
  (E: ∀{I:Nat->Prop} {w:aH9} {aH:aI8},gL I w H4 aH->aH.cells=List.toArray [aH]/\aH.oneCell'=true) (N:Nat):
  bx P N ids o K B .undef ⟨[c],[],[(c,some (.row e u (xs.set i y')))]⟩:=by
 have m1:x∈o.op.operands:=aE4
 have m2:v∈o.op.operands:=aE4
 have tk:i < xs.length:=CF aD;refine bx.hT de fun K' B' g1 C ρ F a w ak au fG=>?_
 obtain⟨bg,j7,cs,dV,mW⟩:=ak.holds c _ fG;have Kg:=au.ga ((g1 x m1).trans hx);have ao:gL (bZ C B' F w) w H4 (a.eval v):=au.ev ((g1 v m2).trans aB);obtain⟨g9,ip⟩:=E ao;obtain⟨n1,dV⟩:=dV;rcases dV with⟨_,ar⟩ |⟨g,cap,di,o3,_,aV,sJ,aC,cA,cq⟩
 .omega
 .have Ap:g=(ρ c).bf:=j7 g (by rw[o3];rfl);subst Ap
  have U7:i*aR u+off < xs.length*aR u:=by
   have:=az6 (aR u) tk;rw[aA6] at this;omega
  have asP:xs.length*aR u<=cap*aR u:=az6 _ sJ;have vd:w.heap[(ρ c).bf]? =some (.cells (List.toArray di.toList) e (0,0)):=by simpa using aV
  have jL:i*aR u+off+ [a.eval v].length<=di.toList.length:=aF5
  have qt:=CQ (P:=P) (ev:=a.eval) (w:=w) ai Kg g9 hi aM vd jL (by simpa using ip);refine⟨_,qt,CU ((bg _).2 (by rw[o3];rfl)),fun I U=>?_⟩;have mX:=setRow_heap w (ρ c).bf di (List.take (i*aR u+off) di.toList++[a.eval v]++List.drop (i*aR u+off+ [a.eval v].length) di.toList).toArray e (0,0) aV
  have hG:(List.take (i*aR u+off) di.toList++[a.eval v]++List.drop (i*aR u+off+ [a.eval v].length) di.toList)=di.toList.set (i*aR u+off) (a.eval v):=by
   rw[List.set_eq_take_append_cons_drop,vj aF5];simp
  rw[hG] at mX;refine⟨bg,j7,cs.set (i*aR u+off) (a.eval v),⟨by simp[n1],.inr ⟨(ρ c).bf,cap,_,by rw[o3];simp,at6 _,by rw[hG];exact mX,by simpa using sJ,aC,by simp[cA],?_⟩⟩,fun j aH aM=>?_⟩
  .rw[<-cq];simp[List.take_set]
  .by_cases lg:i=j
   .subst lg;rw[ay7 tk] at aM;injection aM with aM
    subst aM;have H:=mW i y aD;refine cy.mk u y' _ ph fun q a2=>?_
    rw[J q a2]
    by_cases bm:q=off
    .rw[vj bm];subst bm;exact⟨a.eval v,by rw[ay7 aD7],gL.mono U _ _ ao⟩
    .rw[mu bm];obtain⟨x,hx,pG⟩:=cy.cell u y _ q H a2;exact⟨x,by rw[ax4 aD7];exact hx,gL.mono U _ _ pG⟩
   .rw[ax4 lg] at aM;have H:=mW j aH aM;refine cy.mk u aH _ (cy.wf u aH _ H) fun q a2=>?_
    obtain⟨x,hx,pG⟩:=cy.cell u aH _ q H a2;refine⟨x,?_,gL.mono U _ _ pG⟩;rw[ax4 ?_]
    .exact hx
    .intro e;have E:(i*aR u+off)/aR u=i:=by rw[aB7,Nat.mul_add_div aD7,Nat.div_eq_of_lt s7,aA0]
     have G:(j*aR u+q)/aR u=j:=by rw[aB7,Nat.mul_add_div aD7,Nat.div_eq_of_lt a2,aA0]
     rw[e,G] at E;exact lg E.symm
end
def akc {I:Nat->Prop} {w:aH9} {n:Int} {aH:aI8} (h:gL I w (.int .i64 n) aH):aH.cells=List.toArray [aH]/\aH.oneCell'=true:=by have h:aH= .int .i64 n:=h;subst h;exact⟨rfl,rfl⟩
def akd:(prog.info? 3).map (·.size)=some 1:=by kernel_rfl
abbrev gA:bz:=.bV aq (.bV aq aq)
abbrev cK:=Int×Int×Int
abbrev aI6:=List cK
abbrev ake (x:cK):List bA:=[.d (.int .i64 x.1),.d (.int .i64 x.2.1),.d (.int .i64 x.2.2)]
def fa (l:aI6):Int:=match l.getLast? with
 |none=>0
 |some x=>x.1+x.2.1
def jh (l:aI6) (n k:Int):List cK:=if n < 1 then l else match l.getLast? with
 |some x=>if x.2.2=k then l.set (l.length - 1) (x.1,x.2.1+n,x.2.2) else l++[(fa l,n,k)]
 |none=>l++[(fa l,n,k)]
def BM {α:Type} {l:List α} {x:α} (h:l.getLast? =some x):0 < l.length/\eR l (l.length - 1)=some x:=by rw[List.getLast?_eq_getElem?] at h;exact⟨by have:=(au0.1 h).1;omega,h⟩
def NI {α:Type} {l:List α} (h:l.getLast? =none):l=[]:=aE6
def akf (l:aI6) (O: ∀x,l.getLast? =some x-> -4611686018427387904<=x.1/\x.1<=4611686018427387903/\ -4611686018427387904<=x.2.1/\x.2.1<=4611686018427387903) (al:l.length<=4294967296):
  Fn prog 264 [dY 1001] [(1001,.row 66 gA l)] [] (ab (fa l)) [(1001,.row 66 gA l)]:=by
 refine aP [] func264 ?_;refine⟨fun h=>?_,fun h=>?_⟩
 .have h:((l.length:Nat):Int)=0:=gd h;have ar:l=[]:=List.length_eq_zero_iff.1 aD7;subst ar;exact bb
 .have h: ¬((l.length:Nat):Int)=0:=oj h
  cases hx:l.getLast? with
  |none=>rw[NI hx] at h;exact at1 rfl h
  |some x=>
   have O:=O x hx;obtain⟨ar,aV⟩:=BM hx;have e:(((l.length:Nat):Int) - 1).toNat=l.length - 1:=aE5
   have m:c5 (((l.length:Nat):Int) - 1):=aE5
   have m2:(0:Int)<=((l.length:Nat):Int) - 1/\(((l.length:Nat):Int) - 1).toNat < l.length:=aE5
   have m3:c5 (x.1+x.2.1):=aE5
   have rQ:eR l (((l.length:Nat):Int) - 1).toNat=some x:=by rw[e];exact aV
   refine⟨m,⟨m2.1,aD7⟩,x,rQ,m,⟨m2.1,aD7⟩,x,rQ,m3,rfl,?_⟩;exact ea bn rfl (show x.1+x.2.1=fa l by unfold fa;rw[hx])
def U8 (l:aI6) (n k:Int) (O: ∀x,l.getLast? =some x-> -4611686018427387904<=x.1/\x.1<=4611686018427387903/\ -4611686018427387904<=x.2.1/\x.2.1<=4611686018427387903) (hn:n<=4611686018427387903) (al:l.length<=1000000000):
  Fn prog 262 [dY 1001,ab n,ab k] [(1001,.row 66 gA l)] [1002] (dY 1002) [(1002,.row 66 gA (jh l n k))]:=by
 obtain⟨ii,akg,akh⟩:=lp akd;have mJ:=akf l O aD7;refine aP [] func262 ?_;refine⟨fun h=>?_,fun h=>?_⟩
 .have h:n < 1:=gd h;have e:jh l n k=l:=vj h;exact⟨_,_,_,ac.aT 1001 1002 rfl,rfl,rfl,⟨at2 (fun aH:List cK=>some (a8.row 66 gA aH)) e.symm,trivial⟩,rfl⟩
 have h: ¬n < 1:=oj h;have m:c5 (((l.length:Nat):Int) - 1):=aE5
 refine⟨m,?_⟩
 cases hx:l.getLast? with
 |none=>
  have ar:=NI hx;subst ar;refine⟨fun G=>at1 G aD8,fun _=>av mJ ⟨(show(0+1:Nat)<=4294967296 from by decide),rfl,?_⟩⟩;have e:jh [] n k=[(fa [],n,k)]:=by unfold jh;rw[mu h];rfl
  exact⟨_,_,_,ac.aT 42 1002 rfl,rfl,rfl,⟨at2 (fun aH:List cK=>some (a8.row 66 gA aH)) e.symm,trivial⟩,rfl⟩
 |some x=>
  have O:=O x hx;obtain⟨ar,aV⟩:=BM hx;have e:(((l.length:Nat):Int) - 1).toNat=l.length - 1:=aE5
  have rQ:eR l (((l.length:Nat):Int) - 1).toNat=some x:=by rw[e];exact aV
  have m2:(0:Int)<=((l.length:Nat):Int) - 1/\((l.length:Nat):Int) - 1 < l.length:=aE5
  refine⟨fun _=>?_,fun G=>?_⟩
  .refine⟨m2,x,rQ,fun Z=>?_,fun Z=>?_⟩
   .have Z:x.2.2=k:=gd Z;have m3:c5 (x.2.1+n):=aE5
    refine⟨m2,x,rQ,m3,m2,bm (fun N=>akb (u:=gA) (y:=x) (y':=((x.1,x.2.1+n,x.2.2):cK)) (off:=1) rfl akg akh rfl rfl rfl rQ aD8 ⟨trivial,trivial,trivial⟩ (fun j V=>?_) akc N) ?_⟩
    .match j,V with
     |0,_=>rfl
     |1,_=>rfl
     |2,_=>rfl
    have ao:jh l n k=l.set (((l.length:Nat):Int) - 1).toNat (x.1,x.2.1+n,x.2.2):=by
     unfold jh;rw[mu h,hx,e];show(if x.2.2=k then _ else _)=_;rw[vj Z]
    exact⟨_,_,_,ac.aT 1001 1002 rfl,rfl,rfl,⟨at2 (fun aH:List cK=>some (a8.row 66 gA aH)) ao.symm,trivial⟩,rfl⟩
   .have Z: ¬x.2.2=k:=oj Z;refine av mJ ?_;have iu:List.length (α:=cK) l+1<=4294967296:=aE5
    refine⟨iu,rfl,?_⟩
    have ao:jh l n k=l++[(fa l,n,k)]:=by
     unfold jh;rw[mu h,hx];show(if x.2.2=k then _ else _)=_;rw[mu Z]
    exact⟨_,_,_,ac.aT 42 1002 rfl,rfl,rfl,⟨at2 (fun aH:List cK=>some (a8.row 66 gA aH)) ao.symm,trivial⟩,rfl⟩
  .have G: ¬((l.length:Nat):Int) - 1≥0:=oj G;omega
def lQ (ks:aI7):List cK:=ks.foldl (fun l k=>jh l 1 k) []
structure zv (ks:aI7) (l:aI6):Prop where
 Ev:fa l=(ks.length:Int)
 H5: ∀x,x∈l->0<=x.1/\1<=x.2.1/\x.1+x.2.1<=(ks.length:Int)/\ ∀k:Nat,x.1<=(k:Int)->(k:Int) < x.1+x.2.1->ks[k]? =some x.2.2
 len:l.length<=ks.length
def U9 (l:aI6) (x:cK):fa (l++[x])=x.1+x.2.1:=by unfold fa;rw[List.getLast?_concat]
def zv.add {ks:aI7} {l:aI6} (h:zv ks l) (k:Int):zv (ks++[k]) (jh l 1 k):=by
 have m6: ∀x,x∈l->0<=x.1/\1<=x.2.1/\x.1+x.2.1<=((ks++[k]).length:Int)/\ ∀j:Nat,x.1<=(j:Int)->(j:Int) < x.1+x.2.1->(ks++[k])[j]? =some x.2.2:=fun x hx=>by
  obtain⟨E,G,ah,aS⟩:=h.H5 x hx;refine⟨E,G,by rw[as9];simp;omega,fun j fb fE=>?_⟩;rw[av8 aD7];exact aS j fb fE
 have mX:zv (ks++[k]) (l++[(fa l,1,k)]):=by
  refine⟨?_,fun x hx=>?_,by simp;exact h.len⟩
  .rw[U9,h.Ev,as9];simp
  .rcases av9.1 hx with hx |hx
   .exact m6 x hx
   .rw[au5] at hx;subst hx;refine⟨by show 0<=fa l;rw[h.Ev];omega,(show(1:Int)<=1 from by decide),by show fa l+1<=_;rw[h.Ev,as9];simp,fun j fb fE=>?_⟩;have fb:fa l<=(j:Int):=fb;have fE:(j:Int) < fa l+1:=fE;rw[h.Ev] at fb fE;have:j=ks.length:=aE5
    subst this;rw[aw4 (at0 _)];simp
 unfold jh;rw[mu aD8]
 cases hx:l.getLast? with
 |none=>exact mX
 |some x=>
  simp only
  split
  .rename_i Z;obtain⟨ar,aV⟩:=BM hx;have H6:x∈l:=ay0 aV;have mJ:x.1+x.2.1=(ks.length:Int):=by have:=h.Ev;unfold fa at this;rw[hx] at this;exact this
   obtain⟨E,G,ah,aS⟩:=h.H5 x H6;refine⟨?_,fun y aD=>?_,by rw[ay3,as9];have:=h.len;omega⟩
   .unfold fa;rw[List.getLast?_eq_getElem?,ay3,ay7 aD7];show x.1+(x.2.1+1)=_;rw[as9];simp;omega
   .rcases List.mem_or_eq_of_mem_set aD with aD |rfl
    .exact m6 y aD
    .refine⟨E,by show 1<=x.2.1+1;omega,by show x.1+(x.2.1+1)<=_;rw[as9];simp;omega,fun j fb fE=>?_⟩;have fb:x.1<=(j:Int):=fb;have fE:(j:Int) < x.1+(x.2.1+1):=fE;show(ks++[k])[j]? =some x.2.2
     by_cases V:(j:Int) < x.1+x.2.1
     .rw[av8 aD7];exact aS j fb V
     .have:j=ks.length:=aE5
      subst this;rw[aw4 (at0 _),Z];simp
  .exact mX
def U' (ks:aI7) (k:Int):lQ (ks++[k])=jh (lQ ks) 1 k:=by unfold lQ;rw[aB9];rfl
def Ew (ks:aI7):zv ks (lQ ks):=by
 have key: ∀n,n<=ks.length->zv (ks.take n) (lQ (ks.take n)):=fun n=>by
  induction n with
  |zero=>intro _;exact⟨rfl,(fun _ h=>by cases h),at0 _⟩
  |succ n bk=>
   intro hn;rw[aB1,as7 aD7];show zv (ks.take n++[ks[n]]) (lQ (ks.take n++[ks[n]]));rw[U'];exact(bk aD7).add _
 have:=key ks.length (at0 _)
 rwa[av0] at this
abbrev aki (ks:aI7) (j:Nat):aW:=[(3,dY 5002),(9,bE aq ks),(10,ab (ks.length:Nat)),(11,ab (j:Nat))]
def Va (ks:aI7) (Z:ks.length<=65536):Fn prog 230 [bE aq ks] [] [] (bE gA (lQ ks)) []:=by
 refine aP [] func230 ?_;refine⟨fun h=>?_,fun _=>?_⟩
 .exfalso;have h:(65536:Int) < ((ks.length:Nat):Int):=gd h;omega
 refine dZ [] (X:=Nat) (aki ks) (fun j=>[(5002,.row 66 gA (lQ (ks.take j)))]) (fun j=>j<=ks.length) (fun j=>ks.length - j) 0 (at6 _) ?_ ?_
 .exact(ac.nil 3 5002 66 gA rfl rfl).trans (ac.sub aA aA)
 intro j V;refine⟨fun J=>?_,fun J=>?_⟩
 .have J:decide ((j:Int) < ((ks.length:Nat):Int))=true:=J;have fb:j < ks.length:=aF7
  have bu:=Ew (ks.take j);have bv:(ks.take j).length=j:=aF0
  have v6:lQ (ks.take (j+1))=jh (lQ (ks.take j)) 1 ks[j]:=by
   rw[aB1,as7 fb];exact U' _ _
  refine⟨aD7,ks[j],lE (n:=j) fb,?_⟩;refine av (Fn.aT [(1001,5002)] (U8 (lQ (ks.take j)) 1 ks[j] (fun x hx=>?_) aD8 (by have:=bu.len;omega))) ?_
  .have:=bu.H5 x (ay0 (BM hx).2);omega
  exact⟨aD7,j+1,fb,aD7,ac.trans (ac.sub (K':=[(3,dY 1002),(9,bE aq ks),(10,ab (ks.length:Nat)),(11,ab ((j+1:Nat):Int))]) (B':=[(1002,.row 66 gA (lQ (ks.take (j+1))))]) aA ⟨at2 (fun aH:List cK=>some (a8.row 66 gA aH)) v6.symm,trivial⟩) ((ac.aT 1002 5002 rfl).trans (ac.sub aA aA))⟩
 .have J:decide ((j:Int) < ((ks.length:Nat):Int))=false:=J;have fE:j=ks.length:=aF6
  subst fE;exact⟨_,_,_,ac.dH 5002 rfl,rfl,(show lQ (ks.take ks.length)=lQ ks by rw[av0]),trivial,rfl⟩
section
variable {z R:Nat} {L:aH6}
def pq (z:Nat) (L:aH6) (nm:aH3):List cK×Int:=match dk L nm with
 |none=>([],140)
 |some d=>(lQ (qP z L nm d.im.t.length),0)
abbrev akj (nm:aH3) (n j:Nat):aW:=[(0,ap 1001),(1,bN nm),(7,dY 5002),(23,ab (n:Int)),(24,ab (j:Int))]
abbrev akk (z R:Int) (L:aH6) (x:aI7):ay:=bP z R L++[(5002,.row 3 aq x)]
abbrev akl (nm:aH3) (n j:Nat):aW:=[(0,ap 1001),(1,bN nm),(7,dY 37),(23,ab (n:Int)),(24,ab (j:Int))]
abbrev akm (z R:Int) (L:aH6) (x:aI7):ay:=bP z R L++[(37,.row 3 aq x)]
def akn (h:b6 z R L) (nm:aH3):Fn prog 172 [ap 1001,bN nm] (bP z R L) [] (.b4 [.one (.d (.b' gA (pq z L nm).1)),dw (pq z L nm).2]) (bP z R L):=by
 unfold pq
 cases ar:dk L nm with
 |none=>
  have hx:(bX (aF:=.str) (aJ:=.aL) (cW L) nm).getD (cO .aL)=none:=aG2
  simp only;refine aP [] func172 ?_;exact⟨fun d5 O=>at1 (show(bX (aF:=.str) (aJ:=.aL) (cW L) nm).getD (cO .aL)=some d5 from O) aF2,fun _=>bb⟩
 |some bI=>
  obtain⟨pW,hd,he⟩:=lp xf;obtain⟨e8,gH,mA⟩:=h.fK bI (cP ar).1;have lK:=e8.ez;have H:=h.b5 nm;have lq:=h.toiI.D (cP ar).1;have fg:=h.toiI.M (cP ar).1;have hx:(bX (aF:=.str) (aJ:=.aL) (cW L) nm).getD (cO .aL)=some bI.ad:=aG2
  have NJ:=Va (qP z L nm bI.im.t.length) (by rw[HF];omega);simp only;refine aP [] func172 ?_;refine⟨fun d5 O=>bm (fun N=>kx (b:=bI.ad) rfl aG3 N) ?_,fun O=>at1 (show(bX (aF:=.str) (aJ:=.aL) (cW L) nm).getD (cO .aL)=none from O) aF2⟩;refine bm (fun N=>kY rfl underlying106 rfl rfl hd aF4 rfl N) ?_;refine bm (my (q:=1003) rfl underlying46 rfl rfl rfl lq rfl) ?_;refine av (h1 (nc bI.im) fg rfl rfl rfl rfl) <| dZ [] (X:=Nat) (akj nm bI.im.t.length) (fun j=>akk z R L (qP z L nm j)) (fun j=>j<=bI.im.t.length) (fun j=>bI.im.t.length - j) 0 (at6 _) ?_ ?_
  .exact(ac.nil 7 5002 3 aq rfl rfl).trans (ac.sub aA aA)
  intro j V;refine⟨fun J=>?_,fun J=>?_⟩
  .have J:decide ((j:Int) < ((bI.im.t.length:Nat):Int))=true:=J;have fb:j < bI.im.t.length:=aF7
   refine av (Tt z R L h.tonJ nm bI ar (ce L nm) H.1 aD7 j aD7) ?_;have m:List.length (α:=Int) (qP z L nm j)+1<=4294967296:=by rw[HF];omega
   refine⟨m,rfl,aD7,j+1,fb,aD7,?_⟩;have e:=aif z L nm j;refine ac.trans (ac.sub (K':=akl nm bI.im.t.length (j+1)) (B':=akm z R L (qP z L nm (j+1))) aA ⟨rfl,rfl,rfl,rfl,at2 (fun aH:List Int=>some (a8.row 3 aq aH)) e.symm,trivial⟩) ?_;exact(ac.aT 37 5002 rfl).trans (ac.sub aA aA)
  .have J:decide ((j:Int) < ((bI.im.t.length:Nat):Int))=false:=J;have fE:j=bI.im.t.length:=aF6
   subst fE;exact av (Fn.own (d:=5002) (e:=3) (u:=aq) (xs:=qP z L nm bI.im.t.length) (args:=[dY 5002]) NJ rfl) bb
end
end
end Go.Proofs.YtgclhiekndohdaaGreat
