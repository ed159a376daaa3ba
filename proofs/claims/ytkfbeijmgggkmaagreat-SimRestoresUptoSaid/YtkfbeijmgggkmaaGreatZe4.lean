/-
A part of the proof of this claim: lemmas, with no condition beyond what each says.
-/
import Derived.Test.YtkfbeijmgggkmaaGreatZe3
set_option linter.all false
set_option maxRecDepth 100000
set_option maxHeartbeats 0
namespace Go.Proofs.YtkfbeijmgggkmaaGreat
open Go.RowKit Go.Proofs _root_.Go.Proofs.Tryz Tryz
section
abbrev aht (nm:aG9):aA:=[(2001,.cells [.ptr 1001 0]),(2002,.cells [.d (.str nm)])]
abbrev Tz (z R:Int) (L:aH2) (nm:aG9):aA:=bT z R L++aht nm
def ahu (z R:Nat) (L:aH2) (ew:nV z R L) (nm:aG9) (bS:aL) (aw:dk L nm=some bS) (cP:Nat) (iy:eu L nm cP) (nq:cP<=100) (k:Nat) (Z:k < bS.im.t.length):
  Fn prog 158 [ab (k:Int),ap 2001,ap 2002] (Tz z R L nm) [] (bP .u8 (fi z L nm cP k)) (Tz z R L nm):=by
 have dW:=LV z R L ew nm bS aw cP iy nq k Z;generalize fi z L nm cP k=y at dW;refine aY [] func158 ?_;exact ar dW bh
def Mj (z R:Int) (L:aH2) (nm:aG9) (aw:dk L nm=none) (g:Nat) (x y:D):
  Fn prog 104 [ap 1001,bW nm,.c (.one (.c3 g [.p 3001 0,.p 3002 0]))] (bT z R L++[(3001,.cells [.d x]),(3002,.cells [.d y])]) [] (ab 140) (bT z R L++[(3001,.cells [.d x]),(3002,.cells [.d y])]):=by
 have hx:(b0 (aI:=.str) (aK:=.aM) (df L) nm).getD (cR .aM)=none:=aG3
 refine aY [2] func104 ?_;refine⟨rfl,rfl,rfl,bz [] (bt) ?_⟩;exact⟨fun ej O=>as3 (show(b0 (aI:=.str) (aK:=.aM) (df L) nm).getD (cR .aM)=some ej from O) aE9,fun _=>bh⟩
def fe.sub {N:Nat} {ids:aH0} {C:fv} {K K':aZ} {B B':aA} {a:Act} {w:aH5} (h:fe N ids C K B a w) (cE:As K K') (cQ:lq B B'):fe N ids C K' B' a w:=ac.sub cE cQ N C a w h
def ahv (t:List fo):kw (.aH (rT t)):=by rintro mX s1 I F w p kH _ ae ⟨es,h,aU⟩;exact⟨es,h,kw.jq (c:=1001) (Dy (br:=pr (t.length:Nat) es) ⟨kw.cells rfl,kw.map,trivial⟩) mX s1 I F w p kH (fun _ h=>by cases h) ae aU⟩
def ahw (l:aI2):kw (.aH (rU l)):=by
 rintro mX s1 I F w p kH _ ae ⟨ρ,cj,E,G,ah,aW⟩;refine⟨dp ρ 1001 kH,cj,dh ..,fun d ch H=>?_,ah,aW⟩;have c4:=G d ch H;rw[ci] at H
 split at H
 .rename_i e;injection H with H
  subst H e;obtain⟨g1,aF,T,g2,cK⟩:=c4;rw[dh];rw[E] at g1 g2;exact⟨fun b=>by rw[ae];exact g1 b,aF,T,by rw[ae];exact g2,cg.mono (cp.refl _ _) _ aF (fun c J=>du _ _ (fun e=>by subst e;cases J)) cK⟩
 .rename_i e;rw[du _ _ (ay4 e)];rw[ci] at H
  split at H
  .injection H with H
   subst H;exact Holds.cr (cp.refl _ _) (fun _ _=>rfl) (as2 _) _ (fun c J=>by cases J) c4
  .cases H
def ahx (f:lP):kw (.aH (ni f)):=by intro mX s1 I F w p kH _ ae h;have h:w3 (fun _=>none) f I F w p:=h;show w3 (fun _=>none) f I F w kH;unfold w3 at*;rw[ae];exact h
def ahy (s:bL):G1 (dM s):=⟨kw.cells rfl,ahv _,ahw _,ahx _,trivial⟩
def io (nm:aG9) (im:bL) (cX:Option (Nat->Nat)) (d:aL):aL:=if d.nm=nm then {d with im:=im,cX:=cX} else d
def dg (L:aH2) (nm:aG9) (im:bL) (cX:Option (Nat->Nat)):List aL:=L.map (io nm im cX)
section
variable (nm:aG9) (im:bL) (cX:Option (Nat->Nat)) (d:aL)
def Bg:(io nm im cX d).nm=d.nm:=by unfold io;split <;>rfl
def Mk:(io nm im cX d).ad=d.ad:=by unfold io;split <;>rfl
def TA:(io nm im cX d).am=d.am:=by unfold io;split <;>rfl
def yU:(io nm im cX d).back=d.back:=by unfold io;split <;>rfl
def Hj (L:aH2):df (dg L nm im cX)=df L:=by
 unfold df dg;rw[aw7];refine av1 fun d _=>?_
 show mc (io nm im cX d)=mc d;unfold mc;rw[Bg,Mk]
def Hk (L:aH2):mD (dg L nm im cX)=mD L:=by
 unfold mD dg;rw[aw7];refine av1 fun d _=>?_
 show((io nm im cX d).ad,uo (io nm im cX d).am (io nm im cX d).back)=_;rw[Mk,TA,yU]
def vE (n:aG9): ∀L:List aL,dk (dg L nm im cX) n=(dk L n).map (io nm im cX)
 | []=>rfl
 |d::L=>by
  show dk (io nm im cX d::dg L nm im cX) n=_;rw[uq,uq,Bg,vE n L]
  split <;>rfl
end
def xh {L:aH2} {nm:aG9} {d:aL} (h:dk L nm=some d) (im:bL) (cX:Option (Nat->Nat)):dk (dg L nm im cX) nm=some {d with im:=im,cX:=cX}:=by rw[vE,h];show some (io nm im cX d)=_;unfold io;rw[vj (cY h).2]
def DO {L:aH2} {nm n:aG9} (a8:n≠nm) (im:bL) (cX:Option (Nat->Nat)):dk (dg L nm im cX) n=dk L n:=by
 rw[vE]
 cases h:dk L n with
 |none=>rfl
 |some d=>
  show some (io nm im cX d)=_;unfold io;rw[mu (fun e=>a8 ((cY h).2.symm.trans e))]
def ahz {L:aH2} {nm:aG9} (im:bL) (cX:Option (Nat->Nat)) (h:nm∉L.map (·.nm)):dg L nm im cX=L:=by unfold dg;refine(av1 fun d H=>?_).trans (List.map_id' L);unfold io;rw[mu fun e=>h (by rw[<-e];exact au0 H)]
def Hl {nm:aG9} {im:bL} {cX:Option (Nat->Nat)}: ∀{L:aH2},(L.map (·.nm)).Nodup->(L.map (·.am)).Nodup-> ∀{d:aL},dk L nm=some d->fl (iz L) d.am (k' {d with im:=im,cX:=cX})=iz (dg L nm im cX)
 | [],_,_,d,h=>by cases h
 |e::L,hn,ha,d,h=>by
  rw[au1] at hn ha;obtain⟨c0,d5⟩:=av5.1 hn;obtain⟨b4,cf⟩:=av5.1 ha;rw[uq] at h;show fl ((e.am,k' e)::iz L) d.am _=iz (io nm im cX e::dg L nm im cX);unfold fl
  by_cases c:e.nm=nm
  .rw[vj c] at h;injection h with h
   subst h;rw[vj rfl,ahz im cX (by rw[<-c];exact c0)];unfold io;rw[vj c];rfl
  .rw[mu c] at h;have a8: ¬e.am=d.am:=fun x=>b4 (by rw[x];exact au0 (f:=fun d:aL=>d.am) (cY h).1)
   rw[mu a8,Hl d5 cf h];unfold io;rw[mu c];rfl
def TB {b:Nat} {o:bg}: ∀L:List (Nat×bg),kO (fl L b o) b=kO L b
 | []=>rfl
 |(a,q)::L=>by
  unfold fl
  by_cases e:a=b
  .rw[vj e];show(if a=b then L else _)=if a=b then L else _
   rw[vj e,vj e]
  .rw[mu e];show(if a=b then _ else(a,q)::kO (fl L b o) b)=if a=b then L else(a,q)::kO L b
   rw[mu e,mu e,TB L]
def Ml {L:aH2} (nm:aG9) (im:bL) (cX:Option (Nat->Nat)) {n:aG9} {k:Nat} (h:eu L n k):eu (dg L nm im cX) n k:=by
 induction h with
 |gone h=>exact .gone (by rw[vE,h];rfl)
 |base E G=>exact .base (d:=io nm im cX _) (by rw[vE,E];rfl) (by rw[yU];exact G)
 |step E G ah bn=>exact .step (d:=io nm im cX _) (by rw[vE,E];rfl) (by rw[yU];exact G) (by rw[yU];exact bn)
def yV (L:aH2) (nm:aG9) (im:bL) (cX:Option (Nat->Nat)): ∀(k:Nat) (n:aG9),dc (dg L nm im cX) k n=dc L k n
 |0,_=>rfl
 |k+1,n=>by
  show(match dk (dg L nm im cX) n with |none=>[] |some d=>d.back::dc (dg L nm im cX) k d.back)=match dk L n with |none=>[] |some d=>d.back::dc L k d.back
  rw[vE]
  cases h:dk L n with
  |none=>rfl
  |some d=>
   show(io nm im cX d).back::dc (dg L nm im cX) k (io nm im cX d).back=d.back::dc L k d.back;rw[yU,yV L nm im cX k]
def i3.dg {L:aH2} (h:i3 L) (nm:aG9) (im:bL) (cX:Option (Nat->Nat)):i3 (dg L nm im cX):=by
 have key: ∀{α:Type} (f:aL->α),(∀d,f (io nm im cX d)=f d)->(Go.Proofs.YtkfbeijmgggkmaaGreat.dg L nm im cX).map f=L.map f:=fun f hf=>by
  unfold Go.Proofs.YtkfbeijmgggkmaaGreat.dg;rw[aw7];exact av1 fun d _=>hf d
 exact⟨by rw[key _ (Bg nm im cX)];exact h.ji,by rw[key _ (Mk nm im cX)];exact h.mE,by rw[key _ (TA nm im cX)];exact h.yK⟩
def nV.dg {z R:Nat} {L:aH2} (h:nV z R L) {nm:aG9} {bS:aL} (aw:dk L nm=some bS) {im:bL} (au:iL bS.im im) (cX:Option (Nat->Nat)):nV z R (dg L nm im cX):=by
 obtain⟨fH,g5,nl⟩:=h.gp bS (cY aw).1
 have key: ∀d,d∈Go.Proofs.YtkfbeijmgggkmaaGreat.dg L nm im cX-> ∃e,e∈L/\io nm im cX e=d:=fun d H=>by
  obtain⟨e,U,rfl⟩:=av0.1 H;exact⟨e,U,rfl⟩
 refine⟨h.toi3.dg nm im cX,h.b3,h.xd,by unfold Go.Proofs.YtkfbeijmgggkmaaGreat.dg;rw[at8];exact h.len,fun d H=>?_,fun d H O=>?_,fun d H=>?_,fun d H=>?_⟩
 .obtain⟨e,U,rfl⟩:=key d H;unfold io
  split
  .exact⟨au.ok,au.z.trans g5,au.lQ.trans nl⟩
  .exact h.gp e U
 .obtain⟨e,U,rfl⟩:=key d H;rw[yU] at O⊢;obtain⟨b9,h'⟩:=h.iM e U O;exact⟨io nm im cX b9,by rw[vE,h'];rfl⟩
 .obtain⟨e,U,rfl⟩:=key d H;rw[Bg];exact h.ne e U
 .obtain⟨e,U,rfl⟩:=key d H;rw[Bg];obtain⟨k,Z,H⟩:=h.up e U;exact⟨k,Z,Ml nm im cX H⟩
def Bh {L:aH2} {n:aG9} {k ea:Nat} (h:eu L n k) (h':eu L n ea):k=ea:=by
 induction h generalizing ea with
 |gone h=>
  cases h' with
  |gone _=>rfl
  |base _ _=>rfl
  |step E _ _=>rw[h] at E;cases E
 |base E G=>
  cases h' with
  |gone _=>rfl
  |base _ _=>rfl
  |step g1 g2 _=>rw[E] at g1;injection g1 with g1;rw[<-g1] at g2;exact as3 G g2
 |step E G ah bn=>
  cases h' with
  |gone h=>rw[E] at h;cases h
  |base g1 g2=>rw[E] at g1;injection g1 with g1;rw[<-g1] at g2;exact as3 g2 G
  |step g1 g2 cK=>rw[E] at g1;injection g1 with g1;rw[<-g1] at cK;rw[bn cK]
def Mm {L:aH2} {n:aG9} {k:Nat} (h:eu L n k): ∀x,x∈dc L k n-> ∃j,j < k/\eu L x j:=by
 induction h with
 |gone _=>intro x hx;cases hx
 |base _ _=>intro x hx;cases hx
 | @step n d k E G ah bn=>
  intro x hx;unfold dc at hx;rw[E] at hx;rcases as8.1 hx with rfl |hx
  .exact⟨k,Nat.lt_succ_self k,ah⟩
  .obtain⟨j,V,H⟩:=bn x hx;exact⟨j,aD1,H⟩
def Mn {L:aH2} {n:aG9} {k:Nat} (h:eu L n k):n∉dc L k n:=fun hx=>by
 obtain⟨j,V,H⟩:=Mm h n hx;have:=Bh h H;omega
def Hm {z:Nat} {L:aH2} {nm:aG9} {im:bL} {cX:Option (Nat->Nat)} {c:Nat}: ∀(ns:aJ0) (i:Nat),nm∉ns->gU z (dg L nm im cX) c ns i=gU z L c ns i
 | [],_,_=>rfl
 |n::ns,i,h=>by
  have a8:n≠nm:=fun e=>h (by rw[e];exact at6 ..)
  have bn:=Hm (z:=z) (L:=L) (nm:=nm) (im:=im) (cX:=cX) (c:=c) ns (i+1) fun ay=>h (as6 _ ay)
  unfold gU;rw[DO a8,bn]
def hF (z:Nat) (L:aH2) (nm:aG9) (cP c:Nat):aG9:=(gU z L c (dc L cP nm) 1).1
def TC {z:Nat} {L:aH2} {nm:aG9} {bS:aL} (aw:dk L nm=some bS) {cP:Nat} (iy:eu L nm cP) (im:bL) (cX:Option (Nat->Nat)) (c:Nat):
  fi z (dg L nm im cX) nm cP c=if c < im.t.length/\(im.t.getD c ck).1≠0 then ep im c none else hF z L nm cP c:=by
 unfold fi hF;rw[yV]
 conv=>lhs;unfold gU
 rw[xh aw];simp only
 split
 .rfl
 .rw[Hm _ _ (Mn iy)]
abbrev Bi (z R:Int) (L:aH2) (nm:aG9) (am:Nat):aA:=[(8001,.cells [.d (.int .i64 z),.d (.int .i64 R),.mp 8002]),(8002,.map .str .aM (df L)),(8003,.aH (.bA (mD L))),(8004,.aH (.bA (kO (iz L) am))),(8005,.cells [.ptr 8001 0]),(8006,.cells [.d (.str nm)])]
def s9 (z R:Int) (L:aH2) (nm:aG9) (am:Nat) (bs:Nat->Nat):bq->bg:=.p4 am (.nU (Bi z R L nm am) bs)
def TD (z R:Int) (L:aH2) (nm:aG9) (am:Nat):G1 (Bi z R L nm am):=⟨kw.cells rfl,kw.map,kw.bA,kw.bA,kw.cells rfl,kw.cells rfl,trivial⟩
abbrev me (z R:Int) (L:aH2) (nm:aG9):aA:=[(8001,.cells [.d (.int .i64 z),.d (.int .i64 R),.mp 8002]),(8002,.map .str .aM (df L)),(8003,.aH (.bA (mD L))),(8004,.aH (.bA (iz L))),(8005,.cells [.ptr 8001 0]),(8006,.cells [.d (.str nm)])]
abbrev DP (am cy c5 c':Nat):Nat->Nat:=fun c=>cond (Nat.beq c 1001) am (cond (Nat.beq c 1002) cy (cond (Nat.beq c 1003) c5 c'))
abbrev p8 (cy c5 c':Nat):Nat->Nat:=fun c=>cond (Nat.beq c 1002) cy (cond (Nat.beq c 1003) c5 c')
abbrev TE (am cy c5 c':Nat):aA:=[(9001,.b7 1001 (fp am)),(9002,.b7 1002 (fp cy)),(9003,.b7 1003 (fp c5)),(9004,.b7 1004 (fp c'))]
abbrev Mo (bs:Nat->Nat):aA:=[(7001,.b7 8001 (fp (bs 8001))),(7002,.b7 8002 (fp (bs 8002))),(7003,.b7 8003 (fp (bs 8003))),(7004,.b7 8004 (fp (bs 8004))),(7005,.b7 8005 (fp (bs 8005))),(7006,.b7 8006 (fp (bs 8006)))]
def ahA (z R:Nat) (L:aH2) (ew:nV z R L) (nm:aG9) (bS:aL) (aw:dk L nm=some bS) (cP:Nat) (iy:eu L nm cP) (nq:cP<=100) (k:Nat) (Z:k < bS.im.t.length):
  Fn prog 158 [ab (k:Int),ap 8005,ap 8006] (me z R L nm) [] (bP .u8 (fi z L nm cP k)) (me z R L nm):=
 Fn.aX [(1001,8001),(1002,8002),(1003,8003),(1004,8004),(2001,8005),(2002,8006)] (ahu z R L ew nm bS aw cP iy nq k Z)
def ahB (z R:Nat) (L:aH2) (ew:nV z R L) (nm:aG9) (bS:aL) (aw:dk L nm=some bS) (cP:Nat) (iy:eu L nm cP) (nq:cP<=100) (s:bL) (au:iL bS.im s) (bs:Nat->Nat) (c:Nat) (J:c < s.t.length) (aN:(s.t[c]).1=0):
  GJ s (s9 z R L nm bS.am bs) (bs 8005) (bs 8006) c (hF z L nm cP c):=by
 have bX:(hF z L nm cP c).length<=1000000:=by
  have:=SV ew c (dc L cP nm) 1;unfold hF;omega
 refine⟨bX,?_⟩;have fO:=ew.toi3.M (cY aw).1
 have JV: ∀cX,fi z (dg L nm s cX) nm cP c=hF z L nm cP c:=fun cX=>by
  rw[TC aw iy,mu fun h=>h.2 (by rw[as7,as0 J];exact aN)]
 have jF: ∀cX,Fn prog 158 [ab (c:Int),ap 8005,ap 8006] (me z R (dg L nm s cX) nm) [] (bP .u8 (hF z L nm cP c)) (me z R (dg L nm s cX) nm):=fun cX=>by
  have:=ahA z R (dg L nm s cX) (ew.dg aw au cX) nm _ (xh aw s cX) cP (Ml nm s cX iy) nq c J;rw[JV cX] at this;exact this
 have TF: ∀cy c5 c',k' {bS with im:=s,cX:=some (p8 cy c5 c')}= .nU (dM s) (DP bS.am cy c5 c'):=fun cy c5 c'=>rfl
 have l3: ∀cy c5 c',fl (iz L) bS.am (.nU (dM s) (DP bS.am cy c5 c'))=iz (dg L nm s (some (p8 cy c5 c'))):=fun cy c5 c'=>by
  rw[<-TF];exact Hl ew.ji ew.yK aw
 have ahC: ∀cy c5 c',eH (iz (dg L nm s (some (p8 cy c5 c')))) bS.am=some (.nU (dM s) (DP bS.am cy c5 c')):=fun cy c5 c'=>by
  have:=(ew.toi3.dg nm s (some (p8 cy c5 c'))).M (cY (xh aw s (some (p8 cy c5 c')))).1;rw[TF] at this;exact this
 have ahD: ∀cy c5 c',kO (iz (dg L nm s (some (p8 cy c5 c')))) bS.am=kO (iz L) bS.am:=fun cy c5 c'=>by
  rw[<-l3,TB]
 refine Fn.via (X:=Nat×Nat×Nat) (args':=fun _=>[ab (c:Int),ap 8005,ap 8006]) (vA:=fun x=>me z R (dg L nm s (some (p8 x.1 x.2.1 x.2.2))) nm++(Mo bs++TE bS.am x.1 x.2.1 x.2.2)) (nH:=fun x=>me z R (dg L nm s (some (p8 x.1 x.2.1 x.2.2))) nm) (jK:=fun _=>[]) (res':=fun _=>bP .u8 (hF z L nm cP c)) (oF:=fun x=>me z R (dg L nm s (some (p8 x.1 x.2.1 x.2.2))) nm)
  aD4 3 rfl ?_ (fun x=>jF _) (fun x=>aD) (fun x=>rfl) (fun x=>rfl) ?_
 .intro N C a w Mp;have E:=ac.fA 9000 1001 bS.am rfl N C a w (ac.afZ 9000 1001 9001 bS.am rfl rfl aD2 N C a w Mp);obtain⟨cy,G⟩:=dv.mark 1002 9002 rfl aD2 N C a w E;obtain⟨c5,ah⟩:=dv.mark 1003 9003 rfl aD2 N C a w G;obtain⟨c',aW⟩:=dv.mark 1004 9004 rfl aD2 N C a w ah;have bM:=ac.LK 9100 (dM s) (fun c=>c+8000) (DP bS.am cy c5 c') aD aD rfl N C a w aW;have fU:=ac.place 8006 7006 (bs 8006) rfl rfl aD2 N C a w (ac.place 8005 7005 (bs 8005) rfl rfl aD2 N C a w (ac.place 8004 7004 (bs 8004) rfl rfl aD2 N C a w (ac.place 8003 7003 (bs 8003) rfl rfl aD2 N C a w (ac.place 8002 7002 (bs 8002) rfl rfl aD2 N C a w (ac.place 8001 7001 (bs 8001) rfl rfl aD2 N C a w bM)))));have iw:=ac.LL 9000 (Bi z R L nm bS.am) (fun c=>c - 1000) bs rfl aD rfl rfl (Dy (TD z R L nm bS.am)) N C a w fU;have iH:=ac.af3 8004 9100 bS.am rfl rfl fO aD2 N C a w iw;have sG:=ac.LM 1 8005 7005 (bs 8005) rfl rfl N C a w iH;have Cq:=ac.LM 2 8006 7006 (bs 8006) rfl rfl N C a w sG;have a2:=Hj nm s (some (p8 cy c5 c')) L;have ce:=Hk nm s (some (p8 cy c5 c')) L;refine⟨(cy,c5,c'),fe.sub Cq aD ⟨rfl,as5 (fun e=>some (ba.map .str .aM e)) a2.symm,as5 (fun e=>some (ba.aH (.bA e))) ce.symm,as5 (fun e=>some (ba.aH (.bA e))) (l3 cy c5 c'),rfl,rfl,rfl,rfl,rfl,rfl,rfl,rfl,rfl,rfl,rfl,rfl,trivial⟩⟩
 .rintro⟨cy,c5,c'⟩;have a2:=Hj nm s (some (p8 cy c5 c')) L;have ce:=Hk nm s (some (p8 cy c5 c')) L
  refine⟨bP .u8 (hF z L nm cP c),_,ac.trans (cM [(3,bP .u8 (hF z L nm cP c))] (me z R (dg L nm s (some (p8 cy c5 c'))) nm++(Mo bs++TE bS.am cy c5 c')))
   (ac.trans (ac.Dz 8004 9100 bS.am rfl (ahC cy c5 c') rfl) (ac.trans (ac.af1 9100 bS.am rfl)
   (ac.trans (ac.LK 9000 (Bi z R L nm bS.am) (fun c=>c - 1000) bs ⟨rfl,as5 (fun e=>some (ba.map .str .aM e)) a2,as5 (fun e=>some (ba.aH (.bA e))) ce,as5 (fun e=>some (ba.aH (.bA e))) (ahD cy c5 c'),rfl,rfl,trivial⟩ aD rfl)
   (ac.trans (ac.af0 9000 1001 9001 bS.am rfl rfl) (ac.LL 9100 (dM s) (fun c=>c+8000) (DP bS.am cy c5 c') rfl aD rfl rfl (Dy (ahy s))))))),?_,?_,?_⟩
  .exact rfl
  .exact aD
  .rfl
def TG {f:aI5} {args:List aS} {res:aS} {s s':bL} {bp:bq->bg} (h:Fn prog f (ap 1001::args) (gn s bp) [] res (gn s' bp)) (E:ox 1001 [1002,1003,1004] (ap 1001::args) (dM s) [(9000,.b7 1001 bp)] [] []=true) (G:oy 1001 (nd [1002,1003,1004] [] []) res (dM s') [(9000,.b7 1001 bp)]=true):
  Fn prog f (ap 1001::args) [(1001,.aH (jr s)),(9000,.b7 1001 bp)] [] res [(1001,.aH (jr s')),(9000,.b7 1001 bp)]:=
 Fn.close (br:=dM s) (dP:=dM s') (aJ:=[(9000,.b7 1001 bp)]) (aT:=[(9000,.b7 1001 bp)]) [1002,1003,1004] h (fun _ _ _ _ h=>h) (fun _ _ _ _ h=>h) E G
abbrev lT (x y:D):aA:=[(3001,.cells [.d x]),(3002,.cells [.d y])]
abbrev Bj (c1 cy c5 c' iA ld:Nat):Nat->Nat:=fun c=>cond (Nat.beq c 8001) c1 (cond (Nat.beq c 8002) cy (cond (Nat.beq c 8003) c5 (cond (Nat.beq c 8004) c' (cond (Nat.beq c 8005) iA ld))))
abbrev DQ:aS:=.c (.one (.c3 158 [.p 8005 0,.p 8006 0]))
abbrev Hn (z R:Int) (L:aH2) (nm:aG9) (am:Nat) (s:bL) (c1 cy c5 c' iA ld:Nat) (x y:D):aA:=[(7000,.aH (jr s)),(9000,.b7 7000 (s9 z R L nm am (Bj c1 cy c5 c' iA ld)))]++(Mo (Bj c1 cy c5 c' iA ld)++lT x y)
abbrev TH:aH0:=[8001,8002,8003,8004,8005,8006,3001,3002]
abbrev Mq (am:Nat):aZ:=[(0,dy am),(1,DQ),(2,ap 3001),(3,ap 3002)]
abbrev ahE (iA ld:Nat):aZ:=[(0,ap 7000),(1,nS iA ld),(2,ap 3001),(3,ap 3002)]
def ac.TI (z R:Int) (L:aH2) (nm:aG9) (am:Nat) (im:bL) (cO:eH (iz L) am=some (jr im)) (x y:D):
  dv (X:=Nat×Nat×Nat×Nat×Nat×Nat) TH (Mq am) (me z R L nm++lT x y) (fun p=>ahE p.2.2.2.2.1 p.2.2.2.2.2) (fun p=>Hn z R L nm am im p.1 p.2.1 p.2.2.1 p.2.2.2.1 p.2.2.2.2.1 p.2.2.2.2.2 x y):=by
 intro N C a w Mp;have E:=ac.Dz 8004 7000 am rfl cO rfl N C a w Mp;obtain⟨c1,G⟩:=dv.mark 8001 7001 rfl aD2 N C a w E;obtain⟨cy,ah⟩:=dv.mark 8002 7002 rfl aD2 N C a w G;obtain⟨c5,aW⟩:=dv.mark 8003 7003 rfl aD2 N C a w ah;obtain⟨c',bM⟩:=dv.mark 8004 7004 rfl aD2 N C a w aW;obtain⟨iA,fU⟩:=dv.mark 8005 7005 rfl aD2 N C a w bM;obtain⟨ld,iw⟩:=dv.mark 8006 7006 rfl aD2 N C a w fU;have iH:=ac.LK 9000 (Bi z R L nm am) (fun c=>c - 1000) (Bj c1 cy c5 c' iA ld) aD aD rfl N C a w iw;have sG:=ac.af2 1 158 8005 8006 7005 7006 iA ld rfl rfl rfl N C a w iH;have Cq:=ac.SQ 0 7000 am rfl rfl N C a w sG;have yW:=ac.p4 9000 7000 am rfl rfl aD2 N C a w Cq;exact⟨(c1,cy,c5,c',iA,ld),fe.sub yW aD aD⟩
def ac.TJ (z R:Int) (L:aH2) (e5:i3 L) (nm:aG9) (bS:aL) (aw:dk L nm=some bS) (ae:bS.cX=none) (s:bL) (c1 cy c5 c' iA ld:Nat) (x y:D) (r:Int):
  ac TH [(6,ab r)] (Hn z R L nm bS.am s c1 cy c5 c' iA ld x y) [(6,ab r)] (me z R (dg L nm s none) nm++lT x y):=by
 have fO:=e5.M (cY aw).1;have a2:=Hj nm s none L;have ce:=Hk nm s none L;have al:fl (iz L) bS.am (jr s)=iz (dg L nm s none):=Hl (cX:=none) (im:=s) e5.ji e5.yK aw
 exact ac.trans (ac.afY 9000 7000 bS.am rfl rfl aD2) (ac.trans (ac.LL 9000 (Bi z R L nm bS.am) (fun c=>c - 1000) (Bj c1 cy c5 c' iA ld) rfl aD rfl rfl (Dy (TD z R L nm bS.am)))
  (ac.trans (ac.SR 8004 7000 bS.am rfl rfl fO aD2) (ac.sub aD ⟨rfl,as5 (fun e=>some (ba.map .str .aM e)) a2.symm,as5 (fun e=>some (ba.aH (.bA e))) ce.symm,as5 (fun e=>some (ba.aH (.bA e))) al,rfl,rfl,rfl,rfl,trivial⟩)))
def ahF (z R:Int) (L:aH2) (e5:i3 L) (nm:aG9) (bS:aL) (aw:dk L nm=some bS) (ae:bS.cX=none) (a:Int) (bs:aG9) (r:Int) (s':bL)
  (h: ∀bI:Nat->Nat,Fn prog 106 [ap 1001,ab a,bP .u8 bs,nS (bI 8005) (bI 8006)] (gn bS.im (s9 z R L nm bS.am bI)) [] (ab r) (gn s' (s9 z R L nm bS.am bI))):
  Fn prog 105 [dy bS.am,DQ,ap 3001,ap 3002] (me z R L nm++lT (.int .i64 a) (.bG .u8 bs)) [] (ab r) (me z R (dg L nm s' none) nm++lT (.int .i64 a) (.bG .u8 bs)):=by
 have fO:eH (iz L) bS.am=some (jr bS.im):=by
  have:=e5.M (cY aw).1
  rwa[show k' bS=jr bS.im by unfold k';rw[ae]] at this
 refine aY [1] func105 ?_;refine bw.le (cM (Mq bS.am) (me z R L nm++lT (.int .i64 a) (.bG .u8 bs))) <| bw.ff (ac.TI z R L nm bS.am bS.im fO _ _) fun p=>?_
 obtain⟨c1,cy,c5,c',iA,ld⟩:=p;exact bz [] (bt) <| ar (Fn.aX [(1001,7000)] (TG (h (Bj c1 cy c5 c' iA ld)) rfl rfl)) ⟨_,_,_,ac.trans (cM [(6,ab r)] (Hn z R L nm bS.am s' c1 cy c5 c' iA ld (.int .i64 a) (.bG .u8 bs))) (ac.TJ z R L e5 nm bS aw ae s' c1 cy c5 c' iA ld _ _ r),rfl,rfl,aD,rfl⟩
def ahG (z R:Int) (L:aH2) (e5:i3 L) (nm:aG9) (bS:aL) (aw:dk L nm=some bS) (ae:bS.cX=none) (a l:Int) (r:Int) (s':bL)
  (h: ∀bI:Nat->Nat,Fn prog 108 [ap 1001,ab a,ab l,nS (bI 8005) (bI 8006)] (gn bS.im (s9 z R L nm bS.am bI)) [] (ab r) (gn s' (s9 z R L nm bS.am bI))):
  Fn prog 107 [dy bS.am,DQ,ap 3001,ap 3002] (me z R L nm++lT (.int .i64 a) (.int .i64 l)) [] (ab r) (me z R (dg L nm s' none) nm++lT (.int .i64 a) (.int .i64 l)):=by
 have fO:eH (iz L) bS.am=some (jr bS.im):=by
  have:=e5.M (cY aw).1
  rwa[show k' bS=jr bS.im by unfold k';rw[ae]] at this
 refine aY [1] func107 ?_;refine bw.le (cM (Mq bS.am) (me z R L nm++lT (.int .i64 a) (.int .i64 l))) <| bw.ff (ac.TI z R L nm bS.am bS.im fO _ _) fun p=>?_
 obtain⟨c1,cy,c5,c',iA,ld⟩:=p;exact bz [] (bt) <| ar (Fn.aX [(1001,7000)] (TG (h (Bj c1 cy c5 c' iA ld)) rfl rfl)) ⟨_,_,_,ac.trans (cM [(6,ab r)] (Hn z R L nm bS.am s' c1 cy c5 c' iA ld (.int .i64 a) (.int .i64 l))) (ac.TJ z R L e5 nm bS aw ae s' c1 cy c5 c' iA ld _ _ r),rfl,rfl,aD,rfl⟩
def ahH (z R:Int) (L:aH2) (e5:i3 L) (nm:aG9) (bS:aL) (aw:dk L nm=some bS) (ae:bS.cX=none) (a l:Int) (r:Int) (s':bL)
  (h:Fn prog 110 [ap 1001,ab a,ab l] (dM bS.im) [] (ab r) (dM s')):
  Fn prog 109 [dy bS.am,DQ,ap 3001,ap 3002] (me z R L nm++lT (.int .i64 a) (.int .i64 l)) [] (ab r) (me z R (dg L nm s' none) nm++lT (.int .i64 a) (.int .i64 l)):=by
 have fO:eH (iz L) bS.am=some (jr bS.im):=by
  have:=e5.M (cY aw).1
  rwa[show k' bS=jr bS.im by unfold k';rw[ae]] at this
 have a2:=Hj nm s' none L;have ce:=Hk nm s' none L;have al:fl (iz L) bS.am (jr s')=iz (dg L nm s' none):=Hl (cX:=none) (im:=s') e5.ji e5.yK aw;have J:Fn prog 110 [ap 1001,ab a,ab l] [(1001,.aH (jr bS.im))] [] (ab r) [(1001,.aH (jr s'))]:=Fn.close (br:=dM bS.im) (dP:=dM s') (aJ:=[]) (aT:=[]) [1002,1003,1004] h (fun _ _ _ _ h=>h) (fun _ _ _ _ h=>h) rfl rfl;have aQ:=(cC.bA (c:=1001) (q:=8004) (b:=bS.am) (args:=[ab a,ab l]) (aJ:=[]) (bb:=[]) (X:=Unit) (res:=fun _=>ab r) (aT:=fun _=>[]) (o:=jr bS.im) (o':=fun _=>jr s') (L:=iz L) J.x fO rfl ⟨rfl,rfl⟩ rfl (fun _=>rfl)).fn;refine aY [] func109 ?_;exact ar aQ <| sY bt rfl rfl ⟨rfl,as5 (fun e=>some (ba.map .str .aM e)) a2.symm,as5 (fun e=>some (ba.aH (.bA e))) ce.symm,as5 (fun e=>some (ba.aH (.bA e))) al,rfl,rfl,rfl,rfl,trivial⟩ rfl
def Mr (z R:Int) (L L':aH2) (e5:i3 L) (nm:aG9) (bS:aL) (aw:dk L nm=some bS) (f:Nat) (r:Int) (x y:D)
  (hf:Fn prog f [dy bS.am,DQ,ap 3001,ap 3002] (me z R L nm++lT x y) [] (ab r) (me z R L' nm++lT x y)):
  Fn prog 104 [ap 1001,bW nm,.c (.one (.c3 f [.p 3001 0,.p 3002 0]))] (bT z R L++lT x y) [] (ab r) (bT z R L'++lT x y):=by
 obtain⟨pt,gD,gE⟩:=kL yL;have cO:=e5.D (cY aw).1;have hx:(b0 (aI:=.str) (aK:=.aM) (df L) nm).getD (cR .aM)=some bS.ad:=aG3
 refine aY [2] func104 ?_;refine⟨rfl,rfl,rfl,bz [] (bt) ?_⟩;refine⟨fun ej O=>bc (fun N=>ju (b:=bS.ad) rfl aF8 N) ?_,fun O=>as3 (show(b0 (aI:=.str) (aK:=.aM) (df L) nm).getD (cR .aM)=none from O) aE9⟩;refine bc (fun N=>jN rfl underlying122 rfl rfl gD aE4 rfl N) ?_;refine bc (lR (q:=1003) rfl underlying112 rfl rfl rfl cO rfl) ?_;exact ar (Fn.aX [(8001,1001),(8002,1002),(8003,1003),(8004,1004),(8005,3),(8006,4)] hf) bh
def TK (z R:Int) (L L':aH2) (nm:aG9) (a:Int) (bs:aG9) (r:Int)
  (h:Fn prog 104 [ap 1001,bW nm,.c (.one (.c3 105 [.p 3001 0,.p 3002 0]))] (bT z R L++lT (.int .i64 a) (.bG .u8 bs)) [] (ab r) (bT z R L'++lT (.int .i64 a) (.bG .u8 bs))):
  Fn prog 63 [ap 1001,bW nm,ab a,bP .u8 bs] (bT z R L) [] (ab r) (bT z R L'):=by
 refine aY [] func63 ?_;exact⟨rfl,rfl,ar (Fn.aX [(3001,6),(3002,7)] h) bh⟩
def TL (z R:Int) (L L':aH2) (nm:aG9) (a l:Int) (r:Int)
  (h:Fn prog 104 [ap 1001,bW nm,.c (.one (.c3 107 [.p 3001 0,.p 3002 0]))] (bT z R L++lT (.int .i64 a) (.int .i64 l)) [] (ab r) (bT z R L'++lT (.int .i64 a) (.int .i64 l))):
  Fn prog 65 [ap 1001,bW nm,ab a,ab l] (bT z R L) [] (ab r) (bT z R L'):=by
 refine aY [] func65 ?_;exact⟨rfl,rfl,ar (Fn.aX [(3001,6),(3002,7)] h) bh⟩
def TM (z R:Int) (L L':aH2) (nm:aG9) (a l:Int) (r:Int)
  (h:Fn prog 104 [ap 1001,bW nm,.c (.one (.c3 109 [.p 3001 0,.p 3002 0]))] (bT z R L++lT (.int .i64 a) (.int .i64 l)) [] (ab r) (bT z R L'++lT (.int .i64 a) (.int .i64 l))):
  Fn prog 67 [ap 1001,bW nm,ab a,ab l] (bT z R L) [] (ab r) (bT z R L'):=by
 refine aY [] func67 ?_;exact⟨rfl,rfl,ar (Fn.aX [(3001,6),(3002,7)] h) bh⟩
def Fn.res {P:aH6} {f:aI5} {args:List aS} {aJ:aA} {bb:aH0} {res res':aS} {aT:aA} (h:Fn P f args aJ bb res aT) (ak:sE res res'):Fn P f args aJ bb res' aT:=
 ⟨h.1,fun ρ F I w bZ b4 cf a3 a4 a5 gR=>(h.2 ρ F I w bZ b4 cf a3 a4 a5 gR).mono fun e w' ⟨x,ρ',F',r1,r2,gh,I',kr,l9,mB,ma,ng,oz⟩=>⟨x,ρ',F',r1,r2,gh,I',kr,l9,mB,ma,ng,wJ ak oz⟩⟩
def cC.to {P:aH6} {f:aI5} {args:List aS} {aJ:aA} {bb:aH0} {X Y:Type} {res:X->aS} {aT:X->aA} {res':Y->aS} {oF:Y->aA} (h:cC P f args aJ bb res aT) (g:X->Y) (E: ∀x,res x=res' (g x)) (G: ∀x,aT x=oF (g x)):cC P f args aJ bb res' oF:=
 ⟨h.1,fun ρ F I w bZ b4 cf a3 a4 a5 gR=>(h.2 ρ F I w bZ b4 cf a3 a4 a5 gR).mono fun e w' ⟨y,x,ρ',F',r1,r2,gh,I',kr,l9,mB,ma,ng,oz⟩=>by
  rw[G] at mB ma ng;rw[E] at oz;exact⟨g y,x,ρ',F',r1,r2,gh,I',kr,l9,mB,ma,ng,oz⟩⟩
def Bk (L:aH2):Nat->aG9->Nat
 |0,_=>0
 |f+1,nm=>match dk L nm with
  |none=>0
  |some d=>if d.back=[] then 0 else Bk L f d.back+1
def cl (L:aH2) (nm:aG9):Nat:=Bk L 100 nm
def ahI {L:aH2} {nm:aG9} {k:Nat} (h:eu L nm k): ∀f,k<=f->Bk L f nm=k:=by
 induction h with
 |gone h=>
  intro f _
  cases f with
  |zero=>rfl
  |succ f=>unfold Bk;rw[h]
 |base E G=>
  intro f _
  cases f with
  |zero=>rfl
  |succ f=>unfold Bk;rw[E];simp only;rw[vj G]
 |step E G _ bn=>
  intro f hf
  cases f with
  |zero=>omega
  |succ f=>unfold Bk;rw[E];simp only;rw[mu G,bn f aD1]
def ta {L:aH2} {nm:aG9} {k:Nat} (h:eu L nm k) (Z:k<=100):cl L nm=k:=ahI h 100 Z
structure cb (z R:Nat) (L:aH2):Prop extends nV z R L where
 vF:Md L
 Ho: ∀d,d∈L->hg d.nm=true
def DR {s:aG9} (h:hg s=true):1<=s.length/\s.length<=15:=by unfold hg at h;simp only[as1] at h;exact⟨gd h.1.1,gd h.1.2⟩
section
variable {z R:Nat} {L:aH2}
def cb.TN (h:cb z R L): ∀d,d∈L->d.nm.length<=100000:=fun d H=>by
 have:=DR (h.Ho d H);omega
def cb.b7 (h:cb z R L) (nm:aG9):eu L nm (cl L nm)/\cl L nm<=8:=by
 cases e:dk L nm with
 |none=>
  have:=eu.gone e;rw[ta this aD1];exact⟨this,aD1⟩
 |some d=>
  obtain⟨k,Z,H⟩:=h.up d (cY e).1;rw[(cY e).2] at H;rw[ta H aD1];exact⟨H,Z⟩
def cb.nil (E:z<=3) (G:R<=512):cb z R []:=
 ⟨⟨⟨ay9,ay9,ay9⟩,E,G,at2 _,(fun _ h=>by cases h),(fun _ h=>by cases h),(fun _ h=>by cases h),(fun _ h=>by cases h)⟩,(fun _ h=>by cases h),(fun _ h=>by cases h)⟩
def Ms: ∀{L:aH2},(L.map (·.nm)).Nodup-> ∀{d:aL},d∈L->dk L d.nm=some d
 | [],_,d,h=>by cases h
 |e::L,hn,d,h=>by
  rw[au1] at hn;obtain⟨c0,d5⟩:=av5.1 hn;rw[uq];rcases as8.1 h with rfl |h
  .rw[vj rfl]
  .rw[mu fun x=>c0 (by rw[x];exact au0 (f:=fun d:aL=>d.nm) h),Ms d5 h]
def Bl (hn:(L.map (·.nm)).Nodup) {nm:aG9} {d:aL} (h:dk L nm=some d) (ae:d.cX=none):dg L nm d.im none=L:=by
 unfold dg;refine(av1 fun e U=>?_).trans (List.map_id' L);unfold io
 split
 .rename_i c;have:=Ms hn U;rw[c,h] at this;injection this with this
  subst this;rw[<-ae]
 .rfl
def cb.dg (h:cb z R L) {nm:aG9} {bS:aL} (aw:dk L nm=some bS) {im:bL} (au:iL bS.im im):cb z R (dg L nm im none):=by
 refine⟨h.tonV.dg aw au none,fun d H=>?_,fun d H=>?_⟩
 .obtain⟨e,U,rfl⟩:=av0.1 H;unfold io
  split
  .rfl
  .exact h.vF e U
 .obtain⟨e,U,rfl⟩:=av0.1 H;rw[Bg];exact h.Ho e U
end
structure mK where
 e:Int
 L:List aL
def fq (z:Nat) (L:aH2) (nm:aG9) (a:Int) (bs:aG9):mK:=match dk L nm with
 |none=>⟨140,L⟩
 |some d=>if bs.length % 16≠0 then⟨1,L⟩ else if d2 d.im a ((bs.length/16:Nat):Int)≠0 then⟨d2 d.im a ((bs.length/16:Nat):Int),L⟩ else
  ⟨A0 d.im a.toNat (bs.length/16),dg L nm (w9 d.im a.toNat (bs.length/16) bs (hF z L nm (cl L nm))) none⟩
def i4 (z:Nat) (L:aH2) (nm:aG9) (a l:Int):mK:=match dk L nm with
 |none=>⟨140,L⟩
 |some d=>if d2 d.im a l≠0 then⟨d2 d.im a l,L⟩ else
  ⟨A2 d.im a.toNat l.toNat,dg L nm (xa d.im a.toNat l.toNat (hF z L nm (cl L nm))) none⟩
def h1 (L:aH2) (nm:aG9) (a l:Int):mK:=match dk L nm with
 |none=>⟨140,L⟩
 |some d=>if d2 d.im a l≠0 then⟨d2 d.im a l,L⟩ else⟨0,dg L nm (A1 d.im a.toNat l.toNat) none⟩
def r8 {s:bL} {a l:Int} (h:d2 s a l=0):a=((a.toNat:Nat):Int)/\l=((l.toNat:Nat):Int):=by
 unfold d2 at h
 split at h
 .cases h
 .split at h
  .cases h
  .omega
section
variable {z R:Nat} {L:aH2}
def ahJ (h:cb z R L) (nm:aG9) (a l:Int):cb z R (h1 L nm a l).L:=by
 unfold h1
 cases aw:dk L nm with
 |none=>exact h
 |some d=>
  simp only
  split
  .exact h
  .rename_i G;have G:d2 d.im a l=0:=ax7 G;obtain⟨af,ao⟩:=r8 G;rw[af,ao] at G;exact h.dg aw (yE (h.gp d (cY aw).1).1 (nn G) _ (as2 _)).eD
def TO (h:cb z R L) {nm:aG9} {bS:aL} (aw:dk L nm=some bS) (bI:Nat->Nat):LD bS.im (s9 z R L nm bS.am bI) (bI 8005) (bI 8006) (hF z L nm (cl L nm)):=fun s' au c J aN=>by
 have H:=h.b7 nm;exact ahB z R L h.tonV nm bS aw (cl L nm) H.1 aD1 s' au bI c J aN
def Mt (h:cb z R L) (nm:aG9) (a:Int) (bs:aG9) (gb:bs.length<=1000000000):
  Fn prog 63 [ap 1001,bW nm,ab a,bP .u8 bs] (bT z R L) [] (ab (fq z L nm a bs).e) (bT z R (fq z L nm a bs).L):=by
 unfold fq
 cases aw:dk L nm with
 |none=>exact TK z R L L nm a bs 140 (Mj z R L nm aw _ _ _)
 |some d=>
  have ae:=h.vF d (cY aw).1;have ag:=(h.gp d (cY aw).1).1
  have key: ∀(r:Int) (s':bL),(∀bI:Nat->Nat,Fn prog 106 [ap 1001,ab a,bP .u8 bs,nS (bI 8005) (bI 8006)] (gn d.im (s9 z R L nm d.am bI)) [] (ab r) (gn s' (s9 z R L nm d.am bI)))->
    Fn prog 63 [ap 1001,bW nm,ab a,bP .u8 bs] (bT z R L) [] (ab r) (bT z R (dg L nm s' none)):=fun r s' aE=>
   TK z R L _ nm a bs r (Mr z R L _ h.toi3 nm d aw _ r _ _ (ahF z R L h.toi3 nm d aw ae a bs r s' aE))
  simp only
  split
  .rename_i E;have:=key 1 d.im fun bI=>afr d.im _ _ _ a bs E gb
   rwa[Bl h.ji aw ae] at this
  .rename_i E;have E:bs.length=16*(bs.length/16):=aD9
   split
   .rename_i G;have:=key _ d.im fun bI=>afs d.im _ _ _ ag a _ bs E aD1 G
    rwa[Bl h.ji aw ae] at this
   .rename_i G;have G:d2 d.im a ((bs.length/16:Nat):Int)=0:=ax7 G;have e:=(r8 G).1;have ah:=G;rw[e] at ah;refine key _ _ fun bI=>?_
    have:=afG d.im _ _ _ ag a.toNat _ bs E ah _ (TO h aw bI)
    rwa[<-e] at this
def TP (h:cb z R L) (nm:aG9) (a l:Int):
  Fn prog 65 [ap 1001,bW nm,ab a,ab l] (bT z R L) [] (ab (i4 z L nm a l).e) (bT z R (i4 z L nm a l).L):=by
 unfold i4
 cases aw:dk L nm with
 |none=>exact TL z R L L nm a l 140 (Mj z R L nm aw _ _ _)
 |some d=>
  have ae:=h.vF d (cY aw).1;have ag:=(h.gp d (cY aw).1).1
  have key: ∀(r:Int) (s':bL),(∀bI:Nat->Nat,Fn prog 108 [ap 1001,ab a,ab l,nS (bI 8005) (bI 8006)] (gn d.im (s9 z R L nm d.am bI)) [] (ab r) (gn s' (s9 z R L nm d.am bI)))->
    Fn prog 65 [ap 1001,bW nm,ab a,ab l] (bT z R L) [] (ab r) (bT z R (dg L nm s' none)):=fun r s' aE=>
   TL z R L _ nm a l r (Mr z R L _ h.toi3 nm d aw _ r _ _ (ahG z R L h.toi3 nm d aw ae a l r s' aE))
  simp only
  split
  .rename_i G;have:=key _ d.im fun bI=>afM d.im _ _ _ ag a l G
   rwa[Bl h.ji aw ae] at this
  .rename_i G;have G:d2 d.im a l=0:=ax7 G;obtain⟨af,ao⟩:=r8 G;have ah:=G;rw[af,ao] at ah;refine key _ _ fun bI=>?_
   have:=afK d.im _ _ _ ag a.toNat l.toNat ah _ (TO h aw bI)
   rwa[<-af,<-ao] at this
def TQ (h:cb z R L) (nm:aG9) (a l:Int):
  Fn prog 67 [ap 1001,bW nm,ab a,ab l] (bT z R L) [] (ab (h1 L nm a l).e) (bT z R (h1 L nm a l).L):=by
 unfold h1
 cases aw:dk L nm with
 |none=>exact TM z R L L nm a l 140 (Mj z R L nm aw _ _ _)
 |some d=>
  have ae:=h.vF d (cY aw).1;have ag:=(h.gp d (cY aw).1).1
  have key: ∀(r:Int) (s':bL),Fn prog 110 [ap 1001,ab a,ab l] (dM d.im) [] (ab r) (dM s')->
    Fn prog 67 [ap 1001,bW nm,ab a,ab l] (bT z R L) [] (ab r) (bT z R (dg L nm s' none)):=fun r s' aE=>
   TM z R L _ nm a l r (Mr z R L _ h.toi3 nm d aw _ r _ _ (ahH z R L h.toi3 nm d aw ae a l r s' aE))
  simp only
  split
  .rename_i G;have:=key _ d.im (afu d.im ag a l G)
   rwa[Bl h.ji aw ae] at this
  .rename_i G;have G:d2 d.im a l=0:=ax7 G;obtain⟨af,ao⟩:=r8 G;have ah:=G;rw[af,ao] at ah;have:=afI d.im ag a.toNat l.toNat ah;rw[<-af,<-ao] at this;exact key _ _ this
def r9 (z:Nat) (L:aH2) (nm:aG9) (a l:Int):aG9×Int:=match dk L nm with
 |none=>([],140)
 |some d=>if d2 d.im a l=0 then(j9 z L nm (cl L nm) a.toNat l.toNat,0) else([],d2 d.im a l)
def ahK (h:cb z R L) (nm:aG9) (a l:Int):
  Fn prog 45 [ap 1001,bW nm,ab a,ab l] (bT z R L) [] (.cn [.one (.d (.bG .u8 (r9 z L nm a l).1)),dJ (r9 z L nm a l).2]) (bT z R L):=by
 unfold r9
 cases aw:dk L nm with
 |none=>exact(agu z R L nm aw a l).res aD
 |some d=>
  simp only
  split
  .rename_i G;obtain⟨af,ao⟩:=r8 G;have ah:=G;rw[af,ao] at ah;have H:=h.b7 nm;have:=agt z R L h.tonV nm d aw (cl L nm) H.1 aD1 a.toNat l.toNat ah
   rwa[<-af,<-ao] at this
  .rename_i G;exact(agv z R L h.tonV nm d aw a l G).res aD
def fB (L:aH2) (nm:aG9):aG9×Int:=match dk L nm with
 |none=>([],140)
 |some d=>(d.back,0)
def Hp (h:cb z R L) (nm:aG9):Fn prog 114 [ap 1001,bW nm] (bT z R L) [] (.cn [.one (.d (.str (fB L nm).1)),dJ (fB L nm).2]) (bT z R L):=by
 unfold fB
 cases aw:dk L nm with
 |none=>exact af9 z R L nm aw
 |some d=>exact af8 z R L h.toi3 nm d aw
def TR (h:cb z R L) (nm:aG9):Fn prog 115 [ap 1001,bW nm] (bT z R L) [] (bP .str (r6 L nm)) (bT z R L):=agT z R L h.toi3 h.TN (by have:=h.len;omega) nm
def h2 (z R:Nat) (L:aH2) (nm:aG9) (size:Int) (back:aG9) (p:aJ5):mK:=
 if(hg nm&&kN z size R)=false then⟨1,L⟩ else if(dk L nm).isSome=true\/16<=L.length then⟨143,L⟩ else if(decide (back=[])||(dk L back).isSome)=false then⟨140,L⟩
 else if back≠[]/\8 < cl L back+1 then⟨142,L⟩ else⟨0,lc L nm back p.1 p.2 (gC z size.toNat R)⟩
def ahL (L M:aH2) (nm:aG9):dk (L++M) nm=(dk L nm).or (dk M nm):=by unfold dk;rw[List.find?_append]
def yX {nm back:aG9} {ad am:Nat} {im:bL} (n:aG9):dk (lc L nm back ad am im) n=(dk L n).or (if nm=n then some ⟨nm,back,ad,am,im,none⟩ else none):=by show dk (L++_) n=_;rw[ahL,uq];rfl
def TS {L':aH2} (Z: ∀n d,dk L n=some d-> ∃da,dk L' n=some da/\da.back=d.back) (hE: ∀d,d∈L->d.back≠[]-> ∃e,dk L d.back=some e) {n:aG9} {k:Nat} (h:eu L n k):(∃d,dk L n=some d)->eu L' n k:=by
 induction h with
 |gone h=>rintro⟨d,H⟩;rw[h] at H;cases H
 |base E G=>
  intro _;obtain⟨da,af,ao⟩:=Z _ _ E;exact .base af (by rw[ao];exact G)
 |step E G ah bn=>
  intro _;obtain⟨da,af,ao⟩:=Z _ _ E;exact .step af (by rw[ao];exact G) (by rw[ao];exact bn (hE _ (cY E).1 G))
def ahM {z size R:Int} (h:kN z size R=true):(0<=size/\size<=256)/\(0<=R/\R<=512)/\0<=z/\z<=3:=by unfold kN at h;simp only[as1,av6] at h;omega
def cb.add (h:cb z R L) {nm back:aG9} {size ad am:Nat} (e5:i3 (lc L nm back ad am (gC z size R))) (au:size<=256) (hn:hg nm=true) (aw:dk L nm=none) (oJ:L.length < 16) (O:back=[]\/(dk L back).isSome=true/\cl L back+1<=8):cb z R (lc L nm back ad am (gC z size R)):=by
 have Mu: ∀n d,dk L n=some d->dk (lc L nm back ad am (gC z size R)) n=some d:=fun n d H=>by rw[yX,H];rfl
 have xi:dk (lc L nm back ad am (gC z size R)) nm=some ⟨nm,back,ad,am,gC z size R,none⟩:=by rw[yX,aw,vj rfl];rfl
 have pU: ∀d,d∈lc L nm back ad am (gC z size R)->d∈L\/d=⟨nm,back,ad,am,gC z size R,none⟩:=fun d H=>by
  rcases au4.1 H with H |H
  .exact .inl H
  .exact .inr (at7.1 H)
 have nb: ∀n k,(∃d,dk L n=some d)->eu L n k->eu (lc L nm back ad am (gC z size R)) n k:=fun n k H Z=>TS (fun n d H=>⟨d,Mu n d H,rfl⟩) h.iM Z H
 refine⟨⟨e5,h.b3,h.xd,by rw[as4];exact oJ,fun d H=>?_,fun d H jo=>?_,fun d H=>?_,fun d H=>?_⟩,fun d H=>?_,fun d H=>?_⟩
 .rcases pU d H with H |rfl
  .exact h.gp d H
  .exact⟨afN h.b3 au h.xd,rfl,at5 ..⟩
 .rcases pU d H with H |rfl
  .obtain⟨e,U⟩:=h.iM d H jo;exact⟨e,Mu _ _ U⟩
  .rcases O with O |⟨O,_⟩
   .exact as3 O jo
   .obtain⟨e,U⟩:=av9.1 O;exact⟨e,Mu _ _ U⟩
 .rcases pU d H with H |rfl
  .exact h.ne d H
  .intro e;have:=(DR hn).1;have e:nm=[]:=e;rw[e] at this;exact as3 this aD2
 .rcases pU d H with H |rfl
  .obtain⟨k,Z,lB⟩:=h.up d H;exact⟨k,Z,nb _ _ ⟨d,Ms h.ji H⟩ lB⟩
  .by_cases Bm:back=[]
   .exact⟨0,at2 _,.base xi Bm⟩
   .rcases O with O |⟨O,ahN⟩
    .exact as3 O Bm
    .exact⟨cl L back+1,ahN,.step xi Bm (nb _ _ (av9.1 O) (h.b7 back).1)⟩
 .rcases pU d H with H |rfl
  .exact h.vF d H
  .rfl
 .rcases pU d H with H |rfl
  .exact h.Ho d H
  .exact hn
def ahO (h:cb z R L) (nm:aG9) (size:Int) (back:aG9) (ak:nm.length<=4294967296):
  cC prog 27 [ap 1001,bW nm,ab size,bW back] (bT z R L) [] (X:={p:Nat×Nat//cb z R (h2 z R L nm size back p).L}) (fun p=>ab (h2 z R L nm size back p.1).e) (fun p=>bT z R (h2 z R L nm size back p.1).L):=by
 have Hq: ∀e:Int,(∀p,h2 z R L nm size back p=⟨e,L⟩)->Fn prog 27 [ap 1001,bW nm,ab size,bW back] (bT z R L) [] (ab e) (bT z R L)->
   cC prog 27 [ap 1001,bW nm,ab size,bW back] (bT z R L) [] (X:={p:Nat×Nat//cb z R (h2 z R L nm size back p).L}) (fun p=>ab (h2 z R L nm size back p.1).e) (fun p=>bT z R (h2 z R L nm size back p.1).L):=fun e U hf=>
  hf.x.to (fun _=>⟨(0,0),by rw[U];exact h⟩) (fun _=>by rw[U]) (fun _=>by rw[U])
 by_cases E:(hg nm&&kN z size R)=false
 .exact Hq 1 (fun p=>vj E) (ahd z R size L nm back ak E)
 have tW:hg nm=true/\kN z size R=true:=by
  rw[Bool.not_eq_false,as1] at E;exact E
 obtain⟨⟨ck,jc⟩,_⟩:=ahM tW.2;obtain⟨dZ,rfl⟩: ∃n:Nat,size=(n:Int):=⟨size.toNat,aD1⟩;have au:dZ<=256:=aD9
 by_cases G:(dk L nm).isSome=true\/16<=L.length
 .exact Hq 143 (fun p=>(mu E).trans (vj G)) (ahe z dZ R h.b3 au h.xd L nm back ak tW.1 G)
 have aw:dk L nm=none:=by
  cases e:dk L nm with
  |none=>rfl
  |some d=>exact as3 (.inl (by rw[e];rfl)) G
 have oJ:L.length < 16:=by
  rcases aA6 L.length 16 with bd |bd
  .exact bd
  .exact as3 (.inr bd) G
 by_cases ah:(decide (back=[])||(dk L back).isSome)=false
 .exact Hq 140 (fun p=>(mu E).trans ((mu G).trans (vj ah))) (ahf z dZ R h.b3 au h.xd L nm back ak tW.1 aw oJ ah)
 have H:=h.b7 back
 by_cases aW:back≠[]/\8 < cl L back+1
 .have O:(dk L back).isSome=true:=by
   rw[Bool.not_eq_false,ay3] at ah;exact ah.resolve_left fun e=>aW.1 (gd e)
  exact Hq 142 (fun p=>(mu E).trans ((mu G).trans ((mu ah).trans (vj aW)))) (ahg z dZ R h.b3 au h.xd L h.toi3 nm back ak tW.1 aw oJ aW.1 O _ H.1 aD1 aW.2)
 have O:back=[]\/(dk L back).isSome=true/\cl L back+1<=8:=by
  by_cases e:back=[]
  .exact .inl e
  .rw[Bool.not_eq_false,ay3] at ah;have iH: ¬8 < cl L back+1:=fun x=>aW ⟨e,x⟩
   exact .inr ⟨ah.resolve_left fun x=>e (gd x),aD1⟩
 have a2: ∀p,h2 z R L nm (dZ:Int) back p=⟨0,lc L nm back p.1 p.2 (gC z dZ R)⟩:=fun p=>(mu E).trans ((mu G).trans ((mu ah).trans (mu aW)))
 exact(ahb z dZ R h.b3 au h.xd L h.toi3 h.vF nm back ak tW.1 aw oJ (cl L back) (O.imp id fun x=>⟨x.1,H.1,x.2⟩)).to (fun p=>⟨p.1,by rw[a2];exact h.add p.2 au tW.1 aw oJ O⟩) (fun p=>by rw[a2]) (fun p=>by rw[a2])
def ip (L:aH2) (nm back:aG9):mK:=
 if(dk L nm).isSome=false\/(decide (back=[])||(dk L back).isSome)=false then⟨140,L⟩ else if nm=back\/nm∈dc L (cl L back) back then⟨141,L⟩
 else if∀n∈mH L,cl (eg L nm back) n<=8 then⟨0,eg L nm back⟩ else⟨142,L⟩
def xj {nm back:aG9} {d:aL} (h:d.nm≠nm):e2 nm back d=d:=by unfold e2;rw[mu h]
def Hr {nm back:aG9} {d:aL} (h:d.nm=nm):(e2 nm back d).back=back:=by unfold e2;rw[vj h]
def Mv {nm back:aG9} {n:aG9} {k:Nat} (h:eu L n k):n≠nm->nm∉dc L k n->eu (eg L nm back) n k:=by
 induction h with
 |gone h=>intro _ _;exact .gone (by rw[mJ,h];rfl)
 | @base n d E G=>
  intro a8 _;have e:=(cY E).2;exact .base (d:=d) (by rw[mJ,E];show some (e2 nm back d)=_;rw[xj (by rw[e];exact a8)]) G
 | @step n d k E G ah bn=>
  intro a8 O;have e:=(cY E).2;unfold dc at O;rw[E] at O;simp only[as8,not_or] at O;exact .step (d:=d) (by rw[mJ,E];show some (e2 nm back d)=_;rw[xj (by rw[e];exact a8)]) G (bn (fun x=>O.1 x.symm) O.2)
def ahP {nm back:aG9} {k:Nat} (ce:eu L back k) (E:nm≠back) (G:nm∉dc L k back) {n:aG9} {j:Nat} (h:eu L n j): ∃i,i<=j+k+1/\eu (eg L nm back) n i:=by
 have s6:eu (eg L nm back) back k:=Mv ce (ay4 E) G
 have xi: ∀d,dk L nm=some d-> ∃i,i<=k+1/\eu (eg L nm back) nm i:=fun d H=>by
  have e:dk (eg L nm back) nm=some (e2 nm back d):=by rw[mJ,H];rfl
  have vC:=Hr (back:=back) (cY H).2
  by_cases O:back=[]
  .exact⟨0,at2 _,.base e (by rw[vC];exact O)⟩
  .exact⟨k+1,as2 _,.step e (by rw[vC];exact O) (by rw[vC];exact s6)⟩
 induction h with
 |gone h=>exact⟨0,at2 _,.gone (by rw[mJ,h];rfl)⟩
 | @base n d g1 g2=>
  have e:=(cY g1).2
  by_cases c:n=nm
  .subst c;obtain⟨i,aE,H⟩:=xi d g1;exact⟨i,aD1,H⟩
  .exact⟨0,at2 _,.base (d:=d) (by rw[mJ,g1];show some (e2 nm back d)=_;rw[xj (by rw[e];exact c)]) g2⟩
 | @step n d j g1 g2 cK bn=>
  have e:=(cY g1).2
  by_cases c:n=nm
  .subst c;obtain⟨i,aE,H⟩:=xi d g1;exact⟨i,aD1,H⟩
  .obtain⟨i,aE,H⟩:=bn;exact⟨i+1,aD1,.step (d:=d) (by rw[mJ,g1];show some (e2 nm back d)=_;rw[xj (by rw[e];exact c)]) g2 H⟩
def cb.TT (h:cb z R L) {nm back:aG9} (E:nm≠back) (G:nm∉dc L (cl L back) back) (n:aG9):eu (eg L nm back) n (cl (eg L nm back) n)/\cl (eg L nm back) n<=20:=by have O:=h.b7 back;have hn:=h.b7 n;obtain⟨i,aE,H⟩:=ahP O.1 E G hn.1;rw[ta H aD1];exact⟨H,aD1⟩
def TU {nm back:aG9} (h: ¬((dk L nm).isSome=false\/(decide (back=[])||(dk L back).isSome)=false)):(∃d,dk L nm=some d)/\(decide (back=[])||(dk L back).isSome)=true:=by
 constructor
 .cases e:dk L nm with
  |none=>exact as3 (.inl (by rw[e];rfl)) h
  |some d=>exact⟨d,rfl⟩
 .cases e:(decide (back=[])||(dk L back).isSome) with
  |false=>exact as3 (.inr e) h
  |true=>rfl
def cb.set (h:cb z R L) {nm back:aG9} (Z:(decide (back=[])||(dk L back).isSome)=true) (E:nm≠back) (G:nm∉dc L (cl L back) back) (iH: ∀n∈mH L,cl (eg L nm back) n<=8):cb z R (eg L nm back):=by
 have key: ∀d,d∈eg L nm back-> ∃e,e∈L/\e2 nm back e=d:=fun d H=>by
  obtain⟨e,U,rfl⟩:=av0.1 H;exact⟨e,U,rfl⟩
 refine⟨⟨h.toi3.eg nm back,h.b3,h.xd,by unfold eg;rw[at8];exact h.len,fun d H=>?_,fun d H O=>?_,fun d H=>?_,fun d H=>?_⟩,fun d H=>?_,fun d H=>?_⟩
 .obtain⟨e,U,rfl⟩:=key d H;rw[DM];exact h.gp e U
 .obtain⟨e,U,rfl⟩:=key d H
  have iM: ∃x,dk L (e2 nm back e).back=some x:=by
   by_cases c:e.nm=nm
   .rw[Hr c] at O⊢;rw[ay3] at Z;exact av9.1 (Z.resolve_left fun x=>O (gd x))
   .rw[xj c] at O⊢;exact h.iM e U O
  obtain⟨x,hx⟩:=iM;exact⟨e2 nm back x,by rw[mJ,hx];rfl⟩
 .obtain⟨e,U,rfl⟩:=key d H;rw[yT];exact h.ne e U
 .obtain⟨e,U,rfl⟩:=key d H;rw[yT]
  have ay:e.nm∈mH L:=by
   unfold mH oI;rw[List.mem_mergeSort,DH];exact au0 U
  exact⟨_,iH _ ay,(h.TT E G e.nm).1⟩
 .obtain⟨e,U,rfl⟩:=key d H;rw[Tv];exact h.vF e U
 .obtain⟨e,U,rfl⟩:=key d H;rw[yT];exact h.Ho e U
def Mw (h:cb z R L) (nm back:aG9):cb z R (ip L nm back).L:=by
 unfold ip
 split
 .exact h
 .rename_i E
  split
  .exact h
  .rename_i G
   split
   .rename_i ah;exact h.set (TU E).2 (fun e=>G (.inl e)) (fun e=>G (.inr e)) ah
   .exact h
def ahQ (h:cb z R L) (nm back:aG9):Fn prog 303 [ap 1001,bW nm,bW back] (bT z R L) [] (ab (ip L nm back).e) (bT z R (ip L nm back).L):=by
 have H:=h.b7 back
 by_cases E:(dk L nm).isSome=false\/(decide (back=[])||(dk L back).isSome)=false
 .rw[show ip L nm back=⟨140,L⟩ from vj E];exact ahi z R L nm back E
 obtain⟨⟨d,jg⟩,Z⟩:=TU E
 by_cases G:nm=back\/nm∈dc L (cl L back) back
 .rw[show ip L nm back=⟨141,L⟩ from(mu E).trans (vj G)];exact ahj z R L h.toi3 nm back d jg Z _ H.1 aD1 G
 have gA:=fun n=>h.TT (back:=back) (fun e=>G (.inl e)) (fun e=>G (.inr e)) n
 refine ahp z R L h.toi3 h.TN (by have:=h.len;omega) nm back d jg Z _ H.1 aD1 G (fun n=>cl (eg L nm back) n) (fun n _=>⟨(gA n).1,by have:=(gA n).2;omega⟩) _ _ (fun bd=>?_) (fun bd=>?_)
 .rw[show ip L nm back=⟨0,eg L nm back⟩ from(mu E).trans ((mu G).trans (vj bd))];exact⟨rfl,rfl⟩
 .have gg: ¬ ∀n∈mH L,cl (eg L nm back) n<=8:=fun dK=>by
   obtain⟨n,hn,iH⟩:=bd;have:=dK n hn;omega
  rw[show ip L nm back=⟨142,L⟩ from(mu E).trans ((mu G).trans (mu gg))];exact⟨rfl,rfl⟩
end
end
section
section
variable {z R:Nat} {L:aH2}
def fI (z:Nat) (L:aH2) (nm:aG9) (k:Int):aG9:=match dk L nm with
 |none=>[]
 |some d=>if 0<=k/\k < (d.im.t.length:Nat) then fi z L nm (cl L nm) k.toNat else[]
def Mx (h:cb z R L) (nm:aG9) (k:Int):Fn prog 88 [ap 1001,bW nm,ab k] (bT z R L) [] (bP .u8 (fI z L nm k)) (bT z R L):=by
 unfold fI
 cases aw:dk L nm with
 |none=>
  have hx:(b0 (aI:=.str) (aK:=.aM) (df L) nm).getD (cR .aM)=none:=aG3
  simp only;refine aY [2,4] func88 ?_;refine bz [4] (bt) ?_;exact⟨fun ej O=>as3 (show(b0 (aI:=.str) (aK:=.aM) (df L) nm).getD (cR .aM)=some ej from O) aE9,fun _=>bh⟩
 |some bS=>
  simp only
  split
  .rename_i Z;have H:=h.b7 nm;have:=LV z R L h.tonV nm bS aw (cl L nm) H.1 aD1 k.toNat aD1
   rwa[show((k.toNat:Nat):Int)=k by omega] at this
  .rename_i Z;obtain⟨pt,gD,gE⟩:=kL yL;have md:=h.toi3.D (cY aw).1;have fO:=h.toi3.M (cY aw).1;have hx:(b0 (aI:=.str) (aK:=.aM) (df L) nm).getD (cR .aM)=some bS.ad:=aG3
   refine aY [2,4] func88 ?_;refine bz [4] (bt) ?_;refine⟨fun ej O=>⟨fun _=>?_,fun E=>?_⟩,fun O=>as3 (show(b0 (aI:=.str) (aK:=.aM) (df L) nm).getD (cR .aM)=none from O) aE9⟩
   .exact bh
   have E: ¬k < 0:=oj E;refine bc (fun N=>ju (b:=bS.ad) rfl aF8 N) ?_;refine bc (fun N=>jN rfl underlying122 rfl rfl gD aE4 rfl N) ?_;refine bc (lR (q:=1003) rfl underlying112 rfl rfl rfl md rfl) ?_;refine ar (il (nR bS.im) fO rfl rfl rfl rfl) ⟨fun _=>?_,fun G=>?_⟩
   .exact bh
   .exfalso;have G: ¬((bS.im.t.length:Nat):Int)<=k:=oj G;omega
end
end
section
section
variable {P:aH6} {ids:aH0} {K:aZ} {B:aA}
def ahR {o:Oper} {T:aI0} {x v:aH8} {c i off:Nat} {e:aI0} {u:bB} {xs:List (aa u)} {y y':aa u} {Hs:D} {di:aI9} (ag:o.op= .store T x v) (aE:P.info? T=some di) (aN:di.size=1) (hx:a7 K x= .c (.one (.fW c (aR u) i off)))
  (az:a7 K v= .c (.one (.d Hs))) (cQ:aj B c=some (.row e u xs)) (aC:fd xs i=some y) (s6:off < aR u) (nP:o4 u y') (J: ∀j,j < aR u->fS u y' j=if j=off then Hs else fS u y j)
  (E: ∀{I:Nat->Prop} {w:aH5} {aB:aI3},gY I w Hs aB->aB.cells=List.toArray [aB]/\aB.oneCell'=true) (N:Nat):
  bD P N ids o K B .undef ⟨[c],[],[(c,some (.row e u (xs.set i y')))]⟩:=by
 have m1:x∈o.op.operands:=aD8
 have m2:v∈o.op.operands:=aD8
 have uu:i < xs.length:=Cg aC;refine bD.h8 cQ fun K' B' g1 C ρ F a w al av gz=>?_
 obtain⟨bj,ko,cs,dN,kp⟩:=al.holds c _ gz;have J0:=av.fW ((g1 x m1).trans hx);have ao:gY (b5 C B' F w) w Hs (a.eval v):=av.ev ((g1 v m2).trans az);obtain⟨hA,jd⟩:=E ao;obtain⟨qv,dN⟩:=dN;rcases dN with⟨_,aw⟩ |⟨g,cap,dm,pe,_,aU,x4,ay,cz,cm⟩
 .omega
 .have Ai:g=(ρ c).bm:=ko g (by rw[pe];rfl);subst Ai
  have TV:i*aR u+off < xs.length*aR u:=by
   have:=ax5 (aR u) uu;rw[az3] at this;omega
  have arH:xs.length*aR u<=cap*aR u:=ax5 _ x4;have u2:w.heap[(ρ c).bm]? =some (.cells (List.toArray dm.toList) e (0,0)):=by simpa using aU
  have lI:i*aR u+off+ [a.eval v].length<=dm.toList.length:=aE3
  have u3:=Ct (P:=P) (ev:=a.eval) (w:=w) ag J0 hA aE aN u2 lI (by simpa using jd);refine⟨_,u3,FL ((bj _).2 (by rw[pe];rfl)),fun I U=>?_⟩;have m5:=setRow_heap w (ρ c).bm dm (List.take (i*aR u+off) dm.toList++[a.eval v]++List.drop (i*aR u+off+ [a.eval v].length) dm.toList).toArray e (0,0) aU
  have hb:(List.take (i*aR u+off) dm.toList++[a.eval v]++List.drop (i*aR u+off+ [a.eval v].length) dm.toList)=dm.toList.set (i*aR u+off) (a.eval v):=by
   rw[List.set_eq_take_append_cons_drop,vj aE3];simp
  rw[hb] at m5;refine⟨bj,ko,cs.set (i*aR u+off) (a.eval v),⟨by simp[qv],.inr ⟨(ρ c).bm,cap,_,by rw[pe];simp,at2 _,by rw[hb];exact m5,by simpa using x4,ay,by simp[cz],?_⟩⟩,fun j aB aN=>?_⟩
  .rw[<-cm];simp[List.take_set]
  .by_cases lw:i=j
   .subst lw;rw[ax8 uu] at aN;injection aN with aN
    subst aN;have H:=kp i y aC;refine cw.mk u y' _ nP fun q aQ=>?_
    rw[J q aQ]
    by_cases bc:q=off
    .rw[vj bc];subst bc;exact⟨a.eval v,by rw[ax8 aD1],gY.mono U _ _ ao⟩
    .rw[mu bc];obtain⟨x,hx,m6⟩:=cw.cell u y _ q H aQ;exact⟨x,by rw[ax1 aD1];exact hx,gY.mono U _ _ m6⟩
   .rw[ax1 lw] at aN;have H:=kp j aB aN;refine cw.mk u aB _ (cw.wf u aB _ H) fun q aQ=>?_
    obtain⟨x,hx,m6⟩:=cw.cell u aB _ q H aQ;refine⟨x,?_,gY.mono U _ _ m6⟩;rw[ax1 ?_]
    .exact hx
    .intro e;have E:(i*aR u+off)/aR u=i:=by rw[aB2,Nat.mul_add_div aD1,Nat.div_eq_of_lt s6,az5]
     have G:(j*aR u+q)/aR u=j:=by rw[aB2,Nat.mul_add_div aD1,Nat.div_eq_of_lt aQ,az5]
     rw[e,G] at E;exact lw E.symm
end
def ahS {I:Nat->Prop} {w:aH5} {n:Int} {aB:aI3} (h:gY I w (.int .i64 n) aB):aB.cells=List.toArray [aB]/\aB.oneCell'=true:=by have h:aB= .int .i64 n:=h;subst h;exact⟨rfl,rfl⟩
def ahT:(prog.info? 3).map (·.size)=some 1:=by kernel_rfl
abbrev h3:bB:=.bU ai (.bU ai ai)
abbrev dl:=Int×Int×Int
abbrev aI4:=List dl
abbrev ahU (x:dl):List bE:=[.d (.int .i64 x.1),.d (.int .i64 x.2.1),.d (.int .i64 x.2.2)]
def fj (l:aI4):Int:=match l.getLast? with
 |none=>0
 |some x=>x.1+x.2.1
def jx (l:aI4) (n k:Int):List dl:=if n < 1 then l else match l.getLast? with
 |some x=>if x.2.2=k then l.set (l.length - 1) (x.1,x.2.1+n,x.2.2) else l++[(fj l,n,k)]
 |none=>l++[(fj l,n,k)]
def Bn {α:Type} {l:List α} {x:α} (h:l.getLast? =some x):0 < l.length/\fd l (l.length - 1)=some x:=by rw[List.getLast?_eq_getElem?] at h;exact⟨by have:=(at0.1 h).1;omega,h⟩
def My {α:Type} {l:List α} (h:l.getLast? =none):l=[]:=aE0
def ahV (l:aI4) (O: ∀x,l.getLast? =some x-> -4611686018427387904<=x.1/\x.1<=4611686018427387903/\ -4611686018427387904<=x.2.1/\x.2.1<=4611686018427387903) (ak:l.length<=4294967296):
  Fn prog 261 [eC 1001] [(1001,.row 293 h3 l)] [] (ab (fj l)) [(1001,.row 293 h3 l)]:=by
 refine aY [] func261 ?_;refine⟨fun h=>?_,fun h=>?_⟩
 .have h:((l.length:Nat):Int)=0:=gd h;have aw:l=[]:=List.length_eq_zero_iff.1 aD1;subst aw;exact bh
 .have h: ¬((l.length:Nat):Int)=0:=oj h
  cases hx:l.getLast? with
  |none=>rw[My hx] at h;exact as3 rfl h
  |some x=>
   have O:=O x hx;obtain⟨aw,aU⟩:=Bn hx;have e:(((l.length:Nat):Int) - 1).toNat=l.length - 1:=aD9
   have m:c8 (((l.length:Nat):Int) - 1):=aD9
   have m2:(0:Int)<=((l.length:Nat):Int) - 1/\(((l.length:Nat):Int) - 1).toNat < l.length:=aD9
   have m3:c8 (x.1+x.2.1):=aD9
   have rS:fd l (((l.length:Nat):Int) - 1).toNat=some x:=by rw[e];exact aU
   refine⟨m,⟨m2.1,aD1⟩,x,rS,m,⟨m2.1,aD1⟩,x,rS,m3,rfl,?_⟩;exact eN bt rfl (show x.1+x.2.1=fj l by unfold fj;rw[hx])
def TW (l:aI4) (n k:Int) (O: ∀x,l.getLast? =some x-> -4611686018427387904<=x.1/\x.1<=4611686018427387903/\ -4611686018427387904<=x.2.1/\x.2.1<=4611686018427387903) (hn:n<=4611686018427387903) (ak:l.length<=1000000000):
  Fn prog 234 [eC 1001,ab n,ab k] [(1001,.row 293 h3 l)] [1002] (eC 1002) [(1002,.row 293 h3 (jx l n k))]:=by
 obtain⟨ii,ahW,ahX⟩:=kL ahT;have mf:=ahV l O aD1;refine aY [] func234 ?_;refine⟨fun h=>?_,fun h=>?_⟩
 .have h:n < 1:=gd h;have e:jx l n k=l:=vj h;exact⟨_,_,_,ac.aX 1001 1002 rfl,rfl,rfl,⟨as5 (fun aB:List dl=>some (ba.row 293 h3 aB)) e.symm,trivial⟩,rfl⟩
 have h: ¬n < 1:=oj h;have m:c8 (((l.length:Nat):Int) - 1):=aD9
 refine⟨m,?_⟩
 cases hx:l.getLast? with
 |none=>
  have aw:=My hx;subst aw;refine⟨fun G=>as3 G aD2,fun _=>ar mf ⟨(show(0+1:Nat)<=4294967296 from by decide),rfl,?_⟩⟩;have e:jx [] n k=[(fj [],n,k)]:=by unfold jx;rw[mu h];rfl
  exact⟨_,_,_,ac.aX 42 1002 rfl,rfl,rfl,⟨as5 (fun aB:List dl=>some (ba.row 293 h3 aB)) e.symm,trivial⟩,rfl⟩
 |some x=>
  have O:=O x hx;obtain⟨aw,aU⟩:=Bn hx;have e:(((l.length:Nat):Int) - 1).toNat=l.length - 1:=aD9
  have rS:fd l (((l.length:Nat):Int) - 1).toNat=some x:=by rw[e];exact aU
  have m2:(0:Int)<=((l.length:Nat):Int) - 1/\((l.length:Nat):Int) - 1 < l.length:=aD9
  refine⟨fun _=>?_,fun G=>?_⟩
  .refine⟨m2,x,rS,fun Z=>?_,fun Z=>?_⟩
   .have Z:x.2.2=k:=gd Z;have m3:c8 (x.2.1+n):=aD9
    refine⟨m2,x,rS,m3,m2,bc (fun N=>ahR (u:=h3) (y:=x) (y':=((x.1,x.2.1+n,x.2.2):dl)) (off:=1) rfl ahW ahX rfl rfl rfl rS aD2 ⟨trivial,trivial,trivial⟩ (fun j V=>?_) ahS N) ?_⟩
    .match j,V with
     |0,_=>rfl
     |1,_=>rfl
     |2,_=>rfl
    have ao:jx l n k=l.set (((l.length:Nat):Int) - 1).toNat (x.1,x.2.1+n,x.2.2):=by
     unfold jx;rw[mu h,hx,e];show(if x.2.2=k then _ else _)=_;rw[vj Z]
    exact⟨_,_,_,ac.aX 1001 1002 rfl,rfl,rfl,⟨as5 (fun aB:List dl=>some (ba.row 293 h3 aB)) ao.symm,trivial⟩,rfl⟩
   .have Z: ¬x.2.2=k:=oj Z;refine ar mf ?_;have jM:List.length (α:=dl) l+1<=4294967296:=aD9
    refine⟨jM,rfl,?_⟩
    have ao:jx l n k=l++[(fj l,n,k)]:=by
     unfold jx;rw[mu h,hx];show(if x.2.2=k then _ else _)=_;rw[mu Z]
    exact⟨_,_,_,ac.aX 42 1002 rfl,rfl,rfl,⟨as5 (fun aB:List dl=>some (ba.row 293 h3 aB)) ao.symm,trivial⟩,rfl⟩
  .have G: ¬((l.length:Nat):Int) - 1≥0:=oj G;omega
def jj (ks:aI2):List dl:=ks.foldl (fun l k=>jx l 1 k) []
structure yY (ks:aI2) (l:aI4):Prop where
 DS:fj l=(ks.length:Int)
 Ht: ∀x,x∈l->0<=x.1/\1<=x.2.1/\x.1+x.2.1<=(ks.length:Int)/\ ∀k:Nat,x.1<=(k:Int)->(k:Int) < x.1+x.2.1->ks[k]? =some x.2.2
 len:l.length<=ks.length
def TX (l:aI4) (x:dl):fj (l++[x])=x.1+x.2.1:=by unfold fj;rw[List.getLast?_concat]
def yY.add {ks:aI2} {l:aI4} (h:yY ks l) (k:Int):yY (ks++[k]) (jx l 1 k):=by
 have nb: ∀x,x∈l->0<=x.1/\1<=x.2.1/\x.1+x.2.1<=((ks++[k]).length:Int)/\ ∀j:Nat,x.1<=(j:Int)->(j:Int) < x.1+x.2.1->(ks++[k])[j]? =some x.2.2:=fun x hx=>by
  obtain⟨E,G,ah,aW⟩:=h.Ht x hx;refine⟨E,G,by rw[as4];simp;omega,fun j eR dF=>?_⟩;rw[au7 aD1];exact aW j eR dF
 have m5:yY (ks++[k]) (l++[(fj l,1,k)]):=by
  refine⟨?_,fun x hx=>?_,by simp;exact h.len⟩
  .rw[TX,h.DS,as4];simp
  .rcases au4.1 hx with hx |hx
   .exact nb x hx
   .rw[at7] at hx;subst hx;refine⟨by show 0<=fj l;rw[h.DS];omega,(show(1:Int)<=1 from by decide),by show fj l+1<=_;rw[h.DS,as4];simp,fun j eR dF=>?_⟩;have eR:fj l<=(j:Int):=eR;have dF:(j:Int) < fj l+1:=dF;rw[h.DS] at eR dF;have:j=ks.length:=aD9
    subst this;rw[au6 (as2 _)];simp
 unfold jx;rw[mu aD2]
 cases hx:l.getLast? with
 |none=>exact m5
 |some x=>
  simp only
  split
  .rename_i Z;obtain⟨aw,aU⟩:=Bn hx;have Hu:x∈l:=ax6 aU;have mf:x.1+x.2.1=(ks.length:Int):=by have:=h.DS;unfold fj at this;rw[hx] at this;exact this
   obtain⟨E,G,ah,aW⟩:=h.Ht x Hu;refine⟨?_,fun y aC=>?_,by rw[ay0,as4];have:=h.len;omega⟩
   .unfold fj;rw[List.getLast?_eq_getElem?,ay0,ax8 aD1];show x.1+(x.2.1+1)=_;rw[as4];simp;omega
   .rcases List.mem_or_eq_of_mem_set aC with aC |rfl
    .exact nb y aC
    .refine⟨E,by show 1<=x.2.1+1;omega,by show x.1+(x.2.1+1)<=_;rw[as4];simp;omega,fun j eR dF=>?_⟩;have eR:x.1<=(j:Int):=eR;have dF:(j:Int) < x.1+(x.2.1+1):=dF;show(ks++[k])[j]? =some x.2.2
     by_cases V:(j:Int) < x.1+x.2.1
     .rw[au7 aD1];exact aW j eR V
     .have:j=ks.length:=aD9
      subst this;rw[au6 (as2 _),Z];simp
  .exact m5
def TY (ks:aI2) (k:Int):jj (ks++[k])=jx (jj ks) 1 k:=by unfold jj;rw[aC2];rfl
def TZ (ks:aI2):yY ks (jj ks):=by
 have key: ∀n,n<=ks.length->yY (ks.take n) (jj (ks.take n)):=fun n=>by
  induction n with
  |zero=>intro _;exact⟨rfl,(fun _ h=>by cases h),as2 _⟩
  |succ n bn=>
   intro hn;rw[aB0,as0 aD1];show yY (ks.take n++[ks[n]]) (jj (ks.take n++[ks[n]]));rw[TY];exact(bn aD1).add _
 have:=key ks.length (as2 _)
 rwa[au3] at this
abbrev ahY (ks:aI2) (j:Nat):aZ:=[(3,eC 5002),(9,bP ai ks),(10,ab (ks.length:Nat)),(11,ab (j:Nat))]
def ahZ (ks:aI2) (Z:ks.length<=65536):Fn prog 212 [bP ai ks] [] [] (bP h3 (jj ks)) []:=by
 refine aY [] func212 ?_;refine⟨fun h=>?_,fun _=>?_⟩
 .exfalso;have h:(65536:Int) < ((ks.length:Nat):Int):=gd h;omega
 refine d1 [] (X:=Nat) (ahY ks) (fun j=>[(5002,.row 293 h3 (jj (ks.take j)))]) (fun j=>j<=ks.length) (fun j=>ks.length - j) 0 (at2 _) ?_ ?_
 .exact(ac.nil 3 5002 293 h3 rfl rfl).trans (ac.sub aD aD)
 intro j V;refine⟨fun J=>?_,fun J=>?_⟩
 .have J:decide ((j:Int) < ((ks.length:Nat):Int))=true:=J;have eR:j < ks.length:=aF4
  have bx:=TZ (ks.take j);have bv:(ks.take j).length=j:=aE8
  have vG:jj (ks.take (j+1))=jx (jj (ks.take j)) 1 ks[j]:=by
   rw[aB0,as0 eR];exact TY _ _
  refine⟨aD1,ks[j],j4 (n:=j) eR,?_⟩;refine ar (Fn.aX [(1001,5002)] (TW (jj (ks.take j)) 1 ks[j] (fun x hx=>?_) aD2 (by have:=bx.len;omega))) ?_
  .have:=bx.Ht x (ax6 (Bn hx).2);omega
  exact⟨aD1,j+1,eR,aD1,ac.trans (ac.sub (K':=[(3,eC 1002),(9,bP ai ks),(10,ab (ks.length:Nat)),(11,ab ((j+1:Nat):Int))]) (B':=[(1002,.row 293 h3 (jj (ks.take (j+1))))]) aD ⟨as5 (fun aB:List dl=>some (ba.row 293 h3 aB)) vG.symm,trivial⟩) ((ac.aX 1002 5002 rfl).trans (ac.sub aD aD))⟩
 .have J:decide ((j:Int) < ((ks.length:Nat):Int))=false:=J;have dF:j=ks.length:=aF0
  subst dF;exact⟨_,_,_,ac.eb 5002 rfl,rfl,(show jj (ks.take ks.length)=jj ks by rw[au3]),trivial,rfl⟩
section
variable {z R:Nat} {L:aH2}
end
end
section
def gr:Int->List dl->Bool
 |_,[]=>true
 |n,x::l=>if x.1=n/\1<=x.2.1/\x.2.1<=65536 - n then gr (n+x.2.1) l else false
def yZ (n:Int) (x:dl) (l:aI4):gr n (x::l)=if x.1=n/\1<=x.2.1/\x.2.1<=65536 - n then gr (n+x.2.1) l else false:=rfl
def Bo: ∀{l:aI4} {n:Int} {x:dl},gr n l=true->0<=n->l.getLast? =some x->0<=x.1/\1<=x.2.1/\x.1+x.2.1<=65536
 | [],_,_,_,_,h=>by cases h
 |y::l,n,x,h,hn,hx=>by
  unfold gr at h
  split at h
  .rename_i J
   cases l with
   |nil=>
    simp at hx;subst hx;omega
   |cons aB l=>
    rw[List.getLast?_cons_cons] at hx;exact Bo h aD1 hx
  .cases h
def Mz: ∀{l:aI4} {n:Int},gr n l=true->0<=n-> ∀x,x∈l->n<=x.1/\1<=x.2.1/\x.1+x.2.1<=65536
 | [],_,_,_,x,hx=>by cases hx
 |y::l,n,h,hn,x,hx=>by
  unfold gr at h
  split at h
  .rename_i J;rcases as8.1 hx with rfl |hx
   .omega
   .have:=Mz h aD1 x hx;omega
  .cases h
abbrev ah0 (l:aI4) (n:Int) (i:Nat):aZ:=[(3,ab n),(6,bP h3 l),(7,ab (l.length:Nat)),(8,ab (i:Nat))]
def MA (l:aI4) (ak:l.length<=1000000000) (dw: ∀x,x∈l-> -4611686018427387904<=x.2.1/\x.2.1<=4611686018427387903):Fn prog 260 [bP h3 l] [] [] (fX (gr 0 l)) []:=by
 refine aY [] func260 ?_;refine d1 [] (X:=Int×Nat) (fun x=>ah0 l x.1 x.2) (fun _=>[]) (fun x=>x.2<=l.length/\(0<=x.1/\x.1<=65536)/\gr x.1 (l.drop x.2)=gr 0 l) (fun x=>l.length - x.2) (0,0) ⟨at2 _,⟨Int.le_refl 0,aD1⟩,rfl⟩ ?_ ?_
 .exact ac.sub aD trivial
 rintro⟨n,i⟩ ⟨aE,hn,ax⟩;have aE:i<=l.length:=aE;have hn:0<=n/\n<=65536:=hn;have ax:gr n (l.drop i)=gr 0 l:=ax;refine⟨fun J=>?_,fun J=>?_⟩
 .have J:decide ((i:Int) < ((l.length:Nat):Int))=true:=J;have ec:i < l.length:=aF4
  have aU:=j4 (n:=i) ec;have H:l.drop i=l[i]::l.drop (i+1):=ay6 ec;have hx:=dw _ (av2 ec);rw[H] at ax;generalize l[i]=x at*;rw[yZ] at ax;have m1:(0:Int)<=(i:Int):=aD9
  refine⟨m1,x,aU,rfl,fun E=>?_,fun E=>?_⟩
  .have E:(!decide (x.1=n))=true:=E;have E: ¬x.1=n:=aG2
   rw[mu (fun h=>E h.1)] at ax;exact eN bt rfl ax
  have E:(!decide (x.1=n))=false:=E;have E:x.1=n:=aG2
  refine⟨fun G=>?_,fun G=>?_⟩
  .have G:x.2.1 < 1:=gd G;rw[mu (fun h=>by omega)] at ax;exact eN bt rfl ax
  have G: ¬x.2.1 < 1:=oj G;have m2:c8 (65536 - n):=aD9
  refine⟨m2,fun ah=>?_,fun ah=>?_⟩
  .have ah:65536 - n < x.2.1:=gd ah;rw[mu (fun h=>by omega)] at ax;exact eN bt rfl ax
  have ah: ¬65536 - n < x.2.1:=oj ah;rw[vj ⟨E,aD1,aD1⟩] at ax;have m3:c8 (n+x.2.1):=aD9
  have jM:c8 ((i:Int)+1):=aD9
  refine⟨m3,jM,?_⟩;exact⟨(n+x.2.1,i+1),⟨ec,(by show 0<=n+x.2.1/\n+x.2.1<=65536;omega),ax⟩,(by show l.length - (i+1) < l.length - i;omega),ac.sub aD trivial⟩
 .have J:decide ((i:Int) < ((l.length:Nat):Int))=false:=J;have p9:i=l.length:=aF0
  subst p9;rw[List.drop_length] at ax;exact eN bt rfl ax
def MB (l:aI4) (O: ∀x,l.getLast? =some x-> -4611686018427387904<=x.1/\x.1<=4611686018427387903/\ -4611686018427387904<=x.2.1/\x.2.1<=4611686018427387903) (ak:l.length<=4294967296):
  Fn prog 261 [bP h3 l] [] [] (ab (fj l)) []:=by
 refine aY [] func261 ?_;refine⟨fun h=>?_,fun h=>?_⟩
 .have h:((l.length:Nat):Int)=0:=gd h;have aw:l=[]:=List.length_eq_zero_iff.1 aD1;subst aw;exact bh
 .have h: ¬((l.length:Nat):Int)=0:=oj h
  cases hx:l.getLast? with
  |none=>rw[My hx] at h;exact as3 rfl h
  |some x=>
   have O:=O x hx;obtain⟨aw,aU⟩:=Bn hx;have e:(((l.length:Nat):Int) - 1).toNat=l.length - 1:=aD9
   have m:c8 (((l.length:Nat):Int) - 1):=aD9
   have m2:(0:Int)<=((l.length:Nat):Int) - 1:=aD9
   have m3:c8 (x.1+x.2.1):=aD9
   have rS:fd l (((l.length:Nat):Int) - 1).toNat=some x:=by rw[e];exact aU
   refine⟨m,m2,x,rS,m,m2,x,rS,m3,eU aD4,?_⟩;exact eN bt rfl (show x.1+x.2.1=fj l by unfold fj;rw[hx])
def DT (l:aI4):Int:=if gr 0 l=true then fj l else 0
def ah1 (l:aI4) (ak:l.length<=1000000000) (dw: ∀x,x∈l-> -4611686018427387904<=x.2.1/\x.2.1<=4611686018427387903):Fn prog 233 [bP h3 l] [] [] (ab (DT l)) []:=by
 have ax:=MA l ak dw;unfold DT
 cases J:gr 0 l with
 |false=>
  rw[J] at ax;refine aY [] func233 ?_;exact ar ax <| fm bh
 |true=>
  rw[J] at ax;have U:=MB l (fun x hx=>by have:=Bo J (Int.le_refl 0) hx;omega) aD1;refine aY [] func233 ?_;exact ar ax <| dE <| ar U bh
def tb (fr bJ:Int) (out:aI4) (x:dl):List dl:=jx out (min (x.1+x.2.1) (fr+bJ) - max x.1 fr) x.2.2
def xk (l:aI4) (fr bJ:Int):Bool:=gr 0 l&&(decide (1<=bJ)&&(decide (0<=fr)&&(decide (bJ<=fj l)&&decide (fr<=fj l - bJ))))
def qW (l:aI4) (fr bJ:Int):List dl:=if xk l fr bJ=true then l.foldl (tb fr bJ) [] else[]
def ah2 {l:aI4} {n k B:Int} (h: ∀x,l.getLast? =some x->0<=x.1/\0<=x.2.1/\x.1+x.2.1<=B) (cQ:0<=B) {C:Int} (ew:B+n<=C) (arI:B<=C): ∀x,(jx l n k).getLast? =some x->0<=x.1/\0<=x.2.1/\x.1+x.2.1<=C:=by
 intro x hx;unfold jx at hx
 split at hx
 .have:=h x hx;omega
 rename_i hn
 have mf:0<=fj l/\fj l<=B:=by
  unfold fj
  split
  .omega
  .rename_i y aC;have:=h y aC;omega
 split at hx
 .rename_i y aC;have arJ:=h y aC
  split at hx
  .obtain⟨aw,aU⟩:=Bn aC;rw[List.getLast?_eq_getElem?,ay0,ax8 aD1] at hx;injection hx with hx
   subst hx;show 0<=y.1/\0<=y.2.1+n/\y.1+(y.2.1+n)<=C;omega
  .rw[List.getLast?_append] at hx;simp at hx;subst hx;show 0<=fj l/\0<=n/\fj l+n<=C;omega
 .rw[List.getLast?_append] at hx;simp at hx;subst hx;show 0<=fj l/\0<=n/\fj l+n<=C;omega
def ah3 (l:aI4) (n k:Int):(jx l n k).length<=l.length+1:=by
 unfold jx
 split
 .omega
 split
 .split
  .rw[ay0];omega
  .rw[as4];exact as2 _
 .rw[as4];exact as2 _
abbrev ah4 (l:aI4) (fr bJ:Int) (i:Nat):aZ:=[(1,ab fr),(2,ab bJ),(7,eC 5002),(37,bP h3 l),(38,ab (l.length:Nat)),(39,ab (i:Nat))]
abbrev ah5 (l:aI4) (fr bJ:Int) (i:Nat):aZ:=[(1,ab fr),(2,ab bJ),(7,eC 1002),(37,bP h3 l),(38,ab (l.length:Nat)),(39,ab (i:Nat))]
abbrev ah6 (out:aI4):aA:=[(5002,.row 293 h3 out)]
abbrev T0 (out:aI4):aA:=[(1002,.row 293 h3 out)]
def r' (l:aI4) (fr bJ:Int) (i:Nat):List dl:=(l.take i).foldl (tb fr bJ) []
def T1 {l:aI4} {fr bJ:Int} {i:Nat} (h:i < l.length):r' l fr bJ (i+1)=jx (r' l fr bJ i) (min (l[i].1+l[i].2.1) (fr+bJ) - max l[i].1 fr) l[i].2.2:=by unfold r';rw[aB0,as0 h];show((l.take i)++[l[i]]).foldl _ _=_;rw[aC2];rfl
def T2 (l:aI4) (fr bJ:Int) (i:Nat):(r' l fr bJ i).length<=i:=by
 unfold r'
 have: ∀(m:aI4) (out:aI4),(m.foldl (tb fr bJ) out).length<=out.length+m.length:=by
  intro m
  induction m with
  |nil=>intro out;exact as2 _
  |cons x m bn=>
   intro out;have E:=bn (tb fr bJ out x);have G:=ah3 out (min (x.1+x.2.1) (fr+bJ) - max x.1 fr) x.2.2;show(m.foldl (tb fr bJ) (tb fr bJ out x)).length<=out.length+(m.length+1);have ah:(tb fr bJ out x).length<=out.length+1:=G;omega
 have h:=this (l.take i) [];have G:(l.take i).length<=i:=aE8
 have ah:([]:aI4).length=0:=rfl;omega
def T3 {l:aI4} {fr bJ:Int} (ax:gr 0 l=true) (vs:0<=fr) (ah7:0<=bJ): ∀i,i<=l.length-> ∀x,(r' l fr bJ i).getLast? =some x->0<=x.1/\0<=x.2.1/\x.1+x.2.1<=65536*(i:Int)
 |0,_,x,hx=>by cases hx
 |i+1,aE,x,hx=>by
  have ec:i < l.length:=aD9
  rw[T1 ec] at hx;have U:=Mz ax (Int.le_refl 0) _ (av2 ec);exact ah2 (T3 ax vs ah7 i aD1) aD1 aD1 aD1 x hx
def ah8 (l:aI4) (fr bJ:Int) (ak:l.length<=1000000000) (dw: ∀x,x∈l-> -4611686018427387904<=x.2.1/\x.2.1<=4611686018427387903) (h:xk l fr bJ=false):Fn prog 232 [bP h3 l,ab fr,ab bJ] [] [] (k0 .dV) []:=by
 have ax:=MA l ak dw;have U:gr 0 l=true->_:=fun J=>MB l (fun x hx=>by have:=Bo J (Int.le_refl 0) hx;omega) aD1
 have MC:gr 0 l=true->0<=fj l/\fj l<=65536:=by
  intro J;unfold fj
  split
  .omega
  .rename_i y aC;have:=Bo J (Int.le_refl 0) aC;omega
 unfold xk at h
 cases J:gr 0 l with
 |false=>
  rw[J] at ax;refine aY [] func232 ?_;exact ar ax <| fm bh
 |true=>
  rw[J] at ax h;have U:=U J;have MC:=MC J;generalize fj l=e at*;refine aY [] func232 ?_;refine ar ax <| dE ⟨fun E=>?_,fun E=>?_⟩
  .exact bh
  have E: ¬bJ < 1:=oj E;refine⟨fun G=>?_,fun G=>?_⟩
  .exact bh
  have G: ¬fr < 0:=oj G;refine ar U ⟨fun ah=>?_,fun ah=>?_⟩
  .exact bh
  have ah: ¬e < bJ:=oj ah;refine ar U ?_;have m1:c8 (e - bJ):=aD9
  refine⟨m1,fun aW=>?_,fun aW=>?_⟩
  .exact bh
  have aW: ¬e - bJ < fr:=oj aW;rw[at4 (show 1<=bJ by omega),at4 (show 0<=fr by omega),at4 (show bJ<=e by omega),at4 (show fr<=e - bJ by omega)] at h
  cases h
def ah9 (l:aI4) (fr bJ:Int) (ak:l.length<=1000000) (dw: ∀x,x∈l-> -4611686018427387904<=x.2.1/\x.2.1<=4611686018427387903) (h:xk l fr bJ=true):Fn prog 232 [bP h3 l,ab fr,ab bJ] [] [1002] (eC 1002) (T0 (qW l fr bJ)):=by
 have ax:=MA l aD1 dw
 have ah':qW l fr bJ=r' l fr bJ l.length:=by
  unfold qW r';rw[vj h,au3]
 rw[ah'];unfold xk at h;simp only[as1,av6] at h;obtain⟨J,E,G,ah,aW⟩:=h;rw[J] at ax;have U:=MB l (fun x hx=>by have:=Bo J (Int.le_refl 0) hx;omega) aD1
 have MC:0<=fj l/\fj l<=65536:=by
  unfold fj
  split
  .omega
  .rename_i y aC;have:=Bo J (Int.le_refl 0) aC;omega
 have DU:=T3 J G (show 0<=bJ by omega);have aia:=Mz J (Int.le_refl 0);have bX:=T2 l fr bJ;generalize fj l=e at*;have m1:c8 (e - bJ):=aD9
 have m2:c8 (fr+bJ):=aD9
 refine aY [] func232 ?_;refine ar ax <| dE ⟨fun h=>as3 (gd h) aD1,fun _=>⟨fun h=>as3 (gd h) aD1,fun _=>ar U ⟨fun h=>as3 (gd h) aD1,fun _=>ar U ⟨m1,fun h=>as3 (gd h) aD1,fun _=>d1 [] (X:=Nat) (fun i=>ah4 l fr bJ i) (fun i=>ah6 (r' l fr bJ i)) (fun i=>i<=l.length) (fun i=>l.length - i) 0 (at2 _) ?_ ?_⟩⟩⟩⟩
 .exact(ac.nil 7 5002 293 h3 rfl rfl).trans (ac.sub aD aD)
 intro i aE;have aE:i<=l.length:=aE;have DU:=DU i aE;have bX:=bX i;refine⟨fun J=>?_,fun J=>?_⟩
 .have J:decide ((i:Int) < ((l.length:Nat):Int))=true:=J;have ec:i < l.length:=aF4
  have aU:=j4 (n:=i) ec;have hx:=aia _ (av2 ec);have vG:=T1 (fr:=fr) (bJ:=bJ) ec;generalize l[i]=x at*;have c1:(0:Int)<=(i:Int):=aD9
  have cy:c8 (x.1+x.2.1):=aD9
  have c5:c8 (min (x.1+x.2.1) (fr+bJ) - max x.1 fr):=aD9
  have c':c8 ((i:Int)+1):=aD9
  have iA:min (x.1+x.2.1) (fr+bJ) - max x.1 fr<=4611686018427387903:=aD9
  have ha:=TW (r' l fr bJ i) (min (x.1+x.2.1) (fr+bJ) - max x.1 fr) x.2.2 (fun y aC=>by have:=DU y aC;omega) iA aD1;rw[<-vG] at ha;refine⟨c1,x,aU,rfl,cy,m2,eU aD4,c5,ar (Fn.aX [(1001,5002)] ha) ?_⟩;exact⟨c',i+1,ec,by show l.length - (i+1) < l.length - i;omega,ac.trans (cM (ah5 l fr bJ (i+1)) (T0 (r' l fr bJ (i+1)))) ((ac.aX 1002 5002 rfl).trans (ac.sub aD aD))⟩
 .have J:decide ((i:Int) < ((l.length:Nat):Int))=false:=J;have p9:i=l.length:=aF0
  subst p9;exact⟨_,_,_,ac.aX 5002 1002 rfl,rfl,rfl,aD,rfl⟩
def aib (l:aI4) (fr bJ:Int) (ak:l.length<=1000000) (dw: ∀x,x∈l-> -4611686018427387904<=x.2.1/\x.2.1<=4611686018427387903):Fn prog 232 [bP h3 l,ab fr,ab bJ] [] [] (bP h3 (qW l fr bJ)) []:=by
 cases h:xk l fr bJ with
 |false=>
  have e:qW l fr bJ=[]:=by unfold qW;rw[h];rfl
  rw[e];exact(ah8 l fr bJ aD1 dw h).res rfl
 |true=>exact Fn.eb (aT:=[]) (ah9 l fr bJ ak dw h) rfl rfl
def hG (l:aI4):List dl:=qW l 0 (DT l)
def aic (l:aI4) (ak:l.length<=1000000) (dw: ∀x,x∈l-> -4611686018427387904<=x.2.1/\x.2.1<=4611686018427387903):Fn prog 211 [bP h3 l] [] [] (bP h3 (hG l)) []:=by have E:=ah1 l aD1 dw;have G:=aib l 0 (DT l) ak dw;refine aY [] func211 ?_;exact ar E <| ar G bh
end
section
def T4 {ρ:Go.Shelf.Ren} (L:SlLaysW.n5 prog ρ) (gf:jU prog (ρ.f 5)=true) {aI aK:bB} (es:List (aa aI×aa aK)):
  Fn prog (ρ.f 5) [.c (.one (.mp 1001))] [(1001,.map aI aK es)] [2001] (.c (.one (.mp 2001))) [(1001,.map aI aK es),(2001,.map aI aK es)]:=by
 refine⟨gf,fun ρ F I w bZ a1 c4 bj eQ bX dI=>?_⟩
 match bZ,bX with
 | [v],_=>
  obtain rfl:v= .map (some (ρ 1001).bm):=dI 0 _ v rfl rfl;obtain⟨ue,bV,bY,O,ay,cQ⟩:=c4 1001 _ rfl;refine(AnyW.maps_Clone L _ _ _ w O).mono ?_;rintro e w' ⟨rfl,rfl⟩;have gV:Below w.heap.size w (w.alloc (.map (List.toArray bV) bY)):=(Below.refl _ _).alloc (as2 _) _;have a2:cp I w I (w.alloc (.map (List.toArray bV) bY)):=fun b f4=>⟨f4,gV.block b (a1 b f4)⟩
  have bv:=mr O;refine⟨_,dp ρ 2001 ⟨w.heap.size,none,0,0⟩,dp F 2001 (fun b=>b=w.heap.size),rfl,cZ.pP gV,fun c J=>du _ _ (fun e=>J (by simp[e])),I,a2,fun b f4=>⟨au2 (a1 b f4) gV.size,.inl f4⟩,?_,?_,?_,?_⟩
  .intro c ch J;rw[ci] at J
   split at J
   .rename_i d4;subst d4;injection J with J;subst J
    rw[du _ _ aD2,du _ _ aD2];exact⟨ue,bV,bY,(gV.block _ bv).trans O,ay.mono a2,cQ⟩
   .rw[ci] at J
    split at J
    .rename_i d4;subst d4;injection J with J;subst J
     rw[dh,dh];exact⟨fun b=>Iff.rfl,bV,bY,heap_alloc_new w _,ay.mono a2,cQ⟩
    .simp[aj] at J
  .intro c ch J b p';rw[ci] at J
   split at J
   .rename_i d4;subst d4;rw[du _ _ aD2] at p';have:=bj 1001 _ rfl b p';exact⟨au2 this.1 gV.size,this.2,.inl ⟨1001,_,rfl,p'⟩⟩
   .rw[ci] at J
    split at J
    .rename_i d4;subst d4;rw[dh] at p';subst p';exact⟨aD3,fun f4=>by have:=a1 _ f4;omega,.inr (as2 _)⟩
    .simp[aj] at J
  .intro c ca ch ch' b J cW a8 hd fk
   have key: ∀c ch,aj [(1001,ba.map aI aK es),(2001,ba.map aI aK es)] c=some ch->c=1001\/c=2001:=fun c ch J=>by
    rw[ci] at J
    split at J
    .rename_i h;exact .inl h.symm
    .rw[ci] at J
     split at J
     .rename_i h;exact .inr h.symm
     .simp[aj] at J
   rcases key c ch J with rfl |rfl <;>rcases key ca ch' cW with rfl |rfl
   .exact a8 rfl
   .rw[du _ _ aD2] at hd;rw[dh] at fk;have:=(bj 1001 _ rfl b hd).1;omega
   .rw[du _ _ aD2] at fk;rw[dh] at hd;have:=(bj 1001 _ rfl b fk).1;omega
   .exact a8 rfl
  .show Value.map (some w.heap.size)=Value.map (some (dp ρ 2001 _ 2001).bm);rw[dh]
end
section
def mL (s g:Int):Int:=(s+g - 1)/g
def y0 {s g:Int} (au:0<=s/\s<=4096) (aU:1<=g/\g<=64):0<=mL s g/\mL s g<=4160:=by unfold mL;have c5:(0:Int)<=(s+g - 1)/g:=aC7 aD1 aD1;have c':(s+g - 1)/g<=s+g - 1:=Int.ediv_le_self _ aD1;omega
def Hv (s g:Int) (es:aH1) (au:0<=s/\s<=4096) (aU:1<=g/\g<=64):Fn prog 97 [ap 1001] (iN s g es) [] (ab (mL s g)) (iN s g es):=by
 have lu:=y0 au aU;unfold mL at lu⊢;have d5:c8 (s+g):=aD9
 have lO:c8 (s+g - 1):=aD9
 have s5:c8 ((s+g - 1)/g):=aD9
 have n6:(0:Int)<=s+g - 1/\0 < g:=aD9
 refine aY [] func97 ?_;exact⟨d5,lO,n6,s5,eU aD4,bh⟩
def vH (es:aH1) (f:Int):Nat->List (aa ai×aa ai)
 |0=>es
 |n+1=>g0 (aI:=ai) (aK:=ai) (vH es f n) (f+(n:Int))
def aid (s g:Int) (es:aH1) (k:Int):Fn prog 209 [ab k,ap 3001] (r5 s g es) [] g4 (r5 s g (g0 (aI:=ai) (aK:=ai) es k)):=by refine aY [] func209 ?_;exact bh
abbrev aie (ef k:Int):aZ:=[(4,ab ef),(5,.c (.one (.c3 209 [.p 3001 0]))),(13,ab k)]
def aif (s g:Int) (es:aH1) (fr bJ gq ef:Int) (E:0<=bJ) (G:0<=fr) (ah:bJ<=s) (aW:fr<=s - bJ) (au:s<=4096) (bM:0<=gq) (fU:ef<=1000000):Fn prog 156 [ap 1001,ab fr,ab bJ,ab gq,ab ef,.c (.one (.c3 209 [.p 3001 0]))] (r5 s g es) [] (ab 0) (r5 s g (vH es gq (ef - gq).toNat)):=by
 have m1:c8 (s - bJ):=aD9
 refine aY [] func156 ?_;refine⟨fun h=>as3 (gd h) aD1,fun _=>⟨fun h=>as3 (gd h) aD1,fun _=>⟨fun h=>as3 (gd h) aD1,fun _=>⟨m1,fun h=>as3 (gd h) aD1,fun _=>d1 [6] (X:=Nat) (fun j=>aie ef (gq+(j:Int))) (fun j=>r5 s g (vH es gq j)) (fun j=>j<=(ef - gq).toNat) (fun j=>(ef - gq).toNat - j) 0 (at2 _) ?_ ?_⟩⟩⟩⟩
 .exact ac.sub ⟨rfl,rfl,(show gq=gq+((0:Nat):Int) by omega),trivial⟩ aD
 intro j V;have V:j<=(ef - gq).toNat:=V;refine⟨fun J=>?_,fun J=>?_⟩
 .have J:decide (gq+(j:Int) < ef)=true:=J;have J:=gd J;exact bz [] (bt) <| ar (aid s g (vH es gq j) (gq+(j:Int))) ⟨aD1,j+1,aD1,aD1,ac.sub ⟨rfl,rfl,(show gq+(j:Int)+1=gq+((j+1:Nat):Int) by omega),trivial⟩ aD⟩
 .have J:decide (gq+(j:Int) < ef)=false:=J;have J:=oj J;have dF:j=(ef - gq).toNat:=aD9
  subst dF;exact bh
def DV (s g:Int) (es:aH1):List (aa ai×aa ai):=vH es 0 (mL s g).toNat
abbrev aig (s ef:Int):aZ:=[(1,ab 0),(2,ab s),(3,ap 3),(7,ab ef)]
def aih (s g:Int) (es:aH1) (au:0<=s/\s<=4096) (aU:1<=g/\g<=64):Fn prog 172 [ap 1001,ab 0,ab s] (iN s g es) [] (ab 0) (iN s g (DV s g es)):=by
 have lu:=y0 au aU;have r7:=Hv s g es au aU;have c1:(0:Int)<=(0+s)/g:=aC7 aD1 aD1;have cy:(0+s)/g<=0+s:=Int.ediv_le_self _ aD1;have c0:c8 (0+s):=aD9
 have d5:(0:Int)<=0+s/\0 < g:=aD9
 have lO:c8 ((0+s)/g):=aD9
 have s5:c8 (0+g):=aD9
 have n5:c8 (0+g - 1):=aD9
 have n6:(0:Int)<=0+g - 1/\0 < g:=aD9
 have bK:(0+g - 1)/g=0:=Int.ediv_eq_zero_of_lt aD1 aD1;have n7:c8 ((0+g - 1)/g):=aD9
 have U:=aif s g es 0 s 0 (mL s g) au.1 (Int.le_refl 0) (Int.le_refl s) aD1 au.2 (Int.le_refl 0) aD1;have aQ:(mL s g - 0).toNat=(mL s g).toNat:=by rw[Int.sub_zero]
 rw[aQ] at U;unfold DV;generalize mL s g=ef at*;refine aY [4] func172 ?_;refine⟨rfl,c0,d5,lO,c0,?_⟩;exact⟨fun _=>ar r7 <| bz [] (cM (aig s ef) (DF s g es)) ⟨s5,n5,n6,n7,ar (Fn.arg (args:=[ap 1001,ab 0,ab s,ab ((0+g - 1)/g),ab ef,.c (.one (.c3 209 [.p 3001 0]))]) U ⟨rfl,rfl,rfl,bK,rfl,rfl,trivial⟩ |> Fn.aX [(3001,3)]) ⟨eU aD4,bh⟩⟩,fun h=>as3 (show decide (0+s=s)=false from h) (by rw[Int.zero_add];simp)⟩
def jy (g:Int) (es:aH1) (n:Nat):List Int:=(List.range n).map fun k=>if g6 g es k=true then 1 else 0
def aii (g:Int) (es:aH1) (n:Nat):jy g es (n+1)=jy g es n++[if g6 g es n=true then 1 else 0]:=by unfold jy;rw[List.range_succ,aw2];rfl
def Bp (g:Int) (es:aH1) (n:Nat):(jy g es n).length=n:=by unfold jy;rw[at8,List.length_range]
def pz (s g:Int) (es:aH1):List dl:=jj (jy g es s.toNat)
abbrev aij (s:Int) (j:Nat):aZ:=[(0,ap 1001),(3,eC 5002),(9,ab s),(10,ab (j:Nat))]
abbrev T5 (s:Int) (j:Nat):aZ:=[(0,ap 1001),(3,eC 19),(9,ab s),(10,ab (j:Nat))]
abbrev aik (s g:Int) (es:aH1) (x:aI2):aA:=iN s g es++[(5002,.row 3 ai x)]
abbrev T6 (s g:Int) (es:aH1) (x:aI2):aA:=iN s g es++[(19,.row 3 ai x)]
def ail (s g:Int) (es:aH1) (au:0<=s/\s<=4096) (aU:1<=g):Fn prog 174 [ap 1001] (iN s g es) [] (bP h3 (pz s g es)) (iN s g es):=by
 have aim:=ahZ (jy g es s.toNat) (by rw[Bp];omega);unfold pz;refine aY [] func174 ?_;refine d1 [] (X:=Nat) (fun j=>aij s j) (fun j=>aik s g es (jy g es j)) (fun j=>j<=s.toNat) (fun j=>s.toNat - j) 0 (at2 _) ?_ ?_
 .exact(ac.nil 3 5002 3 ai rfl rfl).trans (ac.sub aD aD)
 intro j V;have V:j<=s.toNat:=V;have sM:=aii g es j;have xf:=Bp g es j;refine⟨fun J=>?_,fun J=>?_⟩
 .have J:decide ((j:Int) < s)=true:=J;have eR:(j:Int) < s:=gd J;have aE:=S5 s g es j aU eR au.2;have m:List.length (α:=Int) (jy g es j)+1<=4294967296:=aD9
  have m2:c8 ((j:Int)+1):=aD9
  generalize jy g es j=ks at*;generalize g6 g es j=b at*;refine ar aE ⟨fun O=>?_,fun O=>?_⟩
  .have O:b=true:=O;subst O;have sM:jy g es (j+1)=ks++[1]:=sM;exact⟨m,rfl,m2,j+1,(by show j+1<=s.toNat;omega),(by show s.toNat - (j+1) < s.toNat - j;omega),ac.trans (ac.sub (K':=T5 s (j+1)) (B':=T6 s g es (jy g es (j+1))) aD ⟨rfl,rfl,as5 (fun aB:List Int=>some (ba.row 3 ai aB)) sM.symm,trivial⟩) <| (ac.aX 19 5002 rfl).trans (ac.sub aD aD)⟩
  .have O:b=false:=O;subst O;have sM:jy g es (j+1)=ks++[0]:=sM;exact⟨m,rfl,m2,j+1,(by show j+1<=s.toNat;omega),(by show s.toNat - (j+1) < s.toNat - j;omega),ac.trans (ac.sub (K':=T5 s (j+1)) (B':=T6 s g es (jy g es (j+1))) aD ⟨rfl,rfl,as5 (fun aB:List Int=>some (ba.row 3 ai aB)) sM.symm,trivial⟩) <| (ac.aX 19 5002 rfl).trans (ac.sub aD aD)⟩
 .have J:decide ((j:Int) < s)=false:=J;have dF:j=s.toNat:=aF0
  subst dF;exact ar (Fn.own (d:=5002) (e:=3) (u:=ai) (xs:=jy g es s.toNat) (args:=[eC 5002]) aim rfl) bh
def T7 (es:aH1):Fn prog 96 [.c (.one (.mp 1001))] [(1001,.map ai ai es)] [2001] (.c (.one (.mp 2001))) [(1001,.map ai ai es),(2001,.map ai ai es)]:=
 T4 agF aD4 es
def ain (s g:Int) (es:aH1):Fn prog 54 [ap 1001] (iN s g es) [2001,2002] (ap 2001) (iN s g es++[(2001,.cells [.d (.int .i64 s),.d (.int .i64 g),.mp 2002]),(2002,.map ai ai es)]):=by refine aY [] func54 ?_;exact ar (Fn.aX [(1001,1002),(2001,2002)] (T7 es)) ⟨rfl,eU aD4,_,_,_,ac.aX 17 2001 rfl,rfl,rfl,aD,rfl⟩
abbrev MD (l:aI4) (k:Int):aA:=[(2001,.cells [.d (.bG h3 l)]),(2002,.cells [.d (.int .i64 k)])]
abbrev ME (l:aI4) (k:Int) (o:bg):aA:=[(2001,.cells [.d (.bG h3 l)]),(2002,.cells [.d (.int .i64 k)]),(1001,.aH o)]
abbrev T8 (y:Nat) (m:aI4) (i:Nat):aZ:=[(0,Dr y),(2,ap 2002),(7,bP h3 m),(8,ab (m.length:Nat)),(9,ab (i:Nat))]
def aio (l:aI4) (k:Int):Fn prog 173 [bP h3 l,ab k] [] [2001,2002] (.c (.one (.c3 210 [.p 2001 0,.p 2002 0]))) (MD l k):=by refine aY [] func173 ?_;exact⟨rfl,rfl,_,_,_,(ac.aX 2 2001 rfl).trans (ac.aX 3 2002 rfl),rfl,rfl,aD,rfl⟩
def aip (y:Nat) (l:aI4) (k:Int) (ak:l.length<=1000000) (dw: ∀x,x∈l-> -4611686018427387904<=x.2.1/\x.2.1<=4611686018427387903) {X:Type} (gj:X->bg) (xs:Nat->X)
  (aC: ∀i (h:i < (hG l).length),(hG l)[i].2.2=k->yj prog y [ab (hG l)[i].1,ab (hG l)[i].2.1] [(1001,.aH (gj (xs i)))] (fun _:Unit=>qx true) (fun _=>[(1001,.aH (gj (xs (i+1))))]))
  (a8: ∀i (h:i < (hG l).length),¬(hG l)[i].2.2=k->xs (i+1)=xs i) (e5:(hG l).length<=1000000):
  Fn prog 210 [Dr y,ap 2001,ap 2002] (ME l k (gj (xs 0))) [] (.cn []) [(1001,.aH (gj (xs (hG l).length)))]:=by
 have hn:=aic l ak dw;generalize hG l=m at*;refine aY [3] func210 ?_;refine ar hn <| d1 [3] (X:=Nat) (fun i=>T8 y m i) (fun i=>ME l k (gj (xs i))) (fun i=>i<=m.length) (fun i=>m.length - i) 0 (at2 _) ?_ ?_
 .exact ac.sub aD aD
 intro i aE;have aE:i<=m.length:=aE;refine⟨fun J=>?_,fun J=>?_⟩
 .have J:decide ((i:Int) < ((m.length:Nat):Int))=true:=J;have ec:i < m.length:=aF4
  have aU:=j4 (n:=i) ec;have aC:=aC i ec;have a8:=a8 i ec;generalize m[i]=x at*;have c1:(0:Int)<=(i:Int):=aD9
  have cy:c8 ((i:Int)+1):=aD9
  refine⟨c1,x,aU,rfl,bw.le (cM ((5,ap 5)::T8 y m i) ((5,.cells (ahU x))::ME l k (gj (xs i)))) <| bw.iJ fa aD4 ⟨fun Z=>?_,fun Z=>?_⟩⟩
  .have Z:x.2.2=k:=gd Z;refine⟨Unit,_,_,_,aC Z,aD,fun _=>rfl,fun _=>?_⟩;exact⟨cy,i+1,ec,(by show m.length - (i+1) < m.length - i;omega),ac.sub aD aD⟩
  .have Z: ¬x.2.2=k:=oj Z;have a8:=a8 Z;exact⟨cy,i+1,ec,(by show m.length - (i+1) < m.length - i;omega),ac.sub aD ⟨rfl,rfl,as5 (fun aB=>some (ba.aH (gj aB))) a8.symm,trivial⟩⟩
 .have J:decide ((i:Int) < ((m.length:Nat):Int))=false:=J;have p9:i=m.length:=aF0
  subst p9;exact bh
def aiq {ks:aI2} (Z:ks.length<=65536):(jj ks).length<=65536/\ ∀x,x∈jj ks-> -4611686018427387904<=x.2.1/\x.2.1<=4611686018427387903:=by have h:=TZ ks;refine⟨by have:=h.len;omega,fun x hx=>?_⟩;have:=h.Ht x hx;omega
def air (l:aI4) (fr bJ:Int):(qW l fr bJ).length<=l.length:=by
 unfold qW
 split
 .have:=T2 l fr bJ l.length;unfold r' at this
  rwa[au3] at this
 .exact at2 _
def tc (s g:Int) (es:aH1) (x:dl):List (aa ai×aa ai):=if x.2.2=1 then la s g es x.1 x.2.1 else es
def nr (s g:Int) (es:aH1) (m:aI4) (i:Nat):List (aa ai×aa ai):=(m.take i).foldl (tc s g) es
def T9 (s g:Int) (es:aH1) {m:aI4} {i:Nat} (h:i < m.length):nr s g es m (i+1)=tc s g (nr s g es m i) m[i]:=by unfold nr;rw[aB0,as0 h];show((m.take i)++[m[i]]).foldl _ _=_;rw[aC2];rfl
def td (s g:Int) (es:aH1) (row:aI4):List (aa ai×aa ai):=nr s g es (hG row) (hG row).length
abbrev Hw (s g:Int) (es:aH1) (bF g2:Int) (de:aH1):aA:=[(1001,.cells (L1 s g)),(1002,.map ai ai es),(3001,.cells [.d (.int .i64 bF),.d (.int .i64 g2),.mp 3002]),(3002,.map ai ai de)]
abbrev T' (s g:Int) (es:aH1) (bF g2:Int) (de:aH1):aA:=[(1001,.cells (L1 s g)),(1002,.map ai ai es),(2,.cells [.ptr 1001 0]),(3001,.cells [.d (.int .i64 bF),.d (.int .i64 g2),.mp 3002]),(3002,.map ai ai de)]
def ais (s g:Int) (es:aH1) (bF g2:Int) (de:aH1) (au:0<=s/\s<=4096) (aU:1<=g/\g<=64) (gc:0<=bF/\bF<=4096) (tf:1<=g2/\g2<=64) (ait:bF=s):Fn prog 124 [ap 1001,ap 3001] (Hw s g es bF g2 de) [] (ab 0) (Hw s g (td s g es (pz bF g2 de)) bF g2 de):=by
 have gm:=ail bF g2 de gc tf.1;have dw:=aiq (ks:=jy g2 de bF.toNat) (by rw[Bp];omega);have dw:(pz bF g2 de).length<=65536/\ ∀x,x∈pz bF g2 de->_:=dw;have e5:(hG (pz bF g2 de)).length<=(pz bF g2 de).length:=air _ _ _;unfold td;generalize pz bF g2 de=rw at*;refine aY [] func124 ?_;refine⟨rfl,eU aD4,fun J=>as3 (show(!decide (bF=s))=true from J) (by simp[ait]),fun _=>ar (Fn.aX [(1001,3001),(1002,3002)] gm) <| ar (aio rw 1) <| bw.le (cM [(22,.c (.one (.c3 210 [.p 2001 0,.p 2002 0]))),(2,ap 2)] (MD rw 1++T' s g es bF g2 de)) <| bw.range fa [] (pl:=[23,24]) rfl aD4 aD4 aD4 aD4 [1001,1002,2,3001,3002] _ [(2,ap 2)] (MD rw 1) (fun e:List (aa ai×aa ai)=>T' s g e bF g2 de) 1001 es (nr s g es (hG rw) (hG rw).length) (fun e aF b9=> ∃(i:Nat) (h:i < (hG rw).length),(hG rw)[i].2.2=1/\e=nr s g es (hG rw) i/\aF=[ab (hG rw)[i].1,ab (hG rw)[i].2.1]/\b9=nr s g es (hG rw) (i+1)) rfl aE6 rfl rfl ?_ ?_ ?_⟩
 .rintro e aF b9 ⟨i,aE,Z,rfl,rfl,rfl⟩;have sM:=T9 s g es aE;have hb:=L4 s g (nr s g es (hG rw) i) (hG rw)[i].1 (hG rw)[i].2.1 au aU;have sM:nr s g es (hG rw) (i+1)=la s g (nr s g es (hG rw) i) (hG rw)[i].1 (hG rw)[i].2.1:=by rw[sM];unfold tc;rw[vj Z]
  generalize(hG rw)[i]=x at*;generalize nr s g es (hG rw) i=af at*;generalize nr s g es (hG rw) (i+1)=ao at*;subst sM;exact⟨rfl,rfl,rfl,ar hb ⟨rfl,ac.sub trivial aD⟩⟩
 .intro y gj rZ aC;exact aip y rw 1 aD1 dw.2 gj (fun i=>nr s g es (hG rw) i) (fun i aE Z=>aC _ _ _ ⟨i,aE,Z,rfl,rfl,rfl⟩) (fun i aE Z=>by rw[T9 s g es aE];unfold tc;rw[mu Z]) aD1
 .exact bh
end
section
section
variable {z R:Nat} {L:aH2}
def MF (h:cb z R L) {nm:aG9} {k:Nat} (H:eu L nm k) (aw: ∃d,dk L nm=some d): ∀j,j<=k-> ∃e,dk L (e1 L j nm)=some e
 |0,_=>aw
 |j+1,V=>by
  obtain⟨e,U⟩:=MF h H aw j aD1;have j8:=G8 H j aD1;rw[A7,U];simp only;generalize ay:k - j=m at j8
  cases j8 with
  |gone aU=>rw[U] at aU;cases aU
  |base _ _=>omega
  |step E G _=>
   rw[U] at E;injection E with E
   subst E;exact h.iM e (cY U).1 G
def MG (h:cb z R L) {nm:aG9} {k:Nat} (H:eu L nm k) (aw: ∃d,dk L nm=some d):e1 L (k+1) nm=[]:=by
 obtain⟨e,U⟩:=MF h H aw k (as2 _);have j8:=G8 H k (as2 _);rw[Nat.sub_self] at j8;rw[A7,U];simp only
 cases j8 with
 |gone aU=>rw[U] at aU;cases aU
 |base E G=>
  rw[U] at E;injection E with E
  subst E;exact G
def DW (h:cb z R L) {n:aG9} (hn: ∃e,dk L n=some e):n≠[]:=by obtain⟨e,U⟩:=hn;rw[<-(cY U).2];exact h.ne e (cY U).1
end
def Ua {z:Nat} {L L':aH2} {nm vI:aG9} {cP vJ N:Nat} (h: ∀c,c < N->fi z L nm cP c=fi z L' vI vJ c): ∀n,n<=N*2 ^z->j9 z L nm cP 0 n=j9 z L' vI vJ 0 n
 |0,_=>rfl
 |n+1,hn=>by
  have bn:=Ua h n aD1;have ae:0 < 2 ^z:=Nat.two_pow_pos z;have bv:n/2 ^z < N:=(aA4 ae).2 aD1;show j9 z L nm cP 0 n++jw z L nm cP (0+n)=j9 z L' vI vJ 0 n++jw z L' vI vJ (0+n);rw[bn,aw9];unfold jw;rw[h _ bv]
section
variable {z:Nat} {L:aH2} {c:Nat}
def MH: ∀(ns:aJ0) (i j:Nat),(gU z L c ns i).1=(gU z L c ns j).1
 | [],_,_=>rfl
 |n::ns,i,j=>by
  unfold gU
  cases dk L n with
  |none=>rfl
  |some d=>
   simp only
   split
   .rfl
   .exact MH ns _ _
def Hx {n:aG9} {ns:aJ0} {i:Nat} {d:aL} (H:dk L n=some d) (h:c < d.im.t.length/\(d.im.t.getD c ck).1≠0):gU z L c (n::ns) i=(ep d.im c none,i+1):=by unfold gU;rw[H];simp only;rw[vj h]
def Ub {n:aG9} {ns:aJ0} {i:Nat} {d:aL} (H:dk L n=some d) (h: ¬(c < d.im.t.length/\(d.im.t.getD c ck).1≠0)):gU z L c (n::ns) i=gU z L c ns (i+1):=by
 conv=>lhs;unfold gU
 rw[H];simp only;rw[mu h]
def Bq {nm:aG9} {cP:Nat} {d:aL} (H:dk L nm=some d) (h: ¬(c < d.im.t.length/\(d.im.t.getD c ck).1≠0)):fi z L nm cP c=hF z L nm cP c:=by unfold fi hF;rw[Ub H h]
def MI {nm:aG9} {cP:Nat} {d:aL} (H:dk L nm=some d):hF z L nm (cP+1) c=fi z L d.back cP c:=by
 unfold hF fi
 rw[show dc L (cP+1) nm=d.back::dc L cP d.back by
  conv=>lhs;unfold dc
  rw[H]]
 exact MH _ _ _
end
section
variable {z R:Nat} {L:aH2}
def cb.MJ (h:cb z R L) {nm:aG9} (aw: ∃d,dk L nm=some d): ∀n,n∈nm::dc L (cl L nm) nm-> ∃e,dk L n=some e:=fun n hn=>by
 rcases as8.1 hn with rfl |hn
 .exact aw
 .exact LS h.tonV (h.b7 nm).1 n hn
def MK (h:cb z R L) {nm:aG9} {d:aL} (H:dk L nm=some d) (O:d.back≠[]):cl L nm=cl L d.back+1:=by have E:=(h.b7 d.back);exact ta (.step H O E.1) aD1
end
def aiu {s:bL} (aq:gB s) {c:Nat} (J:c < s.t.length):(A1 s 0 (fh s)).t[c]? =some ck:=by
 have dd:=oD aq.z
 have hw:16*fh s=s.t.length*aG s:=by
  unfold fh aG;rw[aA2]
 have ae:0 < aG s:=by have:=uj aq.z;omega
 have ay:(c+1)*aG s<=s.t.length*aG s:=ax5 _ J;rw[az3] at ay;have Z:c < cF (aG s) 0 (fh s):=(uk dd).1 ⟨aD1,by rw[Nat.mul_zero,Nat.zero_div,aw9,aw9];omega⟩;have H:=(yE aq (a:=0) (l:=fh s) aD1 _ (as2 _)).done c Z
 have e:(bk (aG s) 0 (fh s) c).b - (bk (aG s) 0 (fh s) c).a=aG s:=by
  show min (16*(0+fh s) - (16*0/aG s+c)*aG s) (aG s) - (16*0 - (16*0/aG s+c)*aG s)=aG s;rw[Nat.mul_zero,Nat.zero_div,aw9,aw9,Nat.zero_sub];omega
 rw[vj e,Nat.mul_zero,Nat.zero_div,aw9] at H;exact H
def Uc {s:bL} (aq:gB s) {n:Nat} (hn:n<=fh s):d2 s 0 (n:Int)=0:=by unfold d2;rw[mu aD1,mu aD1]
def aiv {z R:Nat} {L:aH2} (h:cb z R L) {nm:aG9} {d:aL} (H:dk L nm=some d) {n:Nat} (hn:n<=fh d.im):r9 z L nm 0 (n:Int)=(j9 z L nm (cl L nm) 0 n,0):=by unfold r9;rw[H];simp only;rw[vj (Uc (h.gp d (cY H).1).1 hn)];rfl
def y1 {z R:Nat} {L:aH2} (h:cb z R L) {nm:aG9} {d:aL} (H:dk L nm=some d):fh d.im=d.im.t.length*2 ^z:=by unfold fh;rw[(h.gp d (cY H).1).2.1]
def i5 (L:aH2) (t:aG9) (L':aH2):Prop:=L'=L\/ ∃d im,dk L t=some d/\iL d.im im/\L'=dg L t im none
structure ML (L:aH2) (t n:aG9):Prop where
 ne:n≠t
 Ud:t∉dc L (cl L n) n
section
variable {z R:Nat} {L L':aH2} {t n:aG9}
def vK (h:cb z R L) (nm:aG9) (a:Int) (bs:aG9):i5 L nm (fq z L nm a bs).L:=by
 unfold fq
 cases aw:dk L nm with
 |none=>exact .inl rfl
 |some d=>
  simp only
  split
  .exact .inl rfl
  .rename_i E
   split
   .exact .inl rfl
   .rename_i G;have G:d2 d.im a ((bs.length/16:Nat):Int)=0:=ax7 G;have e:=(r8 G).1;rw[e] at G;exact .inr ⟨d,_,aw,afH (h.gp d (cY aw).1).1 aD1 G _,rfl⟩
def Br (h:cb z R L) (nm:aG9) (a l:Int):i5 L nm (i4 z L nm a l).L:=by
 unfold i4
 cases aw:dk L nm with
 |none=>exact .inl rfl
 |some d=>
  simp only
  split
  .exact .inl rfl
  .rename_i G;have G:d2 d.im a l=0:=ax7 G;obtain⟨af,ao⟩:=r8 G;rw[af,ao] at G;exact .inr ⟨d,_,aw,afL (h.gp d (cY aw).1).1 G _,rfl⟩
def tg (h:cb z R L) (nm:aG9) (a l:Int):i5 L nm (h1 L nm a l).L:=by
 unfold h1
 cases aw:dk L nm with
 |none=>exact .inl rfl
 |some d=>
  simp only
  split
  .exact .inl rfl
  .rename_i G;have G:d2 d.im a l=0:=ax7 G;obtain⟨af,ao⟩:=r8 G;rw[af,ao] at G;exact .inr ⟨d,_,aw,(yE (h.gp d (cY aw).1).1 (nn G) _ (as2 _)).eD,rfl⟩
def i5.cs (h:cb z R L) (ak:i5 L t L'):cb z R L':=by
 rcases ak with rfl |⟨d,im,aw,au,rfl⟩
 .exact h
 .exact h.dg aw au
def DX (h:cb z R L) (t:aG9) (im:bL) (cX:Option (Nat->Nat)) (n:aG9):cl (dg L t im cX) n=cl L n:=by have H:=h.b7 n;exact ta (Ml t im cX H.1) aD1
def i5.cl (h:cb z R L) (ak:i5 L t L') (n:aG9):Go.Proofs.YtkfbeijmgggkmaaGreat.cl L' n=Go.Proofs.YtkfbeijmgggkmaaGreat.cl L n:=by
 rcases ak with rfl |⟨d,im,aw,au,rfl⟩
 .rfl
 .exact DX h t im none n
def i5.off (h:cb z R L) (ak:i5 L t L') (o:ML L t n):ML L' t n/\dk L' n=dk L n/\ ∀c,fi z L' n (Go.Proofs.YtkfbeijmgggkmaaGreat.cl L' n) c=fi z L n (Go.Proofs.YtkfbeijmgggkmaaGreat.cl L n) c:=by
 have y2:=ak.cl h n;rcases ak with rfl |⟨d,im,aw,au,rfl⟩
 .exact⟨o,rfl,fun _=>rfl⟩
 .refine⟨⟨o.ne,by rw[y2,yV];exact o.Ud⟩,DO o.ne im none,fun c=>?_⟩;rw[y2];unfold fi;rw[yV,Hm];intro ay;rcases as8.1 ay with e |ay
  .exact o.ne e.symm
  .exact o.Ud ay
def MM (h:cb z R L) {d:aL} (H:dk L t=some d) (O:d.back≠[]):ML L t d.back:=by
 have E:=(h.b7 d.back).1;have G:eu L t (Go.Proofs.YtkfbeijmgggkmaaGreat.cl L d.back+1):=.step H O E;refine⟨fun e=>?_,fun ay=>?_⟩
 .rw[e] at E G;have:=Bh E G;omega
 .obtain⟨j,V,ah⟩:=Mm E t ay;have:=Bh ah G;omega
end
end
section
def eZ (x:aG9) (j:Nat):aG9:=(x.take (j*16+16)).drop (j*16)
def qX (x:aG9) (j i:Nat):(eZ x j)[i]? =if i < 16 then x[j*16+i]? else none:=by
 unfold eZ;rw[aA7,ax3]
 by_cases h:i < 16
 .rw[vj h,vj aD1]
 .rw[mu h,mu aD1]
def MN {X:aG9} {off n:Nat} {ys:aG9} (E:off+n<=X.length) (G:ys.length=n) (m:Nat):(laid X off n ys)[m]? =if m < off then X[m]? else if m < off+n then ys[m - off]? else X[m]? :=by
 unfold laid;have af:(X.take off).length=off:=aE8
 have ao:ys.take n=ys:=aw0 aD1;rw[ao]
 by_cases cD:m < off
 .rw[vj cD,aw1,au7 aD1,ax3,vj cD]
 .rw[mu cD]
  by_cases cv:m < off+n
  .rw[vj cv,aw1,au6 aD1,af,au7 aD1]
  .rw[mu cv,au6 (by rw[as4];omega),as4,af,G,aA7]
   congr 1
   omega
def aiw {X bs:aG9} {t W a l j pa vL DY:Nat} (qY:X.length=W) (O:bs.length=16*l) (V:j*16+16<=W) (af:pa=16*a - 16*t) (ao:vL=min (16*(a+l) - 16*t) W) (bo:DY=16*t+pa - 16*a) (ae:pa<=vL) (aQ:16*t < 16*(a+l)):
  eZ (laid X pa (vL - pa) ((bs.take (DY+vL - pa)).drop DY)) j=if a<=t+j/\t+j < a+l then eZ bs (t+j - a) else eZ X j:=by
 have bX:((bs.take (DY+vL - pa)).drop DY).length=vL - pa:=by
  rw[ax4,at3];omega
 refine aA3 fun i=>?_
 rw[qX,MN aD1 bX]
 by_cases aE:i < 16
 .rw[vj aE]
  by_cases c:a<=t+j/\t+j < a+l
  .rw[vj c,qX,vj aE,mu aD1,vj aD1,aA7,ax3,vj aD1]
   congr 1
   omega
  .rw[mu c,qX,vj aE]
   by_cases cv:j*16+i < pa
   .rw[vj cv]
   .rw[mu cv,mu aD1]
 .rw[mu aE]
  split
  .rw[qX,mu aE]
  .rw[qX,mu aE]
def Ue (n j:Nat) (h:j*16+16<=n):eZ (List.replicate n 0) j=List.replicate 16 0:=by
 unfold eZ;rw[List.take_replicate,List.drop_replicate]
 congr 1
 omega
def qa (z:Nat) (L:aH2) (nm:aG9) (cP s:Nat):jw z L nm cP s=eZ (fi z L nm cP (s/2 ^z)) (s % 2 ^z):=rfl
def Uf {z:Nat} {L L':aH2} {nm vI:aG9} {cP vJ a:Nat}: ∀n,(∀i,i < n->jw z L nm cP (a+i)=jw z L' vI vJ (a+i))->j9 z L nm cP a n=j9 z L' vI vJ a n
 |0,_=>rfl
 |n+1,h=>by
  show j9 z L nm cP a n++jw z L nm cP (a+n)=j9 z L' vI vJ a n++jw z L' vI vJ (a+n);rw[Uf n fun i aE=>h i aD1,h n (Nat.lt_succ_self n)]
section
variable {z R:Nat} {L:aH2} {nm:aG9} {d:aL}
def aix (h:cb z R L) (H:dk L nm=some d) (c:Nat):(hF z L nm (cl L nm) c).length=16*2 ^z:=LW h.tonV c _ _ fun n hn=>h.MJ ⟨d,H⟩ n (as6 _ hn)
def y3 (h:cb z R L) (H:dk L nm=some d):aG d.im=16*2 ^z:=by unfold aG;rw[(h.gp d (cY H).1).2.1]
def aiy {s:bL} {c:Nat} {y:aG9} (h:(s.t.getD c ck).1≠0):ep s c (some y)=ep s c none:=by
 unfold ep;rw[as7] at h
 cases e:s.t[c]? with
 |none=>rfl
 |some q=>
  rw[e] at h;simp only[az1] at h;simp only
  split
  .rfl
  .first |rfl |(rw[mu h])
def aiz {s:bL} {c:Nat} {y:aG9} (J:c < s.t.length) (h:(s.t.getD c ck).1=0) (aC:y.length=aG s):ep s c (some y)=y:=by unfold ep;rw[as7] at h;rw[as0 J] at h⊢;simp only[az1] at h;simp only;rw[mu (by rw[h];decide),vj h,vj aC]
def MO (h:cb z R L) (H:dk L nm=some d) {c:Nat} (J:c < d.im.t.length):fi z L nm (cl L nm) c=ep d.im c (some (hF z L nm (cl L nm) c)):=by
 by_cases Z:(d.im.t.getD c ck).1=0
 .rw[Bq H (fun bd=>bd.2 Z),aiz J Z (by rw[aix h H,y3 h H])]
 .rw[aiy Z];unfold fi;rw[Hx H ⟨J,Z⟩]
def Ug (h:cb z R L) (H:dk L nm=some d) {im:bL} (au:iL d.im im) {c:Nat} (J:c < d.im.t.length):fi z (dg L nm im none) nm (cl (dg L nm im none) nm) c=ep im c (some (hF z L nm (cl L nm) c)):=by
 have h':=h.dg H au;have dC:=xh H im none;rw[MO h' dC (by show c < im.t.length;rw[au.eY];exact J),DX h nm im none nm];show ep im c (some _)=_
 have e:hF z (dg L nm im none) nm (cl L nm) c=hF z L nm (cl L nm) c:=by
  unfold hF;rw[yV,Hm _ _ (Mn (h.b7 nm).1)]
 rw[e]
def Uh (h:cb z R L) (H:dk L nm=some d) {im:bL} (au:iL d.im im) {c:Nat} (J: ¬c < d.im.t.length):fi z (dg L nm im none) nm (cl (dg L nm im none) nm) c=fi z L nm (cl L nm) c:=by have dC:=xh H im none;rw[DX h nm im none nm,TC H (h.b7 nm).1,mu fun bd=>J (by rw[<-au.eY];exact bd.1),Bq H fun bd=>J bd.1]
def Ui (h:cb z R L) (H:dk L nm=some d) {c:Nat} (J:c < d.im.t.length) (y:Option aG9):(ep d.im c y).length=16*2 ^z:=by rw[vx (h.gp d (cY H).1).1 J,y3 h H]
end
def Bs {W a l:Nat} (dd:yy W) (ak:0 < l) {c:Nat}:(16*a/W<=c/\c < 16*a/W+cF W a l)↔(16*a < (c+1)*W/\c*W < 16*(a+l)):=by
 have ae:0 < W:=by rcases dd with h |h |h |h <;>omega
 have b':16*a/W<=c↔16*a < (c+1)*W:=by
  rw[<-Nat.lt_succ_iff,Nat.succ_eq_add_one,aA4 ae]
 constructor
 .rintro⟨E,G⟩;have:=(uk dd (a:=a) (l:=l) (k:=c - 16*a/W)).2 aD1;rw[show 16*a/W+(c - 16*a/W)=c by omega] at this;exact⟨b'.1 E,this.2⟩
 .rintro⟨E,G⟩;have E:=b'.2 E;refine⟨E,?_⟩;have:=(uk dd (a:=a) (l:=l) (k:=c - 16*a/W)).1 ⟨ak,by rw[show 16*a/W+(c - 16*a/W)=c by omega];exact G⟩;omega
def Uj {X bs:aG9} {b a l c:Nat} (O:b<=3) (qY:X.length=16*2 ^b) (JY:bs.length=16*l) (dw:16*a < (c+1)*(16*2 ^b)/\c*(16*2 ^b) < 16*(a+l)) {j:Nat} (V:j < 2 ^b):
  eZ (laid X (bk (16*2 ^b) a l (c - 16*a/(16*2 ^b))).a ((bk (16*2 ^b) a l (c - 16*a/(16*2 ^b))).b - (bk (16*2 ^b) a l (c - 16*a/(16*2 ^b))).a) (p3 bs (bk (16*2 ^b) a l (c - 16*a/(16*2 ^b))))) j=
   if a<=c*2 ^b+j/\c*2 ^b+j < a+l then eZ bs (c*2 ^b+j - a) else eZ X j:=by
 have ae:=js O;have dd:0 < 16*2 ^b:=aD9
 have J:16*a/(16*2 ^b)<=c:=by
  rw[<-Nat.lt_succ_iff,Nat.succ_eq_add_one,aA4 dd];exact dw.1
 have ow:16*a/(16*2 ^b)+(c - 16*a/(16*2 ^b))=c:=aD9
 have cm:c*(16*2 ^b)=16*(c*2 ^b):=aA2 ..;have arK:(c+1)*(16*2 ^b)=16*(c*2 ^b)+16*2 ^b:=by rw[az3,cm]
 unfold p3;refine aiw (t:=c*2 ^b) (W:=16*2 ^b) qY JY aD1 ?_ ?_ ?_ ?_ aD1
 .show 16*a - (16*a/(16*2 ^b)+(c - 16*a/(16*2 ^b)))*(16*2 ^b)=_;rw[ow,cm]
 .show min (16*(a+l) - (16*a/(16*2 ^b)+(c - 16*a/(16*2 ^b)))*(16*2 ^b)) (16*2 ^b)=_;rw[ow,cm]
 .show(16*a/(16*2 ^b)+(c - 16*a/(16*2 ^b)))*(16*2 ^b)+(16*a - (16*a/(16*2 ^b)+(c - 16*a/(16*2 ^b)))*(16*2 ^b)) - 16*a=16*(c*2 ^b)+(16*a - (16*a/(16*2 ^b)+(c - 16*a/(16*2 ^b)))*(16*2 ^b)) - 16*a;rw[ow,cm]
 .show 16*a - (16*a/(16*2 ^b)+(c - 16*a/(16*2 ^b)))*(16*2 ^b)<=min (16*(a+l) - (16*a/(16*2 ^b)+(c - 16*a/(16*2 ^b)))*(16*2 ^b)) (16*2 ^b);rw[ow,cm];omega
section
variable {z R:Nat} {L:aH2} {nm:aG9}
def Hy {a:Int} {bs:aG9} (U:(fq z L nm a bs).e=0): ∃d,dk L nm=some d/\bs.length=16*(bs.length/16)/\a=((a.toNat:Nat):Int)/\d2 d.im a.toNat ((bs.length/16:Nat):Int)=0/\ik d.im a.toNat (bs.length/16) (cF (aG d.im) a.toNat (bs.length/16))<=d6 d.im.l/\
  (fq z L nm a bs).L=dg L nm (jh d.im a.toNat (bs.length/16) bs (hF z L nm (cl L nm)) (cF (aG d.im) a.toNat (bs.length/16))) none:=by
 unfold fq at U⊢
 cases aw:dk L nm with
 |none=>rw[aw] at U;exact as3 U (show¬(140:Int)=0 by decide)
 |some d=>
  rw[aw] at U;simp only at U⊢
  split at U
  .exact as3 U (show¬(1:Int)=0 by decide)
  .rename_i E
   split at U
   .rename_i G;exact as3 U G
   .rename_i G;rw[mu E,mu G];have G:d2 d.im a ((bs.length/16:Nat):Int)=0:=ax7 G;have af:=(r8 G).1;have U:A0 d.im a.toNat (bs.length/16)=0:=U;unfold A0 at U
    split at U
    .rename_i ah;refine⟨d,rfl,aD1,af,by rw[<-af];exact G,ah,?_⟩;show dg L nm (w9 d.im a.toNat (bs.length/16) bs _) none=_;unfold w9;rw[vj ah]
    .exact as3 U aD2
def Hz (h:cb z R L) {a:Int} {bs:aG9} (U:(fq z L nm a bs).e=0) (s:Nat):
  jw z (fq z L nm a bs).L nm (cl (fq z L nm a bs).L nm) s=if a.toNat<=s/\s < a.toNat+bs.length/16 then eZ bs (s - a.toNat) else jw z L nm (cl L nm) s:=by
 obtain⟨d,H,gb,ha,dw,dD,cO⟩:=Hy U;rw[cO];obtain⟨aq,kF,_⟩:=h.gp d (cY H).1;have dK:=nn dw;have dd:=oD aq.z;have xl:=y3 h H;have ae:=js h.b3;generalize a.toNat=a0 at*;have a1:=(AZ aq gb dK (hF z L nm (cl L nm)) dD _ (as2 _)).1;have lz:0 < 2 ^z:=aD9
 have V:s % 2 ^z < 2 ^z:=Nat.mod_lt _ lz;have au:s/2 ^z*2 ^z+s % 2 ^z=s:=by rw[aB2];exact Nat.div_add_mod s _
 have DB:fh d.im=d.im.t.length*2 ^z:=y1 h H;rw[qa,qa]
 by_cases J:s/2 ^z < d.im.t.length
 .rw[Ug h H a1.eD J,MO h H J];have qY:=Ui h H J (some (hF z L nm (cl L nm) (s/2 ^z)))
  by_cases ax:16*a0/aG d.im<=s/2 ^z/\s/2 ^z < 16*a0/aG d.im+cF (aG d.im) a0 (bs.length/16)
  .have nN:0 < bs.length/16:=by
    refine Nat.pos_of_ne_zero fun e=>?_
    rw[e] at ax;have:cF (aG d.im) a0 0=0:=rfl;omega
   have lB:=(a1.done (s/2 ^z - 16*a0/aG d.im) aD1).2 (some (hF z L nm (cl L nm) (s/2 ^z)));rw[show 16*a0/aG d.im+(s/2 ^z - 16*a0/aG d.im)=s/2 ^z by omega] at lB;rw[lB];have ov:=(Bs dd nN).1 ax;rw[xl] at ov⊢;rw[Uj h.b3 qY gb ov V,au]
  .have vM:=(a1.jt (s/2 ^z) aD1).2 (some (hF z L nm (cl L nm) (s/2 ^z)));rw[vM,mu];rintro⟨g1,g2⟩;apply ax;refine(Bs dd aD1).2 ?_;rw[xl];have af:(s/2 ^z+1)*(16*2 ^z)=16*(s/2 ^z*2 ^z)+16*2 ^z:=by rw[az3,aA2]
   have ao:s/2 ^z*(16*2 ^z)=16*(s/2 ^z*2 ^z):=aA2 ..;rw[af,ao];omega
 .rw[Uh h H a1.eD J,mu];rintro⟨g1,g2⟩;apply J;rw[aA4 lz,<-DB];omega
end
def aiA {n off m:Nat} (h:off+m<=n):laid (List.replicate n 0) off m (un m)=List.replicate n (0:aJ8):=by
 refine aA3 fun i=>?_
 rw[MN (by rw[at5];exact h) at5];simp only[aB6]
 split
 .rfl
 .split
  .rw[vj aD1,vj aD1]
  .rfl
def aiB {X:aG9} {n:Nat} (h:X.length=n):laid X 0 n (un n)=List.replicate n (0:aJ8):=by unfold laid;rw[List.take_zero,aC6,aw0 (by rw[at5];exact as2 _),at5,List.drop_eq_nil_of_le aD1,av8]
def MP {s:bL} {c:Nat} (h:s.t[c]? =some um) (aB:Option aG9):ep s c aB=i2 s:=by unfold ep;rw[h];rfl
def Uk {s:bL} (aq:gB s) {a l:Nat} (dK:a+l<=fh s) (y:Nat->aG9) (dD:hp s a l (cF (aG s) a l)<=d6 s.l): ∀k,k<=cF (aG s) a l-> ∀j,j < k->
  ep (eI s a l y k) (16*a/aG s+j) (some (y (16*a/aG s+j)))=laid (ep s (16*a/aG s+j) (some (y (16*a/aG s+j)))) (bk (aG s) a l j).a ((bk (aG s) a l j).b - (bk (aG s) a l j).a) (un ((bk (aG s) a l j).b - (bk (aG s) a l j).a))
 |0,_,j,V=>as3 V aD1
 |k+1,Z,j,V=>by
  have h:=yF aq dK y dD k aD1;have eX:k < cF (aG s) a l:=aD9
  obtain⟨J,_⟩:=r0 aq dK eX;obtain⟨c1,cy,c5,c'⟩:=rX (oD aq.z) eX;have np:(bk (aG s) a l k).c=16*a/aG s+k:=rfl;have ee:(bk (aG s) a l k).c < (eI s a l y k).t.length:=aG4
  have l8:=h.jt (16*a/aG s+k) (.inr (as2 _));have af:eI s a l y (k+1)=vz (eI s a l y k) (bk (aG s) a l k) (y (bk (aG s) a l k).c):=rfl;unfold vz at af;rw[GW h.eD] at af;have bX:=vx aq (c:=16*a/aG s+k) J (some (y (16*a/aG s+k)));have arL:i2 (eI s a l y k)=i2 s:=by unfold i2;rw[h.eD.aG]
  have bn:j < k->_:=Uk aq dK y dD k aD1 j
  by_cases hw:k9 s (bk (aG s) a l k)=true
  .rw[vj hw] at af;have ae:=LC h.eD.ok (c:=(bk (aG s) a l k).c) ee (q:=um) (.inr rfl);rw[<-af] at ae
   by_cases j5:j < k
   .rw[(ae.jt (16*a/aG s+j) (by rw[np];omega)).2];exact bn j5
   .have:j=k:=aD9
    subst this;have hw:(bk (aG s) a l j).b - (bk (aG s) a l j).a=aG s:=gd hw;have bM:=MP ae.Du (some (y (16*a/aG s+j)));rw[np] at bM;rw[bM,hw,show(bk (aG s) a l j).a=0 by omega,aiB bX];unfold i2;rw[ae.eD.aG,h.eD.aG]
  .have hw:k9 s (bk (aG s) a l k)=false:=by simpa using hw
   rw[hw,mu aD2] at af
   by_cases G:((eI s a l y k).t.getD (bk (aG s) a l k).c ck).1=2
   .rw[vj G] at af;rw[af]
    by_cases j5:j < k
    .exact bn j5
    .have:j=k:=aD9
     subst this;rw[l8.2]
     have ah:(s.t.getD (16*a/aG s+j) ck).1=2:=by
      rw[as7] at G⊢;rw[show(eI s a l y j).t[(bk (aG s) a l j).c]? =s.t[16*a/aG s+j]? from l8.1] at G;exact G
     have aW:s.t[16*a/aG s+j]? =some um:=by
      rw[as7] at ah
      cases e:s.t[16*a/aG s+j]? with
      |none=>rw[e] at ah;exact as3 ah aD2
      |some q=>
       rw[e] at ah;have ah:q.1=2:=ah;rcases aq.slot _ _ e with g |g |⟨bd,g,_⟩
       .rw[g] at ah;exact as3 ah aD2
       .rw[g]
       .rw[g] at ah;exact as3 ah (show¬(1:Int)=2 by decide)
     rw[MP aW];unfold i2;rw[aiA aD1]
   .rw[mu G] at af;have ae:=LA (y:=y (bk (aG s) a l k).c) (bs:=un ((bk (aG s) a l k).b - (bk (aG s) a l k).a)) h.eD.ok ee c1 (by rw[h.eD.aG];exact cy) at5 (LF dD h eX hw G);rw[<-af] at ae
    by_cases j5:j < k
    .rw[(ae.jt (16*a/aG s+j) (by rw[np];omega)).2];exact bn j5
    .have:j=k:=aD9
     subst this;have:=ae.Du (some (y (16*a/aG s+j)));rw[np] at this;rw[this,l8.2]
section
variable {z R:Nat} {L:aH2} {nm:aG9}
def MQ {a l:Int} (U:(i4 z L nm a l).e=0): ∃d,dk L nm=some d/\a=((a.toNat:Nat):Int)/\l=((l.toNat:Nat):Int)/\d2 d.im a.toNat l.toNat=0/\hp d.im a.toNat l.toNat (cF (aG d.im) a.toNat l.toNat)<=d6 d.im.l/\
  (i4 z L nm a l).L=dg L nm (eI d.im a.toNat l.toNat (hF z L nm (cl L nm)) (cF (aG d.im) a.toNat l.toNat)) none:=by
 unfold i4 at U⊢
 cases aw:dk L nm with
 |none=>rw[aw] at U;exact as3 U (show¬(140:Int)=0 by decide)
 |some d=>
  rw[aw] at U;simp only at U⊢
  split at U
  .rename_i G;exact as3 U G
  .rename_i G;rw[mu G];have G:d2 d.im a l=0:=ax7 G;obtain⟨af,ao⟩:=r8 G;have U:A2 d.im a.toNat l.toNat=0:=U;unfold A2 at U
   split at U
   .rename_i ah;refine⟨d,rfl,af,ao,by rw[<-af,<-ao];exact G,ah,?_⟩;show dg L nm (xa d.im a.toNat l.toNat _) none=_;unfold xa;rw[vj ah]
   .exact as3 U aD2
def MR (h:cb z R L) {a l:Int} (U:(i4 z L nm a l).e=0) (s:Nat):
  jw z (i4 z L nm a l).L nm (cl (i4 z L nm a l).L nm) s=if a.toNat<=s/\s < a.toNat+l.toNat then List.replicate 16 0 else jw z L nm (cl L nm) s:=by
 obtain⟨d,H,ha,ak,dw,dD,cO⟩:=MQ U;rw[cO];obtain⟨aq,kF,_⟩:=h.gp d (cY H).1;have dK:=nn dw;have dd:=oD aq.z;have xl:=y3 h H;have ae:=js h.b3;generalize a.toNat=a0 at*;generalize l.toNat=pA at*;have a1:=yF aq dK (hF z L nm (cl L nm)) dD _ (as2 _);have aiC:=Uk aq dK (hF z L nm (cl L nm)) dD _ (as2 _);have lz:0 < 2 ^z:=aD9
 have V:s % 2 ^z < 2 ^z:=Nat.mod_lt _ lz;have au:s/2 ^z*2 ^z+s % 2 ^z=s:=by rw[aB2];exact Nat.div_add_mod s _
 have DB:fh d.im=d.im.t.length*2 ^z:=y1 h H;rw[qa,qa]
 by_cases J:s/2 ^z < d.im.t.length
 .rw[Ug h H a1.eD J,MO h H J];have qY:=Ui h H J (some (hF z L nm (cl L nm) (s/2 ^z)))
  by_cases ax:16*a0/aG d.im<=s/2 ^z/\s/2 ^z < 16*a0/aG d.im+cF (aG d.im) a0 pA
  .have nN:0 < pA:=by
    refine Nat.pos_of_ne_zero fun e=>?_
    rw[e] at ax;have:cF (aG d.im) a0 0=0:=rfl;omega
   have lB:=aiC (s/2 ^z - 16*a0/aG d.im) aD1;rw[show 16*a0/aG d.im+(s/2 ^z - 16*a0/aG d.im)=s/2 ^z by omega] at lB;rw[lB];have ov:=(Bs dd nN).1 ax;have DZ:s/2 ^z - 16*a0/aG d.im < cF (aG d.im) a0 pA:=aD9
   obtain⟨c1,cy,c5,c'⟩:=rX dd DZ
   have aiD:un ((bk (aG d.im) a0 pA (s/2 ^z - 16*a0/aG d.im)).b - (bk (aG d.im) a0 pA (s/2 ^z - 16*a0/aG d.im)).a)=p3 (List.replicate (16*pA) 0) (bk (aG d.im) a0 pA (s/2 ^z - 16*a0/aG d.im)):=by
    unfold p3;rw[List.take_replicate,List.drop_replicate]
    congr 1
    omega
   rw[aiD];rw[xl] at ov⊢;rw[Uj h.b3 qY at5 ov V,au]
   split
   .rw[Ue _ _ aD1]
   .rfl
  .have vM:=(a1.jt (s/2 ^z) aD1).2 (some (hF z L nm (cl L nm) (s/2 ^z)));rw[vM,mu];rintro⟨g1,g2⟩;apply ax;refine(Bs dd aD1).2 ?_;rw[xl];have af:(s/2 ^z+1)*(16*2 ^z)=16*(s/2 ^z*2 ^z)+16*2 ^z:=by rw[az3,aA2]
   have ao:s/2 ^z*(16*2 ^z)=16*(s/2 ^z*2 ^z):=aA2 ..;rw[af,ao];omega
 .rw[Uh h H a1.eD J,mu];rintro⟨g1,g2⟩;apply J;rw[aA4 lz,<-DB];omega
end
end
section
def HA: ∀(n:Nat) (l:aH0),l.Nodup->(∀x,x∈l->x < n)->l.length<=n
 |0,[],_,_=>as2 _
 |0,x::l,_,h=>as3 (h x (at6 ..)) (aB8 x)
 |n+1,l,hn,h=>by
  have E:(l.erase n).Nodup:=hn.erase n
  have G:=HA n (l.erase n) E fun x hx=>by
   have m6:=(hn.mem_erase_iff).1 hx;have:=h x m6.2;have:=m6.1;omega
  have ah:l.length<=(l.erase n).length+1:=by
   rw[List.length_erase]
   split <;>omega
  omega
def MS {α l7:Type} {f:α->l7}: ∀{l:List α},(∀x,x∈l-> ∀y,y∈l->f x=f y->x=y)->l.Nodup->(l.map f).Nodup
 | [],_,_=>ay9
 |a::l,aE,hn=>by
  obtain⟨c0,d5⟩:=av5.1 hn;rw[au1];refine av5.2 ⟨fun ay=>?_,MS (fun x hx y aC=>aE x (as6 _ hx) y (as6 _ aC)) d5⟩;obtain⟨y,aC,e⟩:=av0.1 ay;have:=aE y (as6 _ aC) a (at6 ..) e;exact c0 (this▸aC)
section
variable {z R:Nat} {L:aH2} {nm:aG9}
def D0 {a:Int} {bs:aG9} (h:cb z R L) (U:(fq z L nm a bs).e≠0):(fq z L nm a bs).L=L:=by
 unfold fq at U⊢
 cases aw:dk L nm with
 |none=>rfl
 |some d=>
  rw[aw] at U;simp only at U⊢
  split at U
  .rename_i E;rw[vj E]
  .rename_i E;rw[mu E]
   split at U
   .rename_i G;rw[vj G]
   .rename_i G;rw[mu G];have U:A0 d.im a.toNat (bs.length/16)≠0:=U;unfold A0 at U
    split at U
    .exact as3 rfl U
    .rename_i ah;show dg L nm (w9 d.im a.toNat (bs.length/16) bs _) none=L;unfold w9;rw[mu ah,Bl h.ji aw (h.vF d (cY aw).1)]
def HB {a l:Int} (h:cb z R L) (U:(i4 z L nm a l).e≠0):(i4 z L nm a l).L=L:=by
 unfold i4 at U⊢
 cases aw:dk L nm with
 |none=>rfl
 |some d=>
  rw[aw] at U;simp only at U⊢
  split at U
  .rename_i G;rw[vj G]
  .rename_i G;rw[mu G];have U:A2 d.im a.toNat l.toNat≠0:=U;unfold A2 at U
   split at U
   .exact as3 rfl U
   .rename_i ah;show dg L nm (xa d.im a.toNat l.toNat _) none=L;unfold xa;rw[mu ah,Bl h.ji aw (h.vF d (cY aw).1)]
def aiE (h:cb z R L) {a:Int} {bs:aG9} (U:(fq z L nm a bs).e=0): ∃d im,dk L nm=some d/\iL d.im im/\(fq z L nm a bs).L=dg L nm im none/\ ∀c,(im.t.getD c ck).1=if 0 < bs.length/16/\16*a.toNat < (c+1)*(16*2 ^z)/\c*(16*2 ^z) < 16*(a.toNat+bs.length/16) then 1 else(d.im.t.getD c ck).1:=by
 obtain⟨d,H,gb,ha,dw,dD,cO⟩:=Hy U;obtain⟨aq,kF,_⟩:=h.gp d (cY H).1;have dK:=nn dw;have dd:=oD aq.z;have xl:=y3 h H;generalize a.toNat=a0 at*;have a1:=(AZ aq gb dK (hF z L nm (cl L nm)) dD _ (as2 _)).1;refine⟨d,_,H,a1.eD,cO,fun c=>?_⟩
 by_cases nN:0 < bs.length/16
 .by_cases ax:16*a0/aG d.im<=c/\c < 16*a0/aG d.im+cF (aG d.im) a0 (bs.length/16)
  .have ov:=(Bs dd nN).1 ax;rw[xl] at ov;rw[vj ⟨nN,ov⟩];have lB:=(a1.done (c - 16*a0/aG d.im) aD1).1;rw[show 16*a0/aG d.im+(c - 16*a0/aG d.im)=c by omega] at lB;unfold hD vr at lB;simp only[Bool.not_eq_false',as1] at lB;exact gd lB.1
  .have ov:=fun x=>ax ((Bs dd nN).2 x)
   rw[xl] at ov;rw[mu fun x=>ov x.2];have vM:=(a1.jt c aD1).1;rw[as7,as7,vM]
 .have aN:bs.length/16=0:=aD9
  rw[mu fun x=>nN x.1,aN];rfl
end
def HC {L:aH2} {nm:aG9} {k:Nat} (h:eu L nm k) {i:Nat} (aE:i < k):(dc L k nm)[i]? =some (e1 L (i+1) nm):=by
 have E:=G9 h i aE;have G:=p6 h;rw[aB0] at E;have ah:=List.append_cancel_left E;rw[as0 aD1] at ah⊢;injection ah with ah
 rw[ah]
def Ul {α:Type} (p:α->Bool): ∀(l:List α) (j:Nat),j<=l.length->(∀i x,i < j->l[i]? =some x->p x=true)->(j=l.length\/ ∃x,l[j]? =some x/\p x=false)->l.takeWhile p=l.take j
 | [],j,V,_,_=>by
  have:j=0:=aF1
  subst this;rfl
 |a::l,0,_,_,h=>by
  rcases h with h |⟨x,hx,ae⟩
  .cases h
  .injection hx with hx
   subst hx;rw[List.takeWhile_cons,ae];rfl
 |a::l,j+1,V,E,G=>by
  have ha:=E 0 a (Nat.succ_pos j) rfl;rw[List.takeWhile_cons,ha];show a::l.takeWhile p=a::l.take j;rw[Ul p l j aF1 (fun i x aE hx=>E (i+1) x aD1 hx) (G.imp (fun e=>by simpa using e) id)]
def kQ (L:aH2) (top base:aG9):List aG9:=(dc L (cl L top) top).takeWhile fun n=> !decide (n=base)
def hS (L:aH2) (top base:aG9):Bool:=(dk L top).isSome&&(decide (base=[])||decide (base∈dc L (cl L top) top))
def hH (L:aH2) (n:aG9) (k:Nat):Bool:=match dk L n with
 |none=>true
 |some d=>decide (d.im.t.length<=k)||decide ((d.im.t.getD k ck).1=0)
def qb (L:aH2) (top base:aG9) (k:Nat):Bool:=hH L top k&&(kQ L top base).any fun n=> !hH L n k
def b6 (L:aH2) (nm:aG9):Nat:=match dk L nm with
 |none=>0
 |some d=>d.im.t.length
def oK (L:aH2) (top base:aG9):Option Nat:=if hS L top base=true then(List.range (b6 L top)).find? (qb L top base) else none
structure aiF where
 done:Bool
 e:Int
 L:List aL
 over:Bool
def h4 (z:Nat) (L:aH2) (top base:aG9) (over:Bool):aiF:=if(over|| !(dk L top).isSome)=true then⟨false,160,L,over⟩ else match oK L top base with
 |some k=>⟨false,(fq z L top ((k*2 ^z:Nat):Int) (fI z L top (k:Int))).e,(fq z L top ((k*2 ^z:Nat):Int) (fI z L top (k:Int))).L,over⟩
 |none=>⟨decide ((ip L top base).e=0),(ip L top base).e,(ip L top base).L,decide ((ip L top base).e=0)⟩
def lf (z:Nat) (L:aH2) (nm:aG9):aG9:=match dk L nm with
 |none=>[]
 |some d=>j9 z L nm (cl L nm) 0 (d.im.t.length*2 ^z)
def MT {z:Nat} {L L':aH2} {nm:aG9} (au:b6 L' nm=b6 L nm) (Z:(dk L' nm).isSome=(dk L nm).isSome) (h: ∀s,s < b6 L nm*2 ^z->jw z L' nm (cl L' nm) s=jw z L nm (cl L nm) s):lf z L' nm=lf z L nm:=by
 unfold lf;unfold b6 at au h
 cases e:dk L nm with
 |none=>
  rw[e] at Z
  cases b9:dk L' nm with
  |none=>rfl
  |some da=>rw[b9] at Z;cases Z
 |some d=>
  rw[e] at Z au h
  cases b9:dk L' nm with
  |none=>rw[b9] at Z;cases Z
  |some da=>
   rw[b9] at au;simp only at au h⊢;rw[au]
   exact Uf _ fun i aE=>by
    rw[aw9];exact h i aE
section
variable {z R:Nat} {L:aH2} {nm:aG9}
def MU (L:aH2) {t n:aG9} {d:aL} {im:bL} (H:dk L t=some d) (au:iL d.im im):b6 (dg L t im none) n=b6 L n/\(dk (dg L t im none) n).isSome=(dk L n).isSome:=by
 by_cases e:n=t
 .subst e;unfold b6;rw[xh H,H];exact⟨au.eY,rfl⟩
 .unfold b6;rw[DO e];exact⟨rfl,rfl⟩
def aiG (h:cb z R L) {d:aL} (H:dk L nm=some d) {k:Nat} (Z:k < d.im.t.length):lf z (fq z L nm ((k*2 ^z:Nat):Int) (fI z L nm (k:Int))).L nm=lf z L nm:=by
 have dW:fI z L nm (k:Int)=fi z L nm (cl L nm) k:=by
  unfold fI;rw[H];simp only;rw[vj ⟨aD1,aD1⟩];rfl
 rw[dW]
 by_cases U:(fq z L nm ((k*2 ^z:Nat):Int) (fi z L nm (cl L nm) k)).e=0
 .obtain⟨da,im,dC,au,cO,_⟩:=aiE h U;have hw:=Hz h U;have bX:(fi z L nm (cl L nm) k).length=16*2 ^z:=xe h.tonV H (h.b7 nm).1 k;have ae:=js h.b3;rw[bX,show 16*2 ^z/16=2 ^z by omega] at hw;rw[cO] at hw⊢;obtain⟨g1,g2⟩:=MU L (n:=nm) dC au;refine MT g1 g2 fun s _=>?_
  rw[hw s];show(if k*2 ^z<=s/\s < k*2 ^z+2 ^z then _ else _)=_
  split
  .rename_i c
   have ig:s/2 ^z=k:=by
    rw[Nat.div_eq_iff aD1];omega
   have gc:s % 2 ^z=s - k*2 ^z:=by
    have E:=Nat.div_add_mod s (2 ^z);rw[ig,aB2] at E;omega
   rw[qa,ig,gc];rfl
  .rfl
 .rw[D0 h U]
end
section
variable {z R:Nat} {L:aH2} {top base:aG9}
def Um (h:cb z R L) {d:aL} (H:dk L top=some d) (aE:hS L top base=true):dc L (cl L top) top=kQ L top base++(if base=[] then[] else base::dc L (cl L base) base)/\(base=[]\/ ∃e,dk L base=some e)/\cl L base+(kQ L top base).length+(if base=[] then 0 else 1)=cl L top:=by
 have key: ∀(k:Nat) (nm:aG9),eu L nm k->(∃d,dk L nm=some d)->(base=[]\/base∈dc L k nm)->dc L k nm=(dc L k nm).takeWhile (fun n=> !decide (n=base))++(if base=[] then[] else base::dc L (cl L base) base)/\(base=[]\/ ∃e,dk L base=some e):=by
  intro k nm ce
  induction ce with
  |gone aU=>rintro⟨d,H⟩;rw[aU] at H;cases H
  |base E G=>
   rintro _ O;rcases O with O |O
   .rw[vj O];exact⟨rfl,.inl O⟩
   .cases O
  | @step nm d k E G ah bn=>
   rintro _ O;have hE:=h.iM d (cY E).1 G
   have gb:dc L (k+1) nm=d.back::dc L k d.back:=by
    conv=>lhs;unfold dc
    rw[E]
   rw[gb] at O⊢;rw[List.takeWhile_cons]
   by_cases e:d.back=base
   .rw[at4 e];have D1: ¬base=[]:=by rw[<-e];exact G
    rw[mu D1];refine⟨?_,.inr (by rw[<-e];exact hE)⟩;show d.back::dc L k d.back=[]++_;rw[aC6,e];rw[e] at ah;rw[Bh ah (h.b7 base).1]
   .rw[av7 e];obtain⟨g1,g2⟩:=bn hE (O.imp id fun x=>(as8.1 x).resolve_left fun y=>e y.symm);refine⟨?_,g2⟩;show d.back::dc L k d.back=d.back::_++_;rw[List.cons_append,<-g1]
 unfold hS at aE;rw[as1,ay3] at aE;obtain⟨g1,g2⟩:=key _ top (h.b7 top).1 ⟨d,H⟩ (aE.2.imp gd gd);refine⟨g1,g2,?_⟩;have ak:=as5 List.length g1;rw[p6 (h.b7 top).1,as4] at ak;have Un:=p6 (h.b7 base).1;unfold kQ
 by_cases e:base=[]
 .rw[vj e] at ak⊢
  have:cl L base=0:=by
   have hn:dk L base=none:=by
    cases x:dk L base with
    |none=>rfl
    |some y=>exact as3 e (DW h ⟨y,x⟩)
   exact ta (.gone hn) aD1
  rw[List.length_nil] at ak;omega
 .rw[mu e] at ak⊢;rw[aw4] at ak;omega
def Uo (h:cb z R L) {d:aL} (H:dk L top=some d): ∀n,n∈kQ L top base->n≠top/\ ∃e,dk L n=some e:=fun n hn=>by
 have ay:n∈dc L (cl L top) top:=(List.takeWhile_sublist _).mem hn;refine⟨fun e=>?_,h.MJ ⟨d,H⟩ n (as6 _ ay)⟩;rw[e] at ay;exact Mn (h.b7 top).1 ay
def Up {c:Nat}: ∀(ns jv:aJ0) (i:Nat),(∀n,n∈ns->(∃e,dk L n=some e)/\hH L n c=true)->(gU z L c (ns++jv) i).1=(gU z L c jv 0).1
 | [],jv,i,_=>MH jv i 0
 |n::ns,jv,i,h=>by
  obtain⟨⟨e,U⟩,bd⟩:=h n (at6 ..);unfold hH at bd;rw[U] at bd;simp only[ay3] at bd;rw[List.cons_append,Ub U (fun x=>bd.elim (fun g=>by have:=gd g;omega) fun g=>x.2 (gd g))];exact Up ns jv (i+1) fun x hx=>h x (as6 _ hx)
def Uq (nm back:aG9) {c:Nat}: ∀(ns:aJ0) (i:Nat),gU z (eg L nm back) c ns i=gU z L c ns i
 | [],_=>rfl
 |n::ns,i=>by
  conv=>lhs;unfold gU
  conv=>rhs;unfold gU
  rw[mJ]
  cases dk L n with
  |none=>rfl
  |some d=>
   show(if c < (e2 nm back d).im.t.length/\((e2 nm back d).im.t.getD c ck).1≠0 then(ep (e2 nm back d).im c none,i+1) else _)=_;rw[DM,Uq nm back ns (i+1)]
def aiH (nm back:aG9): ∀{k:Nat} {n:aG9},eu L n k->n≠nm->nm∉dc L k n->dc (eg L nm back) k n=dc L k n:=by
 intro k n ce
 induction ce with
 |gone _=>intro _ _;rfl
 |base _ _=>intro _ _;rfl
 | @step n d k E G ah bn=>
  intro a8 O
  have gb:dc L (k+1) n=d.back::dc L k d.back:=by
   conv=>lhs;unfold dc
   rw[E]
  rw[gb] at O⊢;simp only[as8,not_or] at O
  conv=>lhs;unfold dc
  rw[mJ,E];show(e2 nm back d).back::dc (eg L nm back) k (e2 nm back d).back=_;rw[xj (by rw[(cY E).2];exact a8),bn (fun x=>O.1 x.symm) O.2]
def aiI (h:cb z R L) {d:aL} (H:dk L top=some d) (aE:hS L top base=true) (ax:(ip L top base).e=0) {c:Nat} (J:c < d.im.t.length) (hn:qb L top base c=false):fi z (ip L top base).L top (cl (ip L top base).L top) c=fi z L top (cl L top) c:=by
 have y4:=Mw h top base
 have cO:(ip L top base).L=eg L top base:=by
  unfold ip at ax⊢
  split at ax
  .exact as3 ax (show¬(140:Int)=0 by decide)
  .rename_i E
   split at ax
   .exact as3 ax (show¬(141:Int)=0 by decide)
   .rename_i G
    split at ax
    .rename_i ah;rw[mu E,mu G,vj ah]
    .exact as3 ax (show¬(142:Int)=0 by decide)
 have HD:top≠base/\top∉dc L (cl L base) base:=by
  unfold ip at ax
  split at ax
  .exact as3 ax (show¬(140:Int)=0 by decide)
  .split at ax
   .exact as3 ax (show¬(141:Int)=0 by decide)
   .rename_i G;exact⟨fun e=>G (.inl e),fun e=>G (.inr e)⟩
 rw[cO] at y4⊢;obtain⟨g1,g2,cK⟩:=Um h H aE;have dz:dk (eg L top base) top=some (e2 top base d):=by rw[mJ,H];rfl
 have jo:(e2 top base d).back=base:=Hr (cY H).2;have MV:(e2 top base d).im=d.im:=DM top base d
 by_cases bd:hH L top c=true
 .have D2:(d.im.t.getD c ck).1=0:=by
   unfold hH at bd;rw[H] at bd;simp only[ay3] at bd;exact bd.elim (fun g=>by have:=gd g;omega) gd
  rw[Bq dz (by rw[MV];exact fun x=>x.2 D2),Bq H fun x=>x.2 D2]
  have dK: ∀n,n∈kQ L top base->(∃e,dk L n=some e)/\hH L n c=true:=fun n ay=>by
   refine⟨(Uo h H n ay).2,?_⟩;unfold qb at hn;rw[bd,aB4] at hn;have:=List.any_eq_false.1 hn n ay;simpa using this
  have af:hF z L top (cl L top) c=(gU z L c (if base=[] then[] else base::dc L (cl L base) base) 0).1:=by
   unfold hF;rw[g1,Up _ _ _ dK]
  rw[af]
  by_cases O:base=[]
  .rw[vj O];have y2:cl (eg L top base) top=0:=ta (.base dz (by rw[jo];exact O)) aD1;rw[y2];rfl
  .rw[mu O];have y2:=MK y4 dz (by rw[jo];exact O);rw[jo] at y2;rw[y2,MI dz,jo];unfold fi;have Ur:=(h.b7 base).1;have CZ:cl (eg L top base) base=cl L base:=ta (Mv Ur (ay4 HD.1) HD.2) (by have:=(h.b7 base).2;omega);rw[CZ,aiH top base Ur (ay4 HD.1) HD.2,Uq]
 .have D2:c < d.im.t.length/\(d.im.t.getD c ck).1≠0:=by
   refine⟨J,fun e=>bd ?_⟩;unfold hH;rw[H];simp only[e];simp
  unfold fi;rw[Hx dz (by rw[MV];exact D2),Hx H D2,MV]
end
end
section
section
variable {z R:Nat} {L:aH2}
def i5.aR {L':aH2} {t:aG9} (ak:i5 L t L') (n:aG9):b6 L' n=b6 L n/\(dk L' n).isSome=(dk L n).isSome:=by
 rcases ak with rfl |⟨d,im,aw,au,rfl⟩
 .exact⟨rfl,rfl⟩
 .exact MU L aw au
end
end
section
section
variable {z R:Nat} {L:aH2} {nm t:aG9} {d:aL} {im:bL} {k:Nat}
def Us (H:dk L t=some d) (ak:im.t.length=d.im.t.length) (Z:ps d.im im k): ∀(ns:aJ0) (i:Nat),gU z (dg L t im none) k ns i=gU z L k ns i
 | [],_=>rfl
 |n::ns,i=>by
  have bn:=Us H ak Z ns (i+1);show(match dk (dg L t im none) n with |none=>([],0) |some d=>if k < d.im.t.length/\(d.im.t.getD k ck).1≠0 then(ep d.im k none,i+1) else gU z (dg L t im none) k ns (i+1))=match dk L n with |none=>([],0) |some d=>if k < d.im.t.length/\(d.im.t.getD k ck).1≠0 then(ep d.im k none,i+1) else gU z L k ns (i+1)
  by_cases e:n=t
  .subst e;rw[xh H,H,bn];have aU:im.t.getD k ck=d.im.t.getD k ck:=by rw[as7,as7,Z.1]
   simp only;rw[ak,aU,Z.2 none]
  .rw[DO e,bn]
def aiJ (h:cb z R L) (H:dk L t=some d) (ak:im.t.length=d.im.t.length) (Z:ps d.im im k) (n:aG9):fi z (dg L t im none) n (cl (dg L t im none) n) k=fi z L n (cl L n) k:=by rw[DX h];unfold fi;rw[yV,Us H ak Z]
def HE (z k:Nat) (a aO:Int):Prop:=((k*2 ^z+2 ^z:Nat):Int)<=a\/a<=((k*2 ^z:Nat):Int) - aO
end
end
section
def aiK {z R:Nat} {L:aH2} (ew:cb z R L) {nm:aG9} {bS:aL} (aw:dk L nm=some bS) (a n j:Nat) (V:j < n):eZ (j9 z L nm (cl L nm) a n) j=jw z L nm (cl L nm) (a+j):=by
 have bX:=fun m=>DA ew.tonV aw (ew.b7 nm).1 a m
 induction n with
 |zero=>omega
 |succ n bn=>
  have e:j9 z L nm (cl L nm) a (n+1)=j9 z L nm (cl L nm) a n++jw z L nm (cl L nm) (a+n):=rfl;rw[e];unfold eZ
  by_cases aiL:j < n
  .rw[List.take_append_of_le_length (by rw[bX];omega)];exact bn aiL
  .have:j=n:=aD9
   subst this;have E:=bX (j+1);rw[e,as4,bX] at E;rw[aw0 (by rw[as4,bX];omega),show j*16=(j9 z L nm (cl L nm) a j).length by rw[bX];omega,List.drop_left]
def Ut {x y:aG9} {n:Nat} (hx:x.length=16*n) (aC:y.length=16*n) (h: ∀j,j < n->eZ x j=eZ y j):x=y:=by
 apply aA3;intro i
 by_cases aE:i < 16*n
 .have E:=as5 (fun aB:aG9=>aB[i % 16]?) (h (i/16) aD1);simp only[qX] at E;rw[vj (Nat.mod_lt _ aD2),vj (Nat.mod_lt _ aD2),show i/16*16+i % 16=i by omega] at E;exact E
 .rw[aA5 aD1,aA5 aD1]
def aiM (X:aG9) (off n:Nat) {ys:aG9} (h:ys.length<=n):laid X off n ys=laid X off ys.length ys:=by unfold laid;rw[aw0 h,au3]
def aiN {X ys:aG9} {off:Nat} (h:off+ys.length<=X.length):(laid X off ys.length ys).length=X.length:=by unfold laid;rw[au3,as4,as4,at3,ax4];omega
def aiO {X ys:aG9} {f m:Nat} (qY:16*f+16*m<=X.length) (aC:ys.length=16*m) (j:Nat):eZ (laid X (16*f) ys.length ys) j=if f<=j/\j < f+m then eZ ys (j - f) else eZ X j:=by
 apply aA3;intro i;rw[qX];have ak:=fun aB=>MN (X:=X) (off:=16*f) (n:=ys.length) (ys:=ys) aD1 rfl aB
 by_cases aE:i < 16
 .rw[vj aE,ak]
  by_cases dw:f<=j/\j < f+m
  .rw[vj dw,mu aD1,vj aD1,qX,vj aE]
   congr 1
   omega
  .rw[mu dw,qX,vj aE]
   by_cases E:j*16+i < 16*f
   .rw[vj E]
   .rw[mu E,mu aD1]
 .rw[mu aE]
  split
  .rw[qX,mu aE]
  .rw[qX,mu aE]
end
section
def gu (l:aI4):List Int:=l.flatMap fun x=>List.replicate x.2.1.toNat x.2.2
def y5 (l m:aI4):gu (l++m)=gu l++gu m:=List.flatMap_append ..
def Bt (x:dl):gu [x]=List.replicate x.2.1.toNat x.2.2:=by show List.replicate x.2.1.toNat x.2.2++[]=_;rw[av8]
def Bu: ∀(p q:aI4) (a:Int),gr a p=true->gr a (p++q)=gr (a+((gu p).length:Int)) q
 | [],q,a,_=>by
  show gr a q=gr (a+(0:Int)) q;rw[Int.add_zero]
 |x::p,q,a,h=>by
  rw[yZ] at h
  split at h
  .rename_i J;show gr a (x::(p++q))=_;rw[yZ,vj J,Bu p q _ h]
   congr 1
   have e:(gu (x::p)).length=x.2.1.toNat+(gu p).length:=by
    show(List.replicate x.2.1.toNat x.2.2++gu p).length=_;rw[as4,at5]
   rw[e];omega
  .cases h
def D3 {p q:aI4} {a:Int} (h:gr a (p++q)=true):gr a p=true:=by
 induction p generalizing a with
 |nil=>rfl
 |cons x p bn=>
  have h:gr a (x::(p++q))=true:=h;rw[yZ] at h⊢
  split at h
  .rename_i J;rw[vj J];exact bn h
  .cases h
def D4 {a:Int} {x:dl}:gr a [x]=true↔x.1=a/\1<=x.2.1/\x.2.1<=65536 - a:=by
 rw[yZ]
 split
 .rename_i h;exact⟨fun _=>h,fun _=>rfl⟩
 .rename_i h;exact⟨(fun e=>by cases e),fun e=>as3 e h⟩
def Uu {α:Type} (l:List α):l=[]\/ ∃p x,l=p++[x]:=by
 rcases List.eq_nil_or_concat l with h |⟨p,x,h⟩
 .exact .inl h
 .exact .inr ⟨p,x,by rw[h,List.concat_eq_append]⟩
def MW {l:aI4} (h:gr 0 l=true):fj l=((gu l).length:Int):=by
 rcases Uu l with rfl |⟨p,x,rfl⟩
 .rfl
 .rw[TX];have E:=Bu p [x] 0 (D3 h);rw[h] at E;obtain⟨g1,g2,cK⟩:=D4.1 E.symm;rw[y5,as4,Bt,at5,g1];omega
def Uv {l:aI4} {n k:Int} (h:gr 0 l=true) (hn:1<=n) (O:((gu l).length:Int)+n<=65536):gr 0 (jx l n k)=true/\gu (jx l n k)=gu l++List.replicate n.toNat k:=by
 have m5:gr 0 (l++[(fj l,n,k)])=true/\gu (l++[(fj l,n,k)])=gu l++List.replicate n.toNat k:=by
  refine⟨?_,by rw[y5,Bt]⟩;rw[Bu l _ 0 h,MW h,Int.zero_add];exact D4.2 ⟨rfl,hn,by show n<=_;omega⟩
 unfold jx;rw[mu aD1];rcases Uu l with rfl |⟨p,x,rfl⟩
 .exact m5
 .rw[List.getLast?_concat];simp only
  split
  .rename_i Z;have E:=Bu p [x] 0 (D3 h);rw[h] at E;obtain⟨g1,g2,cK⟩:=D4.1 E.symm
   have e:(p++[x]).set ((p++[x]).length - 1) (x.1,x.2.1+n,x.2.2)=p++[(x.1,x.2.1+n,x.2.2)]:=by
    rw[as4,List.set_append_right _ _ aD3];simp
   rw[e];rw[y5,as4,Bt,at5] at O;refine⟨?_,?_⟩
   .rw[Bu p _ 0 (D3 h)];exact D4.2 ⟨g1,by show 1<=x.2.1+n;omega,by show x.2.1+n<=_;omega⟩
   .rw[y5,y5,Bt,Bt,aw1]
    congr 1
    show List.replicate (x.2.1+n).toNat x.2.2=_;rw[<-Z,List.replicate_append_replicate]
    congr 1
    omega
  .exact m5
def Uw: ∀(ks:aI2) (acc:aI4),gr 0 acc=true->(gu acc).length+ks.length<=65536->gr 0 (ks.foldl (fun l k=>jx l 1 k) acc)=true/\gu (ks.foldl (fun l k=>jx l 1 k) acc)=gu acc++ks
 | [],acc,h,_=>⟨h,(av8 _).symm⟩
 |k::ks,acc,h,O=>by
  rw[aw4] at O;obtain⟨g1,g2⟩:=Uv (n:=1) (k:=k) h aD2 aD1;have af:gu acc++List.replicate (1:Int).toNat k=gu acc++[k]:=rfl;rw[af] at g2;obtain⟨eW,e9⟩:=Uw ks (jx acc 1 k) g1 (by rw[g2,as4];simp;omega);exact⟨eW,by rw[List.foldl_cons,e9,g2,aw1];rfl⟩
def aiP {ks:aI2} (h:ks.length<=65536):gr 0 (jj ks)=true/\gu (jj ks)=ks:=by obtain⟨eW,e9⟩:=Uw ks [] rfl (by show 0+ks.length<=65536;omega);exact⟨eW,e9⟩
def Ux (N:Int): ∀(l acc:aI4),gr ((gu acc).length:Int) l=true->gr 0 acc=true->(((gu acc).length+(gu l).length:Nat):Int)<=N->N<=65536->gr 0 (l.foldl (tb 0 N) acc)=true/\gu (l.foldl (tb 0 N) acc)=gu acc++gu l
 | [],acc,_,h,_,_=>⟨h,(av8 _).symm⟩
 |x::l,acc,h,ha,O,e5=>by
  rw[yZ] at h
  split at h
  .rename_i J;obtain⟨cD,cv,hQ⟩:=J
   have e:(gu (x::l)).length=x.2.1.toNat+(gu l).length:=by
    show(List.replicate x.2.1.toNat x.2.2++gu l).length=_;rw[as4,at5]
   rw[e] at O;have ao:min (x.1+x.2.1) (0+N) - max x.1 0=x.2.1:=aD9
   have bo:tb 0 N acc x=jx acc x.2.1 x.2.2:=by unfold tb;rw[ao]
   obtain⟨g1,g2⟩:=Uv (n:=x.2.1) (k:=x.2.2) ha cv aD1;have cK:((gu (jx acc x.2.1 x.2.2)).length:Int)=((gu acc).length:Int)+x.2.1:=by rw[g2,as4,at5];omega
   rw[List.foldl_cons,bo];obtain⟨eW,e9⟩:=Ux N l (jx acc x.2.1 x.2.2) (by rw[cK];exact h) g1 aD1 e5;refine⟨eW,?_⟩;rw[e9,g2,aw1];rfl
  .cases h
def aiQ {l:aI4} (h:gr 0 l=true) (E:1<=fj l) (G:fj l<=65536):gr 0 (qW l 0 (fj l))=true/\gu (qW l 0 (fj l))=gu l:=by
 have a2:=MW h
 have bx:xk l 0 (fj l)=true:=by
  unfold xk;rw[h,at4 E,at4 (Int.le_refl (fj l)),at4 (show(0:Int)<=fj l - fj l by omega)];rfl
 unfold qW;rw[vj bx];obtain⟨eW,e9⟩:=Ux (fj l) l [] h rfl (by rw[a2];show(((0:Nat)+(gu l).length:Nat):Int)<=_;omega) G;exact⟨eW,e9⟩
def aiR {l:aI4} (h:gr 0 l=true) {i:Nat} (aE:i < l.length):(l[i]).1=((gu (l.take i)).length:Int)/\1<=(l[i]).2.1/\gu (l.take (i+1))=gu (l.take i)++List.replicate (l[i]).2.1.toNat (l[i]).2.2:=by
 have e:l.take (i+1)=l.take i++[l[i]]:=by
  rw[aB0,as0 aE];rfl
 have G:gr 0 (l.take i++[l[i]]++l.drop (i+1))=true:=by
  rw[<-e,List.take_append_drop];exact h
 have ah:=D3 G;rw[Bu _ _ 0 (D3 ah),Int.zero_add] at ah;obtain⟨g1,g2,_⟩:=D4.1 ah;exact⟨g1,g2,by rw[e,y5,Bt]⟩
def aiS (l:aI4) (i:Nat):(gu (l.take i)).length<=(gu l).length:=by
 conv=>rhs;rw[<-List.take_append_drop i l,y5,as4]
 omega
def Bv (es:aH1) (k:Int):Option Int:=b0 (aI:=ai) (aK:=ai) es k
def aiT (es:aH1) (k j:Int):Bv (dx (aI:=ai) (aK:=ai) es k (1:Int)) j=if j=k then some 1 else Bv es j:=by
 have h:=yv (aI:=ai) (aK:=ai) qK k (1:Int) es
 by_cases e:j=k
 .rw[vj e,e];exact h.1
 .rw[mu e];exact h.2 j e
def Uy (es:aH1) (f k:Int): ∀n:Nat,Bv (qS es f n) k=if f<=k/\k < f+(n:Int) then some 1 else Bv es k
 |0=>by
  rw[mu aD1];rfl
 |n+1=>by
  have bn:=Uy es f k n;show Bv (dx (aI:=ai) (aK:=ai) (qS es f n) (f+(n:Int)) (1:Int)) k=_;rw[aiT,bn]
  by_cases e:k=f+(n:Int)
  .rw[vj e,vj aD1]
  .rw[mu e]
   by_cases G:f<=k/\k < f+n
   .rw[vj G,vj aD1]
   .rw[mu G,mu aD1]
def aiU (g:Int) (es:aH1) (k:Nat):g6 g es k=yN ((Bv es ((k:Int)/g)).getD 0):=rfl
def MX {s g:Int} (aU:1<=g) (es:aH1) (fr bJ:Int) (k:Nat) (h:g6 g (la s g es fr bJ) k=false):g6 g es k=false/\(qT s fr bJ-> ¬(fr<=(k:Int)/\(k:Int) < fr+bJ)):=by
 unfold la at h
 split at h
 .rename_i az;rw[aiU] at h⊢;rw[Uy] at h
  by_cases J:fr/g<=(k:Int)/g/\(k:Int)/g < fr/g+((((if bJ=0 then 0 else(fr+bJ+g - 1)/g) - fr/g).toNat:Nat):Int)
  .rw[vj J] at h;exact as3 (show yN 1=false from h) aD2
  .rw[mu J] at h;refine⟨h,fun _ dw=>J ?_⟩;obtain⟨k0,v2,v3,v4⟩:=az;have ak:bJ≠0:=aD9
   rw[mu ak];have c1:fr/g<=(k:Int)/g:=aC9 aD1 dw.1
   have cy:(k:Int)/g+1<=(fr+bJ+g - 1)/g:=by
    have:((k:Int)+g)/g<=(fr+bJ+g - 1)/g:=aC9 aD1 aD1
    rwa[Int.add_ediv_of_dvd_right (Int.dvd_refl g),Int.ediv_self aD1] at this
   omega
 .rename_i az;exact⟨h,fun G=>as3 G az⟩
section
variable {z R:Nat} {L:aH2} {nm:aG9}
def aiV (h:cb z R L) {a l:Int} {s:Nat} (az: ∀d,dk L nm=some d->d2 d.im a l=0-> ¬(a<=(s:Int)/\(s:Int) < a+l)):jw z (h1 L nm a l).L nm (cl (h1 L nm a l).L nm) s=jw z L nm (cl L nm) s:=by
 unfold h1
 cases H:dk L nm with
 |none=>rfl
 |some d=>
  simp only
  split
  .rfl
  .rename_i dw;have dw:d2 d.im a l=0:=ax7 dw;have az:=az d H dw;obtain⟨ha,ak⟩:=r8 dw;rw[ha,ak] at dw az;obtain⟨aq,kF,_⟩:=h.gp d (cY H).1;generalize a.toNat=a0 at*;generalize l.toNat=pA at*;have a1:=yE aq (nn dw) _ (as2 _);rw[qa,qa]
   congr 1
   refine aiJ h H a1.eD.eY ?_ nm;have dd:=y3 h H;have ae:0 < 2 ^z:=Nat.two_pow_pos z
   by_cases aiW:s/2 ^z < 16*a0/aG d.im\/16*a0/aG d.im+cF (aG d.im) a0 pA<=s/2 ^z
   .exact a1.jt _ aiW
   .obtain⟨j,V,J⟩: ∃j,j < cF (aG d.im) a0 pA/\s/2 ^z=16*a0/aG d.im+j:=⟨s/2 ^z - 16*a0/aG d.im,aD1,aD1⟩;have lB:=a1.done j V;rw[<-J] at lB
    split at lB
    .rename_i wO;exfalso;have af:(bk (aG d.im) a0 pA j).a=16*a0 - (16*a0/aG d.im+j)*aG d.im:=rfl;have ao:(bk (aG d.im) a0 pA j).b=min (16*(a0+pA) - (16*a0/aG d.im+j)*aG d.im) (aG d.im):=rfl;rw[af,ao,<-J] at wO;have bo:s/2 ^z*aG d.im=16*(s/2 ^z*2 ^z):=by rw[dd,aA2]
     rw[bo,dd] at wO;have c7:=Nat.div_add_mod s (2 ^z);have fY:=Nat.mod_lt s ae;rw[aB2] at c7;generalize s/2 ^z*2 ^z=q at*;generalize s % 2 ^z=r at*;generalize 2 ^z=P at*;exact az aD1
    .exact lB
end
end
section
section
variable {P:aH6} {ids:aH0} {K:aZ} {B:aA} {o:Oper}
abbrev D5 (T b:Nat):aS:=.c (.one (.bN (.iface T (.pointer (some ⟨b,0,none⟩)))))
abbrev Uz:aS:=.c (.one (.bN .nilIface))
def aiX {T e f:Nat} {name:String} {di:aI9} {m:Method} {p:aI3} {w:aH5} {fuel:Nat} (aE:P.info? T=some di) (ay:di.methods.find? (·.name == name)=some m) (ae:m.path= #[]) (jF:m.func=some (f,true)) (a6:P.underlying T=some (.pointer e)):
  (Go.method (fuel+1) T p name).run P w= .ok (f,p) w:=by
 unfold Go.method;simp[typeInfo,aE,ay,ae,jF,Go.follow,Go.receiverAt,underlying,a6,Place.get,go_sem]
def HF {x:aH8} {T e b:Nat} (ag:o.op= .makeInterface T x) (a6:P.underlying T=some (.pointer e)) (hx:a7 K x= .c (.one (.d (.aM (some b))))) (N:Nat):bD P N ids o K B (D5 T b) ⟨[],[],[]⟩:=by
 have m1:x∈o.op.operands:=aD8
 refine bD.val fun K' B' g1 g2 C ρ F a w al av=>?_
 have af:a.eval x= .pointer (some ⟨b,0,none⟩):=av.ev ((g1 x m1).trans hx);refine⟨.iface T (.pointer (some ⟨b,0,none⟩)),?_,rfl⟩;simp only[execOp,ag,af];simp[Instr.makeInterface,underlying,a6,go_sem]
def UA {T:Nat} {jv:Array (String×TypeId)} {v:aI3} {w:aH5} (a6:P.underlying T=some (.interface jv)) (bB:Nat) (d:Nat):(Op.equalIn (d+1) T (.iface bB v) .nilIface).run P w= .ok false w:=by unfold Op.equalIn;simp[underlying,a6,go_sem]
def UB {T:Nat} {jv:Array (String×TypeId)} {w:aH5} (a6:P.underlying T=some (.interface jv)) (d:Nat):(Op.equalIn (d+1) T .nilIface .nilIface).run P w= .ok true w:=by unfold Op.equalIn;simp[underlying,a6,go_sem]
def qc {x:aH8} {T fF bB b:Nat} {jv:Array (String×TypeId)} (ag:o.op= .binOp .eql T x (.const .nilIface) fF) (a6:P.underlying T=some (.interface jv)) (hx:a7 K x=D5 bB b) (N:Nat):bD P N ids o K B (qx false) ⟨[],[],[]⟩:=by
 have m1:x∈o.op.operands:=aD8
 refine bD.val fun K' B' g1 g2 C ρ F a w al av=>?_
 have af:a.eval x= .iface bB (.pointer (some ⟨b,0,none⟩)):=av.ev ((g1 x m1).trans hx);refine⟨.bool false,?_,rfl⟩;simp only[execOp,ag,af];have ao:(Op.equal T (.iface bB (.pointer (some ⟨b,0,none⟩))) .nilIface).run P w= .ok false w:=UA a6 bB 9999;simp[eqGuard,binOp,ao,Act.eval,go_sem]
def HG {x:aH8} {T fF bB b:Nat} {jv:Array (String×TypeId)} (ag:o.op= .binOp .neq T x (.const .nilIface) fF) (a6:P.underlying T=some (.interface jv)) (hx:a7 K x=D5 bB b) (N:Nat):bD P N ids o K B (qx true) ⟨[],[],[]⟩:=by
 have m1:x∈o.op.operands:=aD8
 refine bD.val fun K' B' g1 g2 C ρ F a w al av=>?_
 have af:a.eval x= .iface bB (.pointer (some ⟨b,0,none⟩)):=av.ev ((g1 x m1).trans hx);refine⟨.bool true,?_,rfl⟩;simp only[execOp,ag,af];have ao:(Op.equal T (.iface bB (.pointer (some ⟨b,0,none⟩))) .nilIface).run P w= .ok false w:=UA a6 bB 9999;simp[eqGuard,binOp,ao,Act.eval,go_sem]
def UC {x:aH8} {T fF:Nat} {jv:Array (String×TypeId)} (ag:o.op= .binOp .eql T x (.const .nilIface) fF) (a6:P.underlying T=some (.interface jv)) (hx:a7 K x=Uz) (N:Nat):bD P N ids o K B (qx true) ⟨[],[],[]⟩:=by
 have m1:x∈o.op.operands:=aD8
 refine bD.val fun K' B' g1 g2 C ρ F a w al av=>?_
 have af:a.eval x= .nilIface:=av.ev ((g1 x m1).trans hx);refine⟨.bool true,?_,rfl⟩;simp only[execOp,ag,af];have ao:(Op.equal T .nilIface .nilIface).run P w= .ok true w:=UB a6 9999;simp[eqGuard,binOp,ao,Act.eval,go_sem]
def qZ {x:aH8} {T fF:Nat} {jv:Array (String×TypeId)} (ag:o.op= .binOp .neq T x (.const .nilIface) fF) (a6:P.underlying T=some (.interface jv)) (hx:a7 K x=Uz) (N:Nat):bD P N ids o K B (qx false) ⟨[],[],[]⟩:=by
 have m1:x∈o.op.operands:=aD8
 refine bD.val fun K' B' g1 g2 C ρ F a w al av=>?_
 have af:a.eval x= .nilIface:=av.ev ((g1 x m1).trans hx);refine⟨.bool false,?_,rfl⟩;simp only[execOp,ag,af];have ao:(Op.equal T .nilIface .nilIface).run P w= .ok true w:=UB a6 9999;simp[eqGuard,binOp,ao,Act.eval,go_sem]
def aiY {ev:Operand->Value} {f:aI5} {c:Call} {x:aH8} {xs:aJ4} {p:aI3} {w:aH5} {T e:Nat} {name:String} {di:aI9} {m:Method} {fuel:Nat} (hf:jU P f=true) (ag:o.op= .call c) (E:c.callee= .invoke x name) (G:c.args.toList=xs) (u6:ev x= .iface T p)
  (hn:P.types.size+Made.depth=fuel+1) (aE:P.info? T=some di) (ay:di.methods.find? (·.name == name)=some m) (ae:m.path= #[]) (jF:m.func=some (f,true)) (a6:P.underlying T=some (.pointer e)):(execOp ev o).run P w= .ok (.enter f (p::xs.map ev).toArray) w:=by
 have fM:c.args=xs.toArray:=by rw[<-G]
 have aiZ:=aiX (w:=w) (p:=p) (fuel:=fuel) aE ay ae jF a6;obtain⟨sO,args,cx⟩:=c;simp only at E fM;subst E fM;unfold jU at hf
 split at hf
 .rename_i fn ai0;simp only[au9,ax0,beq_eq_false_iff_ne] at hf;have G: ¬fn.body=none:=fun e=>by rw[e] at hf;simp at hf
  have ai1:(Go.method (P.types.size+100) T p name).run P w= .ok (f,p) w:=by rw[show P.types.size+100=fuel+1 from hn];exact aiZ
  simp[execOp,ag,resolve,invoke,u6,callMethod,callFunc,go_sem,ai0,ai1];rw[mu hf.1,mu G,aw0 (by rw[at8];exact as2 _)]
 .cases hf
def ai2 {f:aI5} {c:Call} {x:aH8} {b:Nat} {xs:aJ4} {aJ:aA} {res:aS} {aT:aA} {T e:Nat} {name:String} {di:aI9} {m:Method} {fuel:Nat} (ag:o.op= .call c) (E:c.callee= .invoke x name) (G:c.args.toList=xs) (hx:a7 K x=D5 T b)
  (hn:P.types.size+Made.depth=fuel+1) (aE:P.info? T=some di) (ay:di.methods.find? (·.name == name)=some m) (ae:m.path= #[]) (jF:m.func=some (f,true)) (a6:P.underlying T=some (.pointer e))
  (hf:Fn P f (.c (.one (.d (.aM (some b))))::xs.map (a7 K)) aJ [] res aT) (ib:lq B aJ) (bx:m0 aJ [] aT=true) (N:Nat):
  bD P N ids o K B res ⟨ct aJ,[],iW aJ aT⟩:=by
 have mem: ∀aB∈xs,aB∈o.op.operands:=fun aB aN=>by
  rw[ag];simp only[Op.operands,Call.operands,aA9];exact .inr (aB7.1 (by rw[G];exact aN))
 have x':x∈o.op.operands:=by
  rw[ag];simp only[Op.operands,Call.operands,aA9,E];exact .inl aD3
 obtain⟨v,e,⟨rfl,rfl⟩,aq,_⟩:cN P N ids o K B (fun v e=>v=res/\e=⟨ct aJ,[],iW aJ aT⟩):=CB (args:=.c (.one (.d (.aM (some b))))::xs.map (a7 K)) mem (fun K' ρ I a w g1 av=>by
  have e:a.eval x= .iface T (.pointer (some ⟨b,0,none⟩)):=av.ev ((g1 x x').trans hx);refine⟨.pointer (some ⟨b,0,none⟩)::xs.map a.eval,fun gf=>aiY gf ag E G e hn aE ay ae jF a6,aD3,fun i v x az hx=>?_⟩
  match i with
  |0=>
   simp only[at9,as9] at az hx;subst az hx;exact rfl
  |i+1=>exact Al mem g1 av i v x aF3 aG5) ⟨aJ,[],res,aT,hf,ib,by rw[bx];rfl,by rw[sD];exact⟨rfl,rfl⟩⟩
 exact aq
end
end
section
def cC.nt {P:aH6} {f:aI5} {c b:Nat} {args:List aS} {br aJ:aA} {bb:aH0} {X:Type} {res:X->aS} {dP aT:X->aA} (gi:aH0) (q:Nat)
  (h:cC P f (.c (.one (.ptr c 0))::args) (br++aJ) bb res (fun g=>dP g++aT g))
  (E:ox c gi (.c (.one (.ptr c 0))::args) br aJ bb bb=true) (G: ∀g,oy c (nd gi bb bb) (res g) (dP g) (aT g)=true)
  (ah:(args.all fun v=> !v.has c)=true) (aW:kZ c aJ=true/\(aj aJ q).isNone=true) (bM:(bb.contains c||bb.contains q)=false) (fU: ∀g,(kZ c (aT g)&&(aj (aT g) q).isNone&& !(res g).has c)=true):
  cC P f (.c (.one (.d (.aM (some b))))::args) ((q,.aH (.bA [(b,.jq c br)]))::aJ) bb res (fun g=>(q,.aH (.bA [(b,.jq c (dP g))]))::aT g):=by
 have k:=cC.close (o:=.jq c br) (o':=fun g=>.jq c (dP g)) gi h (fun _ _ _ _ h=>h) (fun _ _ _ _ _ h=>h) E G;have cS:=cC.bA (L:=[(b,.jq c br)]) (b:=b) (q:=q) k (vj rfl) ah aW bM fU;have e: ∀g,fl [(b,bg.jq c br)] b (bg.jq c (dP g))=[(b,.jq c (dP g))]:=fun g=>vj rfl
 simp only[e] at cS;exact cS
def Fn.nt {P:aH6} {f:aI5} {c b:Nat} {args:List aS} {br dP:aA} {res:aS} (gi:aH0) (q:Nat)
  (h:Fn P f (.c (.one (.ptr c 0))::args) br [] res dP)
  (E:ox c gi (.c (.one (.ptr c 0))::args) br [] [] []=true:=by first |rfl |decide) (G:oy c (nd gi [] []) res dP []=true:=by first |rfl |decide)
  (ah:(args.all fun v=> !v.has c)=true:=by first |rfl |decide) (aW:(!res.has c)=true:=by first |rfl |decide):
  Fn P f (.c (.one (.d (.aM (some b))))::args) [(q,.aH (.bA [(b,.jq c br)]))] [] res [(q,.aH (.bA [(b,.jq c dP)]))]:=by
 refine cC.fn (cC.nt (X:=Unit) (aJ:=[]) (aT:=fun _=>[]) (dP:=fun _=>dP) (res:=fun _=>res) gi q (by rw[av8];simp only[av8];exact h.x) E (fun _=>G) ah ⟨rfl,rfl⟩ rfl fun _=>?_);simp only[aW];rfl
def oL (b c d:Nat) (br:aA) (q:bq):bg where
 bp:=fun I F w _=> ∃(ρ:Nat->bq) (cj:Nat->Nat->Prop),(ρ c).bm=b/\ρ d=q/\(∀e ch,aj br e=some ch->Holds ρ I (cj e) w (ρ e) ch)/\
  (∀e b9 ch ch' x,aj br e=some ch->aj br b9=some ch'->e≠b9->cj e x-> ¬cj b9 x)/\ ∀x,F x↔ ∃e ch,aj br e=some ch/\cj e x
 cr:=fun I F w I' w' p ⟨ρ,cj,E,aw,G,ah,aW⟩ U bj aN=>⟨ρ,cj,E,aw,fun d ch H=>Holds.cr U (fun b O=>bj b ((aW b).2 ⟨d,ch,H,O⟩)) aN ch (fun _ _=>rfl) (G d ch H),ah,aW⟩
def MY (c d q:Nat) (args:List aS) (aJ br:aA) (res:aS) (aT dP:aA):Bool:=
 (ct br).contains c&& !(ct br).contains d&& !(ct br).contains q&&((ct br).all fun e=>kZ e aJ&&kZ e aT&& !res.has e&&args.all fun v=> !v.has e)&&
  (aj aJ q).isNone&&(aj aT q).isNone&&wI (d::ct br) br&&((ct dP).all fun e=>(ct br).contains e)
def Fn.ai3 {P:aH6} {f:aI5} {c d q b:Nat} {args:List aS} {aJ br aT dP:aA} {res:aS} (h:Fn P f (.c (.one (.ptr c 0))::args) (aJ++br) [] res (aT++dP)) (Z:MY c d q args aJ br res aT dP=true):
  Fn P f (.c (.one (.d (.aM (some b))))::args) (aJ++[(q,.b7 d (oL b c d br))]) [] res (aT++[(q,.b7 d (oL b c d dP))]):=by
 obtain⟨gf,h⟩:=h;simp only[MY,as1,au9,aC4] at Z;obtain⟨⟨⟨⟨⟨⟨⟨b4,cf⟩,a3⟩,a4⟩,a5⟩,gR⟩,zX⟩,Gn⟩:=Z;have b4:=ub b4;have cf:=wV cf;have a3:=wV a3
 have y6: ∀e,e∈ct br->kZ e aJ=true/\kZ e aT=true/\res.has e=false/\ ∀v,v∈args->v.has e=false:=fun e U=>by
  have:=av3.1 a4 e U;simp only[as1,au9] at this;exact⟨this.1.1.1,this.1.1.2,this.1.2,fun v az=>by simpa using av3.1 this.2 v az⟩
 have ai4: ∀e,e∈ct dP->e∈ct br:=fun e U=>ub (av3.1 Gn e U)
 have one: ∀(B:aA) (ch:ba),aj B q=none->aj (B++[(q,ch)]) q=some ch:=fun B ch hn=>by rw[i1,hn];simp[aj]
 have uv: ∀(B:aA) (x:ba) {e:Nat} {ch:ba},aj (B++[(q,x)]) e=some ch->(aj B e=some ch)\/(aj B e=none/\e=q/\ch=x):=fun B x {e ch} U=>by
  rw[i1] at U
  cases bd:aj B e with
  |some y=>rw[bd] at U;exact .inl U
  |none=>
   rw[bd] at U;simp only[ci] at U
   split at U
   .rename_i ao;injection U with U;exact .inr ⟨rfl,ao.symm,U.symm⟩
   .cases U
 have hR: ∀(B:aA) (x:ba) {e:Nat} {ch:ba},aj B e=some ch->aj (B++[(q,x)]) e=some ch:=fun B x {e ch} U=>by rw[i1,U]
 refine⟨gf,fun ρ F I w bZ a1 c4 bj eQ bX dI=>?_⟩;have D6:=one aJ (.b7 d (oL b c d br)) a5;obtain⟨pk,cj,cB,J3,cH,dO,fy⟩:(oL b c d br (ρ d)).bp I (F q) w (ρ q):=c4 q _ D6;have e': ∀{e ch},aj aJ e=some ch->e∉ct br/\e≠q:=fun {e ch} U=>⟨fun Z=>(by rw[(uY (y6 e Z).1).1] at U;cases U),fun ao=>(by rw[ao,a5] at U;cases U)⟩
 have i0: ∀{e ch},aj (aJ++br) e=some ch->(aj br e=some ch/\e∈ct br)\/(e∉ct br/\aj aJ e=some ch):=fun {e ch} U=>by
  rw[i1] at U
  cases bd:aj aJ e with
  |some ch'=>
   rw[bd] at U;exact .inr ⟨(e' bd).1,U⟩
  |none=>
   rw[bd] at U;exact .inl ⟨U,gL.2 ⟨ch,U⟩⟩
 let vo:Nat->bq:=fun e=>if e∈ct br then pk e else ρ e
 let jf:Nat->Nat->Prop:=fun e=>if e∈ct br then cj e else F e
 have xm: ∀e,e∉ct br->vo e=ρ e:=fun e U=>mu U
 have ym: ∀e,e∈d::ct br->vo e=pk e:=fun e U=>by
  rcases as8.1 U with rfl |U
  .rw[xm _ cf,J3]
  .exact vj U
 have nc: ∀y,(∃e ch,aj (aJ++br) e=some ch/\jf e y)-> ∃e ch,aj (aJ++[(q,ba.b7 d (oL b c d br))]) e=some ch/\F e y:=by
  rintro y ⟨e,ch,U,aC⟩;rcases i0 U with⟨af,ao⟩ |⟨af,ao⟩
  .have aC:cj e y:=by simpa only[jf,vj ao] using aC
   exact⟨q,_,D6,(fy y).2 ⟨e,ch,af,aC⟩⟩
  .have aC:F e y:=by simpa only[jf,mu af] using aC
   exact⟨e,ch,hR _ _ ao,aC⟩
 match bZ,bX with
 |v0::bZ,bX=>
 have yl:v0= .pointer (some ⟨b,0,none⟩):=dI 0 _ v0 rfl rfl;refine(h vo jf I w (v0::bZ) a1 ?_ ?_ ?_ (by simpa using bX) ?_).mono ?_
 .intro e ch U;rcases i0 U with⟨af,ao⟩ |⟨af,ao⟩
  .rw[ym e (as6 _ ao)];simp only[jf,vj ao];exact Holds.cr (cp.refl _ _) (fun _ _=>rfl) (as2 _) ch (fun j V=>ym j (ba.k5 (yc zX af) V)) (cH e ch af)
  .rw[xm e af];simp only[jf,mu af];exact Holds.cr (cp.refl _ _) (fun _ _=>rfl) (as2 _) ch (fun j V=>xm j (fun lw=>by rw[(uY (y6 j lw).1).2 e ch ao] at V;cases V)) (c4 e ch (hR _ _ ao))
 .intro e ch U x hx;rcases i0 U with⟨af,ao⟩ |⟨af,ao⟩
  .simp only[jf,vj ao] at hx;exact bj q _ D6 x ((fy x).2 ⟨e,ch,af,hx⟩)
  .simp only[jf,mu af] at hx;exact bj e ch (hR _ _ ao) x hx
 .intro e b9 ch ch' x U hc a8 hx dY;rcases i0 U with⟨af,ao⟩ |⟨af,ao⟩
  .simp only[jf,vj ao] at hx;rcases i0 hc with⟨lJ,jY⟩ |⟨lJ,jY⟩
   .simp only[jf,vj jY] at dY;exact dO e b9 ch ch' x af lJ a8 hx dY
   .simp only[jf,mu lJ] at dY;exact eQ q b9 _ ch' x D6 (hR _ _ jY) (ay4 (e' jY).2) ((fy x).2 ⟨e,ch,af,hx⟩) dY
  .simp only[jf,mu af] at hx;rcases i0 hc with⟨lJ,jY⟩ |⟨lJ,jY⟩
   .simp only[jf,vj jY] at dY;exact eQ q e _ ch x D6 (hR _ _ ao) (ay4 (e' ao).2) ((fy x).2 ⟨b9,ch',lJ,dY⟩) hx
   .simp only[jf,mu lJ] at dY;exact eQ e b9 ch ch' x (hR _ _ ao) (hR _ _ jY) a8 hx dY
 .intro i v x az hx
  match i with
  |0=>
   simp only[at9,as9] at az hx;subst az hx;show v0=_;rw[ym c (as6 _ b4),cB];exact yl
  |i+1=>
   have pe:args[i]? =some v:=aF3
   exact cA.mono (cp.refl _ _) v x (fun j V=>xm j (fun lw=>by rw[(y6 j lw).2.2.2 v (ax6 pe)] at V;cases V)) (dI (i+1) v x aF3 hx)
 .rintro e w' ⟨x,ρ',F',rfl,cJ,dA,I',jG,gM,l6,aq,ix,sW⟩;have ai5:ρ'=vo:=funext fun e=>dA e aD3
  subst ai5;have nL: ∀{e ch},aj aT e=some ch->e∉ct br/\e≠q/\aj (aT++dP) e=some ch:=fun {e ch} U=>⟨fun Z=>(by rw[(uY (y6 e Z).2.1).1] at U;cases U),fun ao=>(by rw[ao,gR] at U;cases U),by rw[i1,U]⟩
  have pm: ∀{e ch},aj dP e=some ch->aj aT e=none/\aj (aT++dP) e=some ch:=fun {e ch} U=>by
   have hn:=(uY (y6 e (ai4 e (gL.2 ⟨ch,U⟩))).2.1).1;exact⟨hn,by rw[i1,hn];exact U⟩
  refine⟨x,ρ,fun e=>if e=q then(fun y=> ∃b9 ch',aj dP b9=some ch'/\F' b9 y) else F' e,rfl,cJ.mono fun y _ aC=>nc y aC,fun _ _=>rfl,I',jG,fun y aC=>⟨(gM y aC).1,?_⟩,?_,?_,?_,?_⟩
  .rcases(gM y aC).2 with h |h |h
   .exact .inl h
   .exact .inr (.inl (nc y h))
   .exact .inr (.inr h)
  .intro e ch U;rcases uv _ _ U with U |⟨_,rfl,rfl⟩
   .obtain⟨af,ao,bo⟩:=nL U;simp only[mu ao];rw[<-xm e af];exact Holds.cr (cp.refl _ _) (fun _ _=>rfl) (as2 _) ch (fun j V=>(xm j (fun lw=>by rw[(uY (y6 j lw).2.1).2 e ch U] at V;cases V)).symm) (l6 e ch bo)
   .simp only[if_true];refine⟨vo,F',by rw[ym c (as6 _ b4),cB],xm d cf,fun e ch U=>l6 e ch (pm U).2,fun e b9 ch ch' x U hc a8=>ix e b9 ch ch' x (pm U).2 (pm hc).2 a8,fun _=>Iff.rfl⟩
  .intro e ch U y aC;rcases uv _ _ U with U |⟨_,rfl,rfl⟩
   .obtain⟨af,ao,bo⟩:=nL U;simp only[mu ao] at aC;obtain⟨cD,cv,hQ⟩:=aq e ch bo y aC;exact⟨cD,cv,hQ.imp (nc y) id⟩
   .simp only[if_true] at aC;obtain⟨b9,ch',E,G⟩:=aC;obtain⟨cD,cv,hQ⟩:=aq b9 ch' (pm E).2 y G;exact⟨cD,cv,hQ.imp (nc y) id⟩
  .intro e b9 ch ch' y U hc a8 aC eo;rcases uv _ _ U with b' |⟨_,rfl,rfl⟩
   .obtain⟨af,ao,bo⟩:=nL b';simp only[mu ao] at aC;rcases uv _ _ hc with cS |⟨_,rfl,rfl⟩
    .obtain⟨lJ,jY,AD⟩:=nL cS;simp only[mu jY] at eo;exact ix e b9 ch ch' y bo AD a8 aC eo
    .simp only[if_true] at eo;obtain⟨hA,jm,E,G⟩:=eo;exact ix e hA ch jm y bo (pm E).2 (fun e=>by rw[e,(pm E).1] at b';cases b') aC G
   .rcases uv _ _ hc with cS |⟨_,rfl,rfl⟩
    .obtain⟨lJ,jY,AD⟩:=nL cS;simp only[if_true] at aC;simp only[mu jY] at eo;obtain⟨hA,jm,E,G⟩:=aC;exact ix hA b9 jm ch' y (pm E).2 AD (fun e=>by rw[<-e,(pm E).1] at cS;cases cS) G eo
    .exact as3 rfl a8
  .exact cA.mono (cp.refl _ _) res x (fun j V=>(xm j (fun lw=>by rw[(y6 j lw).2.2.1] at V;cases V)).symm) sW
end
section
open Go.RowKit Go.Proofs Go.Maps Go.Shelf Go.MapKept Tryz
open Go.WideElems (Fit rd rg pl rd_val rd_key rg_of)
def ai6 {aK:bB} (p:aa ai×aa aK):Int:=p.1
def hh {aK:bB} (es:List (aa ai×aa aK)):List Int:=es.map ai6
def UD {I:Nat->Prop} {w:aH5} {aK:bB}: ∀{l:List (aa ai×aa aK)} {es:aI7},iG I w ai aK l es->es.map (·.key)=(hh l).map encZ
 | [],_,h=>by rw[show _=[] from h];rfl
 |p::l,_,⟨e,r,h,E,_,ah⟩=>by
  rw[h,au1,UD ah,E];rfl
def ai7 {P:aH6} {k:aI0} (Z:P.underlying k=some (.int .i64)) (s:Int) (h:(Lit.int .i64 s).wf=true):keyOf P k (encZ s)=some (.int .i64 s):=by simp[keyOf,Z,encZ,mapKey,h]
def UE: ∀{l m:aI2},l.map encZ=m.map encZ->l=m
 | [],[],_=>rfl
 | [],_::_,h=>by simp at h
 |_::_,[],h=>by simp at h
 |x::l,y::m,h=>by
  simp only[au1,List.cons.injEq] at h;rw[encZ_inj h.1,UE h.2]
def MZ {P:aH6} {k:aI0} (Z:P.underlying k=some (.int .i64)) {I:Nat->Prop} {w:aH5} {aK:bB} {es:List (aa ai×aa aK)} {bV:aI7} {bY b:Nat} (O:w.heap[b]? =some (.map (List.toArray bV) bY))
  (ay:iG I w ai aK es bV) (cQ:ms bV bY) (hn:(hh es).Nodup) (ak: ∀s∈hh es,(Lit.int .i64 s).wf=true) (au:es.length<=maxLen):
  ∃jO,w.ownsMap P k p7 b es.length jO/\Maps.size jO=es.length/\(intKeys jO).Perm (hh es):=by
 have bX:=Ch ay;have yO:=UD ay
 have DG: ∀x∈bV,∃s:Int,x.key=encZ s/\rg P k p7 x=(.int .i64 s,.nil)/\ ∃y,rd P k p7 x=some y:=by
  intro x hx;have:x.key∈(hh es).map encZ:=by rw[<-yO];exact au0 hx
  obtain⟨s,ae,U⟩:=av0.1 this;have L6:keyOf P k x.key=some (.int .i64 s):=U▸ai7 Z _ (ak s ae);have lS:rd P k p7 x=some (.int .i64 s,.nil):=by simp[rd,L6]
  exact⟨s,U.symm,rg_of lS,_,lS⟩
 have pw:=Go.WideShapes.sorted_perm (bV.map (rg P k p7))
 have iy:(bV.map (rg P k p7)).map (fun p=>Go.intOf p.1)=hh es:=by
  refine UE ?_;rw[<-yO,aw7,aw7];refine av1 fun x hx=>?_
  obtain⟨s,af,ao,_⟩:=DG x hx;simp[ao,af,Go.intOf]
 refine⟨.map ((bV.map (rg P k p7)).foldr DataW.insert []),⟨List.toArray bV,bY,O,⟨by simp[bX];exact au,(stamped_iff _ _).2 ⟨cQ.2,cQ.1.imp fun h=>by omega,?_⟩,fun x hx=>(DG x hx).choose_spec.2.2⟩,by simp[bX],rfl⟩,?_,?_⟩
 .have E:(bV.map (·.key)).Pairwise (· ≠ ·):=by
   rw[yO];exact List.pairwise_map.2 (hn.imp fun a8 e=>a8 (encZ_inj e))
  exact List.pairwise_map.1 E
 .show List.length _=_;rw[pw.length_eq,at8,bX]
 .show(List.map (fun p=>Go.intOf (Prod.fst p)) _).Perm _;rw[<-iy];exact pw.map _
def M0 (es:aH1):Fn prog 155 [.c (.one (.mp 1001))] [(1001,.map ai ai es)] [2001] (.c (.one (.c3 201 [.p 2001 0]))) [(2001,.cells [.mp 1001]),(1001,.map ai ai es)]:=by refine aY [] func155 ?_;exact⟨rfl,_,_,_,ac.aX 1 2001 rfl,rfl,rfl,aD,rfl⟩
def gl.M1 {I D:Nat->Prop} {w:aH5} {v:aI3} {l:aI2} (h:gl D w 1 v l.length (l.map encZ)) (ce: ∀b,b < w.heap.size->D b->I b):cw I w (.cc ai) l (fun _=>some v):=by obtain⟨_,A,c,aw,E,G,ah⟩:=h;refine⟨A,c,as5 some aw,E,G,fun ae=>?_⟩;obtain⟨b,o,dX,O,bv,hx⟩:=ah ae;refine⟨b,o,dX,ce b bv O,fun i x aE=>?_⟩;have:=hx i (encZ x) (by rw[au8,show l[i]? =some x from aE];rfl);simpa[cw,aR,encZ] using this
def UF (es:aH1) (hn:(hh es).Nodup) (ak: ∀s∈hh es,(Lit.int .i64 s).wf=true) (au:es.length<=4294967296):
  cC prog 199 [.c (.one (.c3 201 [.p 2001 0]))] [(2001,.cells [.mp 1001]),(1001,.map ai ai es)] [] (X:={hq:List Int//hq.Perm (hh es)}) (fun g=>bP ai g.1) (fun _=>[(2001,.cells [.mp 1001]),(1001,.map ai ai es)]):=by
 refine⟨aD4,fun ρ F I w bZ a1 c4 bj eQ bX dI=>?_⟩
 match bZ,bX with
 | [v],_=>
  obtain⟨aF,az,gH,r,hP,mG,ax⟩:=dI 0 _ v rfl rfl;have ax:r=[]:=ax;have mG:gH= .pointer (some ⟨(ρ 2001).bm,0,none⟩):=mG;subst ax mG hP az;obtain⟨_,aF,T,hd,hP⟩:=c4 2001 _ rfl;obtain⟨x,r,hP,hx,ax⟩:=hP;have ax:r=[]:=ax;have hx:x= .map (some (ρ 1001).bm):=hx;subst ax hx hP;obtain⟨_,bV,bY,fk,ay,cQ⟩:=c4 1001 _ rfl;have Hf:(4294967296:Nat)<=maxLen:=by decide
  obtain⟨jO,dN,cz,pw⟩:=MZ (P:=prog) (k:=3) aD4 fk ay cQ hn ak aD1;have bv:(ρ 2001).bm < w.heap.size:=mr hd
  have vD:SeqGives Fence.wide 2 prog 201 #[.pointer (some ⟨(ρ 2001).bm,0,none⟩)] encZ (fun hq=>hq.Perm (intKeys jO)) (Maps.size jO) w:=
   AnyZI.keys_gives (ρ:=L5) {Tb with} Fence.wide _ trivial rfl aD1 (ρ 2001).bm (ρ 1001).bm es.length jO w bv (pd hd rfl) dN
  have J:=AnyZI.collect_in agH Fence.wide 4 trivial trivial rfl aD1 201 #[.pointer (some ⟨(ρ 2001).bm,0,none⟩)] trivial (enters_of func201 aD4 rfl) _ _ aF7 aF7 _ vD;refine(callsIn_wide.1 J).mono ?_;rintro e w' ⟨v,hq,rfl,av,gm,yP,gV⟩;have a2:cp I w (fun b=>b < w'.heap.size/\(I b\/w.heap.size<=b)) w':=fun b f4=>⟨⟨au2 (a1 b f4) gV.size,.inl f4⟩,gV.block b (a1 b f4)⟩
  refine⟨⟨hq,av.trans pw⟩,v,ρ,F,rfl,cZ.pP gV,fun _ _=>rfl,_,a2,fun b h=>⟨h.1,h.2.imp id .inr⟩,fun c ch J=>Holds.cr a2 (fun b O=>gV.block b (bj c ch J b O).1) gV.size ch (fun _ _=>rfl) (c4 c ch J),fun c ch J b O=>?_,fun c ca ch ch' b E G=>eQ c ca ch ch' b E G,?_⟩
  .have:=bj c ch J b O;exact⟨au2 this.1 gV.size,fun h=>(by rcases h.2 with h |h;exact this.2 h;omega),.inl ⟨c,ch,J,O⟩⟩
  .have hN:=gl.sA gm;exact(hN.zT fun i _ aE=>(gm.lt i aE).1).M1 fun b E G=>⟨E,.inr G⟩
def pB:List Int->Int
 | []=>0
 |x::l=>l.foldl min x
def ai8 {l:aI2} (h:0 < l.length):pB (l.take 1)=l[0]:=by
 cases l with
 |nil=>simp at h
 |cons x l=>rfl
def ai9 {l:aI2} {k:Nat} (aw:0 < k) (h:k < l.length):pB (l.take (k+1))=min (pB (l.take k)) l[k]:=by
 cases l with
 |nil=>simp at h
 |cons x l=>
  cases k with
  |zero=>omega
  |succ k=>
   have Z:k < l.length:=aE0
   show List.foldl min x (l.take (k+1))=min (List.foldl min x (l.take k)) l[k];rw[aB0,as0 Z,aC2];rfl
def UG: ∀(l:aI2) (x:Int),List.foldl min x l<=x/\(∀y,y∈l->List.foldl min x l<=y)/\(List.foldl min x l=x\/List.foldl min x l∈l)
 | [],x=>⟨Int.le_refl _,fun y h=>aE1,.inl rfl⟩
 |aB::l,x=>by
  obtain⟨E,G,ah⟩:=UG l (min x aB);show List.foldl min (min x aB) l<=x/\(∀y,y∈aB::l->List.foldl min (min x aB) l<=y)/\(List.foldl min (min x aB) l=x\/List.foldl min (min x aB) l∈aB::l);refine⟨aD1,fun y aC=>?_,?_⟩
  .rcases as8.1 aC with rfl |aC
   .omega
   .exact G y aC
  .rcases ah with ah |ah
   .rcases Int.le_total x aB with c |c
    .exact .inl aD1
    .exact .inr (by rw[ah,show min x aB=aB by omega];exact at6 ..)
   .exact .inr (as6 _ ah)
def M2 {l:aI2} (h:l≠[]):pB l∈l/\ ∀y,y∈l->pB l<=y:=by
 cases l with
 |nil=>exact as3 rfl h
 |cons x l=>
  obtain⟨E,G,ah⟩:=UG l x;refine⟨?_,fun y aC=>?_⟩
  .rcases ah with ah |ah
   .show List.foldl min x l∈x::l;rw[ah];exact at6 ..
   .exact as6 _ ah
  .rcases as8.1 aC with rfl |aC
   .exact E
   .exact G y aC
def UH {l m:aI2} (h:l.Perm m) (hn:m≠[]):pB l=pB m:=by
 have ak:l≠[]:=fun e=>hn (by subst e;exact List.nil_perm.1 h)
 obtain⟨b4,cf⟩:=M2 ak;obtain⟨b1,b2⟩:=M2 hn;have:=cf _ (h.mem_iff.2 b1);have:=b2 _ (h.mem_iff.1 b4);omega
def UI (l:aI2) (aw:0 < l.length) (E:l.length<=1073741824):Fn prog 292 [bP ai l] [] [] (ab (pB l)) []:=by
 have aU:=j4 (n:=0) aw;have cm:=ai8 aw;refine aY [3] func292 ?_;refine⟨fun h=>?_,fun _=>?_⟩
 .have h:decide (((l.length:Nat):Int) < 1)=true:=h;have:=gd h;omega
 refine bz [] (bt) ⟨aD1,l[0],aU,d1 [] (X:=Nat) (fun k=>[(0,bP ai l),(3,ab (pB (l.take k))),(4,ab (k:Int))]) (fun _=>[]) (fun k=>1<=k/\k<=l.length) (fun k=>l.length - k) 1 ⟨as2 _,aw⟩ ?_ ?_⟩
 .exact ac.sub ⟨rfl,cm.symm,rfl,trivial⟩ trivial
 rintro k ⟨cu,Z⟩;refine⟨fun J=>?_,fun J=>?_⟩
 .have J:decide ((k:Int) < ((l.length:Nat):Int))=true:=J;have he:k < l.length:=aF4
  have au:=ai9 cu he;exact⟨aD1,l[k],j4 (n:=k) he,aD1,k+1,⟨aD1,he⟩,aD1,ac.sub ⟨rfl,au.symm,rfl,trivial⟩ trivial⟩
 .have J:decide ((k:Int) < ((l.length:Nat):Int))=false:=J;have he:k=l.length:=aF0
  exact eN bt rfl (show pB (l.take k)=pB l by rw[he,au3])
section
variable {P:aH6} {N:Nat} {ids:aH0} {K:aZ} {B:aA}
def UJ {o:Oper} {T kt et:aI0} {x:aH8} {c:Nat} (ag:o.op= .call {callee:=.builtin .clear,args:= #[x],argTypes:= #[T]}) (b8:P.underlying T=some (.map kt et)) {aI aK:bB} {es:List (aa aI×aa aK)}
  (hx:a7 K x= .c (.one (.mp c))) (J:aj B c=some (.map aI aK es)) (N:Nat):bD P N ids o K B (.cn []) ⟨[c],[],[(c,some (.map aI aK []))]⟩:=by
 have m1:x∈o.op.operands:=aE2
 refine bD.Qv J fun K' B' g1 C ρ F a w al av gz=>?_
 obtain⟨bj,bV,bY,O,ay,cQ⟩:=al.holds c _ gz;have af:=av.mp ((g1 x m1).trans hx);have bv:=mr O;have eB:=fun o=>MapKept.run_setObj_map (P:=P) o O
 have ax:(Builtin.clear_ #[T] o.type #[.map (some (ρ c).bm)]).run P w= .ok (.tuple #[]) {w with heap:=w.heap.setIfInBounds (ρ c).bm (.map #[] bY)}:=by
  simp[Builtin.clear_,run_underlying b8,ay2 O,eB,Result.andThen]
 refine⟨{w with heap:=w.heap.setIfInBounds (ρ c).bm (.map #[] bY)},?_,u5 ((bj _).2 rfl),fun I a2=>⟨bj,[],bY,by simp[bv],rfl,aD3,fun e U=>by cases U⟩⟩;simp[execOp,ag,resolve,invoke,builtin,af,ax]
def bD.UK {o:Oper} {c:Nat} {jE:aH0} {cG ch:ba} (J:aj B c=some cG)
  (h: ∀(K':aZ) (B':aA),(∀x,x∈o.op.operands->a7 K' x=a7 K x)->(∀d,d∈jE->aj B' d=aj B d)-> ∀(C:fv) (ρ:Nat->bq) (F:Nat->Nat->Prop) (a:Act) (w:aH5),Mem ids C B' ρ F w->eF K' ρ (b5 C B' F w) a w->aj B' c=some cG-> ∃w',(execOp a.eval o).run P w= .ok .skip w'/\cZ (F c) w w'/\
   (∀I,cp (b5 C B' F w) w I w'->Holds ρ I (F c) w' (ρ c) ch)):
  bD P N ids o K B .undef ⟨c::jE,[],[(c,some ch)]⟩:=by
 rintro K' B' E G - C a w ⟨hn,H,ρ,F,al,av⟩ bv ga Q cE;have cW:aj B' c=some cG:=(G c aD3).trans J;obtain⟨w',hx,cJ,c4⟩:=h K' B' E (fun d H=>G d (as6 _ H)) C ρ F a w al av cW;obtain⟨bC,U⟩:=al.h8 cW cJ c4;unfold Oper.wp;rw[hx,Oper.upon_skip];exact cE _ _ ⟨kW.trans hn,kX.trans H,ρ,F,bC,(av.mono U fun _ _ _=>rfl).kY (fun e U=>by rw[hn];exact bv e U) rfl⟩
def Bw (es:List (aa ai×aa .fn)):bg where
 bp:=fun I F w p=>Holds (fun _=>⟨0,none,0,0⟩) I F w p (.map ai .fn es)
 cr:=fun I F w I' w' p h U bj aN=>Holds.cr U bj aN _ (fun _ _=>rfl) h
def D7 (es:List (aa ai×aa .fn)) (ch:ba):Prop:=ch= .map ai .fn es\/ch= .aH (Bw es)
def D7.holds {es:List (aa ai×aa .fn)} {ch:ba} (h:D7 es ch) {ρ:Nat->bq} {I F:Nat->Prop} {w:aH5} {p:bq}:Holds ρ I F w p ch↔(∀b,F b↔b=p.bm)/\ ∃bV bY,w.heap[p.bm]? =some (.map (List.toArray bV) bY)/\iG I w ai .fn es bV/\ms bV bY:=by
 rcases h with rfl |rfl
 .exact Iff.rfl
 .exact Iff.rfl
def Bx {o:Oper} {T kt et:aI0} {x i v:aH8} {c f hA jd qz m1 m2 m3 b1 b2 b3:Nat} (ag:o.op= .insert T x i v) (b8:P.underlying T=some (.map kt et)) (kM:P.underlying kt=some (.int .i64)) {es:List (aa ai×aa .fn)} {ch ch':ba} (hx:a7 K x= .c (.one (.mp c))) {key:Int} (Z:a7 K i= .c (.one (.d (.int .i64 key))))
  (az:a7 K v= .c (.one (.c3 f [.p hA 0,.p jd 0,.p qz 0]))) (E:aj B m1=some (.b7 hA (fp b1))) (G:aj B m2=some (.b7 jd (fp b2))) (ah:aj B m3=some (.b7 qz (fp b3)))
  (J:aj B c=some ch) (hw:D7 es ch) (qD:D7 (dx (aI:=ai) (aK:=.fn) es key (f,[b1,b2,b3])) ch') (N:Nat):bD P N ids o K B .undef ⟨[c,m1,m2,m3],[],[(c,some ch')]⟩:=by
 have c0:x∈o.op.operands:=aD8
 have d5:i∈o.op.operands:=aD8
 have lO:v∈o.op.operands:=aD8
 refine bD.UK J fun K' B' g1 g2 C ρ F a w al av gz=>?_
 obtain⟨bj,bV,bY,O,ay,cQ⟩:=hw.holds.1 (al.holds c _ gz);have af:=av.mp ((g1 x c0).trans hx);have ao:a.eval i= .int .i64 key:=av.int ((g1 i d5).trans Z)
 have bo:a.eval v=mV (f,[b1,b2,b3]):=by
  have h:=av.ev ((g1 v lO).trans az);obtain⟨aF,e,k0,r1,af,cB,v2,r2,ao,cH,v3,gh,bo,dO,fy⟩:=h;have b':=p5 (N:=N) (a:=a) al ((g2 m1 aD3).trans E);have cS:=p5 (N:=N) (a:=a) al ((g2 m2 aD3).trans G);have en:=p5 (N:=N) (a:=a) al ((g2 m3 aD3).trans ah);have cB:k0= .pointer (some ⟨(ρ hA).bm,0,none⟩):=cB;have cH:v2= .pointer (some ⟨(ρ jd).bm,0,none⟩):=cH;have dO:v3= .pointer (some ⟨(ρ qz).bm,0,none⟩):=dO;have fy:gh=[]:=fy;rw[e,af,ao,bo,cB,cH,dO,fy,b',cS,en];rfl
 have ce:jT (b5 C B' F w) w .fn (f,[b1,b2,b3]) (mV (f,[b1,b2,b3])):=⟨rfl,⟨fun _=>rfl,fun e=>by cases e⟩,rfl⟩;obtain⟨eL,kl,ax,gK,qB⟩:=Cj (P:=P) (aI:=ai) (aK:=.fn) b8 kM rfl O ay cQ key ce;have bv:=mr O;refine⟨{w with heap:=w.heap.setIfInBounds (ρ c).bm (.map (List.toArray eL) kl)},?_,u5 ((bj _).2 rfl),fun I a2=>qD.holds.2 ⟨bj,eL,kl,by simp[bv],gK.mono a2,qB⟩⟩;have ax:(Instr.mapUpdate T (.map (some (ρ c).bm)) (.int .i64 key) (mV (f,[b1,b2,b3]))).run P w= .ok () {w with heap:=w.heap.setIfInBounds (ρ c).bm (.map (List.toArray eL) kl)}:=ax;simp only[execOp,ag,aw5,af,ao,bo,ax,au5,ax2]
def ai' (x:Option (aa .fn)):aS:=match x with
 |some x=>.cn [.one (.d (.fn x)),.one (.d (.lit true))]
 |none=>.cn [.one .any,.one (.d (.lit false))]
def aja {I:Nat->Prop} {w:aH5} {x:aa .fn} {v:aI3} (h:jT I w .fn x v):v=mV x:=by have E:=h.2.1.1 rfl;have G:=h.2.2;rw[E] at G;have G:some v=some (mV x):=G;injection G
def M3 {aV:dt} (bl:eq P aV) {o:Oper} {T kt et:aI0} {x i:aH8} {c:Nat} (ag:o.op= .lookup T x i true) (b8:P.underlying T=some (.map kt et)) (kM:P.underlying kt=some (.int .i64)) {ti:cd} (gT:aV.find et=some ti) {es:List (aa ai×aa .fn)} (hx:a7 K x= .c (.one (.mp c))) {key:Int} (Z:a7 K i= .c (.one (.d (.int .i64 key))))
  (J:aj B c=some (.aH (Bw es))) {r:Option (aa .fn)} (ax:b0 (aI:=ai) (aK:=.fn) es key=r) (N:Nat):bD P N ids o K B (ai' r) ⟨[c],[],[]⟩:=by
 have c0:x∈o.op.operands:=aD8
 have d5:i∈o.op.operands:=aD8
 subst ax;obtain⟨Dh,d,bx⟩:=bl.at_ gT;obtain⟨aB,aN,m7⟩:=bx.zero;refine bD.val fun K' B' g1 g2 C ρ F a w al av=>?_
 obtain⟨bj,bV,bY,O,ay,cQ⟩:=(D7.holds (.inr rfl)).1 (al.holds c _ ((g2 c aD3).trans J));have af:=av.mp ((g1 x c0).trans hx);have ao:a.eval i= .int .i64 key:=av.int ((g1 i d5).trans Z);have Dn:(zeroValue et).run P w= .ok aB w:=by simp[zeroValue,typeInfo,bx.km,aN]
 have q0:=fun e=>MapKept.run_checkKey (P:=P) (w:=w) kM (sC (aI:=ai) (d:=.int .i64) rfl key) e 9999
 rcases Ci (I:=b5 C B' F w) (w:=w) (aI:=ai) (aK:=.fn) (d:=.int .i64) rfl key es bV 0 ay with⟨b4,cf,_⟩ |⟨j,y,e,b4,cf,_,_,a5,_⟩
 .have hf:=MapKept.run_findKey (P:=P) (w:=w) kM b4;refine⟨.tuple #[aB,.bool false],?_,by rw[cf];exact⟨[aB,.bool false],rfl,_,_,rfl,trivial,_,_,rfl,rfl,rfl⟩⟩
  have ax:(Instr.lookup T (.map (some (ρ c).bm)) (.int .i64 key) true).run P w= .ok (.tuple #[aB,.bool false]) w:=by
   simp only[gZ] at q0 hf;simp[Instr.lookup,run_underlying b8,ay2 O,q0,hf,Dn,Result.andThen]
  simp only[execOp,ag,aw5,af,ao,ax,au5,ax2]
 .have hf:=MapKept.run_findKey (P:=P) (w:=w) kM b4;have aC:=aja a5;refine⟨.tuple #[mV y,.bool true],?_,by rw[cf];exact⟨[mV y,.bool true],rfl,_,_,rfl,rfl,_,_,rfl,rfl,rfl⟩⟩
  have ax:(Instr.lookup T (.map (some (ρ c).bm)) (.int .i64 key) true).run P w= .ok (.tuple #[mV y,.bool true]) w:=by
   simp only[gZ] at q0 hf;simp[Instr.lookup,run_underlying b8,ay2 O,q0,hf,Result.andThen,aC]
  simp only[execOp,ag,aw5,af,ao,ax,au5,ax2]
def ac.UL (s f hA jd qz m1 m2 m3 b1 b2 b3:Nat) (au:dR K s= .c (.one (.d (.fn (f,[b1,b2,b3]))))) (E:aj B m1=some (.b7 hA (fp b1))) (G:aj B m2=some (.b7 jd (fp b2))) (ah:aj B m3=some (.b7 qz (fp b3))):ac ids K B ((s,.c (.one (.c3 f [.p hA 0,.p jd 0,.p qz 0])))::K) B:=by
 rintro N C a w ⟨hn,H,ρ,F,al,av⟩;refine⟨hn,H,ρ,F,al,fun t=>?_⟩;rw[kV]
 split
 .rename_i e;subst e;have h:=av s;rw[au] at h;have h:a.tmps.getD s undef=mV (f,[b1,b2,b3]):=h;have b':=p5 (N:=N) (a:=a) al E;have cS:=p5 (N:=N) (a:=a) al G;have en:=p5 (N:=N) (a:=a) al ah;exact⟨_,h,_,_,rfl,by rw[<-b'];rfl,_,_,rfl,by rw[<-cS];rfl,_,_,rfl,by rw[<-en];rfl,rfl⟩
 .exact av t
end
abbrev D8 (k:Nat):aa ai×aa ai:=@Prod.mk Int Int (k:Int) 1
abbrev gv (l:aH0):List (aa ai×aa ai):=l.map D8
def nu (l:aH0) (k:Nat):aH0:=if k∈l then l else l++[k]
def M4 (l:aH0):(gv l).length=l.length:=at8 _
def By (a b:Nat):fT ai (a:Int) (b:Int)=decide (a=b):=by
 show decide ((a:Int)=(b:Int))=_
 by_cases h:a=b
 .rw[at4 h,at4 aD1]
 .rw[av7 h,av7 aD1]
def ajb {l:aH1} {p:aa ai×aa ai} {k x:Int} (h:fT ai k p.1=true):dx (aI:=ai) (aK:=ai) (p::l) k x= @Prod.mk Int Int k x::l:=by simp only[dx,h];rfl
def ajc {l:aH1} {p:aa ai×aa ai} {k x:Int} (h:fT ai k p.1=false):dx (aI:=ai) (aK:=ai) (p::l) k x=p::dx (aI:=ai) (aK:=ai) l k x:=by simp only[dx,h]
def ajd {l:aH1} {p:aa ai×aa ai} {k:Int} (h:fT ai k p.1=true):g0 (aI:=ai) (aK:=ai) (p::l) k=l:=by simp only[g0,h]
def aje {l:aH1} {p:aa ai×aa ai} {k:Int} (h:fT ai k p.1=false):g0 (aI:=ai) (aK:=ai) (p::l) k=p::g0 (aI:=ai) (aK:=ai) l k:=by simp only[g0,h]
def D9 (k:Nat): ∀l:aH0,dx (aI:=ai) (aK:=ai) (gv l) (k:Int) (1:Int)=gv (nu l k)
 | []=>rfl
 |x::l=>by
  by_cases h:k=x
  .refine(ajb (p:=D8 x) (l:=gv l) ((By k x).trans (at4 h))).trans ?_;subst h;unfold nu;rw[vj (at6 ..)];rfl
  .refine(ajc (p:=D8 x) (l:=gv l) ((By k x).trans (av7 h))).trans ?_;rw[D9 k l];unfold nu
   by_cases G:k∈l
   .rw[vj G,vj (as6 _ G)];rfl
   .rw[mu G,mu (fun e=>by rcases as8.1 e with e |e;exact h e;exact G e)];rfl
def M5 (k:Nat): ∀l:aH0,g0 (aI:=ai) (aK:=ai) (gv l) (k:Int)=gv (l.erase k)
 | []=>rfl
 |x::l=>by
  by_cases h:k=x
  .refine(ajd (p:=D8 x) (l:=gv l) ((By k x).trans (at4 h))).trans ?_;subst h;rw[List.erase_cons_head]
  .refine(aje (p:=D8 x) (l:=gv l) ((By k x).trans (av7 h))).trans ?_;rw[M5 k l,List.erase_cons_tail (by simpa using fun e=>h e.symm)];rfl
def vN {l:aH0} {k x:Nat}:x∈nu l k↔x∈l\/x=k:=by
 unfold nu
 split
 .rename_i h;exact⟨.inl,fun h'=>h'.elim id fun e=>e▸h⟩
 .rw[au4,at7]
def UM {l:aH0} {k:Nat} (h:l.Nodup):(nu l k).Nodup:=by
 unfold nu
 split
 .exact h
 .rename_i Z;rw[List.nodup_append];refine⟨h,aD3,fun a ha b O e=>?_⟩;rw[at7] at O;subst O e;exact Z ha
def vO (l:aH0):hh (gv l)=l.map fun k:Nat=>(k:Int):=by unfold hh gv;rw[aw7];rfl
def M6 {l:aH0} (h:l.Nodup):(hh (gv l)).Nodup:=by rw[vO];exact MS (fun x _ y _ e=>by have e:(x:Int)=(y:Int):=e;omega) h
def M7 {l:aH0} (h: ∀k,k∈l->k<=1000000): ∀s∈hh (gv l),(Lit.int .i64 s).wf=true:=fun s au=>by
 rw[vO] at au;obtain⟨k,Z,rfl⟩:=av0.1 au;have:=h k Z;show(decide (IntKind.i64.min<=(k:Int))&&decide ((k:Int)<=IntKind.i64.max))=true;rw[at4 (show(IntKind.i64.min:Int)<=(k:Int) from Int.le_trans (by decide:IntKind.i64.min<=(0:Int)) aD1),at4 (show(k:Int)<=IntKind.i64.max from Int.le_trans (by omega:(k:Int)<=1000000) aD2)];rfl
def ek (l:aH0):Nat:=(pB (l.map fun k:Nat=>(k:Int))).toNat
def D' {l:aH0} (h:l≠[]):pB (l.map fun k:Nat=>(k:Int))=((ek l:Nat):Int)/\ek l∈l/\ ∀y,y∈l->ek l<=y:=by
 have a8:l.map (fun k:Nat=>(k:Int))≠[]:=aE0
 obtain⟨E,G⟩:=M2 a8;obtain⟨k,Z,U⟩:=av0.1 E;have ay:ek l=k:=by unfold ek;rw[<-U];rfl
 refine⟨by rw[ay,U],by rw[ay];exact Z,fun y aC=>?_⟩;have:=G _ (au0 aC);rw[ay];omega
end
section
section
variable {z R:Nat} {L:aH2} {top base:aG9}
def ajf {vP kt:Nat} (ce:eu L base vP) (b8:eu L top kt) (bv:base=[]\/vP < kt) (E:top≠base) (G:top∉dc L vP base) {n:aG9} {j:Nat} (h:eu L n j): ∃i,i<=j/\eu (eg L top base) n i:=by
 have s6:eu (eg L top base) base vP:=Mv ce (ay4 E) G
 have xi: ∀d,dk L top=some d-> ∀{j},eu L top j-> ∃i,i<=j/\eu (eg L top base) top i:=fun d H j V=>by
  have e:dk (eg L top base) top=some (e2 top base d):=by rw[mJ,H];rfl
  have vC:=Hr (back:=base) (cY H).2;have AN:=Bh V b8
  by_cases O:base=[]
  .exact⟨0,at2 _,.base e (by rw[vC];exact O)⟩
  .exact⟨vP+1,by have:=bv.resolve_left O;omega,.step e (by rw[vC];exact O) (by rw[vC];exact s6)⟩
 induction h with
 |gone h=>exact⟨0,at2 _,.gone (by rw[mJ,h];rfl)⟩
 | @base n d g1 g2=>
  have e:=(cY g1).2
  by_cases c:n=top
  .subst c;exact xi d g1 (.base g1 g2)
  .exact⟨0,at2 _,.base (d:=d) (by rw[mJ,g1];show some (e2 top base d)=_;rw[xj (by rw[e];exact c)]) g2⟩
 | @step n d j g1 g2 cK bn=>
  have e:=(cY g1).2
  by_cases c:n=top
  .subst c;exact xi d g1 (.step g1 g2 cK)
  .obtain⟨i,aE,H⟩:=bn;exact⟨i+1,aD1,.step (d:=d) (by rw[mJ,g1];show some (e2 top base d)=_;rw[xj (by rw[e];exact c)]) g2 H⟩
def ajg (h:cb z R L):dk L []=none:=by
 cases x:dk L [] with
 |none=>rfl
 |some y=>exact as3 rfl (DW h ⟨y,x⟩)
def M8 (h:cb z R L) {d:aL} (H:dk L top=some d) (aE:hS L top base=true):ip L top base=⟨0,eg L top base⟩:=by
 obtain⟨g1,g2,cK⟩:=Um h H aE;have b8:=(h.b7 top).1;have ce:=(h.b7 base).1
 have bv:base=[]\/cl L base < cl L top:=by
  by_cases e:base=[]
  .exact .inl e
  .rw[mu e] at cK;exact .inr aD1
 have E:top≠base:=fun e=>by
  rcases bv with O |O
  .exact DW h ⟨d,H⟩ (e.trans O)
  .rw[e] at O;omega
 have G:top∉dc L (cl L base) base:=fun ay=>by
  rcases bv with O |O
  .rw[O,show cl L []=0 from ta (.gone (ajg h)) aD1] at ay
   cases ay
  .obtain⟨j,V,ah⟩:=Mm ce top ay;have:=Bh ah b8;omega
 unfold ip;rw[mu,mu,vj]
 .intro n hn;obtain⟨i,aE,lB⟩:=ajf ce b8 bv E G (h.b7 n).1;have:=(h.b7 n).2;rw[ta lB aD1];omega
 .exact fun x=>x.elim E G
 .rintro(x |x)
  .rw[H] at x;cases x
  .rw[ax0] at x;rcases g2 with e |⟨e,U⟩
   .exact(oj x.1) e
   .rw[U] at x;cases x.2
def UN {k:Nat} (h:oK L top base=some k):hS L top base=true/\k < b6 L top/\qb L top base k=true/\ ∀j,j < k->qb L top base j=false:=by
 unfold oK at h
 split at h
 .rename_i O;obtain⟨g1,g2,cK⟩:=List.find?_range_eq_some.1 h;exact⟨O,List.mem_range.1 g2,g1,fun j V=>by simpa using cK j V⟩
 .cases h
def ajh (O:hS L top base=true) (h:oK L top base=none): ∀k,k < b6 L top->qb L top base k=false:=by unfold oK at h;rw[vj O] at h;intro k Z;simpa using List.find?_range_eq_none.1 h k Z
def aji (h: ∀k,k < b6 L top->qb L top base k=false):oK L top base=none:=by
 unfold oK
 split
 .exact List.find?_range_eq_none.2 fun k Z=>by simp[h k Z]
 .rfl
def ajj (h:cb z R L) {t:aG9} {d:aL} {im:bL} (H:dk L t=some d) (au:iL d.im im):kQ (dg L t im none) top base=kQ L top base/\hS (dg L t im none) top base=hS L top base:=by unfold kQ hS;rw[DX h t im none top,yV,(MU L H au).2];exact⟨rfl,rfl⟩
end
def ajk {z R:Nat} {L:aH2} {top base:aG9} (h:cb z R L) {d:aL} (H:dk L top=some d) (aE:hS L top base=true) (hn:oK L top base=none):cb z R (eg L top base)/\lf z (eg L top base) top=lf z L top:=by
 have ax:=M8 h H aE;have y4:=Mw h top base;rw[ax] at y4;have y4:cb z R (eg L top base):=y4;have dz:dk (eg L top base) top=some (e2 top base d):=by rw[mJ,H];rfl
 refine⟨y4,MT ?_ (by rw[dz,H];rfl) fun s au=>?_⟩
 .unfold b6;rw[dz,H];show(e2 top base d).im.t.length=_;rw[DM]
 .have cz:b6 L top=d.im.t.length:=aE5
  rw[cz] at au;have J:s/2 ^z < d.im.t.length:=(aA4 (Nat.two_pow_pos z)).2 au;have:=aiI h H aE (by rw[ax]) J (ajh aE hn _ (by rw[cz];exact J));rw[ax] at this;rw[qa,qa];exact as5 (fun x=>eZ x (s % 2 ^z)) this
end
section
def ac.th {ids:aH0} {K:aZ} {B:aA} (c:Nat) {l l':List bE} (J:aj B c=some (.cells l)) (ak:Fl l l'):ac ids K B K ((c,.cells l')::B):=by
 rintro N C a w ⟨hn,H,ρ,F,al,av⟩
 obtain⟨bC,a2⟩:=al.h8 (w':=w) (ch:=.cells l') J (cZ.refl _ _) fun I a1=>by
  obtain⟨E,aF,T,G,ah⟩:=al.holds c _ J;exact⟨E,aF,T,G,Kl ak (cg.mono a1 _ _ (fun _ _=>rfl) ah)⟩
 exact⟨hn,H,ρ,F,bC,av.mono a2 fun _ _ _=>rfl⟩
def xn (s:bL):Fn prog 119 [ap 1001] (dM s) [] (ab (s.z:Nat)) (dM s):=by refine aY [] func119 ?_;exact bh
end
section
abbrev M9 (top base:aG9) (over:Bool):List bE:=[.ptr 1001 0,.d (.str top),.d (.str base),.mp 2002,.d (.bool over)]
abbrev jk (z R:Int) (L:aH2) (top base:aG9) (l:aH0) (over:Bool):aA:=bT z R L++[(2001,.cells (M9 top base over)),(2002,.map ai ai (gv l))]
def oM (L:aH2) (top:aG9):Int:=if(fB L top).2≠0\/(fB L top).1=[] then 140 else if 1 < (r6 L (fB L top).1).length then 143 else if b6 L (fB L top).1 < b6 L top then 1 else 0
def uw (L:aH2) (top:aG9):aH0:=(List.range (b6 L top)).filter fun k=> !hH L top k
def nW (z n:Nat) (l:aH0) (a aO:Int):aH0:=(List.range n).foldl (fun l k=>if a < ((k*2 ^z+2 ^z:Nat):Int)/\((k*2 ^z:Nat):Int) - aO < a then nu l k else l) l
def q1 (L:aH2) (n:aG9) (k:Nat):Int:=match dk L n with
 |none=>0
 |some d=>(d.im.t.getD k ck).1
def jl (z:Nat) (L:aH2) (top base:aG9) (k:Nat):mK:=if q1 L top k=1 then fq z L base ((k*2 ^z:Nat):Int) (fI z L top (k:Int)) else if q1 L top k=2 then i4 z L base ((k*2 ^z:Nat):Int) ((2 ^z:Nat):Int) else⟨0,L⟩
structure ajl where
 done:Bool
 e:Int
 L:List aL
 l:aH0
 over:Bool
def ft (z:Nat) (L:aH2) (top base:aG9) (l:aH0) (over:Bool):ajl:=if over=true then⟨false,150,L,l,true⟩ else if l=[] then⟨true,0,(h1 L top 0 ((b6 L top*2 ^z:Nat):Int)).L,[],true⟩ else
 ⟨false,(jl z L top base (ek l)).e,(jl z L top base (ek l)).L,if(jl z L top base (ek l)).e=0 then l.erase (ek l) else l,false⟩
section
variable {z R:Nat} {L:aH2} {top base:aG9}
def ajm (z R:Int) (L:aH2) (top base:aG9) (l:aH0) (over:Bool):Fn prog 289 [ap 2001] (jk z R L top base l over) [] (fX over) (jk z R L top base l over):=by refine aY [] func289 ?_;exact bh
def UO (z R:Int) (L:aH2) (top base:aG9) (l:aH0) (over:Bool):Fn prog 291 [ap 2001] (jk z R L top base l over) [] g4 (jk z R L top base [] true):=by refine aY [] func291 ?_;refine bc (UJ rfl underlying159 rfl rfl) ?_;exact⟨_,_,_,ac.th 2001 (l':=M9 top base true) rfl aD,rfl,trivial,aD,rfl⟩
def ajn (z R:Int) (L:aH2) (top base:aG9) (l:aH0) (over:Bool):Fn prog 288 [ap 2001] (jk z R L top base l over) [] g4 (jk z R L top base [] true):=by refine aY [] func288 ?_;exact ar (UO z R L top base l over) bh
def HH (U:oM L top=0):(fB L top).2=0/\(fB L top).1≠[]/\(r6 L (fB L top).1).length<=1/\b6 L top<=b6 L (fB L top).1:=by
 unfold oM at U
 split at U
 .exact as3 U aD2
 .rename_i E
  split at U
  .exact as3 U aD2
  .rename_i G
   split at U
   .exact as3 U aD2
   .rename_i ah;refine⟨ax7 fun e=>E (.inl e),fun e=>E (.inr e),aD1,aD1⟩
def Ea (h:cb z R L) (E:(fB L top).2=0): ∃d,dk L top=some d/\(fB L top).1=d.back/\(d.back≠[]-> ∃e,dk L d.back=some e):=by
 unfold fB at E⊢
 cases H:dk L top with
 |none=>rw[H] at E;exact as3 E aD2
 |some d=>exact⟨d,rfl,rfl,h.iM d (cY H).1⟩
def ajo (h:cb z R L) (top:aG9) (U:oM L top≠0):Fn prog 71 [ap 1001,bW top] (bT z R L) [] (.cn [nf,dJ (oM L top)]) (bT z R L):=by
 have jo:=Hp h top;have uZ:=TR h (fB L top).1;have bx:=fun E=>Ea (top:=top) h E
 have nO:(fB L top).2≠0\/(fB L top).1=[]->oM L top=140:=fun e=>vj e
 have vc: ¬((fB L top).2≠0\/(fB L top).1=[])->1 < (r6 L (fB L top).1).length->oM L top=143:=fun af ao=>(mu af).trans (vj ao)
 have UP: ¬((fB L top).2≠0\/(fB L top).1=[])-> ¬1 < (r6 L (fB L top).1).length->b6 L (fB L top).1 < b6 L top->oM L top=1:=fun af ao bo=>(mu af).trans ((mu ao).trans (vj bo))
 have De: ¬((fB L top).2≠0\/(fB L top).1=[])-> ¬1 < (r6 L (fB L top).1).length-> ¬b6 L (fB L top).1 < b6 L top->oM L top=0:=fun af ao bo=>(mu af).trans ((mu ao).trans (mu bo))
 generalize oM L top=arM at*;generalize fB L top=eE at*;obtain⟨hT,be⟩:=eE;have jo:Fn prog 114 [ap 1001,bW top] (bT z R L) [] (.cn [.one (.d (.str hT)),dJ be]) (bT z R L):=jo;generalize r6 L hT=us at*;refine aY [4,6] func71 ?_;refine ar jo ⟨fun E=>?_,fun E=>?_⟩
 .have E:(!decide (be=0))=true:=E;have E: ¬be=0:=aG2
  exact eN bt rfl ⟨rfl,(nO (.inl E)).symm,trivial⟩
 have E:(!decide (be=0))=false:=E;have E:be=0:=aG2
 refine⟨fun G=>?_,fun G=>?_⟩
 .have G:hT=[]:=gd G;exact eN bt rfl ⟨rfl,(nO (.inr G)).symm,trivial⟩
 have G: ¬hT=[]:=oj G;have hn: ¬(be≠0\/hT=[]):=fun e=>e.elim (fun e=>e E) G
 refine bz [6] (bt) <| ar uZ ⟨fun ah=>?_,fun ah=>?_⟩
 .have ah:decide ((1:Int) < ((us.length:Nat):Int))=true:=ah;have ah:1 < us.length:=by have:=gd ah;omega
  exact eN bt rfl ⟨rfl,(vc hn ah).symm,trivial⟩
 have ah:decide ((1:Int) < ((us.length:Nat):Int))=false:=ah;have ah: ¬1 < us.length:=by have:=oj ah;omega
 obtain⟨d,H,O,hE⟩:=bx E;have O:hT=d.back:=O;obtain⟨e,oN⟩:=hE (by rw[<-O];exact G);rw[<-O] at oN;have md:=h.toi3.M (cY H).1;have M':=h.toi3.M (cY oN).1;have ig:b6 L top=d.im.t.length:=aE5
 have gc:b6 L hT=e.im.t.length:=by unfold b6;rw[oN]
 rw[ig,gc] at UP De;refine bz [] (cM [(0,ap 1001),(1,bW top),(6,bW hT)] (bT z R L)) <| ar (j7 _ _ L h.toi3 hT e oN) <| ar (il (nR e.im) M' rfl rfl rfl rfl) <| ar (j7 _ _ L h.toi3 top d H) <| ar (il (nR d.im) md rfl rfl rfl rfl) ⟨fun aW=>?_,fun aW=>?_⟩
 .have aW:decide (((e.im.t.length:Nat):Int) < ((d.im.t.length:Nat):Int))=true:=aW;have aW:e.im.t.length < d.im.t.length:=by have:=gd aW;omega
  exact eN bt rfl ⟨rfl,(UP hn ah aW).symm,trivial⟩
 .exfalso;have aW:decide (((e.im.t.length:Nat):Int) < ((d.im.t.length:Nat):Int))=false:=aW;have aW: ¬e.im.t.length < d.im.t.length:=by have:=oj aW;omega
  exact U (De hn ah aW)
abbrev ajp (top hT:aG9) (n k:Nat):aZ:=[(0,ap 1001),(1,bW top),(6,bW hT),(8,ap 44),(48,ab (n:Nat)),(49,ab (k:Nat))]
abbrev Na (z R:Int) (L:aH2) (top base:aG9) (l:aH0):aA:=bT z R L++[(44,.cells [.ptr 1001 0,.d (.str top),.d (.str base),.mp 42,.d (.bool false)]),(42,.map ai ai (gv l))]
def UQ (p:Nat->Bool) (k:Nat):(List.range (k+1)).filter p=(List.range k).filter p++if p k=true then[k] else[]:=by
 rw[List.range_succ,List.filter_append]
 cases h:p k with
 |true=>rw[vj rfl,List.filter_cons_of_pos h];rfl
 |false=>rw[mu aD2,List.filter_cons_of_neg (by rw[h];decide)];rfl
def ajq (p:Nat->Bool) (k:Nat) (h:p k=true):nu ((List.range k).filter p) k=(List.range (k+1)).filter p:=by rw[UQ,vj h];unfold nu;rw[mu (fun e=>by have:=List.mem_range.1 (aB9.1 e).1;omega)]
def ajr (h:cb z R L) (top:aG9) (U:oM L top=0):Fn prog 71 [ap 1001,bW top] (bT z R L) [2001,2002] (.cn [.one (.ptr 2001 0),dJ 0]) (jk z R L top (fB L top).1 (uw L top) false):=by
 obtain⟨af,ao,bo,c7⟩:=HH U;obtain⟨d,H,O,hE⟩:=Ea h af;obtain⟨e,oN⟩:=hE (by rw[<-O];exact ao);rw[<-O] at oN;have md:=h.toi3.M (cY H).1;have M':=h.toi3.M (cY oN).1;have nT:=(h.gp d (cY H).1).1.eY;have ig:b6 L top=d.im.t.length:=aE5
 have gc:b6 L (fB L top).1=e.im.t.length:=by unfold b6;rw[oN]
 have HI:uw L top=(List.range d.im.t.length).filter fun k=> !hH L top k:=by unfold uw;rw[ig]
 have ajs: ∀k,k < d.im.t.length->hH L top k=decide ((d.im.t.getD k ck).1=0):=fun k Z=>by
  unfold hH;rw[H];show(decide (d.im.t.length<=k)||_)=_;rw[av7 aD1];rfl
 rw[ig,gc] at c7;rw[HI];have jo:=Hp h top;have uZ:=TR h (fB L top).1;have ajt:=ajq (fun k=> !hH L top k);have aju:=fun k (Z:hH L top k=true)=>UQ (fun k=> !hH L top k) k
 generalize fB L top=eE at*;obtain⟨hT,be⟩:=eE;have af:be=0:=af;have ao: ¬hT=[]:=ao;have bo:(r6 L hT).length<=1:=bo;subst af;have jo:Fn prog 114 [ap 1001,bW top] (bT z R L) [] (.cn [.one (.d (.str hT)),dJ 0]) (bT z R L):=jo;have uZ:Fn prog 115 [ap 1001,bW hT] (bT z R L) [] (bP .str (r6 L hT)) (bT z R L):=uZ;generalize r6 L hT=us at*;refine aY [4,6,8,9] func71 ?_;refine ar jo <| dE ⟨fun G=>as3 (gd G) ao,fun _=>bz [6,8,9] (cM [(0,ap 1001),(1,bW top),(6,bW hT)] (bT z R L)) <| ar uZ ⟨fun ah=>?_,fun _=>?_⟩⟩
 .exfalso;have ah:decide ((1:Int) < ((us.length:Nat):Int))=true:=ah;have:=gd ah;omega
 refine bz [8,9] (cM [(0,ap 1001),(1,bW top),(6,bW hT)] (bT z R L)) <| ar (j7 _ _ L h.toi3 hT e oN) <| ar (il (nR e.im) M' rfl rfl rfl rfl) <| ar (j7 _ _ L h.toi3 top d H) <| ar (il (nR d.im) md rfl rfl rfl rfl) ⟨fun aW=>?_,fun _=>?_⟩
 .exfalso;have aW:decide (((e.im.t.length:Nat):Int) < ((d.im.t.length:Nat):Int))=true:=aW;have:=gd aW;omega
 refine bz [9] (cM [(0,ap 1001),(1,bW top),(6,bW hT)] (bT z R L)) ⟨rfl,rfl,bz [] (ac.trans (ac.th 44 (l':=[.ptr 1001 0,.d (.str top),.d (.str hT),.mp 42,.d (.bool false)]) rfl aD) (cM [(0,ap 1001),(1,bW top),(6,bW hT),(8,ap 44)] (Na z R L top hT []))) <| ar (j7 _ _ L h.toi3 top d H) <| ar (il (nR d.im) md rfl rfl rfl rfl) <| d1 [12,13] (X:=Nat) (fun k=>ajp top hT d.im.t.length k) (fun k=>Na z R L top hT ((List.range k).filter fun k=> !hH L top k)) (fun k=>k<=d.im.t.length) (fun k=>d.im.t.length - k) 0 (at2 _) ?_ ?_⟩
 .exact ac.sub aD aD
 intro k Z;have Z:k<=d.im.t.length:=Z;refine⟨fun J=>?_,fun J=>?_⟩
 .have J:decide ((k:Int) < ((d.im.t.length:Nat):Int))=true:=J;have he:k < d.im.t.length:=aF4
  have bd:=ajs k he;refine bz [13] (bt) <| ar (j7 _ _ L h.toi3 top d H) <| ar (il (AY d.im nT k he) md rfl rfl rfl rfl) ⟨fun bM=>?_,fun bM=>?_⟩
  .have bM:(!decide ((d.im.t.getD k ck).1=0))=true:=bM;have r4:=ajt k (by show(!hH L top k)=true;rw[bd];exact bM);exact bz [] (cM [(0,ap 1001),(1,bW top),(6,bW hT),(8,ap 44),(48,ab (d.im.t.length:Nat)),(49,ab (k:Nat)),(9,ab (k:Nat))] (Na z R L top hT ((List.range k).filter fun k=> !hH L top k))) ⟨trivial,aD1,k+1,he,aD1,ac.sub aD ⟨rfl,rfl,rfl,rfl,rfl,as5 (fun aB=>some (ba.map ai ai aB)) ((D9 k _).trans (as5 gv r4)),trivial⟩⟩
  .have bM:(!decide ((d.im.t.getD k ck).1=0))=false:=bM;have HJ:hH L top k=true:=by rw[bd];simpa using bM
   have au:=aju k HJ;rw[mu (by rw[HJ];decide),av8] at au;exact⟨aD1,k+1,he,aD1,ac.sub aD ⟨rfl,rfl,rfl,rfl,rfl,as5 (fun aB=>some (ba.map ai ai (gv aB))) au.symm,trivial⟩⟩
 .have J:decide ((k:Int) < ((d.im.t.length:Nat):Int))=false:=J;have he:k=d.im.t.length:=aF0
  subst he;exact⟨_,_,_,ac.trans (ac.aX 44 2001 rfl) (ac.aX 42 2002 rfl),rfl,aD,aD,rfl⟩
end
section
variable {z R:Nat} {L:aH2} {top base:aG9}
def HK (z n:Nat) (l:aH0) (a aO:Int):nW z (n+1) l a aO=if a < ((n*2 ^z+2 ^z:Nat):Int)/\((n*2 ^z:Nat):Int) - aO < a then nu (nW z n l a aO) n else nW z n l a aO:=by unfold nW;rw[List.range_succ,aC2];rfl
def q2 (z:Nat) (L:aH2) (top:aG9) (l:aH0) (over:Bool) (a aO:Int):aH0:=if over=true\/aO < 1 then l else nW z (b6 L top) l a aO
abbrev ajv (am:Nat) (a aO:Int) (n k:Nat):aZ:=[(0,ap 2001),(1,ab a),(2,ab aO),(6,dy am),(31,ab (n:Nat)),(32,ab (k:Nat))]
def ajw (h:cb z R L) (base:aG9) (l:aH0) (over:Bool) (a aO:Int) (vQ:aO<=9223372036854775807) {d:aL} (H:dk L top=some d):Fn prog 102 [ap 2001,ab a,ab aO] (jk z R L top base l over) [] g4 (jk z R L top base (q2 z L top l over a aO) over):=by
 have nT:=(h.gp d (cY H).1).1.eY;have fO:=h.toi3.M (cY H).1;have kF:d.im.z=z:=(h.gp d (cY H).1).2.1;have ae:=js h.b3;have y7:=h.b3;have cz:b6 L top=d.im.t.length:=aE5
 cases over with
 |true=>
  have e:q2 z L top l true a aO=l:=vj (.inl rfl);rw[e];refine aY [] func102 ?_;exact ar (j7 _ _ L h.toi3 top d H) ⟨rfl,fm bh⟩
 |false=>
  have af:aO < 1->q2 z L top l false a aO=l:=fun e=>vj (.inr e)
  have ao: ¬aO < 1->q2 z L top l false a aO=nW z d.im.t.length l a aO:=fun e=>(mu (fun c=>c.elim (fun c=>by cases c) e)).trans (by rw[cz])
  have av:=fun k=>HK z k l a aO
  have arN:nW z 0 l a aO=l:=rfl;generalize q2 z L top l false a aO=ky at*
  have pC: ∀k:Nat,(k:Int)*((2 ^((d.im.z:Nat):Int).toNat:Nat):Int)=((k*2 ^z:Nat):Int):=fun k=>by
   rw[kF];show(k:Int)*((2 ^z:Nat):Int)=_;rw[az8]
  have sa:(1:Int)*((2 ^((d.im.z:Nat):Int).toNat:Nat):Int)=((2 ^z:Nat):Int):=by
   have:=pC 1;rw[Nat.one_mul] at this;exact this
  refine aY [2] func102 ?_;refine ar (j7 _ _ L h.toi3 top d H) ⟨rfl,dE ⟨fun _ _=>⟨fun ak=>?_,fun ak=>?_⟩,fun h=>by cases h⟩⟩
  .have ak:aO < 1:=gd ak;exact sY bt rfl trivial ⟨rfl,rfl,rfl,rfl,rfl,as5 (fun aB=>some (ba.map ai ai (gv aB))) (af ak).symm,trivial⟩ rfl
  have ak: ¬aO < 1:=oj ak;have ao:=ao ak;refine bz [] (cM [(0,ap 2001),(1,ab a),(2,ab aO),(6,dy d.am)] (jk z R L top base l false)) <| ar (il (nR d.im) fO rfl rfl rfl rfl) <| d1 [6,7] (X:=Nat) (fun k=>ajv d.am a aO d.im.t.length k) (fun k=>jk z R L top base (nW z k l a aO) false) (fun k=>k<=d.im.t.length) (fun k=>d.im.t.length - k) 0 (at2 _) ?_ ?_
  .exact ac.sub aD aD
  intro k Z;have Z:k<=d.im.t.length:=Z;refine⟨fun J=>?_,fun J=>?_⟩
  .have J:decide ((k:Int) < ((d.im.t.length:Nat):Int))=true:=J;have he:k < d.im.t.length:=aF4
   have UR:=pC k;have US:=av k;have mk:k*2 ^z<=256*8:=ax9 aD1 ae.2;have m1:(0:Int)<=(k:Int)/\(0:Int)<=((d.im.z:Nat):Int)/\((d.im.z:Nat):Int)<=64:=aD9
   have m2:c8 ((k:Int)*((2 ^((d.im.z:Nat):Int).toNat:Nat):Int)):=by rw[UR];omega
   have c0:(0:Int)<=(1:Int)/\(0:Int)<=((d.im.z:Nat):Int)/\((d.im.z:Nat):Int)<=64:=aD9
   have d5:c8 ((1:Int)*((2 ^((d.im.z:Nat):Int).toNat:Nat):Int)):=by rw[sa];omega
   have lO:c8 (((k*2 ^z:Nat):Int)+(1:Int)*((2 ^((d.im.z:Nat):Int).toNat:Nat):Int)):=by rw[sa];omega
   have s5:c8 (((k*2 ^z:Nat):Int) - aO):=aD9
   have UT:((k*2 ^z:Nat):Int)+(1:Int)*((2 ^((d.im.z:Nat):Int).toNat:Nat):Int)=((k*2 ^z+2 ^z:Nat):Int):=by rw[sa];omega
   refine ar (il (xn d.im) fO rfl rfl rfl rfl) ⟨m1,m2,bz [7] (ac.sub (K':=[(0,ap 2001),(1,ab a),(2,ab aO),(6,dy d.am),(31,ab (d.im.t.length:Nat)),(32,ab (k:Nat)),(7,ab (k:Nat)),(8,ab ((k*2 ^z:Nat):Int))]) (B':=jk z R L top base (nW z k l a aO) false) ⟨rfl,rfl,rfl,rfl,rfl,rfl,rfl,UR,trivial⟩ aD) <| ar (il (xn d.im) fO rfl rfl rfl rfl) ⟨c0,d5,lO,?_⟩⟩;have Bz:(¬(a < ((k*2 ^z+2 ^z:Nat):Int)/\((k*2 ^z:Nat):Int) - aO < a))->nW z k l a aO=nW z (k+1) l a aO:=fun e=>by rw[US,mu e]
   refine⟨fun cD=>?_,fun cD=>?_⟩
   .have cD:decide (a < ((k*2 ^z:Nat):Int)+(1:Int)*((2 ^((d.im.z:Nat):Int).toNat:Nat):Int))=true:=cD;have cD:=gd cD;rw[UT] at cD;refine⟨s5,fun cv=>?_,fun cv=>?_⟩
    .have cv:decide (((k*2 ^z:Nat):Int) - aO < a)=true:=cv;have cv:=gd cv;have aQ:nu (nW z k l a aO) k=nW z (k+1) l a aO:=by rw[US,vj ⟨cD,cv⟩]
     exact bz [] (cM [(0,ap 2001),(1,ab a),(2,ab aO),(6,dy d.am),(31,ab (d.im.t.length:Nat)),(32,ab (k:Nat)),(7,ab (k:Nat))] (jk z R L top base (nW z k l a aO) false)) ⟨trivial,aD1,k+1,he,aD1,ac.sub aD ⟨rfl,rfl,rfl,rfl,rfl,as5 (fun aB=>some (ba.map ai ai aB)) ((D9 k _).trans (as5 gv aQ)),trivial⟩⟩
    .have cv:decide (((k*2 ^z:Nat):Int) - aO < a)=false:=cv;have cv:=oj cv;exact⟨aD1,k+1,he,aD1,ac.sub aD ⟨rfl,rfl,rfl,rfl,rfl,as5 (fun aB=>some (ba.map ai ai (gv aB))) (Bz fun e=>cv e.2),trivial⟩⟩
   .have cD:decide (a < ((k*2 ^z:Nat):Int)+(1:Int)*((2 ^((d.im.z:Nat):Int).toNat:Nat):Int))=false:=cD;have cD:=oj cD;rw[UT] at cD;exact⟨aD1,k+1,he,aD1,ac.sub aD ⟨rfl,rfl,rfl,rfl,rfl,as5 (fun aB=>some (ba.map ai ai (gv aB))) (Bz fun e=>cD e.1),trivial⟩⟩
  .have J:decide ((k:Int) < ((d.im.t.length:Nat):Int))=false:=J;have he:k=d.im.t.length:=aF0
   subst he;exact sY bt rfl trivial ⟨rfl,rfl,rfl,rfl,rfl,as5 (fun aB=>some (ba.map ai ai (gv aB))) ao.symm,trivial⟩ rfl
abbrev HL (z R:Int) (L:aH2) (top base:aG9) (l:aH0) (x y:Int):aA:=jk z R L top base l false++[(3001,.cells [.ptr 2001 0]),(3002,.cells [.d (.int .i64 x)]),(3003,.cells [.d (.int .i64 y)])]
def ajx (h:cb z R L) (base:aG9) (l:aH0) (a:Int) (k:Nat) {d:aL} (H:dk L top=some d) (Z:k < d.im.t.length):Fn prog 294 [ap 3001,ap 3002,ap 3003] (HL z R L top base l a (k:Int)) [] (ab (fq z L base a (fI z L top (k:Int))).e) (HL z R (fq z L base a (fI z L top (k:Int))).L top base l a (k:Int)):=by
 have dW:=Mx h top (k:Int);have ae:=js h.b3
 have bX:(fI z L top (k:Int)).length<=1000000000:=by
  have:fI z L top (k:Int)=fi z L top (cl L top) k:=by
   unfold fI;rw[H];simp only;rw[vj ⟨aD1,aD1⟩];rfl
  rw[this,xe h.tonV H (h.b7 top).1 k];omega
 have HM:=Mt h base a (fI z L top (k:Int)) bX;generalize fI z L top (k:Int)=x at*;generalize fq z L base a x=r at*;refine aY [] func294 ?_;exact ar dW <| ar HM ⟨rfl,bh⟩
def ajy (h:cb z R L) (top base:aG9) (l:aH0) (a aO:Int):Fn prog 295 [ap 3001,ap 3002,ap 3003] (HL z R L top base l a aO) [] (ab (i4 z L base a aO).e) (HL z R (i4 z L base a aO).L top base l a aO):=by have ajz:=TP h base a aO;generalize i4 z L base a aO=r at*;refine aY [] func295 ?_;exact ar ajz ⟨rfl,bh⟩
abbrev Eb (z R:Int) (L:aH2) (top base:aG9) (l:aH0) (k a aO:Int) (eG fz fJ hi:Nat) (es:List (aa ai×aa .fn)):aA:=jk z R L top base l false++[(4,.cells [.ptr 2001 0]),(5,.cells [.d (.int .i64 k)]),(6,.cells [.d (.int .i64 a)]),(7,.cells [.d (.int .i64 aO)]),(9004,.b7 4 (fp eG)),(9005,.b7 5 (fp fz)),(9006,.b7 6 (fp fJ)),(9007,.b7 7 (fp hi)),(12,.aH (Bw es))]
def sb (eG fz fJ hi:Nat):List (aa ai×aa .fn):=dx (aI:=ai) (aK:=.fn) (dx (aI:=ai) (aK:=.fn) [] (1:Int) (294,[eG,fJ,fz])) (2:Int) (295,[eG,fJ,hi])
def ajA (eG fz fJ hi:Nat):b0 (aI:=ai) (aK:=.fn) (sb eG fz fJ hi) (1:Int)=some (294,[eG,fJ,fz]):=rfl
def ajB (eG fz fJ hi:Nat):b0 (aI:=ai) (aK:=.fn) (sb eG fz fJ hi) (2:Int)=some (295,[eG,fJ,hi]):=rfl
def ajC (eG fz fJ hi:Nat) {x:Int} (E:x≠1) (G:x≠2):b0 (aI:=ai) (aK:=.fn) (sb eG fz fJ hi) x=none:=by have af:fT ai x (1:Int)=false:=av7 E;have ao:fT ai x (2:Int)=false:=av7 G;have e:sb eG fz fJ hi=[(@Prod.mk (aa ai) (aa .fn) (1:Int) (294,[eG,fJ,fz])),(@Prod.mk (aa ai) (aa .fn) (2:Int) (295,[eG,fJ,hi]))]:=rfl;rw[e];simp only[b0,af,ao]
def ajD (h:cb z R L) (base:aG9) (l:aH0) (k:Nat) (a aO:Int) (ha:a=((k*2 ^z:Nat):Int)) (aU:aO=((2 ^z:Nat):Int)) {d:aL} (H:dk L top=some d) (Z:k < d.im.t.length):Fn prog 293 [ap 2001,ab (k:Int),ab a,ab aO] (jk z R L top base l false) [] (ab (jl z L top base k).e) (jk z R (jl z L top base k).L top base l false):=by
 have nT:=(h.gp d (cY H).1).1.eY;have fO:=h.toi3.M (cY H).1;have vR:q1 L top k=(d.im.t.getD k ck).1:=by unfold q1;rw[H]
 have vS:=AY d.im nT k Z;rw[<-vR] at vS;have hd:=ajx h base l a k H Z;have fk:=ajy h top base l a aO
 by_cases cD:q1 L top k=1
 .have e:jl z L top base k=fq z L base a (fI z L top (k:Int)):=by rw[ha];exact vj cD
  rw[e];rw[cD] at vS;generalize fq z L base a (fI z L top (k:Int))=r at*;refine aY [1,2,3,5] func293 ?_;refine⟨rfl,rfl,rfl,rfl,bw.ff (dv.mark 4 9004 rfl aD2) fun eG=>bw.ff (dv.mark 5 9005 rfl aD2) fun fz=>bw.ff (dv.mark 6 9006 rfl aD2) fun fJ=>bw.ff (dv.mark 7 9007 rfl aD2) fun hi=>bz [2,3,5] (bt) ⟨rfl,bc (Bx (m1:=9004) (m2:=9006) (m3:=9005) (b1:=eG) (b2:=fJ) (b3:=fz) (ch':=.map ai .fn (dx (aI:=ai) (aK:=.fn) [] (1:Int) (294,[eG,fJ,fz]))) rfl underlying352 underlying3 rfl rfl rfl rfl rfl rfl rfl (.inl rfl) (.inl rfl)) ?_⟩⟩;refine bc (Bx (m1:=9004) (m2:=9006) (m3:=9007) (b1:=eG) (b2:=fJ) (b3:=hi) (ch':=.aH (Bw (sb eG fz fJ hi))) rfl underlying352 underlying3 rfl rfl rfl rfl rfl rfl rfl (.inl rfl) (.inr rfl)) ?_;refine bz [3,5] (cM [(4,ap 4),(5,ap 5),(6,ap 6),(7,ap 7),(9,.c (.one (.mp 12)))] (Eb z R L top base l k a aO eG fz fJ hi (sb eG fz fJ hi))) <| ar (j7 _ _ L h.toi3 top d H) <| ar (il vS fO rfl rfl rfl rfl) <| bc (M3 fa (ti:=_) rfl underlying352 underlying3 rfl rfl rfl rfl (ajA eG fz fJ hi)) ?_;exact⟨rfl,bz [5] (cM [(10,.c (.one (.d (.fn (294,[eG,fJ,fz]))))),(11,qx true)] (Eb z R L top base l k a aO eG fz fJ hi (sb eG fz fJ hi))) <| bw.le (ac.UL 10 294 4 6 5 9004 9006 9005 eG fJ fz rfl rfl rfl rfl) <| bz [] (bt) <| ar (Fn.aX [(3001,4),(3002,6),(3003,5)] hd) bh⟩
 by_cases cv:q1 L top k=2
 .have e:jl z L top base k=i4 z L base a aO:=by rw[ha,aU];exact(mu cD).trans (vj cv)
  rw[e];rw[cv] at vS;generalize i4 z L base a aO=r at*;refine aY [1,2,3,5] func293 ?_;refine⟨rfl,rfl,rfl,rfl,bw.ff (dv.mark 4 9004 rfl aD2) fun eG=>bw.ff (dv.mark 5 9005 rfl aD2) fun fz=>bw.ff (dv.mark 6 9006 rfl aD2) fun fJ=>bw.ff (dv.mark 7 9007 rfl aD2) fun hi=>bz [2,3,5] (bt) ⟨rfl,bc (Bx (m1:=9004) (m2:=9006) (m3:=9005) (b1:=eG) (b2:=fJ) (b3:=fz) (ch':=.map ai .fn (dx (aI:=ai) (aK:=.fn) [] (1:Int) (294,[eG,fJ,fz]))) rfl underlying352 underlying3 rfl rfl rfl rfl rfl rfl rfl (.inl rfl) (.inl rfl)) ?_⟩⟩;refine bc (Bx (m1:=9004) (m2:=9006) (m3:=9007) (b1:=eG) (b2:=fJ) (b3:=hi) (ch':=.aH (Bw (sb eG fz fJ hi))) rfl underlying352 underlying3 rfl rfl rfl rfl rfl rfl rfl (.inl rfl) (.inr rfl)) ?_;refine bz [3,5] (cM [(4,ap 4),(5,ap 5),(6,ap 6),(7,ap 7),(9,.c (.one (.mp 12)))] (Eb z R L top base l k a aO eG fz fJ hi (sb eG fz fJ hi))) <| ar (j7 _ _ L h.toi3 top d H) <| ar (il vS fO rfl rfl rfl rfl) <| bc (M3 fa (ti:=_) rfl underlying352 underlying3 rfl rfl rfl rfl (ajB eG fz fJ hi)) ?_;exact⟨rfl,bz [5] (cM [(10,.c (.one (.d (.fn (295,[eG,fJ,hi]))))),(11,qx true)] (Eb z R L top base l k a aO eG fz fJ hi (sb eG fz fJ hi))) <| bw.le (ac.UL 10 295 4 6 7 9004 9006 9007 eG fJ hi rfl rfl rfl rfl) <| bz [] (bt) <| ar (Fn.aX [(3001,4),(3002,6),(3003,7)] fk) bh⟩
 .have e:jl z L top base k=⟨0,L⟩:=(mu cD).trans (mu cv);rw[e];have hw:=fun eG fz fJ hi=>ajC eG fz fJ hi cD cv
  generalize q1 L top k=cP at*;refine aY [1,2,3,5] func293 ?_;refine⟨rfl,rfl,rfl,rfl,bw.ff (dv.mark 4 9004 rfl aD2) fun eG=>bw.ff (dv.mark 5 9005 rfl aD2) fun fz=>bw.ff (dv.mark 6 9006 rfl aD2) fun fJ=>bw.ff (dv.mark 7 9007 rfl aD2) fun hi=>bz [2,3,5] (bt) ⟨rfl,bc (Bx (m1:=9004) (m2:=9006) (m3:=9005) (b1:=eG) (b2:=fJ) (b3:=fz) (ch':=.map ai .fn (dx (aI:=ai) (aK:=.fn) [] (1:Int) (294,[eG,fJ,fz]))) rfl underlying352 underlying3 rfl rfl rfl rfl rfl rfl rfl (.inl rfl) (.inl rfl)) ?_⟩⟩;refine bc (Bx (m1:=9004) (m2:=9006) (m3:=9007) (b1:=eG) (b2:=fJ) (b3:=hi) (ch':=.aH (Bw (sb eG fz fJ hi))) rfl underlying352 underlying3 rfl rfl rfl rfl rfl rfl rfl (.inl rfl) (.inr rfl)) ?_;refine bz [3,5] (cM [(4,ap 4),(5,ap 5),(6,ap 6),(7,ap 7),(9,.c (.one (.mp 12)))] (Eb z R L top base l k a aO eG fz fJ hi (sb eG fz fJ hi))) <| ar (j7 _ _ L h.toi3 top d H) <| ar (il vS fO rfl rfl rfl rfl) <| bc (M3 fa (ti:=_) rfl underlying352 underlying3 rfl rfl rfl rfl (hw eG fz fJ hi)) ?_;exact⟨rfl,bz [5] (cM [(11,qx false)] (jk z R L top base l false)) bh⟩
end
section
variable {z R:Nat} {L:aH2} {top base:aG9}
def ajE (h:cb z R L) (base:aG9) (l:aH0) (over:Bool) {d:aL} (H:dk L top=some d) (ak: ∀k,k∈l->k < d.im.t.length) (hn:l.Nodup):Fn prog 290 [ap 2001] (jk z R L top base l over) [] (.cn [.one (.d (.bool (ft z L top base l over).done)),dJ (ft z L top base l over).e]) (jk z R (ft z L top base l over).L top base (ft z L top base l over).l (ft z L top base l over).over):=by
 have nT:=(h.gp d (cY H).1).1.eY;have fO:=h.toi3.M (cY H).1;have kF:d.im.z=z:=(h.gp d (cY H).1).2.1;have y7:=h.b3;have ae:=js h.b3
 cases over with
 |true=>
  have e:ft z L top base l true=⟨false,150,L,l,true⟩:=vj rfl;rw[e];refine aY [] func290 ?_;exact ar (j7 _ _ L h.toi3 top d H) ⟨rfl,fm bh⟩
 |false=>
  have sa:(1:Int)*((2 ^((d.im.z:Nat):Int).toNat:Nat):Int)=((2 ^z:Nat):Int):=by
   rw[kF,Int.one_mul];rfl
  have c0:(0:Int)<=(1:Int)/\(0:Int)<=((d.im.z:Nat):Int)/\((d.im.z:Nat):Int)<=64:=aD9
  have d5:c8 ((1:Int)*((2 ^((d.im.z:Nat):Int).toNat:Nat):Int)):=by rw[sa];omega
  by_cases a8:l=[]
  .have cz:b6 L top=d.im.t.length:=aE5
   have e:ft z L top base l false=⟨true,0,(h1 L top 0 ((d.im.t.length*2 ^z:Nat):Int)).L,[],true⟩:=by
    unfold ft;rw[mu aD2,vj a8,cz]
   rw[e];subst a8;have h9:=TQ h top 0 ((d.im.t.length*2 ^z:Nat):Int);have arO:=ahJ h top 0 ((d.im.t.length*2 ^z:Nat):Int);have mk:d.im.t.length*2 ^z<=256*8:=ax9 nT ae.2;have em:((d.im.t.length:Nat):Int)*((2 ^z:Nat):Int)=((d.im.t.length*2 ^z:Nat):Int):=by rw[az8]
   have m3:c8 (((d.im.t.length:Nat):Int)*((2 ^z:Nat):Int)):=by rw[em];omega
   rw[<-em] at h9⊢;generalize h1 L top 0 (((d.im.t.length:Nat):Int)*((2 ^z:Nat):Int))=r at*;refine aY [4,6,7] func290 ?_;exact ar (j7 _ _ L h.toi3 top d H) ⟨rfl,dE ⟨fun _ _=>bz [6,7] (cM [(0,ap 2001),(4,dy d.am)] (jk z R L top base [] false)) <| ar (il (xn d.im) fO rfl rfl rfl rfl) ⟨c0,d5,fm <| bz [7] (ac.sub (K':=[(0,ap 2001),(4,dy d.am),(5,ab ((2 ^z:Nat):Int))]) (B':=jk z R L top base [] false) ⟨rfl,rfl,sa,trivial⟩ aD) <| ar (il (nR d.im) fO rfl rfl rfl rfl) ⟨m3,ar h9 ⟨rfl,bz [] (cM [(0,ap 2001)] (jk z R r.L top base [] false)) <| ar (UO z R r.L top base [] false) bh⟩⟩⟩,fun h=>by cases h⟩⟩
  .have e:ft z L top base l false=⟨false,(jl z L top base (ek l)).e,(jl z L top base (ek l)).L,if(jl z L top base (ek l)).e=0 then l.erase (ek l) else l,false⟩:=by
    unfold ft;rw[mu aD2,mu a8]
   rw[e];obtain⟨cB,cH,dO⟩:=D' a8;have Z:=ak _ cH
   have Cf: ∀g:{hq:List Int//hq.Perm (hh (gv l))},pB g.1=((ek l:Nat):Int):=fun g=>by
    rw[UH g.2 (by rw[vO];simpa using a8),vO];exact cB
   have vs: ∀g:{hq:List Int//hq.Perm (hh (gv l))},g.1.length=l.length:=fun g=>by
    rw[g.2.length_eq,vO,at8]
   have nh:l.length<=256:=by
    have:=HA d.im.t.length l hn ak;omega
   have nN:0 < l.length:=List.length_pos_iff.2 a8;have rI:=M4 l;have Nb:=UF (gv l) (M6 hn) (M7 fun k Z=>by have:=ak k Z;omega) aD1;have mk:ek l*2 ^z<=256*8:=ax9 aD1 ae.2;have em:((ek l:Nat):Int)*((2 ^z:Nat):Int)=((ek l*2 ^z:Nat):Int):=by rw[az8]
   have m3:c8 (((ek l:Nat):Int)*((2 ^z:Nat):Int)):=by rw[em];omega
   have ajF:=ajD h base l (ek l) _ _ em rfl H Z;have dz:=M5 (ek l) l;generalize ek l=sc at*;generalize jl z L top base sc=r at*;refine aY [4,9,10,12] func290 ?_;refine ar (j7 _ _ L h.toi3 top d H) ⟨rfl,dE ⟨fun _ _=>bz [9,10,12] (cM [(0,ap 2001),(4,dy d.am)] (jk z R L top base l false)) <| ar (il (xn d.im) fO rfl rfl rfl rfl) ⟨c0,d5,fun J=>?_,fun _=>?_⟩,fun h=>by cases h⟩⟩
   .exfalso;have J:decide ((((gv l).length:Nat):Int)=0)=true:=J;have:=gd J;omega
   refine bw.le (ac.sub (K':=[(0,ap 2001),(5,ab ((2 ^z:Nat):Int))]) (B':=jk z R L top base l false) ⟨rfl,sa,trivial⟩ aD) <| bw.iJ fa aD4 <| lM ((Fn.aX [(1001,2002),(2001,9001)] (M0 (gv l))).x) fun _=>lM (cC.aX [(1001,2002),(2001,9001)] Nb) fun g=>?_
   have ajG:=vs g;have Ec:=Cf g;refine lM ((UI g.1 aD1 aD1).x) fun _=>bz [12] (ac.sub (K':=[(0,ap 2001),(5,ab ((2 ^z:Nat):Int)),(6,ab (sc:Nat))]) (B':=jk z R L top base l false) ⟨rfl,rfl,Ec,trivial⟩ aD) ⟨m3,ar ajF ⟨fun U=>?_,fun U=>?_⟩⟩
   .have U:r.e=0:=gd U;exact bz [] (cM [(0,ap 2001),(6,ab (sc:Nat)),(7,ab r.e)] (jk z R r.L top base l false)) <| sY bt rfl aD ⟨rfl,rfl,rfl,rfl,rfl,as5 (fun aB=>some (ba.map ai ai aB)) (dz.trans (as5 gv (vj U).symm)),trivial⟩ rfl
   .have U: ¬r.e=0:=oj U;exact sY bt rfl aD ⟨rfl,rfl,rfl,rfl,rfl,as5 (fun aB=>some (ba.map ai ai (gv aB))) (mu U).symm,trivial⟩ rfl
end
end
section
section
variable {z R:Nat} {L:aH2} {top base:aG9} {l:aH0}
structure lU (z R:Nat) (L:aH2) (top:aG9) (l:aH0):Prop where
 cs:cb z R L
 iM:(dk L top).isSome=true
 lt: ∀k,k∈l->k < b6 L top
 ho:l.Nodup
def lU.sd {L':aH2} {t:aG9} (h:lU z R L top l) (ak:i5 L t L'):lU z R L' top l:=⟨ak.cs h.cs,by rw[(ak.aR top).2];exact h.iM,fun k Z=>by rw[(ak.aR top).1];exact h.lt k Z,h.ho⟩
def Ed (h:cb z R L) (top base:aG9) (k:Nat):i5 L base (jl z L top base k).L:=by
 unfold jl
 split
 .exact vK h _ _ _
 .split
  .exact Br h _ _ _
  .exact .inl rfl
def lU.step (h:lU z R L top l) (base:aG9) (over:Bool):lU z R (ft z L top base l over).L top (ft z L top base l over).l:=by
 unfold ft
 split
 .exact h
 .split
  .exact⟨(h.sd (tg h.cs _ _ _)).cs,(h.sd (tg h.cs _ _ _)).iM,fun k Z=>(by cases Z),ay9⟩
  .have E:=h.sd (Ed h.cs top base (ek l));refine⟨E.cs,E.iM,fun k Z=>E.lt k ?_,?_⟩
   .have Z:k∈(if(jl z L top base (ek l)).e=0 then l.erase (ek l) else l):=Z
    split at Z
    .exact List.mem_of_mem_erase Z
    .exact Z
   .show(if(jl z L top base (ek l)).e=0 then l.erase (ek l) else l).Nodup
    split
    .exact h.ho.erase _
    .exact h.ho
def lU.BA (h:cb z R L) (U:oM L top=0):lU z R L top (uw L top):=by obtain⟨d,H,_⟩:=Ea h (HH U).1;exact⟨h,by rw[H];rfl,fun k Z=>List.mem_range.1 (aB9.1 Z).1,List.nodup_range.filter _⟩
def lU.get (h:lU z R L top l): ∃d,dk L top=some d/\ ∀k,k∈l->k < d.im.t.length:=by obtain⟨d,H⟩:=av9.1 h.iM;refine⟨d,H,fun k Z=>?_⟩;have:=h.lt k Z;unfold b6 at this;rw[H] at this;exact this
def lU.Nc (h:lU z R L top l) (base:aG9) (over:Bool):Fn prog 290 [ap 2001] (jk z R L top base l over) [] (.cn [.one (.d (.bool (ft z L top base l over).done)),dJ (ft z L top base l over).e]) (jk z R (ft z L top base l over).L top base (ft z L top base l over).l (ft z L top base l over).over):=
 let⟨_,H,ak⟩:=h.get
 ajE h.cs base l over H ak h.ho
def ajH {z n:Nat} {l:aH0} {a aO:Int}: ∀{k:Nat},k∈nW z n l a aO->k∈l\/k < n:=by
 induction n with
 |zero=>exact fun h=>.inl h
 |succ n bn=>
  intro k Z;rw[HK] at Z
  split at Z
  .rcases vN.1 Z with Z |rfl
   .exact(bn Z).imp id aD1
   .exact .inr aD1
  .exact(bn Z).imp id aD1
def ajI {z n:Nat} {l:aH0} {a aO:Int} (h:l.Nodup):(nW z n l a aO).Nodup:=by
 induction n with
 |zero=>exact h
 |succ n bn=>
  rw[HK]
  split
  .exact UM bn
  .exact bn
def lU.wr (h:lU z R L top l) (over:Bool) (a aO:Int):lU z R L top (q2 z L top l over a aO):=by
 unfold q2
 split
 .exact h
 .exact⟨h.cs,h.iM,fun k Z=>(ajH Z).elim (h.lt k) id,ajI h.ho⟩
end
section
variable {z R:Nat} {L:aH2} {top base nm:aG9} {l:aH0}
def UU {d:aL} (H:dk L top=some d) {k:Nat} (Z:k < d.im.t.length):fI z L top (k:Int)=fi z L top (cl L top) k:=by unfold fI;rw[H];simp only;rw[vj ⟨aD1,aD1⟩];rfl
structure lC (z R:Nat) (L:aH2) (top base:aG9) (l:aH0):Prop extends lU z R L top l where
 vP:(dk L base).isSome=true
 le:b6 L top<=b6 L base
 eE:fB L top=(base,0)
 ne:base≠[]
def lC.BA (h:cb z R L) (U:oM L top=0):lC z R L top (fB L top).1 (uw L top):=by obtain⟨af,ao,bo,c7⟩:=HH U;obtain⟨d,H,O,hE⟩:=Ea h af;obtain⟨e,oN⟩:=hE (by rw[<-O];exact ao);rw[<-O] at oN;exact⟨lU.BA h U,by rw[oN];rfl,c7,by rw[<-af],ao⟩
def i5.fB {L':aH2} {t:aG9} (ak:i5 L t L') (n:aG9):fB L' n=fB L n:=by
 rcases ak with rfl |⟨d,im,aw,au,rfl⟩
 .rfl
 .unfold Go.Proofs.YtkfbeijmgggkmaaGreat.fB;rw[vE]
  cases H:dk L n with
  |none=>rfl
  |some d=>show(_,_)=(_,_);rw[yU]
def lC.sd {L':aH2} {t:aG9} (h:lC z R L top base l) (ak:i5 L t L'):lC z R L' top base l:=⟨h.tolU.sd ak,by rw[(ak.aR base).2];exact h.vP,by rw[(ak.aR base).1,(ak.aR top).1];exact h.le,by rw[ak.fB];exact h.eE,h.ne⟩
def lC.step (h:lC z R L top base l) (over:Bool):lC z R (ft z L top base l over).L top base (ft z L top base l over).l/\ ∃t,i5 L t (ft z L top base l over).L:=by
 have ay:=h.tolU.step base over
 have ak: ∃t,i5 L t (ft z L top base l over).L:=by
  unfold ft
  split
  .exact⟨top,.inl rfl⟩
  .split
   .exact⟨top,tg h.cs _ _ _⟩
   .exact⟨base,Ed h.cs top base _⟩
 refine⟨?_,ak⟩;obtain⟨t,ak⟩:=ak;have E:=h.sd ak;exact⟨ay,E.vP,E.le,E.eE,E.ne⟩
def lC.wr (h:lC z R L top base l) (over:Bool) (a aO:Int):lC z R L top base (q2 z L top l over a aO):=⟨h.tolU.wr over a aO,h.vP,h.le,h.eE,h.ne⟩
end
def gw (z:Nat) (L:aH2) (nm:aG9) (s:Nat):aG9:=jw z L nm (cl L nm) s
def se (z:Nat) (L:aH2) (top base:aG9) (l:aH0):Prop:= ∀s,s < b6 L top*2 ^z->s/2 ^z∉l->gw z L top s=gw z L base s
section
variable {z R:Nat} {L L':aH2} {top base t:aG9} {l:aH0}
def lC.dk (h:lC z R L top base l): ∃d,Go.Proofs.YtkfbeijmgggkmaaGreat.dk L top=some d/\d.back=base:=by
 have O:=h.eE;unfold fB at O
 cases H:Go.Proofs.YtkfbeijmgggkmaaGreat.dk L top with
 |none=>rw[H] at O;exact as3 (as5 Prod.snd O) (show¬(140:Int)=0 by decide)
 |some d=>
  rw[H] at O;exact⟨d,rfl,as5 Prod.fst O⟩
def xo {L L':aH2} {n n':aG9} {s:Nat} (h:fi z L' n' (cl L' n') (s/2 ^z)=fi z L n (cl L n) (s/2 ^z)):gw z L' n' s=gw z L n s:=by unfold gw;rw[qa,qa,h]
def Ee (h:cb z R L) {d:aL} (H:dk L top=some d) (a8:d.back≠[]) {c:Nat} (aN:(d.im.t.getD c ck).1=0):fi z L top (cl L top) c=fi z L d.back (cl L d.back) c:=by rw[Bq H (fun e=>e.2 aN),MK h H a8,MI H]
def Nd {d:aL} (H:dk L top=some d) {cP c:Nat} (J:c < d.im.t.length) (aN:(d.im.t.getD c ck).1≠0):fi z L top cP c=ep d.im c none:=by unfold fi;rw[Hx H ⟨J,aN⟩]
def Ef {n s:Nat} (h:s < n*2 ^z):s/2 ^z < n:=(aA4 (Nat.two_pow_pos z)).2 h
def ajJ (h:cb z R L) (ak:i5 L base L') {d:aL} (H:dk L top=some d) (O:d.back=base) (a8:base≠[]):dk L' top=some d/\cb z R L'/\ ∀s,s < b6 L top*2 ^z->
  ((d.im.t.getD (s/2 ^z) ck).1≠0->gw z L' top s=gw z L top s)/\((d.im.t.getD (s/2 ^z) ck).1=0->gw z L' top s=gw z L' base s/\gw z L top s=gw z L base s):=by
 subst O;have s6:=MM h H a8;have fG:=ak.cs h
 have dC:dk L' top=some d:=by
  rcases ak with rfl |⟨e,im,aw,au,rfl⟩
  .exact H
  .rw[DO (fun e=>s6.ne e.symm),H]
 refine⟨dC,fG,fun s au=>⟨fun aN=>?_,fun aN=>?_⟩⟩
 .have J:=Ef au;have cz:b6 L top=d.im.t.length:=aE5
  rw[cz] at J;exact xo (by rw[Nd dC J aN,Nd H J aN])
 .exact⟨xo (Ee fG dC a8 aN),xo (Ee h H a8 aN)⟩
def sf {k s:Nat}:(k*2 ^z<=s/\s < k*2 ^z+2 ^z)↔s/2 ^z=k:=by have ae:=Nat.two_pow_pos z;rw[Nat.div_eq_iff ae];have:(k+1)*2 ^z=k*2 ^z+2 ^z:=az3 ..;omega
def Nf {k s:Nat} (h:s/2 ^z=k):s - k*2 ^z=s % 2 ^z:=by have E:=Nat.div_add_mod s (2 ^z);rw[h,aB2] at E;omega
def ajK (h:lC z R L top base l) {k:Nat} (Z:k < b6 L top) (U:(jl z L top base k).e=0) (s:Nat):gw z (jl z L top base k).L base s=if s/2 ^z=k then gw z L top s else gw z L base s:=by
 obtain⟨d,H,O⟩:=h.dk;have ae:=js h.cs.b3;have cz:b6 L top=d.im.t.length:=aE5
 have vR:q1 L top k=(d.im.t.getD k ck).1:=by unfold q1;rw[H]
 rw[cz] at Z;have aq:=(h.cs.gp d (cY H).1).1
 by_cases cD:q1 L top k=1
 .have e:jl z L top base k=fq z L base ((k*2 ^z:Nat):Int) (fI z L top (k:Int)):=vj cD;rw[e,UU H Z] at U⊢;have hw:=Hz h.cs U s;have bX:(fi z L top (cl L top) k).length=16*2 ^z:=xe h.cs.tonV H (h.cs.b7 top).1 k;rw[bX,show 16*2 ^z/16=2 ^z by omega] at hw;have hw:gw z (fq z L base ((k*2 ^z:Nat):Int) (fi z L top (cl L top) k)).L base s=if k*2 ^z<=s/\s < k*2 ^z+2 ^z then eZ (fi z L top (cl L top) k) (s - k*2 ^z) else gw z L base s:=hw
  rw[hw]
  by_cases c:s/2 ^z=k
  .rw[vj (sf.2 c),vj c,Nf c];unfold gw;rw[qa,c]
  .rw[mu (fun e=>c (sf.1 e)),mu c]
 .by_cases cv:q1 L top k=2
  .have e:jl z L top base k=i4 z L base ((k*2 ^z:Nat):Int) ((2 ^z:Nat):Int):=(mu cD).trans (vj cv);rw[e] at U⊢;have hw:gw z (i4 z L base ((k*2 ^z:Nat):Int) ((2 ^z:Nat):Int)).L base s=if k*2 ^z<=s/\s < k*2 ^z+2 ^z then List.replicate 16 0 else gw z L base s:=MR h.cs U s
   rw[hw]
   by_cases c:s/2 ^z=k
   .rw[vj (sf.2 c),vj c];unfold gw;rw[qa,c,Nd H Z (by rw[<-vR,cv];decide)];have aU:d.im.t[k]? =some d.im.t[k]:=as0 Z;have od:d.im.t.getD k ck=d.im.t[k]:=by rw[as7,aU];rfl
    have aQ:d.im.t[k]? =some um:=by
     rcases aq.slot k _ aU with e |e |⟨x,e,_⟩
     .rw[od,e] at vR;rw[vR] at cv;exact as3 cv aD2
     .rw[aU,e]
     .rw[od,e] at vR;rw[vR] at cv;exact as3 cv (show¬(1:Int)=2 by decide)
    rw[MP aQ];unfold i2;rw[y3 h.cs H,Ue];have:=Nat.mod_lt s (Nat.two_pow_pos z);omega
   .rw[mu (fun e=>c (sf.1 e)),mu c]
  .have e:jl z L top base k=⟨0,L⟩:=(mu cD).trans (mu cv);rw[e];show gw z L base s=_
   split
   .rename_i c;have aU:d.im.t[k]? =some d.im.t[k]:=as0 Z;have od:d.im.t.getD k ck=d.im.t[k]:=by rw[as7,aU];rfl
    have aN:(d.im.t.getD k ck).1=0:=by
     rcases aq.slot k _ aU with e |e |⟨x,e,_⟩
     .rw[od,e]
     .exact as3 (by rw[vR,od,e]) cv
     .exact as3 (by rw[vR,od,e]) cD
    subst O;exact(xo (by rw[c];exact Ee h.cs H h.ne aN)).symm
   .rfl
def ajL (h:cb z R L) (U:oM L top=0):se z L top (fB L top).1 (uw L top):=fun s au hn=>by
 obtain⟨af,ao,_⟩:=HH U;obtain⟨d,H,O,_⟩:=Ea h af;have J:=Ef au
 have bd:hH L top (s/2 ^z)=true:=by
  cases e:hH L top (s/2 ^z) with
  |true=>rfl
  |false=>exact as3 (aB9.2 ⟨List.mem_range.2 J,by rw[e];rfl⟩) hn
 have cz:b6 L top=d.im.t.length:=aE5
 unfold hH at bd;rw[H] at bd;have bd:(decide (d.im.t.length<=s/2 ^z)||decide ((d.im.t.getD (s/2 ^z) ck).1=0))=true:=bd;rw[av7 aD1,Bool.false_or] at bd;rw[O] at ao⊢;exact xo (Ee h H ao (gd bd))
def ajM (h:lC z R L top base l) (az:se z L top base l) {k:Nat} (Z:k < b6 L top) (U:(jl z L top base k).e=0):se z (jl z L top base k).L top base (l.erase k)/\ ∀s,s < b6 L top*2 ^z->gw z (jl z L top base k).L top s=gw z L top s:=by
 obtain⟨d,H,O⟩:=h.dk;have k6:=Ed h.cs top base k;obtain⟨b',cS,en⟩:=ajJ h.cs k6 H O h.ne;have bl:=ajK h Z U
 have b8: ∀s,s < b6 L top*2 ^z->gw z (jl z L top base k).L top s=gw z L top s:=fun s au=>by
  by_cases aN:(d.im.t.getD (s/2 ^z) ck).1=0
  .obtain⟨g1,g2⟩:=(en s au).2 aN;rw[g1,bl]
   split
   .rfl
   .exact g2.symm
  .exact(en s au).1 aN
 refine⟨fun s au hn=>?_,b8⟩;rw[(k6.aR top).1] at au;rw[b8 s au,bl]
 split
 .rfl
 .rename_i c;exact az s au fun ay=>hn ((List.mem_erase_of_ne c).2 ay)
def ajN (h:lC z R L top base []) (az:se z L top base []):se z (h1 L top 0 ((b6 L top*2 ^z:Nat):Int)).L top base []/\(∀s,s < b6 L top*2 ^z->gw z (h1 L top 0 ((b6 L top*2 ^z:Nat):Int)).L top s=gw z L top s)/\ ∀k,k < b6 L top->q1 (h1 L top 0 ((b6 L top*2 ^z:Nat):Int)).L top k=0:=by
 obtain⟨d,H,O⟩:=h.dk;subst O;have aq:=(h.cs.gp d (cY H).1).1;have cz:b6 L top=d.im.t.length:=aE5
 have dK:b6 L top*2 ^z=fh d.im:=by rw[y1 h.cs H,cz]
 have k6:=tg h.cs top 0 ((b6 L top*2 ^z:Nat):Int);have fG:=k6.cs h.cs;have s6:=MM h.cs H h.ne;obtain⟨_,g5,nl⟩:=k6.off h.cs s6
 have cO:(h1 L top 0 ((b6 L top*2 ^z:Nat):Int)).L=dg L top (A1 d.im 0 (fh d.im)) none:=by
  unfold h1;rw[H];simp only;rw[dK,mu (fun bd=>bd (Uc aq (as2 _)))];rfl
 have dC:dk (h1 L top 0 ((b6 L top*2 ^z:Nat):Int)).L top=some {d with im:=A1 d.im 0 (fh d.im),cX:=none}:=by rw[cO];exact xh H _ _
 have Z: ∀k,k < b6 L top->((A1 d.im 0 (fh d.im)).t.getD k ck).1=0:=fun k Z=>by
  rw[as7,aiu aq aD1];rfl
 have cQ: ∀s,gw z (h1 L top 0 ((b6 L top*2 ^z:Nat):Int)).L d.back s=gw z L d.back s:=fun s=>xo (nl _)
 have b8: ∀s,s < b6 L top*2 ^z->gw z (h1 L top 0 ((b6 L top*2 ^z:Nat):Int)).L top s=gw z L d.back s:=fun s au=>by
  rw[<-cQ];exact xo (Ee fG dC h.ne (Z _ (Ef au)))
 refine⟨fun s au _=>?_,fun s au=>?_,fun k eX=>?_⟩
 .rw[(k6.aR top).1] at au;rw[b8 s au,cQ]
 .rw[b8 s au];exact(az s au aD3).symm
 .unfold q1;rw[dC];exact Z k eX
def UV {n:Nat} {l:aH0} {a aO:Int} {k:Nat} (h:k∈l\/(k < n/\a < ((k*2 ^z+2 ^z:Nat):Int)/\((k*2 ^z:Nat):Int) - aO < a)):k∈nW z n l a aO:=by
 induction n with
 |zero=>
  rcases h with h |h
  .exact h
  .exact as3 h.1 (aB8 _)
 |succ n bn=>
  rw[HK]
  by_cases c:k=n
  .rcases h with h |⟨E,G⟩
   .have:=bn (.inl h)
    split
    .exact vN.2 (.inl this)
    .exact this
   .subst c;rw[vj G];exact vN.2 (.inr rfl)
  .have:=bn (h.imp id fun h=>⟨aD1,h.2⟩)
   split
   .exact vN.2 (.inl this)
   .exact this
def ajO (h:lC z R L top base l) (az:se z L top base l) {a N:Nat} (k6:i5 L top L') (hw: ∀s,¬(a<=s/\s < a+N)->gw z L' top s=gw z L top s):se z L' top base (q2 z L' top l false (a:Int) (N:Int)):=fun s au hn=>by
 obtain⟨d,H,O⟩:=h.dk;subst O;obtain⟨_,g5,nl⟩:=k6.off h.cs (MM h.cs H h.ne);rw[(k6.aR top).1] at au;have cQ:gw z L' d.back s=gw z L d.back s:=xo (nl _);unfold q2 at hn
 by_cases g9:(N:Int) < 1
 .rw[vj (.inr g9)] at hn;rw[cQ,hw s aD1];exact az s au hn
 .rw[mu (by rintro(e |e);cases e;exact g9 e)] at hn;have E:s/2 ^z∉l:=fun e=>hn (UV (.inl e))
  rw[cQ,hw s fun⟨r1,r2⟩=>hn (UV (.inr ⟨by rw[(k6.aR top).1];exact Ef au,?_,?_⟩))]
  .exact az s au E
  .have:=(sf (z:=z)).2 (rfl:s/2 ^z=s/2 ^z);omega
  .have:=(sf (z:=z)).2 (rfl:s/2 ^z=s/2 ^z);omega
def UW (au:b6 L' top=b6 L top) (Z:(dk L' top).isSome=(dk L top).isSome) (h: ∀s,s < b6 L top*2 ^z->gw z L' top s=gw z L top s):lf z L' top=lf z L top:=MT au Z h
def ajP (z:Nat) (L:aH2) (top base:aG9):ft z L top base [] false=⟨true,0,(h1 L top 0 ((b6 L top*2 ^z:Nat):Int)).L,[],true⟩:=rfl
def ajQ (h:cb z R L) {k:Nat} (U:(jl z L top base k).e≠0):(jl z L top base k).L=L:=by
 unfold jl at U⊢
 split at U
 .rename_i c;rw[vj c];exact D0 h U
 .rename_i c;rw[mu c]
  split at U
  .rename_i c;rw[vj c];exact HB h U
  .rename_i c;rw[mu c]
def UX (h:lC z R L top base l) (az:se z L top base l):se z (ft z L top base l false).L top base (ft z L top base l false).l/\lf z (ft z L top base l false).L top=lf z L top:=by
 by_cases a8:l=[]
 .subst a8;rw[ajP];obtain⟨g1,g2,_⟩:=ajN h az;have k6:=tg h.cs top 0 ((b6 L top*2 ^z:Nat):Int);exact⟨g1,UW (k6.aR top).1 (k6.aR top).2 g2⟩
 .unfold ft;rw[mu aD2,mu a8]
  by_cases U:(jl z L top base (ek l)).e=0
  .rw[vj U];obtain⟨g1,g2⟩:=ajM h az (h.lt _ (D' a8).2.1) U;have k6:=Ed h.cs top base (ek l);exact⟨g1,UW (k6.aR top).1 (k6.aR top).2 g2⟩
  .rw[mu U,ajQ h.cs U];exact⟨az,rfl⟩
end
section
variable {z R:Nat} {L:aH2} {top base:aG9} {l:aH0}
end
end
section
open Go.RowKit Go.Proofs Go.Maps Go.Shelf Go.MapKept Tryz
open Go.WideElems (Fit rd rg pl rd_val rd_key rg_of)
abbrev i6:bB:=.cc .u8
def y8:Int->Int->Bool:=fun x y=>decide (x<=y)
def nv (l:aI2):List Int:=l.mergeSort y8
def y9 (l:aI2):(nv l).Perm l:=List.mergeSort_perm l y8
def UY (m:Nat):AnyZI.SortsIn prog Td Fence.wide m:=
 ⟨fun bm off cap hq W c4 ko cz=>callsIn_wide.2 (AnyM.slices_Sort_int Tf bm off cap hq W c4 ko cz),
  fun p cap W=>callsIn_wide.2 (AnyM.slices_Sort_int_none Tf p cap W)⟩
def ajR (es:List (aa ai×aa i6)):Fn prog 168 [.c (.one (.mp 1001))] [(1001,.map ai i6 es)] [2001] (.c (.one (.c3 208 [.p 2001 0]))) [(2001,.cells [.mp 1001]),(1001,.map ai i6 es)]:=by refine aY [] func168 ?_;exact⟨rfl,_,_,_,ac.aX 1 2001 rfl,rfl,rfl,aD,rfl⟩
def ajS (es:aH1) (hn:(hh es).Nodup) (ak: ∀s∈hh es,(Lit.int .i64 s).wf=true) (au:es.length<=4294967296):
  Fn prog 154 [.c (.one (.c3 201 [.p 2001 0]))] [(2001,.cells [.mp 1001]),(1001,.map ai ai es)] [] (bP ai (nv (hh es))) [(2001,.cells [.mp 1001]),(1001,.map ai ai es)]:=by
 refine⟨aD4,fun ρ F I w bZ a1 c4 bj eQ bX dI=>?_⟩
 match bZ,bX with
 | [v],_=>
  obtain⟨aF,az,gH,r,hP,mG,ax⟩:=dI 0 _ v rfl rfl;have ax:r=[]:=ax;have mG:gH= .pointer (some ⟨(ρ 2001).bm,0,none⟩):=mG;subst ax mG hP az;obtain⟨_,aF,T,hd,hP⟩:=c4 2001 _ rfl;obtain⟨x,r,hP,hx,ax⟩:=hP;have ax:r=[]:=ax;have hx:x= .map (some (ρ 1001).bm):=hx;subst ax hx hP;obtain⟨_,bV,bY,fk,ay,cQ⟩:=c4 1001 _ rfl;have Hf:(4294967296:Nat)<=maxLen:=by decide
  obtain⟨jO,dN,cz,pw⟩:=MZ (P:=prog) (k:=3) aD4 fk ay cQ hn ak aD1;have bv:(ρ 2001).bm < w.heap.size:=mr hd
  have vD:SeqGives Fence.wide 2 prog 201 #[.pointer (some ⟨(ρ 2001).bm,0,none⟩)] encZ (fun hq=>hq.Perm (intKeys jO)) (Maps.size jO) w:=
   AnyZI.keys_gives (ρ:=L5) {Tb with} Fence.wide _ trivial rfl aD1 (ρ 2001).bm (ρ 1001).bm es.length jO w bv (pd hd rfl) dN
  have J:=AnyZI.sorted_in Te Fence.wide 5 trivial trivial trivial trivial rfl aD1 (UY _) (enters_of func200 aD4 rfl) 201 #[.pointer (some ⟨(ρ 2001).bm,0,none⟩)] trivial (enters_of func201 aD4 rfl) _ _ aF7 aF7 _ vD;refine(callsIn_wide.1 J).mono ?_;rintro e w' ⟨v,hq,rfl,av,gm,yP,gV⟩;have a2:cp I w (fun b=>b < w'.heap.size/\(I b\/w.heap.size<=b)) w':=fun b f4=>⟨⟨au2 (a1 b f4) gV.size,.inl f4⟩,gV.block b (a1 b f4)⟩
  refine⟨v,ρ,F,rfl,cZ.pP gV,fun _ _=>rfl,_,a2,fun b h=>⟨h.1,h.2.imp id .inr⟩,fun c ch J=>Holds.cr a2 (fun b O=>gV.block b (bj c ch J b O).1) gV.size ch (fun _ _=>rfl) (c4 c ch J),fun c ch J b O=>?_,fun c ca ch ch' b E G=>eQ c ca ch ch' b E G,?_⟩
  .have:=bj c ch J b O;exact⟨au2 this.1 gV.size,fun h=>(by rcases h.2 with h |h;exact this.2 h;omega),.inl ⟨c,ch,J,O⟩⟩
  .have Z:hq.mergeSort (fun x y=>decide (x<=y))=nv (hh es):=Go.mergeSort_of_perm_i (av.trans pw);rw[Z] at gm;have hN:=gl.sA gm;have xf:hq.length=(nv (hh es)).length:=by rw[<-Z,List.length_mergeSort]
   rw[xf] at hN;exact(hN.zT fun i _ aE=>(gm.lt i aE).1).M1 fun b E G=>⟨E,.inr G⟩
def ajT (es:List (aa ai×aa i6)) (hn:(hh es).Nodup) (ak: ∀s∈hh es,(Lit.int .i64 s).wf=true) (au:es.length<=4294967296):
  Fn prog 154 [.c (.one (.c3 208 [.p 2001 0]))] [(2001,.cells [.mp 1001]),(1001,.map ai i6 es)] [] (bP ai (nv (hh es))) [(2001,.cells [.mp 1001]),(1001,.map ai i6 es)]:=by
 refine⟨aD4,fun ρ F I w bZ a1 c4 bj eQ bX dI=>?_⟩
 match bZ,bX with
 | [v],_=>
  obtain⟨aF,az,gH,r,hP,mG,ax⟩:=dI 0 _ v rfl rfl;have ax:r=[]:=ax;have mG:gH= .pointer (some ⟨(ρ 2001).bm,0,none⟩):=mG;subst ax mG hP az;obtain⟨_,aF,T,hd,hP⟩:=c4 2001 _ rfl;obtain⟨x,r,hP,hx,ax⟩:=hP;have ax:r=[]:=ax;have hx:x= .map (some (ρ 1001).bm):=hx;subst ax hx hP;obtain⟨_,bV,bY,fk,ay,cQ⟩:=c4 1001 _ rfl;have Hf:(4294967296:Nat)<=maxLen:=by decide
  obtain⟨jO,dN,cz,pw⟩:=MZ (P:=prog) (k:=3) aD4 fk ay cQ hn ak aD1;have bv:(ρ 2001).bm < w.heap.size:=mr hd
  have vD:SeqGives Fence.wide 2 prog 208 #[.pointer (some ⟨(ρ 2001).bm,0,none⟩)] encZ (fun hq=>hq.Perm (intKeys jO)) (Maps.size jO) w:=
   AnyZI.keys_gives (ρ:=Tc) {agI with} Fence.wide _ trivial rfl aD1 (ρ 2001).bm (ρ 1001).bm es.length jO w bv (pd hd rfl) dN
  have J:=AnyZI.sorted_in Te Fence.wide 5 trivial trivial trivial trivial rfl aD1 (UY _) (enters_of func200 aD4 rfl) 208 #[.pointer (some ⟨(ρ 2001).bm,0,none⟩)] trivial (enters_of func208 aD4 rfl) _ _ aF7 aF7 _ vD;refine(callsIn_wide.1 J).mono ?_;rintro e w' ⟨v,hq,rfl,av,gm,yP,gV⟩;have a2:cp I w (fun b=>b < w'.heap.size/\(I b\/w.heap.size<=b)) w':=fun b f4=>⟨⟨au2 (a1 b f4) gV.size,.inl f4⟩,gV.block b (a1 b f4)⟩
  refine⟨v,ρ,F,rfl,cZ.pP gV,fun _ _=>rfl,_,a2,fun b h=>⟨h.1,h.2.imp id .inr⟩,fun c ch J=>Holds.cr a2 (fun b O=>gV.block b (bj c ch J b O).1) gV.size ch (fun _ _=>rfl) (c4 c ch J),fun c ch J b O=>?_,fun c ca ch ch' b E G=>eQ c ca ch ch' b E G,?_⟩
  .have:=bj c ch J b O;exact⟨au2 this.1 gV.size,fun h=>(by rcases h.2 with h |h;exact this.2 h;omega),.inl ⟨c,ch,J,O⟩⟩
  .have Z:hq.mergeSort (fun x y=>decide (x<=y))=nv (hh es):=Go.mergeSort_of_perm_i (av.trans pw);rw[Z] at gm;have hN:=gl.sA gm;have xf:hq.length=(nv (hh es)).length:=by rw[<-Z,List.length_mergeSort]
   rw[xf] at hN;exact(hN.zT fun i _ aE=>(gm.lt i aE).1).M1 fun b E G=>⟨E,.inr G⟩
end
section
section
variable {P:aH6} {N:Nat} {ids:aH0} {K:aZ} {B:aA} {o:Oper}
abbrev za (f b:Nat):aS:=.c (.one (.bN (.func (.func f) #[.pointer (some ⟨b,0,none⟩)] #[])))
def j' {f:aI5} {x:aH8} {d m b:Nat} (ag:o.op= .makeFunc (.func f) #[x] #[]) (hx:a7 K x= .c (.one (.ptr d 0))) (ay:aj B m=some (.b7 d (fp b))) (N:Nat):bD P N ids o K B (za f b) ⟨[m],[],[]⟩:=by
 have m1:x∈o.op.operands:=aD8
 refine bD.val fun K' B' g1 g2 C ρ F a w al av=>?_
 have af:=av.ptr ((g1 x m1).trans hx);have ao:=p5 (N:=N) (a:=a) al ((g2 m aD3).trans ay);rw[ao] at af;refine⟨.func (.func f) #[.pointer (some ⟨b,0,none⟩)] #[],?_,rfl⟩;simp[execOp,ag,Instr.makeFunc,af]
def ajU {f:aI5} {c:Call} {t b:Nat} {xs:aJ4} {aJ:aA} {res:aS} {aT:aA} (ag:o.op= .call c) (E:c.callee= .value (.tmp t)) (G:c.args.toList=xs) (ak:dR K t=za f b) (hf:Fn P f (.c (.one (.d (.aM (some b))))::xs.map (a7 K)) aJ [] res aT) (ib:lq B aJ) (bx:m0 aJ [] aT=true) (N:Nat):
  bD P N ids o K B res ⟨ct aJ,[],iW aJ aT⟩:=by
 have mem: ∀aB∈xs,aB∈o.op.operands:=fun aB aN=>by
  rw[ag];simp only[Op.operands,Call.operands,aA9];exact .inr (aB7.1 (by rw[G];exact aN))
 have x':Operand.tmp t∈o.op.operands:=by
  rw[ag];simp only[Op.operands,Call.operands,aA9,E];exact .inl aD3
 obtain⟨v,e,⟨rfl,rfl⟩,aq,_⟩:cN P N ids o K B (fun v e=>v=res/\e=⟨ct aJ,[],iW aJ aT⟩):=CB (args:=.c (.one (.d (.aM (some b))))::xs.map (a7 K)) mem (fun K' ρ I a w g1 av=>by
  have az:=av t;have Z:dR K' t=dR K t:=g1 (.tmp t) x';rw[Z,ak] at az;have e:a.tmps.getD t undef= .func (.func f) #[.pointer (some ⟨b,0,none⟩)] #[]:=az;refine⟨.pointer (some ⟨b,0,none⟩)::xs.map a.eval,fun gf=>RB gf ag E G e,aD3,fun i v x az hx=>?_⟩
  match i with
  |0=>
   simp only[at9,as9] at az hx;subst az hx;exact rfl
  |i+1=>exact Al mem g1 av i v x aF3 aG5) ⟨aJ,[],res,aT,hf,ib,by rw[bx];rfl,by rw[sD];exact⟨rfl,rfl⟩⟩
 exact aq
end
abbrev Eg (p:Nat×aG9):aa ai×aa i6:=@Prod.mk Int aG9 (p.1:Int) p.2
abbrev ka (g:aH3):List (aa ai×aa i6):=g.map Eg
def UZ (g:aH3):(ka g).length=g.length:=at8 _
def ajV {l:List (aa ai×aa i6)} {p:aa ai×aa i6} {k:Int} {x:aG9} (h:fT ai k p.1=false):dx (aI:=ai) (aK:=i6) (p::l) k x=p::dx (aI:=ai) (aK:=i6) l k x:=by simp only[dx,h]
def U0 (k:Nat) (x:aG9): ∀g:List (Nat×aG9),k∉g.map Prod.fst->dx (aI:=ai) (aK:=i6) (ka g) (k:Int) x=ka (g++[(k,x)])
 | [],_=>rfl
 |p::g,h=>by
  rw[au1,as8,not_or] at h;refine(ajV (p:=Eg p) (l:=ka g) ((By k p.1).trans (av7 h.1))).trans ?_;rw[U0 k x g h.2];rfl
abbrev Eh (nm:aG9) (bi n rm:Int) (over done:Bool):List bE:=[.ptr 1001 0,.d (.str nm),.d (.int .i64 bi),.d (.int .i64 n),.d (.int .i64 rm),.mp 2002,.mp 2003,.d (.bool over),.d (.bool done)]
abbrev iO (z R:Int) (L:aH2) (nm:aG9) (n rm:Int) (l:aH0) (g:aH3) (over done:Bool):aA:=bT z R L++[(2001,.cells (Eh nm z n rm over done)),(2002,.map ai ai (gv l)),(2003,.map ai i6 (ka g))]
section
variable {z R:Nat} {L:aH2} {nm:aG9}
def ajW (z R:Int) (L:aH2) (nm:aG9) (n rm:Int) (l:aH0) (g:aH3) (over done:Bool):Fn prog 296 [ap 2001] (iO z R L nm n rm l g over done) [] (fX over) (iO z R L nm n rm l g over done):=by refine aY [] func296 ?_;exact bh
def ajX (z R:Int) (L:aH2) (nm:aG9) (n rm:Int) (l:aH0) (g:aH3) (over done:Bool):Fn prog 78 [ap 2001] (iO z R L nm n rm l g over done) [] (fX done) (iO z R L nm n rm l g over done):=by refine aY [] func78 ?_;exact bh
def U1 (z R:Int) (L:aH2) (nm:aG9) (n rm:Int) (l:aH0) (g:aH3) (over done:Bool):Fn prog 198 [ap 2001] (iO z R L nm n rm l g over done) [] g4 (iO z R L nm n rm [] g true done):=by refine aY [] func198 ?_;refine bc (UJ rfl underlying159 rfl rfl) ?_;exact⟨_,_,_,ac.th 2001 (l':=Eh nm z n rm true done) rfl aD,rfl,trivial,aD,rfl⟩
structure ajY where
 e:Int
 l:aH0
 g:List (Nat×aG9)
 over:Bool
def dS (z:Nat) (L:aH2) (nm:aG9) (rm:Int) (l:aH0) (g:aH3) (k:Nat):ajY:=if rm<=((g.length:Nat):Int) then⟨171,[],g,true⟩ else⟨0,l.erase k,g++[(k,fI z L nm (k:Int))],false⟩
def ajZ (h:cb z R L) (nm:aG9) (n rm:Int) (l:aH0) (g:aH3) (done:Bool) (k:Nat) (Z:k∉g.map Prod.fst):Fn prog 153 [ap 2001,ab (k:Int)] (iO z R L nm n rm l g false done) [] (ab (dS z L nm rm l g k).e) (iO z R L nm n rm (dS z L nm rm l g k).l (dS z L nm rm l g k).g (dS z L nm rm l g k).over done):=by
 have dW:=Mx h nm (k:Int);have bX:=UZ g;have r4:=U0 k (fI z L nm (k:Int)) g Z;have dz:=M5 k l
 by_cases c:rm<=((g.length:Nat):Int)
 .have e:dS z L nm rm l g k=⟨171,[],g,true⟩:=vj c;rw[e];refine aY [2] func153 ?_;refine⟨rfl,fun _=>?_,fun bd=>?_⟩
  .show bw _ _ _ _ _ _ _;exact bz [] (bt) <| ar (U1 z R L nm n rm l g false done) bh
  .exfalso;have bd:decide (rm<=(((ka g).length:Nat):Int))=false:=bd;have:=oj bd;omega
 .have e:dS z L nm rm l g k=⟨0,l.erase k,g++[(k,fI z L nm (k:Int))],false⟩:=mu c;rw[e];generalize fI z L nm (k:Int)=x at*;refine aY [4] func153 ?_;refine⟨rfl,fun bd=>?_,fun _=>?_⟩
  .exfalso;have bd:decide (rm<=(((ka g).length:Nat):Int))=true:=bd;have:=gd bd;omega
  exact bz [] (bt) <| ar dW ⟨trivial,rfl,sY bt rfl rfl ⟨rfl,rfl,rfl,rfl,rfl,as5 (fun aB=>some (ba.map ai ai aB)) dz,as5 (fun aB=>some (ba.map ai i6 aB)) r4,trivial⟩ rfl⟩
abbrev ux (z R:Int) (L:aH2) (nm:aG9) (n rm:Int) (l:aH0) (g:aH3) (over done:Bool) (b:Nat):aA:=iO z R L nm n rm l g over done++[(9001,.b7 2001 (fp b))]
def U2 (h:cb z R L) (nm:aG9) (n rm:Int) (l:aH0) (g:aH3) (done:Bool) (k:Nat) (Z:k∉g.map Prod.fst) (b:Nat):Fn prog 153 [.c (.one (.d (.aM (some b)))),ab (k:Int)] (ux z R L nm n rm l g false done b) [] (ab (dS z L nm rm l g k).e) (ux z R L nm n rm (dS z L nm rm l g k).l (dS z L nm rm l g k).g (dS z L nm rm l g k).over done b):=by
 have J:=ajZ h nm n rm l g done k Z;generalize dS z L nm rm l g k=r at*
 refine Fn.via (X:=Unit) (args':=fun _=>[ap 2001,ab (k:Int)]) (vA:=fun _=>ux z R L nm n rm l g false done b) (nH:=fun _=>iO z R L nm n rm l g false done) (jK:=fun _=>[]) (res':=fun _=>ab r.e) (oF:=fun _=>iO z R L nm n rm r.l r.g r.over done)
  aD4 2 rfl ?_ (fun _=>J) (fun _=>aD) (fun _=>rfl) (fun _=>rfl) ?_
 .intro N C a w au;exact⟨(),fe.sub (ac.LM 0 2001 9001 b rfl rfl N C a w au) aD aD⟩
 .intro _;exact⟨ab r.e,ux z R L nm n rm r.l r.g r.over done b,ac.sub aD aD,rfl,aD,rfl⟩
structure aj0 where
 up:Bool
 e:Int
 l:aH0
 g:List (Nat×aG9)
 over:Bool
 done:Bool
def kz (z:Nat) (L:aH2) (nm:aG9) (rm:Int) (l:aH0) (g:aH3) (over done:Bool):aj0:=if over=true then⟨false,170,l,g,true,done⟩ else if l=[] then⟨true,0,[],g,true,true⟩ else
 ⟨false,(dS z L nm rm l g (ek l)).e,(dS z L nm rm l g (ek l)).l,(dS z L nm rm l g (ek l)).g,(dS z L nm rm l g (ek l)).over,done⟩
def aj1 (h:cb z R L) (nm:aG9) (n rm:Int) (l:aH0) (g:aH3) (over done:Bool) (ak: ∀k,k∈l->k<=100000) (qA:l.length<=100000) (hn:l.Nodup) (aU: ∀k,k∈l->k∉g.map Prod.fst):Fn prog 297 [ap 2001] (iO z R L nm n rm l g over done) [] (.cn [.one (.d (.bool (kz z L nm rm l g over done).up)),dJ (kz z L nm rm l g over done).e])
  (iO z R L nm n rm (kz z L nm rm l g over done).l (kz z L nm rm l g over done).g (kz z L nm rm l g over done).over (kz z L nm rm l g over done).done):=by
 cases over with
 |true=>
  have e:kz z L nm rm l g true done=⟨false,170,l,g,true,done⟩:=vj rfl;rw[e];refine aY [] func297 ?_;exact fm bh
 |false=>
  have rI:=M4 l
  by_cases a8:l=[]
  .have e:kz z L nm rm l g false done=⟨true,0,[],g,true,true⟩:=(mu aD2).trans (vj a8);rw[e];subst a8;refine aY [] func297 ?_;exact dE <| fm ⟨_,_,_,ac.th 2001 (l':=Eh nm z n rm true true) rfl aD,rfl,aD,aD,rfl⟩
  .have e:kz z L nm rm l g false done=⟨false,(dS z L nm rm l g (ek l)).e,(dS z L nm rm l g (ek l)).l,(dS z L nm rm l g (ek l)).g,(dS z L nm rm l g (ek l)).over,done⟩:=(mu aD2).trans (mu a8);rw[e];obtain⟨cB,cH,dO⟩:=D' a8
   have Cf: ∀g:{hq:List Int//hq.Perm (hh (gv l))},pB g.1=((ek l:Nat):Int):=fun g=>by
    rw[UH g.2 (by rw[vO];simpa using a8),vO];exact cB
   have vs: ∀g:{hq:List Int//hq.Perm (hh (gv l))},g.1.length=l.length:=fun g=>by
    rw[g.2.length_eq,vO,at8]
   have nN:0 < l.length:=List.length_pos_iff.2 a8;have Nb:=UF (gv l) (M6 hn) (M7 fun k Z=>by have:=ak k Z;omega) aD1;have t':=U2 h nm n rm l g done (ek l) (aU _ cH);generalize dS z L nm rm l g (ek l)=r at*;generalize ek l=sc at*;refine aY [6,7] func297 ?_;refine dE ⟨fun J=>?_,fun _=>?_⟩
   .exfalso;have J:decide ((((gv l).length:Nat):Int)=0)=true:=J;have:=gd J;omega
   refine bw.ff (dv.mark 2001 9001 rfl aD2) fun b=>bz [7] (cM [(0,ap 2001)] (ux z R L nm n rm l g false done b)) <| bc (j' (m:=9001) (b:=b) rfl rfl rfl) ?_
   refine bw.le (cM [(0,ap 2001),(4,za 153 b)] (ux z R L nm n rm l g false done b)) <| bw.iJ fa aD4 <| lM ((Fn.aX [(1001,2002),(2001,9101)] (M0 (gv l))).x) fun _=>⟨_,_,_,fun g=>_,fun g=>_,cC.aX [(1001,2002),(2001,9101)] Nb,aD,rfl,fun _=>rfl,fun Ng=>?_⟩
   have ajG:=vs Ng;have Ec:=Cf Ng;exact lM ((Fn.res (res':=ab (sc:Int)) (UI Ng.1 aD1 aD1) Ec).x) fun _=>lM ((t' b).x) fun _=>bh
end
abbrev uy:bB:=.bU ai i6
def uz (g:aH3) (k:Int):aG9:=(b0 (aI:=ai) (aK:=i6) (ka g) k).getD (cR i6)
def Nh (g:aH3) (k:Int):aa uy:=@Prod.mk Int aG9 k (uz g k)
def lg (g:aH3):List (aa uy):=(nv (hh (ka g))).map (Nh g)
def BB (g:aH3):hh (ka g)=(g.map Prod.fst).map fun k:Nat=>(k:Int):=by unfold hh ka;rw[aw7,aw7];rfl
def Ni (g:aH3):(lg g).length=g.length:=by unfold lg;rw[at8,(y9 _).length_eq,BB,at8,at8]
def Nj {B:Nat} (k:Int): ∀g:List (Nat×aG9),(∀p,p∈g->p.2.length<=B)->(uz g k).length<=B
 | [],_=>at2 _
 |p::g,h=>by
  cases e:fT ai k (Eg p).1 with
  |true=>
   have:uz (p::g) k=p.2:=by
    show(b0 (aI:=ai) (aK:=i6) (Eg p::ka g) k).getD (cR i6)=p.2;simp only[b0,e];rfl
   rw[this];exact h p (at6 ..)
  |false=>
   have:uz (p::g) k=uz g k:=by
    show(b0 (aI:=ai) (aK:=i6) (Eg p::ka g) k).getD (cR i6)=(b0 (aI:=ai) (aK:=i6) (ka g) k).getD (cR i6);simp only[b0,e]
   rw[this];exact Nj k g fun q aQ=>h q (as6 _ aQ)
section
variable {z R:Nat} {L:aH2} {nm:aG9}
abbrev U3 (ks:aI2) (c k:Nat):aZ:=[(0,ap 2001),(5,eC c),(18,bP ai ks),(19,ab (ks.length:Nat)),(20,ab (k:Nat))]
abbrev Nk (z R:Int) (L:aH2) (nm:aG9) (n rm:Int) (l:aH0) (g:aH3) (over done:Bool) (c:Nat) (x:List (aa uy)):aA:=iO z R L nm n rm l g over done++[(c,.row 96 uy x)]
def aj2 (z R:Int) (L:aH2) (nm:aG9) (n rm:Int) (l:aH0) (g:aH3) (over:Bool) (hn:(g.map Prod.fst).Nodup) (Z: ∀p,p∈g->p.1<=100000/\p.2.length<=100000) (ak:g.length<=100000):
  Fn prog 121 [ap 2001] (iO z R L nm n rm l g over true) [] (.cn [.one (.d (.bG uy (lg g))),dJ n,.one (.d (.bool true))]) (iO z R L nm n rm l g over true):=by
 have dD:(hh (ka g)).Nodup:=by
  rw[BB];exact MS (fun x _ y _ e=>by have e:(x:Int)=(y:Int):=e;omega) hn
 have nP: ∀s∈hh (ka g),(Lit.int .i64 s).wf=true:=fun s au=>by
  rw[BB] at au;obtain⟨k,cu,rfl⟩:=av0.1 au;obtain⟨p,ae,rfl⟩:=av0.1 cu;have:=(Z p ae).1;show(decide (IntKind.i64.min<=(p.1:Int))&&decide ((p.1:Int)<=IntKind.i64.max))=true;rw[at4 (show(IntKind.i64.min:Int)<=(p.1:Int) from Int.le_trans (by decide:IntKind.i64.min<=(0:Int)) aD1),at4 (show(p.1:Int)<=IntKind.i64.max from Int.le_trans (by omega:(p.1:Int)<=1000000) aD2)];rfl
 have U4:=UZ g;have HN:=ajT (ka g) dD nP aD1;have he:(nv (hh (ka g))).length=g.length:=by rw[(y9 _).length_eq,BB,at8,at8]
 have l3: ∀k:Nat,(h:k < (nv (hh (ka g))).length)->(lg g).take k++[Nh g (nv (hh (ka g)))[k]]=(lg g).take (k+1):=fun k h=>by
  rw[aB0];unfold lg;rw[au8,as0 h];rfl
 have hz:=Ni g;have j8:=fun k=>Nj (B:=100000) k g fun p ae=>(Z p ae).2
 generalize nv (hh (ka g))=ks at*;generalize lg g=bI at*;refine aY [4,7,9] func121 ?_;refine dE <| bz [7,9] (bt) <| ar (Fn.aX [(1001,2003),(2001,9201)] (ajR (ka g))) <| ar (Fn.aX [(1001,2003),(2001,9201)] HN) <| d1 [7,9] (X:=Nat) (fun k=>U3 ks 5002 k) (fun k=>Nk z R L nm n rm l g over true 5002 (bI.take k)) (fun k=>k<=ks.length) (fun k=>ks.length - k) 0 (at2 _) ?_ ?_
 .exact ac.trans (cM [(0,ap 2001),(5,.c (.one .dV)),(18,bP ai ks),(19,ab (ks.length:Nat)),(20,ab 0)] (iO z R L nm n rm l g over true)) (ac.trans (ac.nil 5 5002 96 uy rfl rfl) (ac.sub aD aD))
 intro k cu;have cu:k<=ks.length:=cu;refine⟨fun J=>?_,fun J=>?_⟩
 .have J:decide ((k:Int) < ((ks.length:Nat):Int))=true:=J;have eX:k < ks.length:=aF4
  have m4:=j4 (n:=k) eX;have eB:=l3 k eX;generalize ks[k]=q at*;have hx:=j8 q;have dW:=Mc (uz g q) aD1
  have bX:List.length (α:=aa uy) (bI.take k)+1<=4294967296:=by
   show(bI.take k).length+1<=4294967296;rw[at3];omega
  exact⟨aD1,q,m4,bz [9] (cM [(0,ap 2001),(5,eC 5002),(18,bP ai ks),(19,ab (ks.length:Nat)),(20,ab (k:Nat)),(7,ab q)] (Nk z R L nm n rm l g over true 5002 (bI.take k))) <| ar dW ⟨bX,rfl,aD1,k+1,eX,aD1,ac.trans (ac.sub (K':=U3 ks 35 (k+1)) (B':=Nk z R L nm n rm l g over true 35 (bI.take (k+1))) aD ⟨rfl,rfl,rfl,rfl,rfl,rfl,rfl,as5 (fun aB=>some (ba.row 96 uy aB)) eB,trivial⟩) (ac.trans (ac.aX 35 5002 rfl) (ac.sub aD aD))⟩⟩
 .have J:decide ((k:Int) < ((ks.length:Nat):Int))=false:=J;have eX:k=ks.length:=aF0
  have dK:bI.take k=bI:=aw0 aD1;exact bz [] (ac.eb 5002 rfl) ⟨rfl,eN bt rfl ⟨dK,rfl,rfl,trivial⟩⟩
end
def hI (f:Nat->Bool) (z:Nat):Nat->aH0
 |0=>[]
 |s+1=>if f s=true then nu (hI f z s) (s/2 ^z) else hI f z s
def Nl (f:Nat->Bool) (z:Nat): ∀s,(hI f z s).Nodup
 |0=>ay9
 |s+1=>by
  show(if f s=true then nu (hI f z s) (s/2 ^z) else hI f z s).Nodup
  split
  .exact UM (Nl f z s)
  .exact Nl f z s
def U5 (z:Nat): ∀s t:Nat,t < s->t/2 ^z∈hI (fun _=>true) z s
 |0,t,h=>as3 h (aB8 t)
 |s+1,t,h=>by
  show t/2 ^z∈nu (hI (fun _=>true) z s) (s/2 ^z)
  by_cases e:t=s
  .subst e;exact vN.2 (.inr rfl)
  .exact vN.2 (.inl (U5 z s t aD1))
def Ei (f:Nat->Bool) (z n:Nat): ∀s,s<=n*2 ^z-> ∀k,k∈hI f z s->k < n
 |0,_,k,h=>by cases h
 |s+1,au,k,h=>by
  have h:k∈(if f s=true then nu (hI f z s) (s/2 ^z) else hI f z s):=h;have H:s/2 ^z < n:=(aA4 (Nat.two_pow_pos z)).2 aD1
  split at h
  .rcases vN.1 h with h |h
   .exact Ei f z n s aD1 k h
   .omega
  .exact Ei f z n s aD1 k h
section
variable {z R:Nat} {L:aH2} {nm:aG9}
abbrev Ej (z R:Int) (L:aH2) (nm:aG9) (n rm:Int) (l:aH0):aA:=bT z R L++[(46,.cells [.ptr 1001 0,.d (.str nm),.d (.int .i64 z),.d (.int .i64 n),.d (.int .i64 rm),.mp 43,.mp 44,.d (.bool false),.d (.bool false)]),(43,.map ai ai (gv l)),(44,.map ai i6 [])]
def aj3 (h:cb z R L) {d:aL} (H:dk L nm=some d) (rm:Int) (ax:rm < 0):Fn prog 76 [ap 1001,bW nm,.c (.one (.bN (.pointer none))),ab rm] (bT z R L) [] (.cn [nf,dJ 1]) (bT z R L):=by refine aY [] func76 ?_;exact ar (j7 _ _ L h.toi3 nm d H) ⟨fun _ _=>⟨fun _=>sY bt rfl aD ⟨rfl,rfl,rfl,rfl,trivial⟩ rfl,fun h=>as3 (oj h) aD1⟩,fun h=>by cases h⟩
abbrev aj4 (am:Nat) (nm:aG9) (N s:Nat):aZ:=[(2,.c (.one (.bN (.pointer none)))),(11,ap 46),(55,ab (N:Nat)),(56,ab (s:Nat))]
def aj5 (h:cb z R L) {d:aL} (H:dk L nm=some d) (rm:Int) (ax:0<=rm):Fn prog 76 [ap 1001,bW nm,.c (.one (.bN (.pointer none))),ab rm] (bT z R L) [2001,2002,2003] (.cn [.one (.ptr 2001 0),dJ 0]) (iO z R L nm (d.im.t.length:Nat) rm (hI (fun _=>true) z (d.im.t.length*2 ^z)) [] false false):=by
 have nT:=(h.gp d (cY H).1).1.eY;have fO:=h.toi3.M (cY H).1;have kF:d.im.z=z:=(h.gp d (cY H).1).2.1;have y7:=h.b3;have ae:=js h.b3
 have pC:((d.im.t.length:Nat):Int)*((2 ^((d.im.z:Nat):Int).toNat:Nat):Int)=((d.im.t.length*2 ^z:Nat):Int):=by
  rw[kF];show((d.im.t.length:Nat):Int)*((2 ^z:Nat):Int)=_;rw[az8]
 have mk:d.im.t.length*2 ^z<=256*8:=ax9 nT ae.2;have m1:(0:Int)<=((d.im.t.length:Nat):Int)/\(0:Int)<=((d.im.z:Nat):Int)/\((d.im.z:Nat):Int)<=64:=aD9
 have m2:c8 (((d.im.t.length:Nat):Int)*((2 ^((d.im.z:Nat):Int).toNat:Nat):Int)):=by rw[pC];omega
 have c0:(0:Int)<=((d.im.t.length:Nat):Int)/\(0:Int)<=((z:Nat):Int)/\((z:Nat):Int)<=64:=aD9
 have Ek:((d.im.t.length:Nat):Int)*((2 ^((z:Nat):Int).toNat:Nat):Int)=((d.im.t.length*2 ^z:Nat):Int):=by
  show((d.im.t.length:Nat):Int)*((2 ^z:Nat):Int)=_;rw[az8]
 have d5:c8 (((d.im.t.length:Nat):Int)*((2 ^((z:Nat):Int).toNat:Nat):Int)):=by rw[Ek];omega
 refine aY [6,7,10,11] func76 ?_;refine ar (j7 _ _ L h.toi3 nm d H) ⟨fun _ _=>⟨fun h=>as3 (gd h) aD1,fun _=>bz [7,10,11] (ac.sub (K':=[(0,ap 1001),(1,bW nm),(2,.c (.one (.bN (.pointer none)))),(3,ab rm),(10,dy d.am)]) (B':=bT z R L) aD ⟨rfl,rfl,rfl,rfl,trivial⟩) <| ar (il (xn d.im) fO rfl rfl rfl rfl) <| ar (il (nR d.im) fO rfl rfl rfl rfl) ⟨rfl,rfl,rfl,bz [10,11] (ac.trans (ac.th 46 (l':=[.ptr 1001 0,.d (.str nm),.d (.int .i64 ((z:Nat):Int)),.d (.int .i64 ((d.im.t.length:Nat):Int)),.d (.int .i64 rm),.mp 43,.mp 44,.d (.bool false),.d (.bool false)]) rfl ⟨rfl,rfl,as5 Int.ofNat kF,rfl,rfl,rfl,rfl,rfl,rfl,trivial⟩) (ac.sub (K':=[(2,.c (.one (.bN (.pointer none)))),(11,ap 46)]) (B':=Ej z R L nm (d.im.t.length:Nat) rm []) aD ⟨rfl,rfl,rfl,rfl,rfl,rfl,rfl,trivial⟩)) ⟨c0,d5,rfl,d1 [10,11] (X:=Nat) (fun s=>aj4 d.am nm (d.im.t.length*2 ^z) s) (fun s=>Ej z R L nm (d.im.t.length:Nat) rm (hI (fun _=>true) z s)) (fun s=>s<=d.im.t.length*2 ^z) (fun s=>d.im.t.length*2 ^z - s) 0 (at2 _) ?_ ?_⟩⟩⟩,fun h=>by cases h⟩
 .exact ac.sub ⟨rfl,rfl,Ek,rfl,trivial⟩ ⟨rfl,rfl,rfl,rfl,rfl,rfl,rfl,trivial⟩
 intro s au;have au:s<=d.im.t.length*2 ^z:=au;refine⟨fun J=>?_,fun J=>?_⟩
 .have J:decide ((s:Int) < ((d.im.t.length*2 ^z:Nat):Int))=true:=J;have ig:s < d.im.t.length*2 ^z:=aF4
  have cB:(0:Int)<=(s:Int)/\(0:Int)<=((z:Nat):Int)/\((z:Nat):Int)<=64:=aD9
  have s8:(s:Int)/((2 ^((z:Nat):Int).toNat:Nat):Int)=((s/2 ^z:Nat):Int):=by
   show(s:Int)/((2 ^z:Nat):Int)=_;rfl
  exact bz [11] (ac.sub (K':=[(2,.c (.one (.bN (.pointer none)))),(11,ap 46),(55,ab ((d.im.t.length*2 ^z:Nat):Int)),(56,ab (s:Nat)),(12,ab (s:Nat))]) (B':=Ej z R L nm (d.im.t.length:Nat) rm (hI (fun _=>true) z s)) aD ⟨rfl,rfl,rfl,rfl,rfl,rfl,rfl,trivial⟩) <| bz [] (ac.sub (K':=[(2,.c (.one (.bN (.pointer none)))),(11,ap 46),(55,ab ((d.im.t.length*2 ^z:Nat):Int)),(56,ab (s:Nat)),(12,ab (s:Nat))]) (B':=Ej z R L nm (d.im.t.length:Nat) rm (hI (fun _=>true) z s)) aD ⟨rfl,rfl,rfl,rfl,rfl,rfl,rfl,trivial⟩) ⟨cB,trivial,rfl,aD1,s+1,ig,aD1,ac.sub aD ⟨rfl,rfl,rfl,rfl,rfl,as5 (fun aB=>some (ba.map ai ai aB)) ((D9 (s/2 ^z) _).trans (as5 gv (show nu (hI (fun _=>true) z s) (s/2 ^z)=hI (fun _=>true) z (s+1) from(vj rfl).symm))),rfl,trivial⟩⟩
 .have J:decide ((s:Int) < ((d.im.t.length*2 ^z:Nat):Int))=false:=J;have ig:s=d.im.t.length*2 ^z:=aF0
  subst ig;exact⟨_,_,_,ac.trans (ac.aX 46 2001 rfl) (ac.trans (ac.aX 43 2002 rfl) (ac.aX 44 2003 rfl)),rfl,aD,⟨rfl,rfl,rfl,rfl,rfl,rfl,rfl,trivial⟩,rfl⟩
abbrev zb (s g:Int) (es:aH1):aA:=[(5001,.cells [.d (.int .i64 s),.d (.int .i64 g),.mp 5002]),(5002,.map ai ai es)]
abbrev U6 (z R:Int) (L:aH2) (s g:Int) (es:aH1):aA:=bT z R L++zb s g es
abbrev HO (z R:Int) (L:aH2) (nm:aG9) (n rm:Int) (l:aH0) (s g:Int) (es:aH1):aA:=Ej z R L nm n rm l++zb s g es
abbrev aj6 (z R:Int) (L:aH2) (nm:aG9) (n rm:Int) (l:aH0) (qN:aH3) (over done:Bool) (s g:Int) (es:aH1):aA:=iO z R L nm n rm l qN over done++zb s g es
def aj7 (h:cb z R L) {d:aL} (H:dk L nm=some d) (rm:Int) (ax:rm < 0) (s g:Int) (es:aH1):Fn prog 76 [ap 1001,bW nm,ap 5001,ab rm] (bT z R L++[(5001,.cells [.d (.int .i64 s),.d (.int .i64 g),.mp 5002]),(5002,.map ai ai es)]) [] (.cn [nf,dJ 1]) (bT z R L++[(5001,.cells [.d (.int .i64 s),.d (.int .i64 g),.mp 5002]),(5002,.map ai ai es)]):=by refine aY [] func76 ?_;exact ar (j7 _ _ L h.toi3 nm d H) ⟨fun _ _=>⟨fun _=>bh,fun h=>as3 (oj h) aD1⟩,fun h=>by cases h⟩
abbrev aj8 (am:Nat) (nm:aG9) (N s:Nat):aZ:=[(2,ap 5001),(11,ap 46),(55,ab (N:Nat)),(56,ab (s:Nat))]
def aj9 (h:cb z R L) {d:aL} (H:dk L nm=some d) (rm:Int) (ax:0<=rm) (g:Int) (es:aH1) (aU:1<=g):Fn prog 76 [ap 1001,bW nm,ap 5001,ab rm] (U6 z R L ((d.im.t.length*2 ^z:Nat):Int) g es) [2001,2002,2003] (.cn [.one (.ptr 2001 0),dJ 0]) (aj6 z R L nm (d.im.t.length:Nat) rm (hI (g6 g es) z (d.im.t.length*2 ^z)) [] false false ((d.im.t.length*2 ^z:Nat):Int) g es):=by
 have nT:=(h.gp d (cY H).1).1.eY;have fO:=h.toi3.M (cY H).1;have kF:d.im.z=z:=(h.gp d (cY H).1).2.1;have y7:=h.b3;have ae:=js h.b3
 have pC:((d.im.t.length:Nat):Int)*((2 ^((d.im.z:Nat):Int).toNat:Nat):Int)=((d.im.t.length*2 ^z:Nat):Int):=by
  rw[kF];show((d.im.t.length:Nat):Int)*((2 ^z:Nat):Int)=_;rw[az8]
 have mk:d.im.t.length*2 ^z<=256*8:=ax9 nT ae.2;have m1:(0:Int)<=((d.im.t.length:Nat):Int)/\(0:Int)<=((d.im.z:Nat):Int)/\((d.im.z:Nat):Int)<=64:=aD9
 have m2:c8 (((d.im.t.length:Nat):Int)*((2 ^((d.im.z:Nat):Int).toNat:Nat):Int)):=by rw[pC];omega
 have c0:(0:Int)<=((d.im.t.length:Nat):Int)/\(0:Int)<=((z:Nat):Int)/\((z:Nat):Int)<=64:=aD9
 have Ek:((d.im.t.length:Nat):Int)*((2 ^((z:Nat):Int).toNat:Nat):Int)=((d.im.t.length*2 ^z:Nat):Int):=by
  show((d.im.t.length:Nat):Int)*((2 ^z:Nat):Int)=_;rw[az8]
 have d5:c8 (((d.im.t.length:Nat):Int)*((2 ^((z:Nat):Int).toNat:Nat):Int)):=by rw[Ek];omega
 refine aY [6,7,10,11] func76 ?_;refine ar (j7 _ _ L h.toi3 nm d H) ⟨fun _ _=>⟨fun h=>as3 (gd h) aD1,fun _=>ar (Fn.aX [(1001,5001),(1002,5002)] (L3 ((d.im.t.length*2 ^z:Nat):Int) g es)) <| ar (il (nR d.im) fO rfl rfl rfl rfl) <| ar (il (xn d.im) fO rfl rfl rfl rfl) ⟨m1,m2,fun bd=>?_,fun _=>?_⟩⟩,fun h=>by cases h⟩
 .exfalso;have bd:(!decide (((d.im.t.length*2 ^z:Nat):Int)=((d.im.t.length:Nat):Int)*((2 ^((d.im.z:Nat):Int).toNat:Nat):Int)))=true:=bd;rw[pC,at4 rfl] at bd
  cases bd
 refine bz [7,10,11] (cM [(0,ap 1001),(1,bW nm),(2,ap 5001),(3,ab rm),(10,dy d.am)] (U6 z R L ((d.im.t.length*2 ^z:Nat):Int) g es)) <| ar (il (xn d.im) fO rfl rfl rfl rfl) <| ar (il (nR d.im) fO rfl rfl rfl rfl) ⟨rfl,rfl,rfl,bz [10,11] (ac.trans (ac.th 46 (l':=[.ptr 1001 0,.d (.str nm),.d (.int .i64 ((z:Nat):Int)),.d (.int .i64 ((d.im.t.length:Nat):Int)),.d (.int .i64 rm),.mp 43,.mp 44,.d (.bool false),.d (.bool false)]) rfl ⟨rfl,rfl,as5 Int.ofNat kF,rfl,rfl,rfl,rfl,rfl,rfl,trivial⟩) (cM [(2,ap 5001),(11,ap 46)] (HO z R L nm (d.im.t.length:Nat) rm [] ((d.im.t.length*2 ^z:Nat):Int) g es))) ⟨c0,d5,rfl,d1 [10,11] (X:=Nat) (fun s=>aj8 d.am nm (d.im.t.length*2 ^z) s) (fun s=>HO z R L nm (d.im.t.length:Nat) rm (hI (g6 g es) z s) ((d.im.t.length*2 ^z:Nat):Int) g es) (fun s=>s<=d.im.t.length*2 ^z) (fun s=>d.im.t.length*2 ^z - s) 0 (at2 _) ?_ ?_⟩⟩
 .exact ac.sub ⟨rfl,rfl,Ek,rfl,trivial⟩ aD
 intro s au;have au:s<=d.im.t.length*2 ^z:=au;refine⟨fun J=>?_,fun J=>?_⟩
 .have J:decide ((s:Int) < ((d.im.t.length*2 ^z:Nat):Int))=true:=J;have ig:s < d.im.t.length*2 ^z:=aF4
  have cB:(0:Int)<=(s:Int)/\(0:Int)<=((z:Nat):Int)/\((z:Nat):Int)<=64:=aD9
  have s8:(s:Int)/((2 ^((z:Nat):Int).toNat:Nat):Int)=((s/2 ^z:Nat):Int):=by
   show(s:Int)/((2 ^z:Nat):Int)=_;rfl
  refine bz [11] (cM [(2,ap 5001),(11,ap 46),(55,ab ((d.im.t.length*2 ^z:Nat):Int)),(56,ab (s:Nat)),(12,ab (s:Nat))] (HO z R L nm (d.im.t.length:Nat) rm (hI (g6 g es) z s) ((d.im.t.length*2 ^z:Nat):Int) g es)) <| ar (Fn.aX [(1001,5001),(1002,5002)] (S5 ((d.im.t.length*2 ^z:Nat):Int) g es s aU aD1 aD1)) ⟨fun hf=>?_,fun hf=>?_⟩
  .have hf:g6 g es s=true:=hf;exact bz [] (cM [(2,ap 5001),(11,ap 46),(55,ab ((d.im.t.length*2 ^z:Nat):Int)),(56,ab (s:Nat)),(12,ab (s:Nat))] (HO z R L nm (d.im.t.length:Nat) rm (hI (g6 g es) z s) ((d.im.t.length*2 ^z:Nat):Int) g es)) ⟨cB,trivial,rfl,aD1,s+1,ig,aD1,ac.sub aD ⟨rfl,rfl,rfl,rfl,rfl,as5 (fun aB=>some (ba.map ai ai aB)) ((D9 (s/2 ^z) _).trans (as5 gv (show nu (hI (g6 g es) z s) (s/2 ^z)=hI (g6 g es) z (s+1) from(vj hf).symm))),rfl,rfl,rfl,trivial⟩⟩
  .have hf:g6 g es s=false:=hf;exact⟨aD1,s+1,ig,aD1,ac.sub aD ⟨rfl,rfl,rfl,rfl,rfl,as5 (fun aB=>some (ba.map ai ai (gv aB))) (show hI (g6 g es) z s=hI (g6 g es) z (s+1) from(mu (by rw[hf];decide)).symm),rfl,rfl,rfl,trivial⟩⟩
 .have J:decide ((s:Int) < ((d.im.t.length*2 ^z:Nat):Int))=false:=J;have ig:s=d.im.t.length*2 ^z:=aF0
  subst ig;exact⟨_,_,_,ac.trans (ac.aX 46 2001 rfl) (ac.trans (ac.aX 43 2002 rfl) (ac.aX 44 2003 rfl)),rfl,aD,aD,rfl⟩
end
end
section
def aj' (z R:Int) (L:aH2) (nm:aG9) (n rm:Int) (l:aH0) (g:aH3) (done:Bool) (a aO:Int):Fn prog 100 [ap 2001,ab a,ab aO] (iO z R L nm n rm l g true done) [] (ab 0) (iO z R L nm n rm l g true done):=by refine aY [] func100 ?_;exact fm bh
def oO (l:aH0):aH0:=(nv (l.map fun k:Nat=>(k:Int))).map Int.toNat
def aka (l:aH0):nv (hh (gv l))=(oO l).map fun k:Nat=>(k:Int):=by
 unfold oO;rw[vO,aw7]
 conv=>lhs;rw[<-List.map_id (nv (l.map fun k:Nat=>(k:Int)))]
 refine av1 fun x hx=>?_
 obtain⟨k,_,rfl⟩:=av0.1 ((y9 _).mem_iff.1 hx);rfl
def vT (l:aH0):(oO l).Perm l:=by
 have h:=(y9 (l.map fun k:Nat=>(k:Int))).map Int.toNat;rw[aw7] at h
 have e:l.map (Int.toNat∘fun k:Nat=>(k:Int))=l:=by
  conv=>rhs;rw[<-List.map_id l]
  exact av1 fun x _=>rfl
 rw[e] at h;exact h
structure U7 where
 e:Int
 l:aH0
 g:List (Nat×aG9)
 over:Bool
def i7 (z:Nat) (L:aH2) (nm:aG9) (rm a aO:Int):aH0->aH0->List (Nat×aG9)->U7
 | [],l,g=>⟨0,l,g,false⟩
 |k::ks,l,g=>if((k*2 ^z+2 ^z:Nat):Int)<=a\/a<=((k*2 ^z:Nat):Int) - aO then i7 z L nm rm a aO ks l g else if(dS z L nm rm l g k).e=0 then i7 z L nm rm a aO ks (dS z L nm rm l g k).l (dS z L nm rm l g k).g else⟨(dS z L nm rm l g k).e,(dS z L nm rm l g k).l,(dS z L nm rm l g k).g,(dS z L nm rm l g k).over⟩
def U8 {z:Nat} {L:aH2} {nm:aG9} {rm:Int} {l:aH0} {g:aH3} {k:Nat} (U:(dS z L nm rm l g k).e=0):(dS z L nm rm l g k).over=false/\(dS z L nm rm l g k).g=g++[(k,fI z L nm (k:Int))]:=by
 unfold dS at U⊢
 split at U
 .exact as3 U (show¬(171:Int)=0 by decide)
 .rename_i c;rw[mu c];exact⟨rfl,rfl⟩
abbrev akb (a aO:Int) (b:Nat) (ks:aI2) (i:Nat):aZ:=[(0,ap 2001),(1,ab a),(2,ab aO),(7,za 153 b),(27,bP ai ks),(28,ab (ks.length:Nat)),(29,ab (i:Nat))]
def akc {z R:Nat} {L:aH2} (h:cb z R L) (nm:aG9) (n rm:Int) (l:aH0) (g:aH3) (done:Bool) (a aO:Int) (E:1<=aO) (G:aO<=9223372036854775807) (ak: ∀k,k∈l->k<=256) (qA:l.length<=256) (hn:l.Nodup) (aU: ∀k,k∈l->k∉g.map Prod.fst):
  Fn prog 100 [ap 2001,ab a,ab aO] (iO z R L nm n rm l g false done) [] (ab (i7 z L nm rm a aO (oO l) l g).e) (iO z R L nm n rm (i7 z L nm rm a aO (oO l) l g).l (i7 z L nm rm a aO (oO l) l g).g (i7 z L nm rm a aO (oO l) l g).over done):=by
 have HN:=ajS (gv l) (M6 hn) (M7 fun k Z=>by have:=ak k Z;omega) (by rw[M4];omega);rw[aka] at HN;have ae:=js h.b3;have y7:=h.b3;have hN:(oO l).length=l.length:=(vT l).length_eq;have vM: ∀k,k∈oO l->k<=256/\k∉g.map Prod.fst:=fun k Z=>⟨ak k ((vT l).mem_iff.1 Z),aU k ((vT l).mem_iff.1 Z)⟩
 have sg:(oO l).Nodup:=(vT l).nodup_iff.2 hn;generalize oO l=iP at*;generalize gA:i7 z L nm rm a aO iP l g=bp at*;refine aY [3,4,9] func100 ?_;refine dE ⟨fun h=>as3 (gd h) aD1,fun _=>bw.ff (dv.mark 2001 9001 rfl aD2) fun b=>bz [4,9] (cM [(0,ap 2001),(1,ab a),(2,ab aO)] (ux z R L nm n rm l g false done b)) <| bc (j' (m:=9001) (b:=b) rfl rfl rfl) ?_⟩;refine bz [9] (cM [(0,ap 2001),(1,ab a),(2,ab aO),(7,za 153 b)] (ux z R L nm n rm l g false done b)) <| ar (Fn.aX [(1001,2002),(2001,9101)] (M0 (gv l))) <| ar (Fn.aX [(1001,2002),(2001,9101)] HN) <| d1 [9] (X:=Nat×aH0×List (Nat×aG9)) (fun x=>akb a aO b (iP.map fun k:Nat=>(k:Int)) x.1) (fun x=>ux z R L nm n rm x.2.1 x.2.2 false done b) (fun x=>x.1<=iP.length/\i7 z L nm rm a aO (iP.drop x.1) x.2.1 x.2.2=bp/\ ∀k,k∈iP.drop x.1->k∉x.2.2.map Prod.fst) (fun x=>iP.length - x.1) (0,l,g) ⟨at2 _,gA,fun k Z=>(vM k Z).2⟩ ?_ ?_
 .exact ac.sub aD aD
 rintro⟨i,g',g2⟩ ⟨aE,ax,Z⟩;have aE:i<=iP.length:=aE;have ax:i7 z L nm rm a aO (iP.drop i) g' g2=bp:=ax;have Z: ∀k,k∈iP.drop i->k∉g2.map Prod.fst:=Z;refine⟨fun J=>?_,fun J=>?_⟩
 .have J:decide ((i:Int) < (((iP.map fun k:Nat=>(k:Int)).length:Nat):Int))=true:=J;have ec:i < iP.length:=by have:=gd J;rw[at8] at this;omega
  have Dg:iP.drop i=iP[i]::iP.drop (i+1):=ay6 ec
  have m4:fd (α:=aa ai) (iP.map fun k:Nat=>(k:Int)) i=some ((iP[i]:Nat):Int):=by
   show(iP.map fun k:Nat=>(k:Int))[i]? =_;rw[au8,as0 ec];rfl
  have dD:=sg.sublist (List.drop_sublist i iP);rw[Dg] at ax Z dD;have AG:=(av5.1 dD).1;have O:=(vM _ (av2 ec)).1;generalize iP[i]=k at*;have t':=U2 h nm n rm g' g2 done k (Z k (at6 ..)) b;have bx:=U8 (z:=z) (L:=L) (nm:=nm) (rm:=rm) (l:=g') (g:=g2) (k:=k);have ax:(if((k*2 ^z+2 ^z:Nat):Int)<=a\/a<=((k*2 ^z:Nat):Int) - aO then i7 z L nm rm a aO (iP.drop (i+1)) g' g2 else if(dS z L nm rm g' g2 k).e=0 then i7 z L nm rm a aO (iP.drop (i+1)) (dS z L nm rm g' g2 k).l (dS z L nm rm g' g2 k).g else⟨(dS z L nm rm g' g2 k).e,(dS z L nm rm g' g2 k).l,(dS z L nm rm g' g2 k).g,(dS z L nm rm g' g2 k).over⟩)=bp:=ax;generalize dS z L nm rm g' g2 k=r at*;have mk:k*2 ^z<=256*8:=ax9 O ae.2
  have pC:(k:Int)*((2 ^((z:Nat):Int).toNat:Nat):Int)=((k*2 ^z:Nat):Int):=by
   show(k:Int)*((2 ^z:Nat):Int)=_;rw[az8]
  have sa:(1:Int)*((2 ^((z:Nat):Int).toNat:Nat):Int)=((2 ^z:Nat):Int):=by rw[Int.one_mul];rfl
  have cB:(0:Int)<=(k:Int)/\(0:Int)<=((z:Nat):Int)/\((z:Nat):Int)<=64:=aD9
  have cH:c8 ((k:Int)*((2 ^((z:Nat):Int).toNat:Nat):Int)):=by rw[pC];omega
  have c0:(0:Int)<=(1:Int)/\(0:Int)<=((z:Nat):Int)/\((z:Nat):Int)<=64:=aD9
  have d5:c8 ((1:Int)*((2 ^((z:Nat):Int).toNat:Nat):Int)):=by rw[sa];omega
  have lO:c8 ((k:Int)*((2 ^((z:Nat):Int).toNat:Nat):Int)+(1:Int)*((2 ^((z:Nat):Int).toNat:Nat):Int)):=by rw[pC,sa];omega
  have s5:c8 ((k:Int)*((2 ^((z:Nat):Int).toNat:Nat):Int) - aO):=by rw[pC];omega
  refine⟨aD1,_,m4,cB,cH,c0,d5,lO,fun cD=>?_,fun cD=>?_⟩
  .have cD:=gd (show decide ((k:Int)*((2 ^((z:Nat):Int).toNat:Nat):Int)+(1:Int)*((2 ^((z:Nat):Int).toNat:Nat):Int)<=a)=true from cD);rw[pC,sa] at cD;rw[vj (.inl aD1)] at ax;exact⟨aD1,(i+1,g',g2),⟨ec,ax,fun q aQ=>Z q (as6 _ aQ)⟩,by show iP.length - (i+1) < iP.length - i;omega,ac.sub aD aD⟩
  have cD:=oj (show decide ((k:Int)*((2 ^((z:Nat):Int).toNat:Nat):Int)+(1:Int)*((2 ^((z:Nat):Int).toNat:Nat):Int)<=a)=false from cD);rw[pC,sa] at cD;refine⟨s5,fun cv=>?_,fun cv=>?_⟩
  .have cv:=gd (show decide (a<=(k:Int)*((2 ^((z:Nat):Int).toNat:Nat):Int) - aO)=true from cv);rw[pC] at cv;rw[vj (.inr cv)] at ax;exact⟨aD1,(i+1,g',g2),⟨ec,ax,fun q aQ=>Z q (as6 _ aQ)⟩,by show iP.length - (i+1) < iP.length - i;omega,ac.sub aD aD⟩
  have cv:=oj (show decide (a<=(k:Int)*((2 ^((z:Nat):Int).toNat:Nat):Int) - aO)=false from cv);rw[pC] at cv;rw[mu (by rintro(e |e) <;>omega)] at ax;refine bz [] (cM [(0,ap 2001),(1,ab a),(2,ab aO),(7,za 153 b),(27,bP ai (iP.map fun k:Nat=>(k:Int))),(28,ab ((iP.map fun k:Nat=>(k:Int)).length:Nat)),(29,ab (i:Nat)),(9,ab (k:Nat))] (ux z R L nm n rm g' g2 false done b)) <| bc (fun N=>ajU rfl rfl rfl rfl t' aE6 rfl N) ?_;refine⟨fun U=>?_,fun U=>?_⟩
  .have U:(!decide (r.e=0))=true:=U;have U: ¬r.e=0:=by simpa using U
   rw[mu U] at ax;subst ax;exact bh
  .have U:(!decide (r.e=0))=false:=U;have U:r.e=0:=by simpa using U
   obtain⟨fH,g5⟩:=bx U;rw[vj U] at ax
   exact⟨aD1,(i+1,r.l,r.g),⟨ec,ax,fun q aQ ay=>by
    rw[g5,aw2,au4] at ay;rcases ay with ay |ay
    .exact Z q (as6 _ aQ) ay
    .have ay:q=k:=by simpa using ay
     exact AG (ay▸aQ)⟩,by show iP.length - (i+1) < iP.length - i;omega,ac.sub aD ⟨rfl,rfl,rfl,rfl,as5 (fun aB=>some (ba.cells (Eh nm z n rm aB done))) fH,rfl,rfl,rfl,trivial⟩⟩
 .have J:decide ((i:Int) < (((iP.map fun k:Nat=>(k:Int)).length:Nat):Int))=false:=J;have ec:i=iP.length:=by have:=oj J;rw[at8] at this;omega
  subst ec;rw[List.drop_length] at ax;subst ax;exact bh
section
variable {z R:Nat} {L:aH2} {nm:aG9} {rm:Int} {l:aH0} {g:aH3}
def akd {d:aL} (H:dk L nm=some d) {k:Nat} (Z:k < d.im.t.length):fI z L nm (k:Int)=fi z L nm (cl L nm) k:=by unfold fI;rw[H];simp only;rw[vj ⟨aD1,aD1⟩];rfl
structure gk (z R:Nat) (L:aH2) (nm:aG9) (l:aH0) (g:aH3):Prop where
 cs:cb z R L
 iM:(dk L nm).isSome=true
 lt: ∀k,k∈l->k < b6 L nm
 ho:l.Nodup
 gt: ∀p,p∈g->p.1 < b6 L nm/\p.2.length=16*2 ^z
 El:(g.map Prod.fst).Nodup
 dj: ∀k,k∈l->k∉g.map Prod.fst
def gk.aR (h:gk z R L nm l g):b6 L nm<=256:=by obtain⟨d,H⟩:=av9.1 h.iM;have:=(h.cs.gp d (cY H).1).1.eY;unfold b6;rw[H];exact this
def gk.lQ (h:gk z R L nm l g):l.length<=256:=az4 (HA _ l h.ho h.lt) h.aR
def gk.Nm (h:gk z R L nm l g):g.length<=256:=by
 have:=HA (b6 L nm) (g.map Prod.fst) h.El fun x hx=>by
  obtain⟨p,ae,rfl⟩:=av0.1 hx;exact(h.gt p ae).1
 rw[at8] at this;exact az4 this h.aR
def gk.nil (h:gk z R L nm l g):gk z R L nm [] g:=⟨h.cs,h.iM,fun k Z=>(by cases Z),ay9,h.gt,h.El,fun k Z=>(by cases Z)⟩
def gk.sd {L':aH2} {t:aG9} (h:gk z R L nm l g) (ak:i5 L t L'):gk z R L' nm l g:=
 ⟨ak.cs h.cs,by rw[(ak.aR nm).2];exact h.iM,fun k Z=>by rw[(ak.aR nm).1];exact h.lt k Z,h.ho,fun p ae=>by rw[(ak.aR nm).1];exact h.gt p ae,h.El,h.dj⟩
def gk.Em (h:gk z R L nm l g) (rm:Int) {k:Nat} (Z:k∈l):gk z R L nm (dS z L nm rm l g k).l (dS z L nm rm l g k).g:=by
 unfold dS
 split
 .exact h.nil
 .obtain⟨d,H⟩:=av9.1 h.iM;have au:b6 L nm=d.im.t.length:=aE5
  have he:=h.lt k Z;refine⟨h.cs,h.iM,fun q aQ=>h.lt q (List.mem_of_mem_erase aQ),h.ho.erase _,fun p ae=>?_,?_,fun q aQ ay=>?_⟩
  .have ae:p∈g++[(k,fI z L nm (k:Int))]:=ae;rcases au4.1 ae with ae |ae
   .exact h.gt p ae
   .obtain rfl:=at7.1 ae;refine⟨he,?_⟩;show(fI z L nm (k:Int)).length=_;rw[akd H aD1,xe h.cs.tonV H (h.cs.b7 nm).1 k]
  .show((g++[(k,fI z L nm (k:Int))]).map Prod.fst).Nodup;rw[aw2];refine List.nodup_append.2 ⟨h.El,List.pairwise_singleton _ _,fun a ha b O=>?_⟩;have O:b=k:=by simpa using O
   rintro rfl;exact h.dj k Z (O▸ha)
  .have aQ:q∈l.erase k:=aQ;have ay:q∈(g++[(k,fI z L nm (k:Int))]).map Prod.fst:=ay;rw[aw2,au4] at ay;rcases ay with ay |ay
   .exact h.dj q (List.mem_of_mem_erase aQ) ay
   .have ay:q=k:=by simpa using ay
    exact((h.ho.mem_erase_iff).1 aQ).1 ay
def gk.zc (rm a aO:Int): ∀(ks l:aH0) (g:aH3),gk z R L nm l g->(∀k,k∈ks->k∈l)->ks.Nodup->gk z R L nm (i7 z L nm rm a aO ks l g).l (i7 z L nm rm a aO ks l g).g
 | [],l,g,h,_,_=>h
 |k::ks,l,g,h,xp,hn=>by
  unfold i7;have hn:=av5.1 hn
  split
  .exact gk.zc rm a aO ks l g h (fun q aQ=>xp q (as6 _ aQ)) hn.2
  .have Z:=h.Em rm (xp k (at6 ..))
   split
   .rename_i U;refine gk.zc rm a aO ks _ _ Z (fun q aQ=>?_) hn.2;have KV:=xp q (as6 _ aQ);unfold dS at U⊢
    split
    .rename_i c;rw[vj c] at U;exact as3 U (show¬(171:Int)=0 by decide)
    .exact(h.ho.mem_erase_iff).2 ⟨fun e=>hn.1 (e▸aQ),KV⟩
   .exact Z
def gk.Nc (h:gk z R L nm l g) (n rm:Int) (over done:Bool):Fn prog 297 [ap 2001] (iO z R L nm n rm l g over done) [] (.cn [.one (.d (.bool (kz z L nm rm l g over done).up)),dJ (kz z L nm rm l g over done).e])
  (iO z R L nm n rm (kz z L nm rm l g over done).l (kz z L nm rm l g over done).g (kz z L nm rm l g over done).over (kz z L nm rm l g over done).done):=
 aj1 h.cs nm n rm l g over done (fun k Z=>by have:=h.lt k Z;have:=h.aR;omega) (by have:=h.lQ;omega) h.ho h.dj
def f' (z:Nat) (L:aH2) (nm:aG9) (rm a aO:Int) (l:aH0) (g:aH3) (over:Bool):U7:=if over=true then⟨0,l,g,true⟩ else if aO < 1 then⟨0,l,g,false⟩ else i7 z L nm rm a aO (oO l) l g
def gk.HP (h:gk z R L nm l g) (rm a aO:Int) (over:Bool):gk z R L nm (f' z L nm rm a aO l g over).l (f' z L nm rm a aO l g over).g:=by
 unfold f'
 split
 .exact h
 .split
  .exact h
  .exact gk.zc rm a aO _ l g h (fun k Z=>(vT l).mem_iff.1 Z) ((vT l).nodup_iff.2 h.ho)
def ake (z R:Int) (L:aH2) (nm:aG9) (n rm:Int) (l:aH0) (g:aH3) (done:Bool) (a aO:Int) (E:aO < 1):Fn prog 100 [ap 2001,ab a,ab aO] (iO z R L nm n rm l g false done) [] (ab 0) (iO z R L nm n rm l g false done):=by refine aY [] func100 ?_;exact dE ⟨fun _=>bh,fun h=>as3 (oj h) aD1⟩
def gk.akf (h:gk z R L nm l g) (n rm:Int) (over done:Bool) (a aO:Int) (G:aO<=9223372036854775807):Fn prog 100 [ap 2001,ab a,ab aO] (iO z R L nm n rm l g over done) [] (ab (f' z L nm rm a aO l g over).e)
  (iO z R L nm n rm (f' z L nm rm a aO l g over).l (f' z L nm rm a aO l g over).g (f' z L nm rm a aO l g over).over done):=by
 cases over with
 |true=>exact aj' z R L nm n rm l g done a aO
 |false=>
  by_cases E:aO < 1
  .have e:f' z L nm rm a aO l g false=⟨0,l,g,false⟩:=(mu aD2).trans (vj E);rw[e];exact ake z R L nm n rm l g done a aO E
  .have e:f' z L nm rm a aO l g false=i7 z L nm rm a aO (oO l) l g:=(mu aD2).trans (mu E);rw[e];exact akc h.cs nm n rm l g done a aO aD1 G (fun k Z=>by have:=h.lt k Z;have:=h.aR;omega) h.lQ h.ho h.dj
def gk.akg (h:gk z R L nm l g) (n rm:Int) (over:Bool):Fn prog 121 [ap 2001] (iO z R L nm n rm l g over true) [] (.cn [.one (.d (.bG uy (lg g))),.one (.d (.int .i64 n)),.one (.d (.bool true))]) (iO z R L nm n rm l g over true):=
 aj2 z R L nm n rm l g over h.El (fun p ae=>by
  have E:=h.gt p ae;have G:=h.aR;have ah:=js h.cs.b3;exact⟨aD1,by rw[E.2];omega⟩) (by have:=h.Nm;omega)
end
def akh (l:aI2):(nv l).Pairwise fun a b=>y8 a b=true:=
 List.pairwise_mergeSort (le:=y8) (fun a b c E G=>at4 (Int.le_trans (gd E) (gd G))) (fun a b=>by
  rcases Int.le_total a b with h |h
  .rw[show y8 a b=true from at4 h];rfl
  .rw[show y8 b a=true from at4 h];exact Bool.or_true _) l
def U9 {l m:aI2} (ae:m.Perm l) (au:m.Pairwise fun a b=>y8 a b=true):nv l=m:=
 List.Perm.eq_of_pairwise (fun a b _ _ E G=>Int.le_antisymm (gd E) (gd G)) (akh l) au ((y9 l).trans ae.symm)
def aki:oO [0,1]=[0,1]:=by show(nv [(0:Int),1]).map Int.toNat=_;rw[U9 (m:=[0,1]) (List.Perm.refl _) aD2];rfl
end
end Go.Proofs.YtkfbeijmgggkmaaGreat
