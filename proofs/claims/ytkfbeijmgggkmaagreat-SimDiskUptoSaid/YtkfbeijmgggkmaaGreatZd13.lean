/-
A part of the proof of this claim: lemmas, with no condition beyond what each says.
-/
import Derived.Test.YtkfbeijmgggkmaaGreatZd12
set_option linter.unusedVariables false
set_option linter.unusedSimpArgs false
set_option maxRecDepth 10000
set_option maxHeartbeats 4000000
namespace Go.Proofs.YtkfbeijmgggkmaaGreat
open Go.RowKit Go.Proofs
section
abbrev agx (nm:aC3):az:=[(2001,.cells [.ptr 1001 0]),(2002,.cells [.d (.str nm)])]
abbrev S4 (z R:Int) (L:List aL) (nm:aC3):az:=bO z R L++agx nm
theorem agy (z R:Nat) (L:List aL) (d7:nt z R L) (nm:aC3) (bN:aL) (au:dk L nm=some bN) (cJ:Nat) (ie:ed L nm cJ) (mX:cJ<=100) (k:Nat) (aa:k < bN.im.t.length):
  Fn Tryz.prog 158 [ab (k:Int),aq 2001,aq 2002] (S4 z R L nm) [] (bQ .u8 (fu z L nm cJ k)) (S4 z R L nm):=by
 have dH:=Lv z R L d7 nm bN au cJ ie mX k aa;generalize fu z L nm cJ k=y at dH;refine aU [] Tryz.func158 ?_;exact av dH bg
theorem LN (z R:Int) (L:List aL) (nm:aC3) (au:dk L nm=none) (g:Nat) (x y:D):
  Fn Tryz.prog 104 [aq 1001,bT nm,.c (.one (.cY g [.p 3001 0,.p 3002 0]))] (bO z R L++[(3001,.cells [.d x]),(3002,.cells [.d y])]) [] (ab 140) (bO z R L++[(3001,.cells [.d x]),(3002,.cells [.d y])]):=by
 have hx:(bY (aI:=.str) (aK:=.aM) (c6 L) nm).getD (cO .aM)=none:=aB6
 refine aU [2] Tryz.func104 ?_;refine⟨rfl,rfl,rfl,bu [] (br) ?_⟩;exact⟨fun d5 O=>absurd (show(bY (aI:=.str) (aK:=.aM) (c6 L) nm).getD (cO .aM)=some d5 from O) aA3,fun _=>bg⟩
theorem e2.sub {N:Nat} {ids:aC4} {C:fg} {K K':aY} {B B':az} {a:Act} {w:World} (h:e2 N ids C K B a w) (cV:zF K K') (c5:k2 B B'):e2 N ids C K' B' a w:=ac.sub cV c5 N C a w h
theorem agz (t:List fd):j4 (.aG (rz t)):=by
 rintro mC sv I F w p km _ ai ⟨es,h,aZ⟩;exact⟨es,h,j4.i9 (c:=1001) (CI (bp:=o7 (t.length:Nat) es) ⟨j4.cells rfl,j4.map,trivial⟩) mC sv I F w p km (fun _ h=>by cases h) ai aZ⟩
theorem agA (l:List Int):j4 (.aG (rA l)):=by
 rintro mC sv I F w p km _ ai ⟨ρ,ce,E,G,af,aW⟩;refine⟨da ρ 1001 km,ce,c7 ..,fun d ch H=>?_,af,aW⟩;have cZ:=G d ch H;rw[cd] at H
 split at H
 .rename_i e;injection H with H
  subst H e;obtain⟨g1,aE,T,g2,cX⟩:=cZ;rw[c7];rw[E] at g1 g2;exact⟨fun b=>by rw[ai];exact g1 b,aE,T,by rw[ai];exact g2,cc.mono (cm.refl _ _) _ aE (fun c J=>dh _ _ (fun e=>by subst e;cases J)) cX⟩
 .rename_i e;rw[dh _ _ (Ne.symm e)];rw[cd] at H
  split at H
  .injection H with H
   subst H;exact Holds.cp (cm.refl _ _) (fun _ _=>rfl) (aq0 _) _ (fun c J=>by cases J) cZ
  .cases H
theorem agB (f:lp):j4 (.aG (mS f)):=by
 intro mC sv I F w p km _ ai h;have h:wu (fun _=>none) f I F w p:=h;show wu (fun _=>none) f I F w km;unfold wu at*;rw[ai];exact h
theorem agC (s:bE):F5 (dD s):=⟨j4.cells rfl,agz _,agA _,agB _,trivial⟩
def h6 (nm:aC3) (im:bE) (cP:Option (Nat->Nat)) (d:aL):aL:=if d.nm=nm then {d with im:=im,cP:=cP} else d
def dl (L:List aL) (nm:aC3) (im:bE) (cP:Option (Nat->Nat)):List aL:=L.map (h6 nm im cP)
section
variable (nm:aC3) (im:bE) (cP:Option (Nat->Nat)) (d:aL)
theorem Ay:(h6 nm im cP d).nm=d.nm:=by unfold h6;split <;>rfl
theorem LO:(h6 nm im cP d).ad=d.ad:=by unfold h6;split <;>rfl
theorem S5:(h6 nm im cP d).am=d.am:=by unfold h6;split <;>rfl
theorem ym:(h6 nm im cP d).back=d.back:=by unfold h6;split <;>rfl
theorem GJ (L:List aL):c6 (dl L nm im cP)=c6 L:=by
 unfold c6 dl;rw[at7];refine as2 fun d _=>?_
 show lR (h6 nm im cP d)=lR d;unfold lR;rw[Ay,LO]
theorem GK (L:List aL):md (dl L nm im cP)=md L:=by
 unfold md dl;rw[at7];refine as2 fun d _=>?_
 show((h6 nm im cP d).ad,tP (h6 nm im cP d).am (h6 nm im cP d).back)=_;rw[LO,S5,ym]
theorem u5 (n:aC3): ∀L:List aL,dk (dl L nm im cP) n=(dk L n).map (h6 nm im cP)
 | []=>rfl
 |d::L=>by
  show dk (h6 nm im cP d::dl L nm im cP) n=_;rw[tR,tR,Ay,u5 n L]
  split <;>rfl
end
theorem yn {L:List aL} {nm:aC3} {d:aL} (h:dk L nm=some d) (im:bE) (cP:Option (Nat->Nat)):dk (dl L nm im cP) nm=some {d with im:=im,cP:=cP}:=by
 rw[u5,h];show some (h6 nm im cP d)=_;unfold h6;rw[if_pos (cR h).2]
theorem GL {L:List aL} {nm n:aC3} (a7:n≠nm) (im:bE) (cP:Option (Nat->Nat)):dk (dl L nm im cP) n=dk L n:=by
 rw[u5]
 cases h:dk L n with
 |none=>rfl
 |some d=>
  show some (h6 nm im cP d)=_;unfold h6;rw[if_neg (fun e=>a7 ((cR h).2.symm.trans e))]
theorem agD {L:List aL} {nm:aC3} (im:bE) (cP:Option (Nat->Nat)) (h:nm∉L.map (·.nm)):dl L nm im cP=L:=by
 unfold dl;refine(as2 fun d H=>?_).trans (List.map_id' L);unfold h6;rw[if_neg fun e=>h (by rw[<-e];exact ar8 H)]
theorem GM {nm:aC3} {im:bE} {cP:Option (Nat->Nat)}: ∀{L:List aL},(L.map (·.nm)).Nodup->(L.map (·.am)).Nodup-> ∀{d:aL},dk L nm=some d->e' (ig L) d.am (kN {d with im:=im,cP:=cP})=ig (dl L nm im cP)
 | [],_,_,d,h=>by cases h
 |e::L,hn,ha,d,h=>by
  rw[ar4] at hn ha;obtain⟨cU,dU⟩:=as8.1 hn;obtain⟨bZ,cg⟩:=as8.1 ha;rw[tR] at h;show e' ((e.am,kN e)::ig L) d.am _=ig (h6 nm im cP e::dl L nm im cP);unfold e'
  by_cases c:e.nm=nm
  .rw[if_pos c] at h;injection h with h
   subst h;rw[if_pos rfl,agD im cP (by rw[<-c];exact cU)];unfold h6;rw[if_pos c];rfl
  .rw[if_neg c] at h;have a7: ¬e.am=d.am:=fun x=>bZ (by rw[x];exact ar8 (f:=fun d:aL=>d.am) (cR h).1)
   rw[if_neg a7,GM dU cg h];unfold h6;rw[if_neg c];rfl
theorem S6 {b:Nat} {o:bc}: ∀L:List (Nat×bc),kr (e' L b o) b=kr L b
 | []=>rfl
 |(a,q)::L=>by
  unfold e'
  by_cases e:a=b
  .rw[if_pos e];show(if a=b then L else _)=if a=b then L else _
   rw[if_pos e,if_pos e]
  .rw[if_neg e];show(if a=b then _ else(a,q)::kr (e' L b o) b)=if a=b then L else(a,q)::kr L b
   rw[if_neg e,if_neg e,S6 L]
theorem LP {L:List aL} (nm:aC3) (im:bE) (cP:Option (Nat->Nat)) {n:aC3} {k:Nat} (h:ed L n k):ed (dl L nm im cP) n k:=by
 induction h with
 |gone h=>exact .gone (by rw[u5,h];rfl)
 |base E G=>exact .base (d:=h6 nm im cP _) (by rw[u5,E];rfl) (by rw[ym];exact G)
 |step E G af bq=>exact .step (d:=h6 nm im cP _) (by rw[u5,E];rfl) (by rw[ym];exact G) (by rw[ym];exact bq)
theorem Az (L:List aL) (nm:aC3) (im:bE) (cP:Option (Nat->Nat)): ∀(k:Nat) (n:aC3),c4 (dl L nm im cP) k n=c4 L k n
 |0,_=>rfl
 |k+1,n=>by
  show(match dk (dl L nm im cP) n with |none=>[] |some d=>d.back::c4 (dl L nm im cP) k d.back)=match dk L n with |none=>[] |some d=>d.back::c4 L k d.back
  rw[u5]
  cases h:dk L n with
  |none=>rfl
  |some d=>
   show(h6 nm im cP d).back::c4 (dl L nm im cP) k (h6 nm im cP d).back=d.back::c4 L k d.back;rw[ym,Az L nm im cP k]
theorem iP.dl {L:List aL} (h:iP L) (nm:aC3) (im:bE) (cP:Option (Nat->Nat)):iP (dl L nm im cP):=by
 have key: ∀{α:Type} (f:aL->α),(∀d,f (h6 nm im cP d)=f d)->(Go.Proofs.YtkfbeijmgggkmaaGreat.dl L nm im cP).map f=L.map f:=fun f hf=>by
  unfold Go.Proofs.YtkfbeijmgggkmaaGreat.dl;rw[at7];exact as2 fun d _=>hf d
 exact⟨by rw[key _ (Ay nm im cP)];exact h.jd,by rw[key _ (LO nm im cP)];exact h.me,by rw[key _ (S5 nm im cP)];exact h.yc⟩
theorem nt.dl {z R:Nat} {L:List aL} (h:nt z R L) {nm:aC3} {bN:aL} (au:dk L nm=some bN) {im:bE} (aw:ix bN.im im) (cP:Option (Nat->Nat)):nt z R (dl L nm im cP):=by
 obtain⟨fq,gP,mW⟩:=h.gl bN (cR au).1
 have key: ∀d,d∈Go.Proofs.YtkfbeijmgggkmaaGreat.dl L nm im cP-> ∃e,e∈L/\h6 nm im cP e=d:=fun d H=>by
  obtain⟨e,U,rfl⟩:=as9.1 H;exact⟨e,U,rfl⟩
 refine⟨h.toiP.dl nm im cP,h.b3,h.wG,by unfold Go.Proofs.YtkfbeijmgggkmaaGreat.dl;rw[ar1];exact h.len,fun d H=>?_,fun d H O=>?_,fun d H=>?_,fun d H=>?_⟩
 .obtain⟨e,U,rfl⟩:=key d H;unfold h6
  split
  .exact⟨aw.ok,aw.z.trans gP,aw.lu.trans mW⟩
  .exact h.gl e U
 .obtain⟨e,U,rfl⟩:=key d H;rw[ym] at O⊢;obtain⟨b7,h'⟩:=h.iy e U O;exact⟨h6 nm im cP b7,by rw[u5,h'];rfl⟩
 .obtain⟨e,U,rfl⟩:=key d H;rw[Ay];exact h.ne e U
 .obtain⟨e,U,rfl⟩:=key d H;rw[Ay];obtain⟨k,aa,H⟩:=h.tQ e U;exact⟨k,aa,LP nm im cP H⟩
theorem AA {L:List aL} {n:aC3} {k dZ:Nat} (h:ed L n k) (h':ed L n dZ):k=dZ:=by
 induction h generalizing dZ with
 |gone h=>
  cases h' with
  |gone _=>rfl
  |base _ _=>rfl
  |step E _ _=>rw[h] at E;cases E
 |base E G=>
  cases h' with
  |gone _=>rfl
  |base _ _=>rfl
  |step g1 g2 _=>rw[E] at g1;injection g1 with g1;rw[<-g1] at g2;exact absurd G g2
 |step E G af bq=>
  cases h' with
  |gone h=>rw[E] at h;cases h
  |base g1 g2=>rw[E] at g1;injection g1 with g1;rw[<-g1] at g2;exact absurd g2 G
  |step g1 g2 cX=>rw[E] at g1;injection g1 with g1;rw[<-g1] at cX;rw[bq cX]
theorem LQ {L:List aL} {n:aC3} {k:Nat} (h:ed L n k): ∀x,x∈c4 L k n-> ∃j,j < k/\ed L x j:=by
 induction h with
 |gone _=>intro x hx;cases hx
 |base _ _=>intro x hx;cases hx
 | @step n d k E G af bq=>
  intro x hx;unfold c4 at hx;rw[E] at hx;rcases aq5.1 hx with rfl |hx
  .exact⟨k,Nat.lt_succ_self k,af⟩
  .obtain⟨j,V,H⟩:=bq x hx;exact⟨j,ay4,H⟩
theorem LR {L:List aL} {n:aC3} {k:Nat} (h:ed L n k):n∉c4 L k n:=fun hx=>by
 obtain⟨j,V,H⟩:=LQ h n hx;have:=AA h H;omega
theorem GN {z:Nat} {L:List aL} {nm:aC3} {im:bE} {cP:Option (Nat->Nat)} {c:Nat}: ∀(ns:List aC3) (i:Nat),nm∉ns->hs z (dl L nm im cP) c ns i=hs z L c ns i
 | [],_,_=>rfl
 |n::ns,i,h=>by
  have a7:n≠nm:=fun e=>h (by rw[e];exact ar2 ..)
  have bq:=GN (z:=z) (L:=L) (nm:=nm) (im:=im) (cP:=cP) (c:=c) ns (i+1) fun aA=>h (aq2 _ aA)
  unfold hs;rw[GL a7,bq]
def hu (z:Nat) (L:List aL) (nm:aC3) (cJ c:Nat):aC3:=(hs z L c (c4 L cJ nm) 1).1
theorem S7 {z:Nat} {L:List aL} {nm:aC3} {bN:aL} (au:dk L nm=some bN) {cJ:Nat} (ie:ed L nm cJ) (im:bE) (cP:Option (Nat->Nat)) (c:Nat):
  fu z (dl L nm im cP) nm cJ c=if c < im.t.length/\(im.t.getD c ck).1≠0 then eh im c none else hu z L nm cJ c:=by
 unfold fu hu;rw[Az]
 conv=>lhs;unfold hs
 rw[yn au];simp only
 split
 .rfl
 .rw[GN _ _ (LR ie)]
abbrev AB (z R:Int) (L:List aL) (nm:aC3) (am:Nat):az:=[(8001,.cells [.d (.int .i64 z),.d (.int .i64 R),.mp 8002]),(8002,.map .str .aM (c6 L)),(8003,.aG (.bx (md L))),(8004,.aG (.bx (kr (ig L) am))),(8005,.cells [.ptr 8001 0]),(8006,.cells [.d (.str nm)])]
def sH (z R:Int) (L:List aL) (nm:aC3) (am:Nat) (bs:Nat->Nat):bn->bc:=.pE am (.nh (AB z R L nm am) bs)
theorem S8 (z R:Int) (L:List aL) (nm:aC3) (am:Nat):F5 (AB z R L nm am):=⟨j4.cells rfl,j4.map,j4.bx,j4.bx,j4.cells rfl,j4.cells rfl,trivial⟩
abbrev lT (z R:Int) (L:List aL) (nm:aC3):az:=[(8001,.cells [.d (.int .i64 z),.d (.int .i64 R),.mp 8002]),(8002,.map .str .aM (c6 L)),(8003,.aG (.bx (md L))),(8004,.aG (.bx (ig L))),(8005,.cells [.ptr 8001 0]),(8006,.cells [.d (.str nm)])]
abbrev De (am cW dJ dM:Nat):Nat->Nat:=fun c=>cond (Nat.beq c 1001) am (cond (Nat.beq c 1002) cW (cond (Nat.beq c 1003) dJ dM))
abbrev pQ (cW dJ dM:Nat):Nat->Nat:=fun c=>cond (Nat.beq c 1002) cW (cond (Nat.beq c 1003) dJ dM)
abbrev S9 (am cW dJ dM:Nat):az:=[(9001,.b5 1001 (fc am)),(9002,.b5 1002 (fc cW)),(9003,.b5 1003 (fc dJ)),(9004,.b5 1004 (fc dM))]
abbrev LS (bs:Nat->Nat):az:=[(7001,.b5 8001 (fc (bs 8001))),(7002,.b5 8002 (fc (bs 8002))),(7003,.b5 8003 (fc (bs 8003))),(7004,.b5 8004 (fc (bs 8004))),(7005,.b5 8005 (fc (bs 8005))),(7006,.b5 8006 (fc (bs 8006)))]
theorem agE (z R:Nat) (L:List aL) (d7:nt z R L) (nm:aC3) (bN:aL) (au:dk L nm=some bN) (cJ:Nat) (ie:ed L nm cJ) (mX:cJ<=100) (k:Nat) (aa:k < bN.im.t.length):
  Fn Tryz.prog 158 [ab (k:Int),aq 8005,aq 8006] (lT z R L nm) [] (bQ .u8 (fu z L nm cJ k)) (lT z R L nm):=
 Fn.aV [(1001,8001),(1002,8002),(1003,8003),(1004,8004),(2001,8005),(2002,8006)] (agy z R L d7 nm bN au cJ ie mX k aa)
theorem agF (z R:Nat) (L:List aL) (d7:nt z R L) (nm:aC3) (bN:aL) (au:dk L nm=some bN) (cJ:Nat) (ie:ed L nm cJ) (mX:cJ<=100) (s:bE) (aw:ix bN.im s) (bs:Nat->Nat) (c:Nat) (J:c < s.t.length) (aN:(s.t[c]).1=0):
  Gl s (sH z R L nm bN.am bs) (bs 8005) (bs 8006) c (hu z L nm cJ c):=by
 have bV:(hu z L nm cJ c).length<=1000000:=by
  have:=SH d7 c (c4 L cJ nm) 1;unfold hu;omega
 refine⟨bV,?_⟩;have fy:=d7.toiP.M (cR au).1
 have Jo: ∀cP,fu z (dl L nm s cP) nm cJ c=hu z L nm cJ c:=fun cP=>by
  rw[S7 au ie,if_neg fun h=>h.2 (by rw[aq3,oj J];exact aN)]
 have ko: ∀cP,Fn Tryz.prog 158 [ab (c:Int),aq 8005,aq 8006] (lT z R (dl L nm s cP) nm) [] (bQ .u8 (hu z L nm cJ c)) (lT z R (dl L nm s cP) nm):=fun cP=>by
  have:=agE z R (dl L nm s cP) (d7.dl au aw cP) nm _ (yn au s cP) cJ (LP nm s cP ie) mX c J;rw[Jo cP] at this;exact this
 have Ta: ∀cW dJ dM,kN {bN with im:=s,cP:=some (pQ cW dJ dM)}= .nh (dD s) (De bN.am cW dJ dM):=fun cW dJ dM=>rfl
 have lI: ∀cW dJ dM,e' (ig L) bN.am (.nh (dD s) (De bN.am cW dJ dM))=ig (dl L nm s (some (pQ cW dJ dM))):=fun cW dJ dM=>by
  rw[<-Ta];exact GM d7.jd d7.yc au
 have agG: ∀cW dJ dM,eu (ig (dl L nm s (some (pQ cW dJ dM)))) bN.am=some (.nh (dD s) (De bN.am cW dJ dM)):=fun cW dJ dM=>by
  have:=(d7.toiP.dl nm s (some (pQ cW dJ dM))).M (cR (yn au s (some (pQ cW dJ dM)))).1;rw[Ta] at this;exact this
 have agH: ∀cW dJ dM,kr (ig (dl L nm s (some (pQ cW dJ dM)))) bN.am=kr (ig L) bN.am:=fun cW dJ dM=>by
  rw[<-lI,S6]
 refine Fn.via (X:=Nat×Nat×Nat) (args':=fun _=>[ab (c:Int),aq 8005,aq 8006]) (uQ:=fun x=>lT z R (dl L nm s (some (pQ x.1 x.2.1 x.2.2))) nm++(LS bs++S9 bN.am x.1 x.2.1 x.2.2)) (nc:=fun x=>lT z R (dl L nm s (some (pQ x.1 x.2.1 x.2.2))) nm) (jo:=fun _=>[]) (res':=fun _=>bQ .u8 (hu z L nm cJ c)) (n2:=fun x=>lT z R (dl L nm s (some (pQ x.1 x.2.1 x.2.2))) nm)
  ay7 3 rfl ?_ (fun x=>ko _) (fun x=>aC) (fun x=>rfl) (fun x=>rfl) ?_
 .intro N C a w LT;have E:=ac.fl 9000 1001 bN.am rfl N C a w (ac.adb 9000 1001 9001 bN.am rfl rfl ay5 N C a w LT);obtain⟨cW,G⟩:=di.mark 1002 9002 rfl ay5 N C a w E;obtain⟨dJ,af⟩:=di.mark 1003 9003 rfl ay5 N C a w G;obtain⟨dM,aW⟩:=di.mark 1004 9004 rfl ay5 N C a w af;have bG:=ac.KB 9100 (dD s) (fun c=>c+8000) (De bN.am cW dJ dM) aC aC rfl N C a w aW;have fF:=ac.place 8006 7006 (bs 8006) rfl rfl ay5 N C a w (ac.place 8005 7005 (bs 8005) rfl rfl ay5 N C a w (ac.place 8004 7004 (bs 8004) rfl rfl ay5 N C a w (ac.place 8003 7003 (bs 8003) rfl rfl ay5 N C a w (ac.place 8002 7002 (bs 8002) rfl rfl ay5 N C a w (ac.place 8001 7001 (bs 8001) rfl rfl ay5 N C a w bG)))));have jZ:=ac.KC 9000 (AB z R L nm bN.am) (fun c=>c - 1000) bs rfl aC rfl rfl (CI (S8 z R L nm bN.am)) N C a w fF;have iu:=ac.adm 8004 9100 bN.am rfl rfl fy ay5 N C a w jZ;have vU:=ac.KD 1 8005 7005 (bs 8005) rfl rfl N C a w iu;have BK:=ac.KD 2 8006 7006 (bs 8006) rfl rfl N C a w vU;have a1:=GJ nm s (some (pQ cW dJ dM)) L;have cf:=GK nm s (some (pQ cW dJ dM)) L;refine⟨(cW,dJ,dM),e2.sub BK aC ⟨rfl,congrArg (fun e=>some (ba.map .str .aM e)) a1.symm,congrArg (fun e=>some (ba.aG (.bx e))) cf.symm,congrArg (fun e=>some (ba.aG (.bx e))) (lI cW dJ dM),rfl,rfl,rfl,rfl,rfl,rfl,rfl,rfl,rfl,rfl,rfl,rfl,trivial⟩⟩
 .rintro⟨cW,dJ,dM⟩;have a1:=GJ nm s (some (pQ cW dJ dM)) L;have cf:=GK nm s (some (pQ cW dJ dM)) L
  refine⟨bQ .u8 (hu z L nm cJ c),_,ac.trans (cM [(3,bQ .u8 (hu z L nm cJ c))] (lT z R (dl L nm s (some (pQ cW dJ dM))) nm++(LS bs++S9 bN.am cW dJ dM)))
   (ac.trans (ac.CK 8004 9100 bN.am rfl (agG cW dJ dM) rfl) (ac.trans (ac.ade 9100 bN.am rfl)
   (ac.trans (ac.KB 9000 (AB z R L nm bN.am) (fun c=>c - 1000) bs ⟨rfl,congrArg (fun e=>some (ba.map .str .aM e)) a1,congrArg (fun e=>some (ba.aG (.bx e))) cf,congrArg (fun e=>some (ba.aG (.bx e))) (agH cW dJ dM),rfl,rfl,trivial⟩ aC rfl)
   (ac.trans (ac.adc 9000 1001 9001 bN.am rfl rfl) (ac.KC 9100 (dD s) (fun c=>c+8000) (De bN.am cW dJ dM) rfl aC rfl rfl (CI (agC s))))))),?_,?_,?_⟩
  .exact rfl
  .exact aC
  .rfl
theorem Tb {f:FuncId} {args:List aP} {res:aP} {s s':bE} {bo:bn->bc} (h:Fn Tryz.prog f (aq 1001::args) (f1 s bo) [] res (f1 s' bo)) (E:nZ 1001 [1002,1003,1004] (aq 1001::args) (dD s) [(9000,.b5 1001 bo)] [] []=true) (G:n0 1001 (mO [1002,1003,1004] [] []) res (dD s') [(9000,.b5 1001 bo)]=true):
  Fn Tryz.prog f (aq 1001::args) [(1001,.aG (jb s)),(9000,.b5 1001 bo)] [] res [(1001,.aG (jb s')),(9000,.b5 1001 bo)]:=
 Fn.close (bp:=dD s) (dG:=dD s') (aJ:=[(9000,.b5 1001 bo)]) (aO:=[(9000,.b5 1001 bo)]) [1002,1003,1004] h (fun _ _ _ _ h=>h) (fun _ _ _ _ h=>h) E G
abbrev lv (x y:D):az:=[(3001,.cells [.d x]),(3002,.cells [.d y])]
abbrev AC (dQ cW dJ dM kQ lw:Nat):Nat->Nat:=fun c=>cond (Nat.beq c 8001) dQ (cond (Nat.beq c 8002) cW (cond (Nat.beq c 8003) dJ (cond (Nat.beq c 8004) dM (cond (Nat.beq c 8005) kQ lw))))
abbrev Df:aP:=.c (.one (.cY 158 [.p 8005 0,.p 8006 0]))
abbrev GO (z R:Int) (L:List aL) (nm:aC3) (am:Nat) (s:bE) (dQ cW dJ dM kQ lw:Nat) (x y:D):az:=[(7000,.aG (jb s)),(9000,.b5 7000 (sH z R L nm am (AC dQ cW dJ dM kQ lw)))]++(LS (AC dQ cW dJ dM kQ lw)++lv x y)
abbrev Tc:aC4:=[8001,8002,8003,8004,8005,8006,3001,3002]
abbrev LU (am:Nat):aY:=[(0,dr am),(1,Df),(2,aq 3001),(3,aq 3002)]
abbrev agI (kQ lw:Nat):aY:=[(0,aq 7000),(1,nq kQ lw),(2,aq 3001),(3,aq 3002)]
theorem ac.Td (z R:Int) (L:List aL) (nm:aC3) (am:Nat) (im:bE) (cL:eu (ig L) am=some (jb im)) (x y:D):
  di (X:=Nat×Nat×Nat×Nat×Nat×Nat) Tc (LU am) (lT z R L nm++lv x y) (fun p=>agI p.2.2.2.2.1 p.2.2.2.2.2) (fun p=>GO z R L nm am im p.1 p.2.1 p.2.2.1 p.2.2.2.1 p.2.2.2.2.1 p.2.2.2.2.2 x y):=by
 intro N C a w LT;have E:=ac.CK 8004 7000 am rfl cL rfl N C a w LT;obtain⟨dQ,G⟩:=di.mark 8001 7001 rfl ay5 N C a w E;obtain⟨cW,af⟩:=di.mark 8002 7002 rfl ay5 N C a w G;obtain⟨dJ,aW⟩:=di.mark 8003 7003 rfl ay5 N C a w af;obtain⟨dM,bG⟩:=di.mark 8004 7004 rfl ay5 N C a w aW;obtain⟨kQ,fF⟩:=di.mark 8005 7005 rfl ay5 N C a w bG;obtain⟨lw,jZ⟩:=di.mark 8006 7006 rfl ay5 N C a w fF;have iu:=ac.KB 9000 (AB z R L nm am) (fun c=>c - 1000) (AC dQ cW dJ dM kQ lw) aC aC rfl N C a w jZ;have vU:=ac.adf 1 158 8005 8006 7005 7006 kQ lw rfl rfl rfl N C a w iu;have BK:=ac.Rx 0 7000 am rfl rfl N C a w vU;have agJ:=ac.pE 9000 7000 am rfl rfl ay5 N C a w BK;exact⟨(dQ,cW,dJ,dM,kQ,lw),e2.sub agJ aC aC⟩
theorem ac.Te (z R:Int) (L:List aL) (fa:iP L) (nm:aC3) (bN:aL) (au:dk L nm=some bN) (ai:bN.cP=none) (s:bE) (dQ cW dJ dM kQ lw:Nat) (x y:D) (r:Int):
  ac Tc [(6,ab r)] (GO z R L nm bN.am s dQ cW dJ dM kQ lw x y) [(6,ab r)] (lT z R (dl L nm s none) nm++lv x y):=by
 have fy:=fa.M (cR au).1;have a1:=GJ nm s none L;have cf:=GK nm s none L;have aj:e' (ig L) bN.am (jb s)=ig (dl L nm s none):=GM (cP:=none) (im:=s) fa.jd fa.yc au
 exact ac.trans (ac.ada 9000 7000 bN.am rfl rfl ay5) (ac.trans (ac.KC 9000 (AB z R L nm bN.am) (fun c=>c - 1000) (AC dQ cW dJ dM kQ lw) rfl aC rfl rfl (CI (S8 z R L nm bN.am)))
  (ac.trans (ac.RC 8004 7000 bN.am rfl rfl fy ay5) (ac.sub aC ⟨rfl,congrArg (fun e=>some (ba.map .str .aM e)) a1.symm,congrArg (fun e=>some (ba.aG (.bx e))) cf.symm,congrArg (fun e=>some (ba.aG (.bx e))) aj,rfl,rfl,rfl,rfl,trivial⟩)))
theorem agK (z R:Int) (L:List aL) (fa:iP L) (nm:aC3) (bN:aL) (au:dk L nm=some bN) (ai:bN.cP=none) (a:Int) (bs:aC3) (r:Int) (s':bE)
  (h: ∀bD:Nat->Nat,Fn Tryz.prog 106 [aq 1001,ab a,bQ .u8 bs,nq (bD 8005) (bD 8006)] (f1 bN.im (sH z R L nm bN.am bD)) [] (ab r) (f1 s' (sH z R L nm bN.am bD))):
  Fn Tryz.prog 105 [dr bN.am,Df,aq 3001,aq 3002] (lT z R L nm++lv (.int .i64 a) (.co .u8 bs)) [] (ab r) (lT z R (dl L nm s' none) nm++lv (.int .i64 a) (.co .u8 bs)):=by
 have fy:eu (ig L) bN.am=some (jb bN.im):=by
  have:=fa.M (cR au).1
  rwa[show kN bN=jb bN.im by unfold kN;rw[ai]] at this
 refine aU [1] Tryz.func105 ?_;refine bw.le (cM (LU bN.am) (lT z R L nm++lv (.int .i64 a) (.co .u8 bs))) <| bw.e4 (ac.Td z R L nm bN.am bN.im fy _ _) fun p=>?_
 obtain⟨dQ,cW,dJ,dM,kQ,lw⟩:=p;exact bu [] (br) <| av (Fn.aV [(1001,7000)] (Tb (h (AC dQ cW dJ dM kQ lw)) rfl rfl)) ⟨_,_,_,ac.trans (cM [(6,ab r)] (GO z R L nm bN.am s' dQ cW dJ dM kQ lw (.int .i64 a) (.co .u8 bs))) (ac.Te z R L fa nm bN au ai s' dQ cW dJ dM kQ lw _ _ r),rfl,rfl,aC,rfl⟩
theorem agL (z R:Int) (L:List aL) (fa:iP L) (nm:aC3) (bN:aL) (au:dk L nm=some bN) (ai:bN.cP=none) (a l:Int) (r:Int) (s':bE)
  (h: ∀bD:Nat->Nat,Fn Tryz.prog 108 [aq 1001,ab a,ab l,nq (bD 8005) (bD 8006)] (f1 bN.im (sH z R L nm bN.am bD)) [] (ab r) (f1 s' (sH z R L nm bN.am bD))):
  Fn Tryz.prog 107 [dr bN.am,Df,aq 3001,aq 3002] (lT z R L nm++lv (.int .i64 a) (.int .i64 l)) [] (ab r) (lT z R (dl L nm s' none) nm++lv (.int .i64 a) (.int .i64 l)):=by
 have fy:eu (ig L) bN.am=some (jb bN.im):=by
  have:=fa.M (cR au).1
  rwa[show kN bN=jb bN.im by unfold kN;rw[ai]] at this
 refine aU [1] Tryz.func107 ?_;refine bw.le (cM (LU bN.am) (lT z R L nm++lv (.int .i64 a) (.int .i64 l))) <| bw.e4 (ac.Td z R L nm bN.am bN.im fy _ _) fun p=>?_
 obtain⟨dQ,cW,dJ,dM,kQ,lw⟩:=p;exact bu [] (br) <| av (Fn.aV [(1001,7000)] (Tb (h (AC dQ cW dJ dM kQ lw)) rfl rfl)) ⟨_,_,_,ac.trans (cM [(6,ab r)] (GO z R L nm bN.am s' dQ cW dJ dM kQ lw (.int .i64 a) (.int .i64 l))) (ac.Te z R L fa nm bN au ai s' dQ cW dJ dM kQ lw _ _ r),rfl,rfl,aC,rfl⟩
theorem agM (z R:Int) (L:List aL) (fa:iP L) (nm:aC3) (bN:aL) (au:dk L nm=some bN) (ai:bN.cP=none) (a l:Int) (r:Int) (s':bE)
  (h:Fn Tryz.prog 110 [aq 1001,ab a,ab l] (dD bN.im) [] (ab r) (dD s')):
  Fn Tryz.prog 109 [dr bN.am,Df,aq 3001,aq 3002] (lT z R L nm++lv (.int .i64 a) (.int .i64 l)) [] (ab r) (lT z R (dl L nm s' none) nm++lv (.int .i64 a) (.int .i64 l)):=by
 have fy:eu (ig L) bN.am=some (jb bN.im):=by
  have:=fa.M (cR au).1
  rwa[show kN bN=jb bN.im by unfold kN;rw[ai]] at this
 have a1:=GJ nm s' none L;have cf:=GK nm s' none L;have aj:e' (ig L) bN.am (jb s')=ig (dl L nm s' none):=GM (cP:=none) (im:=s') fa.jd fa.yc au;have J:Fn Tryz.prog 110 [aq 1001,ab a,ab l] [(1001,.aG (jb bN.im))] [] (ab r) [(1001,.aG (jb s'))]:=Fn.close (bp:=dD bN.im) (dG:=dD s') (aJ:=[]) (aO:=[]) [1002,1003,1004] h (fun _ _ _ _ h=>h) (fun _ _ _ _ h=>h) rfl rfl;have aT:=(cx.bx (c:=1001) (q:=8004) (b:=bN.am) (args:=[ab a,ab l]) (aJ:=[]) (bb:=[]) (X:=Unit) (res:=fun _=>ab r) (aO:=fun _=>[]) (o:=jb bN.im) (o':=fun _=>jb s') (L:=ig L) J.x fy rfl ⟨rfl,rfl⟩ rfl (fun _=>rfl)).fn;refine aU [] Tryz.func109 ?_;exact av aT <| sx br rfl rfl ⟨rfl,congrArg (fun e=>some (ba.map .str .aM e)) a1.symm,congrArg (fun e=>some (ba.aG (.bx e))) cf.symm,congrArg (fun e=>some (ba.aG (.bx e))) aj,rfl,rfl,rfl,rfl,trivial⟩ rfl
theorem LV (z R:Int) (L L':List aL) (fa:iP L) (nm:aC3) (bN:aL) (au:dk L nm=some bN) (f:Nat) (r:Int) (x y:D)
  (hf:Fn Tryz.prog f [dr bN.am,Df,aq 3001,aq 3002] (lT z R L nm++lv x y) [] (ab r) (lT z R L' nm++lv x y)):
  Fn Tryz.prog 104 [aq 1001,bT nm,.c (.one (.cY f [.p 3001 0,.p 3002 0]))] (bO z R L++lv x y) [] (ab r) (bO z R L'++lv x y):=by
 obtain⟨o8,gj,gk⟩:=ku yd;have cL:=fa.D (cR au).1;have hx:(bY (aI:=.str) (aK:=.aM) (c6 L) nm).getD (cO .aM)=some bN.ad:=aB6
 refine aU [2] Tryz.func104 ?_;refine⟨rfl,rfl,rfl,bu [] (br) ?_⟩;refine⟨fun d5 O=>⟨_,_,fun N=>i' (b:=bN.ad) rfl aB1 N,rfl,?_⟩,fun O=>absurd (show(bY (aI:=.str) (aK:=.aM) (c6 L) nm).getD (cO .aM)=none from O) aA3⟩;refine⟨_,_,fun N=>jq rfl Tryz.underlying122 rfl rfl gj az6 rfl N,rfl,?_⟩;refine⟨_,_,fun N=>lq (q:=1003) rfl Tryz.underlying112 rfl rfl rfl cL rfl N,rfl,?_⟩;exact av (Fn.aV [(8001,1001),(8002,1002),(8003,1003),(8004,1004),(8005,3),(8006,4)] hf) bg
theorem Tf (z R:Int) (L L':List aL) (nm:aC3) (a:Int) (bs:aC3) (r:Int)
  (h:Fn Tryz.prog 104 [aq 1001,bT nm,.c (.one (.cY 105 [.p 3001 0,.p 3002 0]))] (bO z R L++lv (.int .i64 a) (.co .u8 bs)) [] (ab r) (bO z R L'++lv (.int .i64 a) (.co .u8 bs))):
  Fn Tryz.prog 63 [aq 1001,bT nm,ab a,bQ .u8 bs] (bO z R L) [] (ab r) (bO z R L'):=by
 refine aU [] Tryz.func63 ?_;exact⟨rfl,rfl,av (Fn.aV [(3001,6),(3002,7)] h) bg⟩
theorem Tg (z R:Int) (L L':List aL) (nm:aC3) (a l:Int) (r:Int)
  (h:Fn Tryz.prog 104 [aq 1001,bT nm,.c (.one (.cY 107 [.p 3001 0,.p 3002 0]))] (bO z R L++lv (.int .i64 a) (.int .i64 l)) [] (ab r) (bO z R L'++lv (.int .i64 a) (.int .i64 l))):
  Fn Tryz.prog 65 [aq 1001,bT nm,ab a,ab l] (bO z R L) [] (ab r) (bO z R L'):=by
 refine aU [] Tryz.func65 ?_;exact⟨rfl,rfl,av (Fn.aV [(3001,6),(3002,7)] h) bg⟩
theorem Th (z R:Int) (L L':List aL) (nm:aC3) (a l:Int) (r:Int)
  (h:Fn Tryz.prog 104 [aq 1001,bT nm,.c (.one (.cY 109 [.p 3001 0,.p 3002 0]))] (bO z R L++lv (.int .i64 a) (.int .i64 l)) [] (ab r) (bO z R L'++lv (.int .i64 a) (.int .i64 l))):
  Fn Tryz.prog 67 [aq 1001,bT nm,ab a,ab l] (bO z R L) [] (ab r) (bO z R L'):=by
 refine aU [] Tryz.func67 ?_;exact⟨rfl,rfl,av (Fn.aV [(3001,6),(3002,7)] h) bg⟩
theorem Fn.res {P:Program} {f:FuncId} {args:List aP} {aJ:az} {bb:aC4} {res res':aP} {aO:az} (h:Fn P f args aJ bb res aO) (ak:tg res res'):Fn P f args aJ bb res' aO:=
 ⟨h.1,fun ρ F I w bU bZ cg a3 a4 a5 gB=>(h.2 ρ F I w bU bZ cg a3 a4 a5 gB).mono fun e w' ⟨x,ρ',F',r1,r2,gg,I',j2,lL,mb,lM,mQ,n1⟩=>⟨x,ρ',F',r1,r2,gg,I',j2,lL,mb,lM,mQ,v' ak n1⟩⟩
theorem cx.to {P:Program} {f:FuncId} {args:List aP} {aJ:az} {bb:aC4} {X Y:Type} {res:X->aP} {aO:X->az} {res':Y->aP} {n2:Y->az} (h:cx P f args aJ bb res aO) (g:X->Y) (E: ∀x,res x=res' (g x)) (G: ∀x,aO x=n2 (g x)):cx P f args aJ bb res' n2:=
 ⟨h.1,fun ρ F I w bU bZ cg a3 a4 a5 gB=>(h.2 ρ F I w bU bZ cg a3 a4 a5 gB).mono fun e w' ⟨y,x,ρ',F',r1,r2,gg,I',j2,lL,mb,lM,mQ,n1⟩=>by
  rw[G] at mb lM mQ;rw[E] at n1;exact⟨g y,x,ρ',F',r1,r2,gg,I',j2,lL,mb,lM,mQ,n1⟩⟩
def AD (L:List aL):Nat->aC3->Nat
 |0,_=>0
 |f+1,nm=>match dk L nm with
  |none=>0
  |some d=>if d.back=[] then 0 else AD L f d.back+1
def cl (L:List aL) (nm:aC3):Nat:=AD L 100 nm
theorem agN {L:List aL} {nm:aC3} {k:Nat} (h:ed L nm k): ∀f,k<=f->AD L f nm=k:=by
 induction h with
 |gone h=>
  intro f _
  cases f with
  |zero=>rfl
  |succ f=>unfold AD;rw[h]
 |base E G=>
  intro f _
  cases f with
  |zero=>rfl
  |succ f=>unfold AD;rw[E];simp only;rw[if_pos G]
 |step E G _ bq=>
  intro f hf
  cases f with
  |zero=>omega
  |succ f=>unfold AD;rw[E];simp only;rw[if_neg G,bq f ay4]
theorem rL {L:List aL} {nm:aC3} {k:Nat} (h:ed L nm k) (aa:k<=100):cl L nm=k:=agN h 100 aa
structure cb (z R:Nat) (L:List aL):Prop extends nt z R L where
 u6:LH L
 GP: ∀d,d∈L->gY d.nm=true
theorem Dg {s:aC3} (h:gY s=true):1<=s.length/\s.length<=15:=by
 unfold gY at h;simp only[vj] at h;exact⟨gd h.1.1,gd h.1.2⟩
section
variable {z R:Nat} {L:List aL}
theorem cb.Ti (h:cb z R L): ∀d,d∈L->d.nm.length<=100000:=fun d H=>by
 have:=Dg (h.GP d H);omega
theorem cb.b5 (h:cb z R L) (nm:aC3):ed L nm (cl L nm)/\cl L nm<=8:=by
 cases e:dk L nm with
 |none=>
  have:=ed.gone e;rw[rL this ay4];exact⟨this,ay4⟩
 |some d=>
  obtain⟨k,aa,H⟩:=h.tQ d (cR e).1;rw[(cR e).2] at H;rw[rL H ay4];exact⟨H,aa⟩
theorem cb.nil (E:z<=3) (G:R<=512):cb z R []:=
 ⟨⟨⟨av8,av8,av8⟩,E,G,aq8 _,(fun _ h=>by cases h),(fun _ h=>by cases h),(fun _ h=>by cases h),(fun _ h=>by cases h)⟩,(fun _ h=>by cases h),(fun _ h=>by cases h)⟩
theorem LW: ∀{L:List aL},(L.map (·.nm)).Nodup-> ∀{d:aL},d∈L->dk L d.nm=some d
 | [],_,d,h=>by cases h
 |e::L,hn,d,h=>by
  rw[ar4] at hn;obtain⟨cU,dU⟩:=as8.1 hn;rw[tR];rcases aq5.1 h with rfl |h
  .rw[if_pos rfl]
  .rw[if_neg fun x=>cU (by rw[x];exact ar8 (f:=fun d:aL=>d.nm) h),LW dU h]
theorem AE (hn:(L.map (·.nm)).Nodup) {nm:aC3} {d:aL} (h:dk L nm=some d) (ai:d.cP=none):dl L nm d.im none=L:=by
 unfold dl;refine(as2 fun e U=>?_).trans (List.map_id' L);unfold h6
 split
 .rename_i c;have:=LW hn U;rw[c,h] at this;injection this with this
  subst this;rw[<-ai]
 .rfl
theorem cb.dl (h:cb z R L) {nm:aC3} {bN:aL} (au:dk L nm=some bN) {im:bE} (aw:ix bN.im im):cb z R (dl L nm im none):=by
 refine⟨h.tont.dl au aw none,fun d H=>?_,fun d H=>?_⟩
 .obtain⟨e,U,rfl⟩:=as9.1 H;unfold h6
  split
  .rfl
  .exact h.u6 e U
 .obtain⟨e,U,rfl⟩:=as9.1 H;rw[Ay];exact h.GP e U
end
structure mY where
 e:Int
 L:List aL
def fe (z:Nat) (L:List aL) (nm:aC3) (a:Int) (bs:aC3):mY:=match dk L nm with
 |none=>⟨140,L⟩
 |some d=>if bs.length % 16≠0 then⟨1,L⟩ else if d3 d.im a ((bs.length/16:Nat):Int)≠0 then⟨d3 d.im a ((bs.length/16:Nat):Int),L⟩ else
  ⟨Am d.im a.toNat (bs.length/16),dl L nm (wE d.im a.toNat (bs.length/16) bs (hu z L nm (cl L nm))) none⟩
def h7 (z:Nat) (L:List aL) (nm:aC3) (a l:Int):mY:=match dk L nm with
 |none=>⟨140,L⟩
 |some d=>if d3 d.im a l≠0 then⟨d3 d.im a l,L⟩ else
  ⟨Ap d.im a.toNat l.toNat,dl L nm (wF d.im a.toNat l.toNat (hu z L nm (cl L nm))) none⟩
def iQ (L:List aL) (nm:aC3) (a l:Int):mY:=match dk L nm with
 |none=>⟨140,L⟩
 |some d=>if d3 d.im a l≠0 then⟨d3 d.im a l,L⟩ else⟨0,dl L nm (Ao d.im a.toNat l.toNat) none⟩
theorem tU {s:bE} {a l:Int} (h:d3 s a l=0):a=((a.toNat:Nat):Int)/\l=((l.toNat:Nat):Int):=by
 unfold d3 at h
 split at h
 .cases h
 .split at h
  .cases h
  .omega
section
variable {z R:Nat} {L:List aL}
theorem agO (h:cb z R L) (nm:aC3) (a l:Int):cb z R (iQ L nm a l).L:=by
 unfold iQ
 cases au:dk L nm with
 |none=>exact h
 |some d=>
  simp only
  split
  .exact h
  .rename_i G;have G:d3 d.im a l=0:=av2 G;obtain⟨ae,ao⟩:=tU G;rw[ae,ao] at G;exact h.dl au (An (h.gl d (cR au).1).1 (oc G) _ (aq0 _)).ey
theorem Tj (h:cb z R L) {nm:aC3} {bN:aL} (au:dk L nm=some bN) (bD:Nat->Nat):Ln bN.im (sH z R L nm bN.am bD) (bD 8005) (bD 8006) (hu z L nm (cl L nm)):=fun s' aw c J aN=>by
 have H:=h.b5 nm;exact agF z R L h.tont nm bN au (cl L nm) H.1 ay4 s' aw bD c J aN
theorem LX (h:cb z R L) (nm:aC3) (a:Int) (bs:aC3) (fR:bs.length<=1000000000):
  Fn Tryz.prog 63 [aq 1001,bT nm,ab a,bQ .u8 bs] (bO z R L) [] (ab (fe z L nm a bs).e) (bO z R (fe z L nm a bs).L):=by
 unfold fe
 cases au:dk L nm with
 |none=>exact Tf z R L L nm a bs 140 (LN z R L nm au _ _ _)
 |some d=>
  have ai:=h.u6 d (cR au).1;have ah:=(h.gl d (cR au).1).1
  have key: ∀(r:Int) (s':bE),(∀bD:Nat->Nat,Fn Tryz.prog 106 [aq 1001,ab a,bQ .u8 bs,nq (bD 8005) (bD 8006)] (f1 d.im (sH z R L nm d.am bD)) [] (ab r) (f1 s' (sH z R L nm d.am bD)))->
    Fn Tryz.prog 63 [aq 1001,bT nm,ab a,bQ .u8 bs] (bO z R L) [] (ab r) (bO z R (dl L nm s' none)):=fun r s' aF=>
   Tf z R L _ nm a bs r (LV z R L _ h.toiP nm d au _ r _ _ (agK z R L h.toiP nm d au ai a bs r s' aF))
  simp only
  split
  .rename_i E;have:=key 1 d.im fun bD=>ae0 d.im _ _ _ a bs E fR
   rwa[AE h.jd au ai] at this
  .rename_i E;have E:bs.length=16*(bs.length/16):=az2
   split
   .rename_i G;have:=key _ d.im fun bD=>ae1 d.im _ _ _ ah a _ bs E ay4 G
    rwa[AE h.jd au ai] at this
   .rename_i G;have G:d3 d.im a ((bs.length/16:Nat):Int)=0:=av2 G;have e:=(tU G).1;have af:=G;rw[e] at af;refine key _ _ fun bD=>?_
    have:=afe d.im _ _ _ ah a.toNat _ bs E af _ (Tj h au bD)
    rwa[<-e] at this
theorem Tk (h:cb z R L) (nm:aC3) (a l:Int):
  Fn Tryz.prog 65 [aq 1001,bT nm,ab a,ab l] (bO z R L) [] (ab (h7 z L nm a l).e) (bO z R (h7 z L nm a l).L):=by
 unfold h7
 cases au:dk L nm with
 |none=>exact Tg z R L L nm a l 140 (LN z R L nm au _ _ _)
 |some d=>
  have ai:=h.u6 d (cR au).1;have ah:=(h.gl d (cR au).1).1
  have key: ∀(r:Int) (s':bE),(∀bD:Nat->Nat,Fn Tryz.prog 108 [aq 1001,ab a,ab l,nq (bD 8005) (bD 8006)] (f1 d.im (sH z R L nm d.am bD)) [] (ab r) (f1 s' (sH z R L nm d.am bD)))->
    Fn Tryz.prog 65 [aq 1001,bT nm,ab a,ab l] (bO z R L) [] (ab r) (bO z R (dl L nm s' none)):=fun r s' aF=>
   Tg z R L _ nm a l r (LV z R L _ h.toiP nm d au _ r _ _ (agL z R L h.toiP nm d au ai a l r s' aF))
  simp only
  split
  .rename_i G;have:=key _ d.im fun bD=>afk d.im _ _ _ ah a l G
   rwa[AE h.jd au ai] at this
  .rename_i G;have G:d3 d.im a l=0:=av2 G;obtain⟨ae,ao⟩:=tU G;have af:=G;rw[ae,ao] at af;refine key _ _ fun bD=>?_
   have:=afi d.im _ _ _ ah a.toNat l.toNat af _ (Tj h au bD)
   rwa[<-ae,<-ao] at this
theorem Tl (h:cb z R L) (nm:aC3) (a l:Int):
  Fn Tryz.prog 67 [aq 1001,bT nm,ab a,ab l] (bO z R L) [] (ab (iQ L nm a l).e) (bO z R (iQ L nm a l).L):=by
 unfold iQ
 cases au:dk L nm with
 |none=>exact Th z R L L nm a l 140 (LN z R L nm au _ _ _)
 |some d=>
  have ai:=h.u6 d (cR au).1;have ah:=(h.gl d (cR au).1).1
  have key: ∀(r:Int) (s':bE),Fn Tryz.prog 110 [aq 1001,ab a,ab l] (dD d.im) [] (ab r) (dD s')->
    Fn Tryz.prog 67 [aq 1001,bT nm,ab a,ab l] (bO z R L) [] (ab r) (bO z R (dl L nm s' none)):=fun r s' aF=>
   Th z R L _ nm a l r (LV z R L _ h.toiP nm d au _ r _ _ (agM z R L h.toiP nm d au ai a l r s' aF))
  simp only
  split
  .rename_i G;have:=key _ d.im (ae3 d.im ah a l G)
   rwa[AE h.jd au ai] at this
  .rename_i G;have G:d3 d.im a l=0:=av2 G;obtain⟨ae,ao⟩:=tU G;have af:=G;rw[ae,ao] at af;have:=afg d.im ah a.toNat l.toNat af;rw[<-ae,<-ao] at this;exact key _ _ this
def rM (z:Nat) (L:List aL) (nm:aC3) (a l:Int):aC3×Int:=match dk L nm with
 |none=>([],140)
 |some d=>if d3 d.im a l=0 then(jO z L nm (cl L nm) a.toNat l.toNat,0) else([],d3 d.im a l)
theorem agP (h:cb z R L) (nm:aC3) (a l:Int):
  Fn Tryz.prog 45 [aq 1001,bT nm,ab a,ab l] (bO z R L) [] (.ci [.one (.d (.co .u8 (rM z L nm a l).1)),dz (rM z L nm a l).2]) (bO z R L):=by
 unfold rM
 cases au:dk L nm with
 |none=>exact(afM z R L nm au a l).res aC
 |some d=>
  simp only
  split
  .rename_i G;obtain⟨ae,ao⟩:=tU G;have af:=G;rw[ae,ao] at af;have H:=h.b5 nm;have:=afL z R L h.tont nm d au (cl L nm) H.1 ay4 a.toNat l.toNat af
   rwa[<-ae,<-ao] at this
  .rename_i G;exact(afN z R L h.tont nm d au a l G).res aC
def fm (L:List aL) (nm:aC3):aC3×Int:=match dk L nm with
 |none=>([],140)
 |some d=>(d.back,0)
theorem GQ (h:cb z R L) (nm:aC3):Fn Tryz.prog 114 [aq 1001,bT nm] (bO z R L) [] (.ci [.one (.d (.str (fm L nm).1)),dz (fm L nm).2]) (bO z R L):=by
 unfold fm
 cases au:dk L nm with
 |none=>exact afr z R L nm au
 |some d=>exact afq z R L h.toiP nm d au
theorem Tm (h:cb z R L) (nm:aC3):Fn Tryz.prog 115 [aq 1001,bT nm] (bO z R L) [] (bQ .str (rJ L nm)) (bO z R L):=afV z R L h.toiP h.Ti (by have:=h.len;omega) nm
def hR (z R:Nat) (L:List aL) (nm:aC3) (size:Int) (back:aC3) (p:Nat×Nat):mY:=
 if(gY nm&&j7 z size R)=false then⟨1,L⟩ else if(dk L nm).isSome=true\/16<=L.length then⟨143,L⟩ else if(decide (back=[])||(dk L back).isSome)=false then⟨140,L⟩
 else if back≠[]/\8 < cl L back+1 then⟨142,L⟩ else⟨0,kP L nm back p.1 p.2 (gi z size.toNat R)⟩
theorem agQ (L M:List aL) (nm:aC3):dk (L++M) nm=(dk L nm).or (dk M nm):=by
 unfold dk;rw[List.find?_append]
theorem yo {nm back:aC3} {ad am:Nat} {im:bE} (n:aC3):dk (kP L nm back ad am im) n=(dk L n).or (if nm=n then some ⟨nm,back,ad,am,im,none⟩ else none):=by
 show dk (L++_) n=_;rw[agQ,tR];rfl
theorem Tn {L':List aL} (aa: ∀n d,dk L n=some d-> ∃c3,dk L' n=some c3/\c3.back=d.back) (ht: ∀d,d∈L->d.back≠[]-> ∃e,dk L d.back=some e) {n:aC3} {k:Nat} (h:ed L n k):(∃d,dk L n=some d)->ed L' n k:=by
 induction h with
 |gone h=>rintro⟨d,H⟩;rw[h] at H;cases H
 |base E G=>
  intro _;obtain⟨c3,ae,ao⟩:=aa _ _ E;exact .base ae (by rw[ao];exact G)
 |step E G af bq=>
  intro _;obtain⟨c3,ae,ao⟩:=aa _ _ E;exact .step ae (by rw[ao];exact G) (by rw[ao];exact bq (ht _ (cR E).1 G))
theorem agR {z size R:Int} (h:j7 z size R=true):(0<=size/\size<=256)/\(0<=R/\R<=512)/\0<=z/\z<=3:=by
 unfold j7 at h;simp only[vj,as5] at h;omega
theorem cb.add (h:cb z R L) {nm back:aC3} {size ad am:Nat} (fa:iP (kP L nm back ad am (gi z size R))) (aw:size<=256) (hn:gY nm=true) (au:dk L nm=none) (oi:L.length < 16) (O:back=[]\/(dk L back).isSome=true/\cl L back+1<=8):cb z R (kP L nm back ad am (gi z size R)):=by
 have LY: ∀n d,dk L n=some d->dk (kP L nm back ad am (gi z size R)) n=some d:=fun n d H=>by rw[yo,H];rfl
 have wJ:dk (kP L nm back ad am (gi z size R)) nm=some ⟨nm,back,ad,am,gi z size R,none⟩:=by rw[yo,au,if_pos rfl];rfl
 have pA: ∀d,d∈kP L nm back ad am (gi z size R)->d∈L\/d=⟨nm,back,ad,am,gi z size R,none⟩:=fun d H=>by
  rcases as1.1 H with H |H
  .exact .inl H
  .exact .inr (ar5.1 H)
 have mM: ∀n k,(∃d,dk L n=some d)->ed L n k->ed (kP L nm back ad am (gi z size R)) n k:=fun n k H aa=>Tn (fun n d H=>⟨d,LY n d H,rfl⟩) h.iy aa H
 refine⟨⟨fa,h.b3,h.wG,by rw[aq1];exact oi,fun d H=>?_,fun d H i6=>?_,fun d H=>?_,fun d H=>?_⟩,fun d H=>?_,fun d H=>?_⟩
 .rcases pA d H with H |rfl
  .exact h.gl d H
  .exact⟨afl h.b3 aw h.wG,rfl,ar7 ..⟩
 .rcases pA d H with H |rfl
  .obtain⟨e,U⟩:=h.iy d H i6;exact⟨e,LY _ _ U⟩
  .rcases O with O |⟨O,_⟩
   .exact absurd O i6
   .obtain⟨e,U⟩:=at4.1 O;exact⟨e,LY _ _ U⟩
 .rcases pA d H with H |rfl
  .exact h.ne d H
  .intro e;have:=(Dg hn).1;have e:nm=[]:=e;rw[e] at this;exact absurd this ay5
 .rcases pA d H with H |rfl
  .obtain⟨k,aa,ol⟩:=h.tQ d H;exact⟨k,aa,mM _ _ ⟨d,LW h.jd H⟩ ol⟩
  .by_cases AF:back=[]
   .exact⟨0,aq8 _,.base wJ AF⟩
   .rcases O with O |⟨O,agS⟩
    .exact absurd O AF
    .exact⟨cl L back+1,agS,.step wJ AF (mM _ _ (at4.1 O) (h.b5 back).1)⟩
 .rcases pA d H with H |rfl
  .exact h.u6 d H
  .rfl
 .rcases pA d H with H |rfl
  .exact h.GP d H
  .exact hn
theorem agT (h:cb z R L) (nm:aC3) (size:Int) (back:aC3) (ak:nm.length<=4294967296):
  cx Tryz.prog 27 [aq 1001,bT nm,ab size,bT back] (bO z R L) [] (X:={p:Nat×Nat//cb z R (hR z R L nm size back p).L}) (fun p=>ab (hR z R L nm size back p.1).e) (fun p=>bO z R (hR z R L nm size back p.1).L):=by
 have GR: ∀e:Int,(∀p,hR z R L nm size back p=⟨e,L⟩)->Fn Tryz.prog 27 [aq 1001,bT nm,ab size,bT back] (bO z R L) [] (ab e) (bO z R L)->
   cx Tryz.prog 27 [aq 1001,bT nm,ab size,bT back] (bO z R L) [] (X:={p:Nat×Nat//cb z R (hR z R L nm size back p).L}) (fun p=>ab (hR z R L nm size back p.1).e) (fun p=>bO z R (hR z R L nm size back p.1).L):=fun e U hf=>
  hf.x.to (fun _=>⟨(0,0),by rw[U];exact h⟩) (fun _=>by rw[U]) (fun _=>by rw[U])
 by_cases E:(gY nm&&j7 z size R)=false
 .exact GR 1 (fun p=>if_pos E) (agh z R size L nm back ak E)
 have tq:gY nm=true/\j7 z size R=true:=by
  rw[Bool.not_eq_false,vj] at E;exact E
 obtain⟨⟨ck,k7⟩,_⟩:=agR tq.2;obtain⟨eo,rfl⟩: ∃n:Nat,size=(n:Int):=⟨size.toNat,ay4⟩;have aw:eo<=256:=az2
 by_cases G:(dk L nm).isSome=true\/16<=L.length
 .exact GR 143 (fun p=>(if_neg E).trans (if_pos G)) (agi z eo R h.b3 aw h.wG L nm back ak tq.1 G)
 have au:dk L nm=none:=by
  cases e:dk L nm with
  |none=>rfl
  |some d=>exact absurd (.inl (by rw[e];rfl)) G
 have oi:L.length < 16:=by
  rcases Nat.lt_or_ge L.length 16 with bf |bf
  .exact bf
  .exact absurd (.inr bf) G
 by_cases af:(decide (back=[])||(dk L back).isSome)=false
 .exact GR 140 (fun p=>(if_neg E).trans ((if_neg G).trans (if_pos af))) (agj z eo R h.b3 aw h.wG L nm back ak tq.1 au oi af)
 have H:=h.b5 back
 by_cases aW:back≠[]/\8 < cl L back+1
 .have O:(dk L back).isSome=true:=by
   rw[Bool.not_eq_false,av5] at af;exact af.resolve_left fun e=>aW.1 (gd e)
  exact GR 142 (fun p=>(if_neg E).trans ((if_neg G).trans ((if_neg af).trans (if_pos aW)))) (agk z eo R h.b3 aw h.wG L h.toiP nm back ak tq.1 au oi aW.1 O _ H.1 ay4 aW.2)
 have O:back=[]\/(dk L back).isSome=true/\cl L back+1<=8:=by
  by_cases e:back=[]
  .exact .inl e
  .rw[Bool.not_eq_false,av5] at af;have iu: ¬8 < cl L back+1:=fun x=>aW ⟨e,x⟩
   exact .inr ⟨af.resolve_left fun x=>e (gd x),ay4⟩
 have a1: ∀p,hR z R L nm (eo:Int) back p=⟨0,kP L nm back p.1 p.2 (gi z eo R)⟩:=fun p=>(if_neg E).trans ((if_neg G).trans ((if_neg af).trans (if_neg aW)))
 exact(age z eo R h.b3 aw h.wG L h.toiP h.u6 nm back ak tq.1 au oi (cl L back) (O.imp id fun x=>⟨x.1,H.1,x.2⟩)).to (fun p=>⟨p.1,by rw[a1];exact h.add p.2 aw tq.1 au oi O⟩) (fun p=>by rw[a1]) (fun p=>by rw[a1])
def h8 (L:List aL) (nm back:aC3):mY:=
 if(dk L nm).isSome=false\/(decide (back=[])||(dk L back).isSome)=false then⟨140,L⟩ else if nm=back\/nm∈c4 L (cl L back) back then⟨141,L⟩
 else if∀n∈mg L,cl (d4 L nm back) n<=8 then⟨0,d4 L nm back⟩ else⟨142,L⟩
theorem wK {nm back:aC3} {d:aL} (h:d.nm≠nm):eU nm back d=d:=by unfold eU;rw[if_neg h]
theorem GS {nm back:aC3} {d:aL} (h:d.nm=nm):(eU nm back d).back=back:=by unfold eU;rw[if_pos h]
theorem LZ {nm back:aC3} {n:aC3} {k:Nat} (h:ed L n k):n≠nm->nm∉c4 L k n->ed (d4 L nm back) n k:=by
 induction h with
 |gone h=>intro _ _;exact .gone (by rw[mi,h];rfl)
 | @base n d E G=>
  intro a7 _;have e:=(cR E).2;exact .base (d:=d) (by rw[mi,E];show some (eU nm back d)=_;rw[wK (by rw[e];exact a7)]) G
 | @step n d k E G af bq=>
  intro a7 O;have e:=(cR E).2;unfold c4 at O;rw[E] at O;simp only[aq5,not_or] at O;exact .step (d:=d) (by rw[mi,E];show some (eU nm back d)=_;rw[wK (by rw[e];exact a7)]) G (bq (fun x=>O.1 x.symm) O.2)
theorem agU {nm back:aC3} {k:Nat} (cf:ed L back k) (E:nm≠back) (G:nm∉c4 L k back) {n:aC3} {j:Nat} (h:ed L n j): ∃i,i<=j+k+1/\ed (d4 L nm back) n i:=by
 have sA:ed (d4 L nm back) back k:=LZ cf (Ne.symm E) G
 have wJ: ∀d,dk L nm=some d-> ∃i,i<=k+1/\ed (d4 L nm back) nm i:=fun d H=>by
  have e:dk (d4 L nm back) nm=some (eU nm back d):=by rw[mi,H];rfl
  have u3:=GS (back:=back) (cR H).2
  by_cases O:back=[]
  .exact⟨0,aq8 _,.base e (by rw[u3];exact O)⟩
  .exact⟨k+1,aq0 _,.step e (by rw[u3];exact O) (by rw[u3];exact sA)⟩
 induction h with
 |gone h=>exact⟨0,aq8 _,.gone (by rw[mi,h];rfl)⟩
 | @base n d g1 g2=>
  have e:=(cR g1).2
  by_cases c:n=nm
  .subst c;obtain⟨i,aF,H⟩:=wJ d g1;exact⟨i,ay4,H⟩
  .exact⟨0,aq8 _,.base (d:=d) (by rw[mi,g1];show some (eU nm back d)=_;rw[wK (by rw[e];exact c)]) g2⟩
 | @step n d j g1 g2 cX bq=>
  have e:=(cR g1).2
  by_cases c:n=nm
  .subst c;obtain⟨i,aF,H⟩:=wJ d g1;exact⟨i,ay4,H⟩
  .obtain⟨i,aF,H⟩:=bq;exact⟨i+1,ay4,.step (d:=d) (by rw[mi,g1];show some (eU nm back d)=_;rw[wK (by rw[e];exact c)]) g2 H⟩
theorem cb.To (h:cb z R L) {nm back:aC3} (E:nm≠back) (G:nm∉c4 L (cl L back) back) (n:aC3):ed (d4 L nm back) n (cl (d4 L nm back) n)/\cl (d4 L nm back) n<=20:=by
 have O:=h.b5 back;have hn:=h.b5 n;obtain⟨i,aF,H⟩:=agU O.1 E G hn.1;rw[rL H ay4];exact⟨H,ay4⟩
theorem Tp {nm back:aC3} (h: ¬((dk L nm).isSome=false\/(decide (back=[])||(dk L back).isSome)=false)):(∃d,dk L nm=some d)/\(decide (back=[])||(dk L back).isSome)=true:=by
 constructor
 .cases e:dk L nm with
  |none=>exact absurd (.inl (by rw[e];rfl)) h
  |some d=>exact⟨d,rfl⟩
 .cases e:(decide (back=[])||(dk L back).isSome) with
  |false=>exact absurd (.inr e) h
  |true=>rfl
theorem cb.set (h:cb z R L) {nm back:aC3} (aa:(decide (back=[])||(dk L back).isSome)=true) (E:nm≠back) (G:nm∉c4 L (cl L back) back) (iu: ∀n∈mg L,cl (d4 L nm back) n<=8):cb z R (d4 L nm back):=by
 have key: ∀d,d∈d4 L nm back-> ∃e,e∈L/\eU nm back e=d:=fun d H=>by
  obtain⟨e,U,rfl⟩:=as9.1 H;exact⟨e,U,rfl⟩
 refine⟨⟨h.toiP.d4 nm back,h.b3,h.wG,by unfold d4;rw[ar1];exact h.len,fun d H=>?_,fun d H O=>?_,fun d H=>?_,fun d H=>?_⟩,fun d H=>?_,fun d H=>?_⟩
 .obtain⟨e,U,rfl⟩:=key d H;rw[Dc];exact h.gl e U
 .obtain⟨e,U,rfl⟩:=key d H
  have iy: ∃x,dk L (eU nm back e).back=some x:=by
   by_cases c:e.nm=nm
   .rw[GS c] at O⊢;rw[av5] at aa;exact at4.1 (aa.resolve_left fun x=>O (gd x))
   .rw[wK c] at O⊢;exact h.iy e U O
  obtain⟨x,hx⟩:=iy;exact⟨eU nm back x,by rw[mi,hx];rfl⟩
 .obtain⟨e,U,rfl⟩:=key d H;rw[yl];exact h.ne e U
 .obtain⟨e,U,rfl⟩:=key d H;rw[yl]
  have aA:e.nm∈mg L:=by
   unfold mg oh;rw[List.mem_mergeSort,C8];exact ar8 U
  exact⟨_,iu _ aA,(h.To E G e.nm).1⟩
 .obtain⟨e,U,rfl⟩:=key d H;rw[S0];exact h.u6 e U
 .obtain⟨e,U,rfl⟩:=key d H;rw[yl];exact h.GP e U
theorem L0 (h:cb z R L) (nm back:aC3):cb z R (h8 L nm back).L:=by
 unfold h8
 split
 .exact h
 .rename_i E
  split
  .exact h
  .rename_i G
   split
   .rename_i af;exact h.set (Tp E).2 (fun e=>G (.inl e)) (fun e=>G (.inr e)) af
   .exact h
theorem agV (h:cb z R L) (nm back:aC3):Fn Tryz.prog 303 [aq 1001,bT nm,bT back] (bO z R L) [] (ab (h8 L nm back).e) (bO z R (h8 L nm back).L):=by
 have H:=h.b5 back
 by_cases E:(dk L nm).isSome=false\/(decide (back=[])||(dk L back).isSome)=false
 .rw[show h8 L nm back=⟨140,L⟩ from if_pos E];exact agm z R L nm back E
 obtain⟨⟨d,j3⟩,aa⟩:=Tp E
 by_cases G:nm=back\/nm∈c4 L (cl L back) back
 .rw[show h8 L nm back=⟨141,L⟩ from(if_neg E).trans (if_pos G)];exact agn z R L h.toiP nm back d j3 aa _ H.1 ay4 G
 have g':=fun n=>h.To (back:=back) (fun e=>G (.inl e)) (fun e=>G (.inr e)) n
 refine agt z R L h.toiP h.Ti (by have:=h.len;omega) nm back d j3 aa _ H.1 ay4 G (fun n=>cl (d4 L nm back) n) (fun n _=>⟨(g' n).1,by have:=(g' n).2;omega⟩) _ _ (fun bf=>?_) (fun bf=>?_)
 .rw[show h8 L nm back=⟨0,d4 L nm back⟩ from(if_neg E).trans ((if_neg G).trans (if_pos bf))];exact⟨rfl,rfl⟩
 .have fU: ¬ ∀n∈mg L,cl (d4 L nm back) n<=8:=fun dB=>by
   obtain⟨n,hn,iu⟩:=bf;have:=dB n hn;omega
  rw[show h8 L nm back=⟨142,L⟩ from(if_neg E).trans ((if_neg G).trans (if_neg fU))];exact⟨rfl,rfl⟩
end
end
section
section
variable {z R:Nat} {L:List aL}
def gy (z:Nat) (L:List aL) (nm:aC3) (k:Int):aC3:=match dk L nm with
 |none=>[]
 |some d=>if 0<=k/\k < (d.im.t.length:Nat) then fu z L nm (cl L nm) k.toNat else[]
theorem L1 (h:cb z R L) (nm:aC3) (k:Int):Fn Tryz.prog 88 [aq 1001,bT nm,ab k] (bO z R L) [] (bQ .u8 (gy z L nm k)) (bO z R L):=by
 unfold gy
 cases au:dk L nm with
 |none=>
  have hx:(bY (aI:=.str) (aK:=.aM) (c6 L) nm).getD (cO .aM)=none:=aB6
  simp only;refine aU [2,4] Tryz.func88 ?_;refine bu [4] (br) ?_;exact⟨fun d5 O=>absurd (show(bY (aI:=.str) (aK:=.aM) (c6 L) nm).getD (cO .aM)=some d5 from O) aA3,fun _=>bg⟩
 |some bN=>
  simp only
  split
  .rename_i aa;have H:=h.b5 nm;have:=Lv z R L h.tont nm bN au (cl L nm) H.1 ay4 k.toNat ay4
   rwa[show((k.toNat:Nat):Int)=k by omega] at this
  .rename_i aa;obtain⟨o8,gj,gk⟩:=ku yd;have lS:=h.toiP.D (cR au).1;have fy:=h.toiP.M (cR au).1;have hx:(bY (aI:=.str) (aK:=.aM) (c6 L) nm).getD (cO .aM)=some bN.ad:=aB6
   refine aU [2,4] Tryz.func88 ?_;refine bu [4] (br) ?_;refine⟨fun d5 O=>⟨fun _=>?_,fun E=>?_⟩,fun O=>absurd (show(bY (aI:=.str) (aK:=.aM) (c6 L) nm).getD (cO .aM)=none from O) aA3⟩
   .exact bg
   have E: ¬k < 0:=mu E;refine⟨_,_,fun N=>i' (b:=bN.ad) rfl aB1 N,rfl,?_⟩;refine⟨_,_,fun N=>jq rfl Tryz.underlying122 rfl rfl gj az6 rfl N,rfl,?_⟩;refine⟨_,_,fun N=>lq (q:=1003) rfl Tryz.underlying112 rfl rfl rfl lS rfl N,rfl,?_⟩;refine av (h5 (np bN.im) fy rfl rfl rfl rfl) ⟨fun _=>?_,fun G=>?_⟩
   .exact bg
   .exfalso;have G: ¬((bN.im.t.length:Nat):Int)<=k:=mu G;omega
end
end
section
section
variable {z R:Nat} {L:List aL}
theorem L2 (h:cb z R L) {nm:aC3} {k:Nat} (H:ed L nm k) (au: ∃d,dk L nm=some d): ∀j,j<=k-> ∃e,dk L (eT L j nm)=some e
 |0,_=>au
 |j+1,V=>by
  obtain⟨e,U⟩:=L2 h H au j ay4;have jN:=GA H j ay4;rw[Ar,U];simp only;generalize aA:k - j=m at jN
  cases jN with
  |gone aZ=>rw[U] at aZ;cases aZ
  |base _ _=>omega
  |step E G _=>
   rw[U] at E;injection E with E
   subst E;exact h.iy e (cR U).1 G
theorem L3 (h:cb z R L) {nm:aC3} {k:Nat} (H:ed L nm k) (au: ∃d,dk L nm=some d):eT L (k+1) nm=[]:=by
 obtain⟨e,U⟩:=L2 h H au k (aq0 _);have jN:=GA H k (aq0 _);rw[Nat.sub_self] at jN;rw[Ar,U];simp only
 cases jN with
 |gone aZ=>rw[U] at aZ;cases aZ
 |base E G=>
  rw[U] at E;injection E with E
  subst E;exact G
theorem Dh (h:cb z R L) {n:aC3} (hn: ∃e,dk L n=some e):n≠[]:=by
 obtain⟨e,U⟩:=hn;rw[<-(cR U).2];exact h.ne e (cR U).1
end
theorem Tq {z:Nat} {L L':List aL} {nm u7:aC3} {cJ u9 N:Nat} (h: ∀c,c < N->fu z L nm cJ c=fu z L' u7 u9 c): ∀n,n<=N*2 ^z->jO z L nm cJ 0 n=jO z L' u7 u9 0 n
 |0,_=>rfl
 |n+1,hn=>by
  have bq:=Tq h n ay4;have ai:0 < 2 ^z:=Nat.two_pow_pos z;have bt:n/2 ^z < N:=(ax0 ai).2 ay4;show jO z L nm cJ 0 n++jt z L nm cJ (0+n)=jO z L' u7 u9 0 n++jt z L' u7 u9 (0+n);rw[bq,au1];unfold jt;rw[h _ bt]
section
variable {z:Nat} {L:List aL} {c:Nat}
theorem L4: ∀(ns:List aC3) (i j:Nat),(hs z L c ns i).1=(hs z L c ns j).1
 | [],_,_=>rfl
 |n::ns,i,j=>by
  unfold hs
  cases dk L n with
  |none=>rfl
  |some d=>
   simp only
   split
   .rfl
   .exact L4 ns _ _
theorem GT {n:aC3} {ns:List aC3} {i:Nat} {d:aL} (H:dk L n=some d) (h:c < d.im.t.length/\(d.im.t.getD c ck).1≠0):hs z L c (n::ns) i=(eh d.im c none,i+1):=by
 unfold hs;rw[H];simp only;rw[if_pos h]
theorem Tr {n:aC3} {ns:List aC3} {i:Nat} {d:aL} (H:dk L n=some d) (h: ¬(c < d.im.t.length/\(d.im.t.getD c ck).1≠0)):hs z L c (n::ns) i=hs z L c ns (i+1):=by
 conv=>lhs;unfold hs
 rw[H];simp only;rw[if_neg h]
theorem yp {nm:aC3} {cJ:Nat} {d:aL} (H:dk L nm=some d) (h: ¬(c < d.im.t.length/\(d.im.t.getD c ck).1≠0)):fu z L nm cJ c=hu z L nm cJ c:=by
 unfold fu hu;rw[Tr H h]
theorem L5 {nm:aC3} {cJ:Nat} {d:aL} (H:dk L nm=some d):hu z L nm (cJ+1) c=fu z L d.back cJ c:=by
 unfold hu fu
 rw[show c4 L (cJ+1) nm=d.back::c4 L cJ d.back by
  conv=>lhs;unfold c4
  rw[H]]
 exact L4 _ _ _
end
section
variable {z R:Nat} {L:List aL}
theorem cb.L6 (h:cb z R L) {nm:aC3} (au: ∃d,dk L nm=some d): ∀n,n∈nm::c4 L (cl L nm) nm-> ∃e,dk L n=some e:=fun n hn=>by
 rcases aq5.1 hn with rfl |hn
 .exact au
 .exact Ls h.tont (h.b5 nm).1 n hn
theorem L7 (h:cb z R L) {nm:aC3} {d:aL} (H:dk L nm=some d) (O:d.back≠[]):cl L nm=cl L d.back+1:=by
 have E:=(h.b5 d.back);exact rL (.step H O E.1) ay4
end
theorem agW {s:bE} (ap:gh s) {c:Nat} (J:c < s.t.length):(Ao s 0 (e7 s)).t[c]? =some ck:=by
 have dc:=ob ap.z
 have hw:16*e7 s=s.t.length*aH s:=by
  unfold e7 aH;rw[Nat.mul_left_comm]
 have ai:0 < aH s:=by have:=tK ap.z;omega
 have aA:(c+1)*aH s<=s.t.length*aH s:=au8 _ J;rw[aw4] at aA;have aa:c < cD (aH s) 0 (e7 s):=(tL dc).1 ⟨ay4,by rw[Nat.mul_zero,Nat.zero_div,au1,au1];omega⟩;have H:=(An ap (a:=0) (l:=e7 s) ay4 _ (aq0 _)).done c aa
 have e:(bj (aH s) 0 (e7 s) c).b - (bj (aH s) 0 (e7 s) c).a=aH s:=by
  show min (16*(0+e7 s) - (16*0/aH s+c)*aH s) (aH s) - (16*0 - (16*0/aH s+c)*aH s)=aH s;rw[Nat.mul_zero,Nat.zero_div,au1,au1,Nat.zero_sub];omega
 rw[if_pos e,Nat.mul_zero,Nat.zero_div,au1] at H;exact H
theorem Ts {s:bE} (ap:gh s) {n:Nat} (hn:n<=e7 s):d3 s 0 (n:Int)=0:=by
 unfold d3;rw[if_neg ay4,if_neg ay4]
theorem agX {z R:Nat} {L:List aL} (h:cb z R L) {nm:aC3} {d:aL} (H:dk L nm=some d) {n:Nat} (hn:n<=e7 d.im):rM z L nm 0 (n:Int)=(jO z L nm (cl L nm) 0 n,0):=by
 unfold rM;rw[H];simp only;rw[if_pos (Ts (h.gl d (cR H).1).1 hn)];rfl
theorem AG {z R:Nat} {L:List aL} (h:cb z R L) {nm:aC3} {d:aL} (H:dk L nm=some d):e7 d.im=d.im.t.length*2 ^z:=by
 unfold e7;rw[(h.gl d (cR H).1).2.1]
def i0 (L:List aL) (t:aC3) (L':List aL):Prop:=L'=L\/ ∃d im,dk L t=some d/\ix d.im im/\L'=dl L t im none
structure L8 (L:List aL) (t n:aC3):Prop where
 ne:n≠t
 Tt:t∉c4 L (cl L n) n
section
variable {z R:Nat} {L L':List aL} {t n:aC3}
theorem wL (h:cb z R L) (nm:aC3) (a:Int) (bs:aC3):i0 L nm (fe z L nm a bs).L:=by
 unfold fe
 cases au:dk L nm with
 |none=>exact .inl rfl
 |some d=>
  simp only
  split
  .exact .inl rfl
  .rename_i E
   split
   .exact .inl rfl
   .rename_i G;have G:d3 d.im a ((bs.length/16:Nat):Int)=0:=av2 G;have e:=(tU G).1;rw[e] at G;exact .inr ⟨d,_,au,aff (h.gl d (cR au).1).1 ay4 G _,rfl⟩
theorem Di (h:cb z R L) (nm:aC3) (a l:Int):i0 L nm (h7 z L nm a l).L:=by
 unfold h7
 cases au:dk L nm with
 |none=>exact .inl rfl
 |some d=>
  simp only
  split
  .exact .inl rfl
  .rename_i G;have G:d3 d.im a l=0:=av2 G;obtain⟨ae,ao⟩:=tU G;rw[ae,ao] at G;exact .inr ⟨d,_,au,afj (h.gl d (cR au).1).1 G _,rfl⟩
theorem tV (h:cb z R L) (nm:aC3) (a l:Int):i0 L nm (iQ L nm a l).L:=by
 unfold iQ
 cases au:dk L nm with
 |none=>exact .inl rfl
 |some d=>
  simp only
  split
  .exact .inl rfl
  .rename_i G;have G:d3 d.im a l=0:=av2 G;obtain⟨ae,ao⟩:=tU G;rw[ae,ao] at G;exact .inr ⟨d,_,au,(An (h.gl d (cR au).1).1 (oc G) _ (aq0 _)).ey,rfl⟩
theorem i0.cs (h:cb z R L) (ak:i0 L t L'):cb z R L':=by
 rcases ak with rfl |⟨d,im,au,aw,rfl⟩
 .exact h
 .exact h.dl au aw
theorem GU (h:cb z R L) (t:aC3) (im:bE) (cP:Option (Nat->Nat)) (n:aC3):cl (dl L t im cP) n=cl L n:=by
 have H:=h.b5 n;exact rL (LP t im cP H.1) ay4
theorem i0.cl (h:cb z R L) (ak:i0 L t L') (n:aC3):Go.Proofs.YtkfbeijmgggkmaaGreat.cl L' n=Go.Proofs.YtkfbeijmgggkmaaGreat.cl L n:=by
 rcases ak with rfl |⟨d,im,au,aw,rfl⟩
 .rfl
 .exact GU h t im none n
theorem i0.off (h:cb z R L) (ak:i0 L t L') (o:L8 L t n):L8 L' t n/\dk L' n=dk L n/\ ∀c,fu z L' n (Go.Proofs.YtkfbeijmgggkmaaGreat.cl L' n) c=fu z L n (Go.Proofs.YtkfbeijmgggkmaaGreat.cl L n) c:=by
 have yq:=ak.cl h n;rcases ak with rfl |⟨d,im,au,aw,rfl⟩
 .exact⟨o,rfl,fun _=>rfl⟩
 .refine⟨⟨o.ne,by rw[yq,Az];exact o.Tt⟩,GL o.ne im none,fun c=>?_⟩;rw[yq];unfold fu;rw[Az,GN];intro aA;rcases aq5.1 aA with e |aA
  .exact o.ne e.symm
  .exact o.Tt aA
theorem L9 (h:cb z R L) {d:aL} (H:dk L t=some d) (O:d.back≠[]):L8 L t d.back:=by
 have E:=(h.b5 d.back).1;have G:ed L t (Go.Proofs.YtkfbeijmgggkmaaGreat.cl L d.back+1):=.step H O E;refine⟨fun e=>?_,fun aA=>?_⟩
 .rw[e] at E G;have:=AA E G;omega
 .obtain⟨j,V,af⟩:=LQ E t aA;have:=AA af G;omega
end
end
section
def kR (x:aC3) (j:Nat):aC3:=(x.take (j*16+16)).drop (j*16)
theorem sI (x:aC3) (j i:Nat):(kR x j)[i]? =if i < 16 then x[j*16+i]? else none:=by
 unfold kR;rw[List.getElem?_drop,au6]
 by_cases h:i < 16
 .rw[if_pos h,if_pos ay4]
 .rw[if_neg h,if_neg ay4]
theorem Ma {X:aC3} {off n:Nat} {ys:aC3} (E:off+n<=X.length) (G:ys.length=n) (m:Nat):(laid X off n ys)[m]? =if m < off then X[m]? else if m < off+n then ys[m - off]? else X[m]? :=by
 unfold laid;have ae:(X.take off).length=off:=aA2
 have ao:ys.take n=ys:=at2 ay4;rw[ao]
 by_cases cI:m < off
 .rw[if_pos cI,au2,as6 ay4,au6,if_pos cI]
 .rw[if_neg cI]
  by_cases cE:m < off+n
  .rw[if_pos cE,au2,at1 ay4,ae,as6 ay4]
  .rw[if_neg cE,at1 (by rw[aq1];omega),aq1,ae,G,List.getElem?_drop]
   congr 1
   omega
theorem agY {X bs:aC3} {t W a l j pa u' Dj:Nat} (j9:X.length=W) (O:bs.length=16*l) (V:j*16+16<=W) (ae:pa=16*a - 16*t) (ao:u'=min (16*(a+l) - 16*t) W) (bm:Dj=16*t+pa - 16*a) (ai:pa<=u') (aT:16*t < 16*(a+l)):
  kR (laid X pa (u' - pa) ((bs.take (Dj+u' - pa)).drop Dj)) j=if a<=t+j/\t+j < a+l then kR bs (t+j - a) else kR X j:=by
 have bV:((bs.take (Dj+u' - pa)).drop Dj).length=u' - pa:=by
  rw[au9,aq9];omega
 refine List.ext_getElem? fun i=>?_
 rw[sI,Ma ay4 bV]
 by_cases aF:i < 16
 .rw[if_pos aF]
  by_cases c:a<=t+j/\t+j < a+l
  .rw[if_pos c,sI,if_pos aF,if_neg ay4,if_pos ay4,List.getElem?_drop,au6,if_pos ay4]
   congr 1
   omega
  .rw[if_neg c,sI,if_pos aF]
   by_cases cE:j*16+i < pa
   .rw[if_pos cE]
   .rw[if_neg cE,if_neg ay4]
 .rw[if_neg aF]
  split
  .rw[sI,if_neg aF]
  .rw[sI,if_neg aF]
theorem Dk (n j:Nat) (h:j*16+16<=n):kR (List.replicate n 0) j=List.replicate 16 0:=by
 unfold kR;rw[List.take_replicate,List.drop_replicate]
 congr 1
 omega
theorem rN (z:Nat) (L:List aL) (nm:aC3) (cJ s:Nat):jt z L nm cJ s=kR (fu z L nm cJ (s/2 ^z)) (s % 2 ^z):=rfl
theorem Tu {z:Nat} {L L':List aL} {nm u7:aC3} {cJ u9 a:Nat}: ∀n,(∀i,i < n->jt z L nm cJ (a+i)=jt z L' u7 u9 (a+i))->jO z L nm cJ a n=jO z L' u7 u9 a n
 |0,_=>rfl
 |n+1,h=>by
  show jO z L nm cJ a n++jt z L nm cJ (a+n)=jO z L' u7 u9 a n++jt z L' u7 u9 (a+n);rw[Tu n fun i aF=>h i ay4,h n (Nat.lt_succ_self n)]
section
variable {z R:Nat} {L:List aL} {nm:aC3} {d:aL}
theorem agZ (h:cb z R L) (H:dk L nm=some d) (c:Nat):(hu z L nm (cl L nm) c).length=16*2 ^z:=Lw h.tont c _ _ fun n hn=>h.L6 ⟨d,H⟩ n (aq2 _ hn)
theorem AH (h:cb z R L) (H:dk L nm=some d):aH d.im=16*2 ^z:=by
 unfold aH;rw[(h.gl d (cR H).1).2.1]
theorem ag0 {s:bE} {c:Nat} {y:aC3} (h:(s.t.getD c ck).1≠0):eh s c (some y)=eh s c none:=by
 unfold eh;rw[aq3] at h
 cases e:s.t[c]? with
 |none=>rfl
 |some q=>
  rw[e] at h;simp only[av9] at h;simp only
  split
  .rfl
  .first |rfl |(rw[if_neg h])
theorem ag1 {s:bE} {c:Nat} {y:aC3} (J:c < s.t.length) (h:(s.t.getD c ck).1=0) (aD:y.length=aH s):eh s c (some y)=y:=by
 unfold eh;rw[aq3] at h;rw[oj J] at h⊢;simp only[av9] at h;simp only;rw[if_neg (by rw[h];decide),if_pos h,if_pos aD]
theorem Mb (h:cb z R L) (H:dk L nm=some d) {c:Nat} (J:c < d.im.t.length):fu z L nm (cl L nm) c=eh d.im c (some (hu z L nm (cl L nm) c)):=by
 by_cases aa:(d.im.t.getD c ck).1=0
 .rw[yp H (fun bf=>bf.2 aa),ag1 J aa (by rw[agZ h H,AH h H])]
 .rw[ag0 aa];unfold fu;rw[GT H ⟨J,aa⟩]
theorem Tv (h:cb z R L) (H:dk L nm=some d) {im:bE} (aw:ix d.im im) {c:Nat} (J:c < d.im.t.length):fu z (dl L nm im none) nm (cl (dl L nm im none) nm) c=eh im c (some (hu z L nm (cl L nm) c)):=by
 have h':=h.dl H aw;have dq:=yn H im none;rw[Mb h' dq (by show c < im.t.length;rw[aw.eS];exact J),GU h nm im none nm];show eh im c (some _)=_
 have e:hu z (dl L nm im none) nm (cl L nm) c=hu z L nm (cl L nm) c:=by
  unfold hu;rw[Az,GN _ _ (LR (h.b5 nm).1)]
 rw[e]
theorem Tw (h:cb z R L) (H:dk L nm=some d) {im:bE} (aw:ix d.im im) {c:Nat} (J: ¬c < d.im.t.length):fu z (dl L nm im none) nm (cl (dl L nm im none) nm) c=fu z L nm (cl L nm) c:=by
 have dq:=yn H im none;rw[GU h nm im none nm,S7 H (h.b5 nm).1,if_neg fun bf=>J (by rw[<-aw.eS];exact bf.1),yp H fun bf=>J bf.1]
theorem Tx (h:cb z R L) (H:dk L nm=some d) {c:Nat} (J:c < d.im.t.length) (y:Option aC3):(eh d.im c y).length=16*2 ^z:=by
 rw[u0 (h.gl d (cR H).1).1 J,AH h H]
end
theorem AI {W a l:Nat} (dc:x6 W) (ak:0 < l) {c:Nat}:(16*a/W<=c/\c < 16*a/W+cD W a l)↔(16*a < (c+1)*W/\c*W < 16*(a+l)):=by
 have ai:0 < W:=by rcases dc with h |h |h |h <;>omega
 have cj:16*a/W<=c↔16*a < (c+1)*W:=by
  rw[<-Nat.lt_succ_iff,Nat.succ_eq_add_one,ax0 ai]
 constructor
 .rintro⟨E,G⟩;have:=(tL dc (a:=a) (l:=l) (k:=c - 16*a/W)).2 ay4;rw[show 16*a/W+(c - 16*a/W)=c by omega] at this;exact⟨cj.1 E,this.2⟩
 .rintro⟨E,G⟩;have E:=cj.2 E;refine⟨E,?_⟩;have:=(tL dc (a:=a) (l:=l) (k:=c - 16*a/W)).1 ⟨ak,by rw[show 16*a/W+(c - 16*a/W)=c by omega];exact G⟩;omega
theorem Ty {X bs:aC3} {b a l c:Nat} (O:b<=3) (j9:X.length=16*2 ^b) (Jr:bs.length=16*l) (eb:16*a < (c+1)*(16*2 ^b)/\c*(16*2 ^b) < 16*(a+l)) {j:Nat} (V:j < 2 ^b):
  kR (laid X (bj (16*2 ^b) a l (c - 16*a/(16*2 ^b))).a ((bj (16*2 ^b) a l (c - 16*a/(16*2 ^b))).b - (bj (16*2 ^b) a l (c - 16*a/(16*2 ^b))).a) (pM bs (bj (16*2 ^b) a l (c - 16*a/(16*2 ^b))))) j=
   if a<=c*2 ^b+j/\c*2 ^b+j < a+l then kR bs (c*2 ^b+j - a) else kR X j:=by
 have ai:=jc O;have dc:0 < 16*2 ^b:=az2
 have J:16*a/(16*2 ^b)<=c:=by
  rw[<-Nat.lt_succ_iff,Nat.succ_eq_add_one,ax0 dc];exact eb.1
 have nY:16*a/(16*2 ^b)+(c - 16*a/(16*2 ^b))=c:=az2
 have cq:c*(16*2 ^b)=16*(c*2 ^b):=Nat.mul_left_comm ..;have aqm:(c+1)*(16*2 ^b)=16*(c*2 ^b)+16*2 ^b:=by rw[aw4,cq]
 unfold pM;refine agY (t:=c*2 ^b) (W:=16*2 ^b) j9 Jr ay4 ?_ ?_ ?_ ?_ ay4
 .show 16*a - (16*a/(16*2 ^b)+(c - 16*a/(16*2 ^b)))*(16*2 ^b)=_;rw[nY,cq]
 .show min (16*(a+l) - (16*a/(16*2 ^b)+(c - 16*a/(16*2 ^b)))*(16*2 ^b)) (16*2 ^b)=_;rw[nY,cq]
 .show(16*a/(16*2 ^b)+(c - 16*a/(16*2 ^b)))*(16*2 ^b)+(16*a - (16*a/(16*2 ^b)+(c - 16*a/(16*2 ^b)))*(16*2 ^b)) - 16*a=16*(c*2 ^b)+(16*a - (16*a/(16*2 ^b)+(c - 16*a/(16*2 ^b)))*(16*2 ^b)) - 16*a;rw[nY,cq]
 .show 16*a - (16*a/(16*2 ^b)+(c - 16*a/(16*2 ^b)))*(16*2 ^b)<=min (16*(a+l) - (16*a/(16*2 ^b)+(c - 16*a/(16*2 ^b)))*(16*2 ^b)) (16*2 ^b);rw[nY,cq];omega
section
variable {z R:Nat} {L:List aL} {nm:aC3}
theorem GV {a:Int} {bs:aC3} (U:(fe z L nm a bs).e=0): ∃d,dk L nm=some d/\bs.length=16*(bs.length/16)/\a=((a.toNat:Nat):Int)/\d3 d.im a.toNat ((bs.length/16:Nat):Int)=0/\h4 d.im a.toNat (bs.length/16) (cD (aH d.im) a.toNat (bs.length/16))<=dV d.im.l/\
  (fe z L nm a bs).L=dl L nm (iZ d.im a.toNat (bs.length/16) bs (hu z L nm (cl L nm)) (cD (aH d.im) a.toNat (bs.length/16))) none:=by
 unfold fe at U⊢
 cases au:dk L nm with
 |none=>rw[au] at U;exact absurd U (show¬(140:Int)=0 by decide)
 |some d=>
  rw[au] at U;simp only at U⊢
  split at U
  .exact absurd U (show¬(1:Int)=0 by decide)
  .rename_i E
   split at U
   .rename_i G;exact absurd U G
   .rename_i G;rw[if_neg E,if_neg G];have G:d3 d.im a ((bs.length/16:Nat):Int)=0:=av2 G;have ae:=(tU G).1;have U:Am d.im a.toNat (bs.length/16)=0:=U;unfold Am at U
    split at U
    .rename_i af;refine⟨d,rfl,ay4,ae,by rw[<-ae];exact G,af,?_⟩;show dl L nm (wE d.im a.toNat (bs.length/16) bs _) none=_;unfold wE;rw[if_pos af]
    .exact absurd U ay5
theorem GW (h:cb z R L) {a:Int} {bs:aC3} (U:(fe z L nm a bs).e=0) (s:Nat):
  jt z (fe z L nm a bs).L nm (cl (fe z L nm a bs).L nm) s=if a.toNat<=s/\s < a.toNat+bs.length/16 then kR bs (s - a.toNat) else jt z L nm (cl L nm) s:=by
 obtain⟨d,H,fR,ha,eb,dC,cL⟩:=GV U;rw[cL];obtain⟨ap,kE,_⟩:=h.gl d (cR H).1;have dB:=oc eb;have dc:=ob ap.z;have wM:=AH h H;have ai:=jc h.b3;generalize a.toNat=a0 at*;have a8:=(Al ap fR dB (hu z L nm (cl L nm)) dC _ (aq0 _)).1;have k9:0 < 2 ^z:=az2
 have V:s % 2 ^z < 2 ^z:=Nat.mod_lt _ k9;have aw:s/2 ^z*2 ^z+s % 2 ^z=s:=by rw[Nat.mul_comm];exact Nat.div_add_mod s _
 have C6:e7 d.im=d.im.t.length*2 ^z:=AG h H;rw[rN,rN]
 by_cases J:s/2 ^z < d.im.t.length
 .rw[Tv h H a8.ey J,Mb h H J];have j9:=Tx h H J (some (hu z L nm (cl L nm) (s/2 ^z)))
  by_cases ax:16*a0/aH d.im<=s/2 ^z/\s/2 ^z < 16*a0/aH d.im+cD (aH d.im) a0 (bs.length/16)
  .have nl:0 < bs.length/16:=by
    refine Nat.pos_of_ne_zero fun e=>?_
    rw[e] at ax;have:cD (aH d.im) a0 0=0:=rfl;omega
   have ol:=(a8.done (s/2 ^z - 16*a0/aH d.im) ay4).2 (some (hu z L nm (cl L nm) (s/2 ^z)));rw[show 16*a0/aH d.im+(s/2 ^z - 16*a0/aH d.im)=s/2 ^z by omega] at ol;rw[ol];have qm:=(AI dc nl).1 ax;rw[wM] at qm⊢;rw[Ty h.b3 j9 fR qm V,aw]
  .have va:=(a8.js (s/2 ^z) ay4).2 (some (hu z L nm (cl L nm) (s/2 ^z)));rw[va,if_neg];rintro⟨g1,g2⟩;apply ax;refine(AI dc ay4).2 ?_;rw[wM];have ae:(s/2 ^z+1)*(16*2 ^z)=16*(s/2 ^z*2 ^z)+16*2 ^z:=by rw[aw4,Nat.mul_left_comm]
   have ao:s/2 ^z*(16*2 ^z)=16*(s/2 ^z*2 ^z):=Nat.mul_left_comm ..;rw[ae,ao];omega
 .rw[Tw h H a8.ey J,if_neg];rintro⟨g1,g2⟩;apply J;rw[ax0 k9,<-C6];omega
end
theorem ag2 {n off m:Nat} (h:off+m<=n):laid (List.replicate n 0) off m (tO m)=List.replicate n (0:UInt8):=by
 refine List.ext_getElem? fun i=>?_
 rw[Ma (by rw[ar7];exact h) ar7];simp only[List.getElem?_replicate]
 split
 .rfl
 .split
  .rw[if_pos ay4,if_pos ay4]
  .rfl
theorem ag3 {X:aC3} {n:Nat} (h:X.length=n):laid X 0 n (tO n)=List.replicate n (0:UInt8):=by
 unfold laid;rw[List.take_zero,ay0,at2 (by rw[ar7];exact aq0 _),ar7,List.drop_eq_nil_of_le ay4,at6]
theorem Mc {s:bE} {c:Nat} (h:s.t[c]? =some tN) (aB:Option aC3):eh s c aB=iO s:=by
 unfold eh;rw[h];rfl
theorem Tz {s:bE} (ap:gh s) {a l:Nat} (dB:a+l<=e7 s) (y:Nat->aC3) (dC:hb s a l (cD (aH s) a l)<=dV s.l): ∀k,k<=cD (aH s) a l-> ∀j,j < k->
  eh (ew s a l y k) (16*a/aH s+j) (some (y (16*a/aH s+j)))=laid (eh s (16*a/aH s+j) (some (y (16*a/aH s+j)))) (bj (aH s) a l j).a ((bj (aH s) a l j).b - (bj (aH s) a l j).a) (tO ((bj (aH s) a l j).b - (bj (aH s) a l j).a))
 |0,_,j,V=>absurd V ay4
 |k+1,aa,j,V=>by
  have h:=yb ap dB y dC k ay4;have eD:k < cD (aH s) a l:=az2
  obtain⟨J,_⟩:=rG ap dB eD;obtain⟨dQ,cW,dJ,dM⟩:=rD (ob ap.z) eD;have pN:(bj (aH s) a l k).c=16*a/aH s+k:=rfl;have dS:(bj (aH s) a l k).c < (ew s a l y k).t.length:=aB7
  have lO:=h.js (16*a/aH s+k) (.inr (aq0 _));have ae:ew s a l y (k+1)=u2 (ew s a l y k) (bj (aH s) a l k) (y (bj (aH s) a l k).c):=rfl;unfold u2 at ae;rw[Gx h.ey] at ae;have bV:=u0 ap (c:=16*a/aH s+k) J (some (y (16*a/aH s+k)));have aqn:iO (ew s a l y k)=iO s:=by unfold iO;rw[h.ey.aH]
  have bq:j < k->_:=Tz ap dB y dC k ay4 j
  by_cases hw:kM s (bj (aH s) a l k)=true
  .rw[if_pos hw] at ae;have ai:=Lm h.ey.ok (c:=(bj (aH s) a l k).c) dS (q:=tN) (.inr rfl);rw[<-ae] at ai
   by_cases jK:j < k
   .rw[(ai.js (16*a/aH s+j) (by rw[pN];omega)).2];exact bq jK
   .have:j=k:=az2
    subst this;have hw:(bj (aH s) a l j).b - (bj (aH s) a l j).a=aH s:=gd hw;have bG:=Mc ai.C2 (some (y (16*a/aH s+j)));rw[pN] at bG;rw[bG,hw,show(bj (aH s) a l j).a=0 by omega,ag3 bV];unfold iO;rw[ai.ey.aH,h.ey.aH]
  .have hw:kM s (bj (aH s) a l k)=false:=by simpa using hw
   rw[hw,if_neg ay5] at ae
   by_cases G:((ew s a l y k).t.getD (bj (aH s) a l k).c ck).1=2
   .rw[if_pos G] at ae;rw[ae]
    by_cases jK:j < k
    .exact bq jK
    .have:j=k:=az2
     subst this;rw[lO.2]
     have af:(s.t.getD (16*a/aH s+j) ck).1=2:=by
      rw[aq3] at G⊢;rw[show(ew s a l y j).t[(bj (aH s) a l j).c]? =s.t[16*a/aH s+j]? from lO.1] at G;exact G
     have aW:s.t[16*a/aH s+j]? =some tN:=by
      rw[aq3] at af
      cases e:s.t[16*a/aH s+j]? with
      |none=>rw[e] at af;exact absurd af ay5
      |some q=>
       rw[e] at af;have af:q.1=2:=af;rcases ap.slot _ _ e with g |g |⟨bf,g,_⟩
       .rw[g] at af;exact absurd af ay5
       .rw[g]
       .rw[g] at af;exact absurd af (show¬(1:Int)=2 by decide)
     rw[Mc aW];unfold iO;rw[ag2 ay4]
   .rw[if_neg G] at ae;have ai:=Lk (y:=y (bj (aH s) a l k).c) (bs:=tO ((bj (aH s) a l k).b - (bj (aH s) a l k).a)) h.ey.ok dS dQ (by rw[h.ey.aH];exact cW) ar7 (Lp dC h eD hw G);rw[<-ae] at ai
    by_cases jK:j < k
    .rw[(ai.js (16*a/aH s+j) (by rw[pN];omega)).2];exact bq jK
    .have:j=k:=az2
     subst this;have:=ai.C2 (some (y (16*a/aH s+j)));rw[pN] at this;rw[this,lO.2]
section
variable {z R:Nat} {L:List aL} {nm:aC3}
theorem Md {a l:Int} (U:(h7 z L nm a l).e=0): ∃d,dk L nm=some d/\a=((a.toNat:Nat):Int)/\l=((l.toNat:Nat):Int)/\d3 d.im a.toNat l.toNat=0/\hb d.im a.toNat l.toNat (cD (aH d.im) a.toNat l.toNat)<=dV d.im.l/\
  (h7 z L nm a l).L=dl L nm (ew d.im a.toNat l.toNat (hu z L nm (cl L nm)) (cD (aH d.im) a.toNat l.toNat)) none:=by
 unfold h7 at U⊢
 cases au:dk L nm with
 |none=>rw[au] at U;exact absurd U (show¬(140:Int)=0 by decide)
 |some d=>
  rw[au] at U;simp only at U⊢
  split at U
  .rename_i G;exact absurd U G
  .rename_i G;rw[if_neg G];have G:d3 d.im a l=0:=av2 G;obtain⟨ae,ao⟩:=tU G;have U:Ap d.im a.toNat l.toNat=0:=U;unfold Ap at U
   split at U
   .rename_i af;refine⟨d,rfl,ae,ao,by rw[<-ae,<-ao];exact G,af,?_⟩;show dl L nm (wF d.im a.toNat l.toNat _) none=_;unfold wF;rw[if_pos af]
   .exact absurd U ay5
theorem Me (h:cb z R L) {a l:Int} (U:(h7 z L nm a l).e=0) (s:Nat):
  jt z (h7 z L nm a l).L nm (cl (h7 z L nm a l).L nm) s=if a.toNat<=s/\s < a.toNat+l.toNat then List.replicate 16 0 else jt z L nm (cl L nm) s:=by
 obtain⟨d,H,ha,ak,eb,dC,cL⟩:=Md U;rw[cL];obtain⟨ap,kE,_⟩:=h.gl d (cR H).1;have dB:=oc eb;have dc:=ob ap.z;have wM:=AH h H;have ai:=jc h.b3;generalize a.toNat=a0 at*;generalize l.toNat=vb at*;have a8:=yb ap dB (hu z L nm (cl L nm)) dC _ (aq0 _);have ag4:=Tz ap dB (hu z L nm (cl L nm)) dC _ (aq0 _);have k9:0 < 2 ^z:=az2
 have V:s % 2 ^z < 2 ^z:=Nat.mod_lt _ k9;have aw:s/2 ^z*2 ^z+s % 2 ^z=s:=by rw[Nat.mul_comm];exact Nat.div_add_mod s _
 have C6:e7 d.im=d.im.t.length*2 ^z:=AG h H;rw[rN,rN]
 by_cases J:s/2 ^z < d.im.t.length
 .rw[Tv h H a8.ey J,Mb h H J];have j9:=Tx h H J (some (hu z L nm (cl L nm) (s/2 ^z)))
  by_cases ax:16*a0/aH d.im<=s/2 ^z/\s/2 ^z < 16*a0/aH d.im+cD (aH d.im) a0 vb
  .have nl:0 < vb:=by
    refine Nat.pos_of_ne_zero fun e=>?_
    rw[e] at ax;have:cD (aH d.im) a0 0=0:=rfl;omega
   have ol:=ag4 (s/2 ^z - 16*a0/aH d.im) ay4;rw[show 16*a0/aH d.im+(s/2 ^z - 16*a0/aH d.im)=s/2 ^z by omega] at ol;rw[ol];have qm:=(AI dc nl).1 ax;have Dl:s/2 ^z - 16*a0/aH d.im < cD (aH d.im) a0 vb:=az2
   obtain⟨dQ,cW,dJ,dM⟩:=rD dc Dl
   have ag5:tO ((bj (aH d.im) a0 vb (s/2 ^z - 16*a0/aH d.im)).b - (bj (aH d.im) a0 vb (s/2 ^z - 16*a0/aH d.im)).a)=pM (List.replicate (16*vb) 0) (bj (aH d.im) a0 vb (s/2 ^z - 16*a0/aH d.im)):=by
    unfold pM;rw[List.take_replicate,List.drop_replicate]
    congr 1
    omega
   rw[ag5];rw[wM] at qm⊢;rw[Ty h.b3 j9 ar7 qm V,aw]
   split
   .rw[Dk _ _ ay4]
   .rfl
  .have va:=(a8.js (s/2 ^z) ay4).2 (some (hu z L nm (cl L nm) (s/2 ^z)));rw[va,if_neg];rintro⟨g1,g2⟩;apply ax;refine(AI dc ay4).2 ?_;rw[wM];have ae:(s/2 ^z+1)*(16*2 ^z)=16*(s/2 ^z*2 ^z)+16*2 ^z:=by rw[aw4,Nat.mul_left_comm]
   have ao:s/2 ^z*(16*2 ^z)=16*(s/2 ^z*2 ^z):=Nat.mul_left_comm ..;rw[ae,ao];omega
 .rw[Tw h H a8.ey J,if_neg];rintro⟨g1,g2⟩;apply J;rw[ax0 k9,<-C6];omega
end
end
section
theorem GX: ∀(n:Nat) (l:aC4),l.Nodup->(∀x,x∈l->x < n)->l.length<=n
 |0,[],_,_=>aq0 _
 |0,x::l,_,h=>absurd (h x (ar2 ..)) (ax7 x)
 |n+1,l,hn,h=>by
  have E:(l.erase n).Nodup:=hn.erase n
  have G:=GX n (l.erase n) E fun x hx=>by
   have py:=(hn.mem_erase_iff).1 hx;have:=h x py.2;have:=py.1;omega
  have af:l.length<=(l.erase n).length+1:=by
   rw[List.length_erase]
   split <;>omega
  omega
theorem Mf {α lN:Type} {f:α->lN}: ∀{l:List α},(∀x,x∈l-> ∀y,y∈l->f x=f y->x=y)->l.Nodup->(l.map f).Nodup
 | [],_,_=>av8
 |a::l,aF,hn=>by
  obtain⟨cU,dU⟩:=as8.1 hn;rw[ar4];refine as8.2 ⟨fun aA=>?_,Mf (fun x hx y aD=>aF x (aq2 _ hx) y (aq2 _ aD)) dU⟩;obtain⟨y,aD,e⟩:=as9.1 aA;have:=aF y (aq2 _ aD) a (ar2 ..) e;exact cU (this▸aD)
section
variable {z R:Nat} {L:List aL} {nm:aC3}
theorem GY {a:Int} {bs:aC3} (h:cb z R L) (U:(fe z L nm a bs).e≠0):(fe z L nm a bs).L=L:=by
 unfold fe at U⊢
 cases au:dk L nm with
 |none=>rfl
 |some d=>
  rw[au] at U;simp only at U⊢
  split at U
  .rename_i E;rw[if_pos E]
  .rename_i E;rw[if_neg E]
   split at U
   .rename_i G;rw[if_pos G]
   .rename_i G;rw[if_neg G];have U:Am d.im a.toNat (bs.length/16)≠0:=U;unfold Am at U
    split at U
    .exact absurd rfl U
    .rename_i af;show dl L nm (wE d.im a.toNat (bs.length/16) bs _) none=L;unfold wE;rw[if_neg af,AE h.jd au (h.u6 d (cR au).1)]
theorem Mg {a l:Int} (h:cb z R L) (U:(h7 z L nm a l).e≠0):(h7 z L nm a l).L=L:=by
 unfold h7 at U⊢
 cases au:dk L nm with
 |none=>rfl
 |some d=>
  rw[au] at U;simp only at U⊢
  split at U
  .rename_i G;rw[if_pos G]
  .rename_i G;rw[if_neg G];have U:Ap d.im a.toNat l.toNat≠0:=U;unfold Ap at U
   split at U
   .exact absurd rfl U
   .rename_i af;show dl L nm (wF d.im a.toNat l.toNat _) none=L;unfold wF;rw[if_neg af,AE h.jd au (h.u6 d (cR au).1)]
theorem ag6 (h:cb z R L) {a:Int} {bs:aC3} (U:(fe z L nm a bs).e=0): ∃d im,dk L nm=some d/\ix d.im im/\(fe z L nm a bs).L=dl L nm im none/\ ∀c,(im.t.getD c ck).1=if 0 < bs.length/16/\16*a.toNat < (c+1)*(16*2 ^z)/\c*(16*2 ^z) < 16*(a.toNat+bs.length/16) then 1 else(d.im.t.getD c ck).1:=by
 obtain⟨d,H,fR,ha,eb,dC,cL⟩:=GV U;obtain⟨ap,kE,_⟩:=h.gl d (cR H).1;have dB:=oc eb;have dc:=ob ap.z;have wM:=AH h H;generalize a.toNat=a0 at*;have a8:=(Al ap fR dB (hu z L nm (cl L nm)) dC _ (aq0 _)).1;refine⟨d,_,H,a8.ey,cL,fun c=>?_⟩
 by_cases nl:0 < bs.length/16
 .by_cases ax:16*a0/aH d.im<=c/\c < 16*a0/aH d.im+cD (aH d.im) a0 (bs.length/16)
  .have qm:=(AI dc nl).1 ax;rw[wM] at qm;rw[if_pos ⟨nl,qm⟩];have ol:=(a8.done (c - 16*a0/aH d.im) ay4).1;rw[show 16*a0/aH d.im+(c - 16*a0/aH d.im)=c by omega] at ol;unfold hq uV at ol;simp only[Bool.not_eq_false',vj] at ol;exact gd ol.1
  .have qm:=fun x=>ax ((AI dc nl).2 x)
   rw[wM] at qm;rw[if_neg fun x=>qm x.2];have va:=(a8.js c ay4).1;rw[aq3,aq3,va]
 .have aN:bs.length/16=0:=az2
  rw[if_neg fun x=>nl x.1,aN];rfl
end
theorem GZ {L:List aL} {nm:aC3} {k:Nat} (h:ed L nm k) {i:Nat} (aF:i < k):(c4 L k nm)[i]? =some (eT L (i+1) nm):=by
 have E:=GB h i aF;have G:=pO h;rw[List.take_add_one] at E;have af:=List.append_cancel_left E;rw[oj ay4] at af⊢;injection af with af
 rw[af]
theorem TA {α:Type} (p:α->Bool): ∀(l:List α) (j:Nat),j<=l.length->(∀i x,i < j->l[i]? =some x->p x=true)->(j=l.length\/ ∃x,l[j]? =some x/\p x=false)->l.takeWhile p=l.take j
 | [],j,V,_,_=>by
  have:j=0:=aA5
  subst this;rfl
 |a::l,0,_,_,h=>by
  rcases h with h |⟨x,hx,ai⟩
  .cases h
  .injection hx with hx
   subst hx;rw[List.takeWhile_cons,ai];rfl
 |a::l,j+1,V,E,G=>by
  have ha:=E 0 a (Nat.succ_pos j) rfl;rw[List.takeWhile_cons,ha];show a::l.takeWhile p=a::l.take j;rw[TA p l j aA5 (fun i x aF hx=>E (i+1) x ay4 hx) (G.imp (fun e=>by simpa using e) id)]
def kv (L:List aL) (top base:aC3):List aC3:=(c4 L (cl L top) top).takeWhile fun n=> !decide (n=base)
def hG (L:List aL) (top base:aC3):Bool:=(dk L top).isSome&&(decide (base=[])||decide (base∈c4 L (cl L top) top))
def hv (L:List aL) (n:aC3) (k:Nat):Bool:=match dk L n with
 |none=>true
 |some d=>decide (d.im.t.length<=k)||decide ((d.im.t.getD k ck).1=0)
def pR (L:List aL) (top base:aC3) (k:Nat):Bool:=hv L top k&&(kv L top base).any fun n=> !hv L n k
def b4 (L:List aL) (nm:aC3):Nat:=match dk L nm with
 |none=>0
 |some d=>d.im.t.length
def om (L:List aL) (top base:aC3):Option Nat:=if hG L top base=true then(List.range (b4 L top)).find? (pR L top base) else none
structure ag7 where
 done:Bool
 e:Int
 L:List aL
 over:Bool
def hS (z:Nat) (L:List aL) (top base:aC3) (over:Bool):ag7:=if(over|| !(dk L top).isSome)=true then⟨false,160,L,over⟩ else match om L top base with
 |some k=>⟨false,(fe z L top ((k*2 ^z:Nat):Int) (gy z L top (k:Int))).e,(fe z L top ((k*2 ^z:Nat):Int) (gy z L top (k:Int))).L,over⟩
 |none=>⟨decide ((h8 L top base).e=0),(h8 L top base).e,(h8 L top base).L,decide ((h8 L top base).e=0)⟩
def kS (z:Nat) (L:List aL) (nm:aC3):aC3:=match dk L nm with
 |none=>[]
 |some d=>jO z L nm (cl L nm) 0 (d.im.t.length*2 ^z)
theorem Mh {z:Nat} {L L':List aL} {nm:aC3} (aw:b4 L' nm=b4 L nm) (aa:(dk L' nm).isSome=(dk L nm).isSome) (h: ∀s,s < b4 L nm*2 ^z->jt z L' nm (cl L' nm) s=jt z L nm (cl L nm) s):kS z L' nm=kS z L nm:=by
 unfold kS;unfold b4 at aw h
 cases e:dk L nm with
 |none=>
  rw[e] at aa
  cases b7:dk L' nm with
  |none=>rfl
  |some c3=>rw[b7] at aa;cases aa
 |some d=>
  rw[e] at aa aw h
  cases b7:dk L' nm with
  |none=>rw[b7] at aa;cases aa
  |some c3=>
   rw[b7] at aw;simp only at aw h⊢;rw[aw]
   exact Tu _ fun i aF=>by
    rw[au1];exact h i aF
section
variable {z R:Nat} {L:List aL} {nm:aC3}
theorem Mi (L:List aL) {t n:aC3} {d:aL} {im:bE} (H:dk L t=some d) (aw:ix d.im im):b4 (dl L t im none) n=b4 L n/\(dk (dl L t im none) n).isSome=(dk L n).isSome:=by
 by_cases e:n=t
 .subst e;unfold b4;rw[yn H,H];exact⟨aw.eS,rfl⟩
 .unfold b4;rw[GL e];exact⟨rfl,rfl⟩
theorem ag8 (h:cb z R L) {d:aL} (H:dk L nm=some d) {k:Nat} (aa:k < d.im.t.length):kS z (fe z L nm ((k*2 ^z:Nat):Int) (gy z L nm (k:Int))).L nm=kS z L nm:=by
 have dH:gy z L nm (k:Int)=fu z L nm (cl L nm) k:=by
  unfold gy;rw[H];simp only;rw[if_pos ⟨ay4,ay4⟩];rfl
 rw[dH]
 by_cases U:(fe z L nm ((k*2 ^z:Nat):Int) (fu z L nm (cl L nm) k)).e=0
 .obtain⟨c3,im,dq,aw,cL,_⟩:=ag6 h U;have hw:=GW h U;have bV:(fu z L nm (cl L nm) k).length=16*2 ^z:=yf h.tont H (h.b5 nm).1 k;have ai:=jc h.b3;rw[bV,show 16*2 ^z/16=2 ^z by omega] at hw;rw[cL] at hw⊢;obtain⟨g1,g2⟩:=Mi L (n:=nm) dq aw;refine Mh g1 g2 fun s _=>?_
  rw[hw s];show(if k*2 ^z<=s/\s < k*2 ^z+2 ^z then _ else _)=_
  split
  .rename_i c
   have h1:s/2 ^z=k:=by
    rw[Nat.div_eq_iff ay4];omega
   have fS:s % 2 ^z=s - k*2 ^z:=by
    have E:=Nat.div_add_mod s (2 ^z);rw[h1,Nat.mul_comm] at E;omega
   rw[rN,h1,fS];rfl
  .rfl
 .rw[GY h U]
end
section
variable {z R:Nat} {L:List aL} {top base:aC3}
theorem TB (h:cb z R L) {d:aL} (H:dk L top=some d) (aF:hG L top base=true):c4 L (cl L top) top=kv L top base++(if base=[] then[] else base::c4 L (cl L base) base)/\(base=[]\/ ∃e,dk L base=some e)/\cl L base+(kv L top base).length+(if base=[] then 0 else 1)=cl L top:=by
 have key: ∀(k:Nat) (nm:aC3),ed L nm k->(∃d,dk L nm=some d)->(base=[]\/base∈c4 L k nm)->c4 L k nm=(c4 L k nm).takeWhile (fun n=> !decide (n=base))++(if base=[] then[] else base::c4 L (cl L base) base)/\(base=[]\/ ∃e,dk L base=some e):=by
  intro k nm cf
  induction cf with
  |gone aZ=>rintro⟨d,H⟩;rw[aZ] at H;cases H
  |base E G=>
   rintro _ O;rcases O with O |O
   .rw[if_pos O];exact⟨rfl,.inl O⟩
   .cases O
  | @step nm d k E G af bq=>
   rintro _ O;have ht:=h.iy d (cR E).1 G
   have fR:c4 L (k+1) nm=d.back::c4 L k d.back:=by
    conv=>lhs;unfold c4
    rw[E]
   rw[fR] at O⊢;rw[List.takeWhile_cons]
   by_cases e:d.back=base
   .rw[ar0 e];have Mj: ¬base=[]:=by rw[<-e];exact G
    rw[if_neg Mj];refine⟨?_,.inr (by rw[<-e];exact ht)⟩;show d.back::c4 L k d.back=[]++_;rw[ay0,e];rw[e] at af;rw[AA af (h.b5 base).1]
   .rw[at0 e];obtain⟨g1,g2⟩:=bq ht (O.imp id fun x=>(aq5.1 x).resolve_left fun y=>e y.symm);refine⟨?_,g2⟩;show d.back::c4 L k d.back=d.back::_++_;rw[List.cons_append,<-g1]
 unfold hG at aF;rw[vj,av5] at aF;obtain⟨g1,g2⟩:=key _ top (h.b5 top).1 ⟨d,H⟩ (aF.2.imp gd gd);refine⟨g1,g2,?_⟩;have ak:=congrArg List.length g1;rw[pO (h.b5 top).1,aq1] at ak;have aqo:=pO (h.b5 base).1;unfold kv
 by_cases e:base=[]
 .rw[if_pos e] at ak⊢
  have:cl L base=0:=by
   have hn:dk L base=none:=by
    cases x:dk L base with
    |none=>rfl
    |some y=>exact absurd e (Dh h ⟨y,x⟩)
   exact rL (.gone hn) ay4
  rw[List.length_nil] at ak;omega
 .rw[if_neg e] at ak⊢;rw[at8] at ak;omega
theorem TC (h:cb z R L) {d:aL} (H:dk L top=some d): ∀n,n∈kv L top base->n≠top/\ ∃e,dk L n=some e:=fun n hn=>by
 have aA:n∈c4 L (cl L top) top:=(List.takeWhile_sublist _).mem hn;refine⟨fun e=>?_,h.L6 ⟨d,H⟩ n (aq2 _ aA)⟩;rw[e] at aA;exact LR (h.b5 top).1 aA
theorem TD {c:Nat}: ∀(ns ja:List aC3) (i:Nat),(∀n,n∈ns->(∃e,dk L n=some e)/\hv L n c=true)->(hs z L c (ns++ja) i).1=(hs z L c ja 0).1
 | [],ja,i,_=>L4 ja i 0
 |n::ns,ja,i,h=>by
  obtain⟨⟨e,U⟩,bf⟩:=h n (ar2 ..);unfold hv at bf;rw[U] at bf;simp only[av5] at bf;rw[List.cons_append,Tr U (fun x=>bf.elim (fun g=>by have:=gd g;omega) fun g=>x.2 (gd g))];exact TD ns ja (i+1) fun x hx=>h x (aq2 _ hx)
theorem TE (nm back:aC3) {c:Nat}: ∀(ns:List aC3) (i:Nat),hs z (d4 L nm back) c ns i=hs z L c ns i
 | [],_=>rfl
 |n::ns,i=>by
  conv=>lhs;unfold hs
  conv=>rhs;unfold hs
  rw[mi]
  cases dk L n with
  |none=>rfl
  |some d=>
   show(if c < (eU nm back d).im.t.length/\((eU nm back d).im.t.getD c ck).1≠0 then(eh (eU nm back d).im c none,i+1) else _)=_;rw[Dc,TE nm back ns (i+1)]
theorem ag9 (nm back:aC3): ∀{k:Nat} {n:aC3},ed L n k->n≠nm->nm∉c4 L k n->c4 (d4 L nm back) k n=c4 L k n:=by
 intro k n cf
 induction cf with
 |gone _=>intro _ _;rfl
 |base _ _=>intro _ _;rfl
 | @step n d k E G af bq=>
  intro a7 O
  have fR:c4 L (k+1) n=d.back::c4 L k d.back:=by
   conv=>lhs;unfold c4
   rw[E]
  rw[fR] at O⊢;simp only[aq5,not_or] at O
  conv=>lhs;unfold c4
  rw[mi,E];show(eU nm back d).back::c4 (d4 L nm back) k (eU nm back d).back=_;rw[wK (by rw[(cR E).2];exact a7),bq (fun x=>O.1 x.symm) O.2]
theorem ag' (h:cb z R L) {d:aL} (H:dk L top=some d) (aF:hG L top base=true) (ax:(h8 L top base).e=0) {c:Nat} (J:c < d.im.t.length) (hn:pR L top base c=false):fu z (h8 L top base).L top (cl (h8 L top base).L top) c=fu z L top (cl L top) c:=by
 have yr:=L0 h top base
 have cL:(h8 L top base).L=d4 L top base:=by
  unfold h8 at ax⊢
  split at ax
  .exact absurd ax (show¬(140:Int)=0 by decide)
  .rename_i E
   split at ax
   .exact absurd ax (show¬(141:Int)=0 by decide)
   .rename_i G
    split at ax
    .rename_i af;rw[if_neg E,if_neg G,if_pos af]
    .exact absurd ax (show¬(142:Int)=0 by decide)
 have G0:top≠base/\top∉c4 L (cl L base) base:=by
  unfold h8 at ax
  split at ax
  .exact absurd ax (show¬(140:Int)=0 by decide)
  .split at ax
   .exact absurd ax (show¬(141:Int)=0 by decide)
   .rename_i G;exact⟨fun e=>G (.inl e),fun e=>G (.inr e)⟩
 rw[cL] at yr⊢;obtain⟨g1,g2,cX⟩:=TB h H aF;have dm:dk (d4 L top base) top=some (eU top base d):=by rw[mi,H];rfl
 have i6:(eU top base d).back=base:=GS (cR H).2;have Mk:(eU top base d).im=d.im:=Dc top base d
 by_cases bf:hv L top c=true
 .have Dm:(d.im.t.getD c ck).1=0:=by
   unfold hv at bf;rw[H] at bf;simp only[av5] at bf;exact bf.elim (fun g=>by have:=gd g;omega) gd
  rw[yp dm (by rw[Mk];exact fun x=>x.2 Dm),yp H fun x=>x.2 Dm]
  have dB: ∀n,n∈kv L top base->(∃e,dk L n=some e)/\hv L n c=true:=fun n aA=>by
   refine⟨(TC h H n aA).2,?_⟩;unfold pR at hn;rw[bf,Bool.true_and] at hn;have:=List.any_eq_false.1 hn n aA;simpa using this
  have ae:hu z L top (cl L top) c=(hs z L c (if base=[] then[] else base::c4 L (cl L base) base) 0).1:=by
   unfold hu;rw[g1,TD _ _ _ dB]
  rw[ae]
  by_cases O:base=[]
  .rw[if_pos O];have yq:cl (d4 L top base) top=0:=rL (.base dm (by rw[i6];exact O)) ay4;rw[yq];rfl
  .rw[if_neg O];have yq:=L7 yr dm (by rw[i6];exact O);rw[i6] at yq;rw[yq,L5 dm,i6];unfold fu;have TF:=(h.b5 base).1;have Cq:cl (d4 L top base) base=cl L base:=rL (LZ TF (Ne.symm G0.1) G0.2) (by have:=(h.b5 base).2;omega);rw[Cq,ag9 top base TF (Ne.symm G0.1) G0.2,TE]
 .have Dm:c < d.im.t.length/\(d.im.t.getD c ck).1≠0:=by
   refine⟨J,fun e=>bf ?_⟩;unfold hv;rw[H];simp only[e];simp
  unfold fu;rw[GT dm (by rw[Mk];exact Dm),GT H Dm,Mk]
end
end
end Go.Proofs.YtkfbeijmgggkmaaGreat
