/-
A part of the proof of this claim: lemmas, with no condition beyond what each says.
-/
import Derived.Test.YtkfbeijmgggkmaaGreatZc12
set_option linter.unusedVariables false
set_option linter.unusedSimpArgs false
set_option maxRecDepth 10000
set_option maxHeartbeats 4000000
namespace Go.Proofs.YtkfbeijmgggkmaaGreat
open Go.RowKit Go.Proofs
section
abbrev agz (nm:aA0):ay:=[(2001,.cells [.ptr 1001 0]),(2002,.cells [.d (.str nm)])]
abbrev Th (z R:Int) (L:List aM) (nm:aA0):ay:=bS z R L++agz nm
theorem agA (z R:Nat) (L:List aM) (ef:nC z R L) (nm:aA0) (bO:aM) (av:dk L nm=some bO) (cZ:Nat) (hR:eZ L nm cZ) (m8:cZ<=100) (k:Nat) (Z:k < bO.im.t.length):
  Fn Tryz.prog 158 [ac (k:Int),ah 2001,ah 2002] (Th z R L nm) [] (bv .u8 (jb z L nm cZ k)) (Th z R L nm):=by
 have dF:=LO z R L ef nm bO av cZ hR m8 k Z;generalize jb z L nm cZ k=y at dF;refine aT [] Tryz.func158 ?_;exact ak dF bc
theorem L7 (z R:Int) (L:List aM) (nm:aA0) (av:dk L nm=none) (g:Nat) (x y:D):
  Fn Tryz.prog 104 [ah 1001,bQ nm,.c (.one (.cY g [.p 3001 0,.p 3002 0]))] (bS z R L++[(3001,.cells [.d x]),(3002,.cells [.d y])]) [] (ac 140) (bS z R L++[(3001,.cells [.d x]),(3002,.cells [.d y])]):=by
 have hx:(bY (aH:=.str) (aJ:=.aL) (c9 L) nm).getD (cL .aL)=none:=az4
 refine aT [2] Tryz.func104 ?_;refine⟨rfl,rfl,rfl,br [] (bq) ?_⟩;exact⟨fun ea O=>absurd (show(bY (aH:=.str) (aJ:=.aL) (c9 L) nm).getD (cL .aL)=some ea from O) ax8,fun _=>bc⟩
theorem fa.sub {N:Nat} {ids:aA1} {C:fi} {K K':aX} {B B':ay} {a:Act} {w:World} (h:fa N ids C K B a w) (dq:zW K K') (dy:kT B B'):fa N ids C K' B' a w:=ab.sub dq dy N C a w h
theorem agB (t:List fh):j3 (.aF (rN t)):=by
 rintro mN sI I F w p i5 _ ae ⟨es,h,aY⟩;exact⟨es,h,j3.i9 (c:=1001) (CO (bp:=pg (t.length:Nat) es) ⟨j3.cells rfl,j3.map,trivial⟩) mN sI I F w p i5 (fun _ h=>by cases h) ae aY⟩
theorem agC (l:List Int):j3 (.aF (rO l)):=by
 rintro mN sI I F w p i5 _ ae ⟨ρ,b9,E,G,al,aW⟩;refine⟨dc ρ 1001 i5,b9,dd ..,fun d ch H=>?_,al,aW⟩;have c0:=G d ch H;rw[cd] at H
 split at H
 .rename_i e;injection H with H
  subst H e;obtain⟨g1,aE,T,g2,c2⟩:=c0;rw[dd];rw[E] at g1 g2;exact⟨fun b=>by rw[ae];exact g1 b,aE,T,by rw[ae];exact g2,cc.mono (cj.refl _ _) _ aE (fun c J=>dm _ _ (fun e=>by subst e;cases J)) c2⟩
 .rename_i e;rw[dm _ _ (Ne.symm e)];rw[cd] at H
  split at H
  .injection H with H
   subst H;exact Holds.ck (cj.refl _ _) (fun _ _=>rfl) (aq4 _) _ (fun c J=>by cases J) c0
  .cases H
theorem agD (f:lm):j3 (.aF (m5 f)):=by
 intro mN sI I F w p i5 _ ae h;have h:wv (fun _=>none) f I F w p:=h;show wv (fun _=>none) f I F w i5;unfold wv at*;rw[ae];exact h
theorem agE (s:bL):Gj (dB s):=⟨j3.cells rfl,agB _,agC _,agD _,trivial⟩
def ia (nm:aA0) (im:bL) (cS:Option (Nat->Nat)) (d:aM):aM:=if d.nm=nm then {d with im:=im,cS:=cS} else d
def dh (L:List aM) (nm:aA0) (im:bL) (cS:Option (Nat->Nat)):List aM:=L.map (ia nm im cS)
section
variable (nm:aA0) (im:bL) (cS:Option (Nat->Nat)) (d:aM)
theorem AN:(ia nm im cS d).nm=d.nm:=by unfold ia;split <;>rfl
theorem L8:(ia nm im cS d).ad=d.ad:=by unfold ia;split <;>rfl
theorem Ti:(ia nm im cS d).am=d.am:=by unfold ia;split <;>rfl
theorem AO:(ia nm im cS d).back=d.back:=by unfold ia;split <;>rfl
theorem GY (L:List aM):c9 (dh L nm im cS)=c9 L:=by
 unfold c9 dh;rw[at8];refine as7 fun d _=>?_
 show lY (ia nm im cS d)=lY d;unfold lY;rw[AN,L8]
theorem GZ (L:List aM):ms (dh L nm im cS)=ms L:=by
 unfold ms dh;rw[at8];refine as7 fun d _=>?_
 show((ia nm im cS d).ad,t1 (ia nm im cS d).am (ia nm im cS d).back)=_;rw[L8,Ti,AO]
theorem wL (n:aA0): ∀L:List aM,dk (dh L nm im cS) n=(dk L n).map (ia nm im cS)
 | []=>rfl
 |d::L=>by
  show dk (ia nm im cS d::dh L nm im cS) n=_;rw[p5,p5,AN,wL n L]
  split <;>rfl
end
theorem wM {L:List aM} {nm:aA0} {d:aM} (h:dk L nm=some d) (im:bL) (cS:Option (Nat->Nat)):dk (dh L nm im cS) nm=some {d with im:=im,cS:=cS}:=by
 rw[wL,h];show some (ia nm im cS d)=_;unfold ia;rw[if_pos (cU h).2]
theorem L9 {L:List aM} {nm n:aA0} (a6:n≠nm) (im:bL) (cS:Option (Nat->Nat)):dk (dh L nm im cS) n=dk L n:=by
 rw[wL]
 cases h:dk L n with
 |none=>rfl
 |some d=>
  show some (ia nm im cS d)=_;unfold ia;rw[if_neg (fun e=>a6 ((cU h).2.symm.trans e))]
theorem agF {L:List aM} {nm:aA0} (im:bL) (cS:Option (Nat->Nat)) (h:nm∉L.map (·.nm)):dh L nm im cS=L:=by
 unfold dh;refine(as7 fun d H=>?_).trans (List.map_id' L);unfold ia;rw[if_neg fun e=>h (by rw[<-e];exact as0 H)]
theorem G0 {nm:aA0} {im:bL} {cS:Option (Nat->Nat)}: ∀{L:List aM},(L.map (·.nm)).Nodup->(L.map (·.am)).Nodup-> ∀{d:aM},dk L nm=some d->ff (iq L) d.am (kF {d with im:=im,cS:=cS})=iq (dh L nm im cS)
 | [],_,_,d,h=>by cases h
 |e::L,hn,ha,d,h=>by
  rw[ar8] at hn ha;obtain⟨cM,dK⟩:=at0.1 hn;obtain⟨b0,ca⟩:=at0.1 ha;rw[p5] at h;show ff ((e.am,kF e)::iq L) d.am _=iq (ia nm im cS e::dh L nm im cS);unfold ff
  by_cases c:e.nm=nm
  .rw[if_pos c] at h;injection h with h
   subst h;rw[if_pos rfl,agF im cS (by rw[<-c];exact cM)];unfold ia;rw[if_pos c];rfl
  .rw[if_neg c] at h;have a6: ¬e.am=d.am:=fun x=>b0 (by rw[x];exact as0 (f:=fun d:aM=>d.am) (cU h).1)
   rw[if_neg a6,G0 dK ca h];unfold ia;rw[if_neg c];rfl
theorem Tj {b:Nat} {o:bg}: ∀L:List (Nat×bg),kh (ff L b o) b=kh L b
 | []=>rfl
 |(a,q)::L=>by
  unfold ff
  by_cases e:a=b
  .rw[if_pos e];show(if a=b then L else _)=if a=b then L else _
   rw[if_pos e,if_pos e]
  .rw[if_neg e];show(if a=b then _ else(a,q)::kh (ff L b o) b)=if a=b then L else(a,q)::kh L b
   rw[if_neg e,if_neg e,Tj L]
theorem Ma {L:List aM} (nm:aA0) (im:bL) (cS:Option (Nat->Nat)) {n:aA0} {k:Nat} (h:eZ L n k):eZ (dh L nm im cS) n k:=by
 induction h with
 |gone h=>exact .gone (by rw[wL,h];rfl)
 |base E G=>exact .base (d:=ia nm im cS _) (by rw[wL,E];rfl) (by rw[AO];exact G)
 |step E G al bu=>exact .step (d:=ia nm im cS _) (by rw[wL,E];rfl) (by rw[AO];exact G) (by rw[AO];exact bu)
theorem G1 (L:List aM) (nm:aA0) (im:bL) (cS:Option (Nat->Nat)): ∀(k:Nat) (n:aA0),eO (dh L nm im cS) k n=eO L k n
 |0,_=>rfl
 |k+1,n=>by
  show(match dk (dh L nm im cS) n with |none=>[] |some d=>d.back::eO (dh L nm im cS) k d.back)=match dk L n with |none=>[] |some d=>d.back::eO L k d.back
  rw[wL]
  cases h:dk L n with
  |none=>rfl
  |some d=>
   show(ia nm im cS d).back::eO (dh L nm im cS) k (ia nm im cS d).back=d.back::eO L k d.back;rw[AO,G1 L nm im cS k]
theorem h8.dh {L:List aM} (h:h8 L) (nm:aA0) (im:bL) (cS:Option (Nat->Nat)):h8 (dh L nm im cS):=by
 have key: ∀{α:Type} (f:aM->α),(∀d,f (ia nm im cS d)=f d)->(Go.Proofs.YtkfbeijmgggkmaaGreat.dh L nm im cS).map f=L.map f:=fun f hf=>by
  unfold Go.Proofs.YtkfbeijmgggkmaaGreat.dh;rw[at8];exact as7 fun d _=>hf d
 exact⟨by rw[key _ (AN nm im cS)];exact h.iA,by rw[key _ (L8 nm im cS)];exact h.lv,by rw[key _ (Ti nm im cS)];exact h.wH⟩
theorem nC.dh {z R:Nat} {L:List aM} (h:nC z R L) {nm:aA0} {bO:aM} (av:dk L nm=some bO) {im:bL} (ax:iz bO.im im) (cS:Option (Nat->Nat)):nC z R (dh L nm im cS):=by
 obtain⟨fA,hc,p2⟩:=h.gf bO (cU av).1
 have key: ∀d,d∈Go.Proofs.YtkfbeijmgggkmaaGreat.dh L nm im cS-> ∃e,e∈L/\ia nm im cS e=d:=fun d H=>by
  obtain⟨e,U,rfl⟩:=as5.1 H;exact⟨e,U,rfl⟩
 refine⟨h.toh8.dh nm im cS,h.b3,h.vc,by unfold Go.Proofs.YtkfbeijmgggkmaaGreat.dh;rw[ar7];exact h.len,fun d H=>?_,fun d H O=>?_,fun d H=>?_,fun d H=>?_⟩
 .obtain⟨e,U,rfl⟩:=key d H;unfold ia
  split
  .exact⟨ax.ok,ax.z.trans hc,ax.ls.trans p2⟩
  .exact h.gf e U
 .obtain⟨e,U,rfl⟩:=key d H;rw[AO] at O⊢;obtain⟨b6,h'⟩:=h.iB e U O;exact⟨ia nm im cS b6,by rw[wL,h'];rfl⟩
 .obtain⟨e,U,rfl⟩:=key d H;rw[AN];exact h.ne e U
 .obtain⟨e,U,rfl⟩:=key d H;rw[AN];obtain⟨k,Z,H⟩:=h.sS e U;exact⟨k,Z,Ma nm im cS H⟩
theorem agG {L:List aM} {n:aA0} {k d2:Nat} (h:eZ L n k) (h':eZ L n d2):k=d2:=by
 induction h generalizing d2 with
 |gone h=>
  cases h' with
  |gone _=>rfl
  |base _ _=>rfl
  |step E _ _=>rw[h] at E;cases E
 |base E G=>
  cases h' with
  |gone _=>rfl
  |base _ _=>rfl
  |step g1 g2 _=>rw[E] at g1;injection g1 with g1;rw[<-g1] at g2;exact absurd G g2
 |step E G al bu=>
  cases h' with
  |gone h=>rw[E] at h;cases h
  |base g1 g2=>rw[E] at g1;injection g1 with g1;rw[<-g1] at g2;exact absurd g2 G
  |step g1 g2 c2=>rw[E] at g1;injection g1 with g1;rw[<-g1] at c2;rw[bu c2]
theorem agH {L:List aM} {n:aA0} {k:Nat} (h:eZ L n k): ∀x,x∈eO L k n-> ∃j,j < k/\eZ L x j:=by
 induction h with
 |gone _=>intro x hx;cases hx
 |base _ _=>intro x hx;cases hx
 | @step n d k E G al bu=>
  intro x hx;unfold eO at hx;rw[E] at hx;rcases aq7.1 hx with rfl |hx
  .exact⟨k,Nat.lt_succ_self k,al⟩
  .obtain⟨j,V,H⟩:=bu x hx;exact⟨j,aw0,H⟩
theorem Mb {L:List aM} {n:aA0} {k:Nat} (h:eZ L n k):n∉eO L k n:=fun hx=>by
 obtain⟨j,V,H⟩:=agH h n hx;have:=agG h H;omega
theorem Mc {z:Nat} {L:List aM} {nm:aA0} {im:bL} {cS:Option (Nat->Nat)} {c:Nat}: ∀(ns:List aA0) (i:Nat),nm∉ns->kG z (dh L nm im cS) c ns i=kG z L c ns i
 | [],_,_=>rfl
 |n::ns,i,h=>by
  have a6:n≠nm:=fun e=>h (by rw[e];exact ar4 ..)
  have bu:=Mc (z:=z) (L:=L) (nm:=nm) (im:=im) (cS:=cS) (c:=c) ns (i+1) fun aw=>h (aq6 _ aw)
  unfold kG;rw[L9 a6,bu]
def jv (z:Nat) (L:List aM) (nm:aA0) (cZ c:Nat):aA0:=(kG z L c (eO L cZ nm) 1).1
theorem Tk {z:Nat} {L:List aM} {nm:aA0} {bO:aM} (av:dk L nm=some bO) {cZ:Nat} (hR:eZ L nm cZ) (im:bL) (cS:Option (Nat->Nat)) (c:Nat):
  jb z (dh L nm im cS) nm cZ c=if c < im.t.length/\(im.t.getD c cy).1≠0 then eR im c none else jv z L nm cZ c:=by
 unfold jb jv;rw[G1]
 conv=>lhs;unfold kG
 rw[wM av];simp only
 split
 .rfl
 .rw[Mc _ _ (Mb hR)]
abbrev AP (z R:Int) (L:List aM) (nm:aA0) (am:Nat):ay:=[(8001,.cells [.d (.int .i64 z),.d (.int .i64 R),.mp 8002]),(8002,.map .str .aL (c9 L)),(8003,.aF (.bw (ms L))),(8004,.aF (.bw (kh (iq L) am))),(8005,.cells [.ptr 8001 0]),(8006,.cells [.d (.str nm)])]
def sW (z R:Int) (L:List aM) (nm:aA0) (am:Nat) (bs:Nat->Nat):bo->bg:=.pU am (.nu (AP z R L nm am) bs)
theorem Tl (z R:Int) (L:List aM) (nm:aA0) (am:Nat):Gj (AP z R L nm am):=⟨j3.cells rfl,j3.map,j3.bw,j3.bw,j3.cells rfl,j3.cells rfl,trivial⟩
abbrev l1 (z R:Int) (L:List aM) (nm:aA0):ay:=[(8001,.cells [.d (.int .i64 z),.d (.int .i64 R),.mp 8002]),(8002,.map .str .aL (c9 L)),(8003,.aF (.bw (ms L))),(8004,.aF (.bw (iq L))),(8005,.cells [.ptr 8001 0]),(8006,.cells [.d (.str nm)])]
abbrev Dm (am cV dN dS:Nat):Nat->Nat:=fun c=>cond (Nat.beq c 1001) am (cond (Nat.beq c 1002) cV (cond (Nat.beq c 1003) dN dS))
abbrev p6 (cV dN dS:Nat):Nat->Nat:=fun c=>cond (Nat.beq c 1002) cV (cond (Nat.beq c 1003) dN dS)
abbrev Tm (am cV dN dS:Nat):ay:=[(9001,.cg 1001 (fg am)),(9002,.cg 1002 (fg cV)),(9003,.cg 1003 (fg dN)),(9004,.cg 1004 (fg dS))]
abbrev Md (bs:Nat->Nat):ay:=[(7001,.cg 8001 (fg (bs 8001))),(7002,.cg 8002 (fg (bs 8002))),(7003,.cg 8003 (fg (bs 8003))),(7004,.cg 8004 (fg (bs 8004))),(7005,.cg 8005 (fg (bs 8005))),(7006,.cg 8006 (fg (bs 8006)))]
theorem agI (z R:Nat) (L:List aM) (ef:nC z R L) (nm:aA0) (bO:aM) (av:dk L nm=some bO) (cZ:Nat) (hR:eZ L nm cZ) (m8:cZ<=100) (k:Nat) (Z:k < bO.im.t.length):
  Fn Tryz.prog 158 [ac (k:Int),ah 8005,ah 8006] (l1 z R L nm) [] (bv .u8 (jb z L nm cZ k)) (l1 z R L nm):=
 Fn.aV [(1001,8001),(1002,8002),(1003,8003),(1004,8004),(2001,8005),(2002,8006)] (agA z R L ef nm bO av cZ hR m8 k Z)
theorem agJ (z R:Nat) (L:List aM) (ef:nC z R L) (nm:aA0) (bO:aM) (av:dk L nm=some bO) (cZ:Nat) (hR:eZ L nm cZ) (m8:cZ<=100) (s:bL) (ax:iz bO.im s) (bs:Nat->Nat) (c:Nat) (J:c < s.t.length) (aR:(s.t[c]).1=0):
  Gz s (sW z R L nm bO.am bs) (bs 8005) (bs 8006) c (jv z L nm cZ c):=by
 have bZ:(jv z L nm cZ c).length<=1000000:=by
  have:=ST ef c (eO L cZ nm) 1;unfold jv;omega
 refine⟨bZ,?_⟩;have fJ:=ef.toh8.M (cU av).1
 have JJ: ∀cS,jb z (dh L nm s cS) nm cZ c=jv z L nm cZ c:=fun cS=>by
  rw[Tk av hR,if_neg fun h=>h.2 (by rw[ar2,oj J];exact aR)]
 have jk: ∀cS,Fn Tryz.prog 158 [ac (c:Int),ah 8005,ah 8006] (l1 z R (dh L nm s cS) nm) [] (bv .u8 (jv z L nm cZ c)) (l1 z R (dh L nm s cS) nm):=fun cS=>by
  have:=agI z R (dh L nm s cS) (ef.dh av ax cS) nm _ (wM av s cS) cZ (Ma nm s cS hR) m8 c J;rw[JJ cS] at this;exact this
 have Tn: ∀cV dN dS,kF {bO with im:=s,cS:=some (p6 cV dN dS)}= .nu (dB s) (Dm bO.am cV dN dS):=fun cV dN dS=>rfl
 have lM: ∀cV dN dS,ff (iq L) bO.am (.nu (dB s) (Dm bO.am cV dN dS))=iq (dh L nm s (some (p6 cV dN dS))):=fun cV dN dS=>by
  rw[<-Tn];exact G0 ef.iA ef.wH av
 have agK: ∀cV dN dS,eB (iq (dh L nm s (some (p6 cV dN dS)))) bO.am=some (.nu (dB s) (Dm bO.am cV dN dS)):=fun cV dN dS=>by
  have:=(ef.toh8.dh nm s (some (p6 cV dN dS))).M (cU (wM av s (some (p6 cV dN dS)))).1;rw[Tn] at this;exact this
 have agL: ∀cV dN dS,kh (iq (dh L nm s (some (p6 cV dN dS)))) bO.am=kh (iq L) bO.am:=fun cV dN dS=>by
  rw[<-lM,Tj]
 refine Fn.via (X:=Nat×Nat×Nat) (args':=fun _=>[ac (c:Int),ah 8005,ah 8006]) (u0:=fun x=>l1 z R (dh L nm s (some (p6 x.1 x.2.1 x.2.2))) nm++(Md bs++Tm bO.am x.1 x.2.1 x.2.2)) (nq:=fun x=>l1 z R (dh L nm s (some (p6 x.1 x.2.1 x.2.2))) nm) (jp:=fun _=>[]) (res':=fun _=>bv .u8 (jv z L nm cZ c)) (oe:=fun x=>l1 z R (dh L nm s (some (p6 x.1 x.2.1 x.2.2))) nm)
  aw3 3 rfl ?_ (fun x=>jk _) (fun x=>az) (fun x=>rfl) (fun x=>rfl) ?_
 .intro N C a w Me;have E:=ab.e6 9000 1001 bO.am rfl N C a w (ab.adh 9000 1001 9001 bO.am rfl rfl aw1 N C a w Me);obtain⟨cV,G⟩:=c5.mark 1002 9002 rfl aw1 N C a w E;obtain⟨dN,al⟩:=c5.mark 1003 9003 rfl aw1 N C a w G;obtain⟨dS,aW⟩:=c5.mark 1004 9004 rfl aw1 N C a w al;have bG:=ab.KV 9100 (dB s) (fun c=>c+8000) (Dm bO.am cV dN dS) az az rfl N C a w aW;have fP:=ab.place 8006 7006 (bs 8006) rfl rfl aw1 N C a w (ab.place 8005 7005 (bs 8005) rfl rfl aw1 N C a w (ab.place 8004 7004 (bs 8004) rfl rfl aw1 N C a w (ab.place 8003 7003 (bs 8003) rfl rfl aw1 N C a w (ab.place 8002 7002 (bs 8002) rfl rfl aw1 N C a w (ab.place 8001 7001 (bs 8001) rfl rfl aw1 N C a w bG)))));have ji:=ab.KW 9000 (AP z R L nm bO.am) (fun c=>c - 1000) bs rfl az rfl rfl (CO (Tl z R L nm bO.am)) N C a w fP;have gJ:=ab.adr 8004 9100 bO.am rfl rfl fJ aw1 N C a w ji;have rs:=ab.KX 1 8005 7005 (bs 8005) rfl rfl N C a w gJ;have BR:=ab.KX 2 8006 7006 (bs 8006) rfl rfl N C a w rs;have aZ:=GY nm s (some (p6 cV dN dS)) L;have cp:=GZ nm s (some (p6 cV dN dS)) L;refine⟨(cV,dN,dS),fa.sub BR az ⟨rfl,congrArg (fun e=>some (ba.map .str .aL e)) aZ.symm,congrArg (fun e=>some (ba.aF (.bw e))) cp.symm,congrArg (fun e=>some (ba.aF (.bw e))) (lM cV dN dS),rfl,rfl,rfl,rfl,rfl,rfl,rfl,rfl,rfl,rfl,rfl,rfl,trivial⟩⟩
 .rintro⟨cV,dN,dS⟩;have aZ:=GY nm s (some (p6 cV dN dS)) L;have cp:=GZ nm s (some (p6 cV dN dS)) L
  refine⟨bv .u8 (jv z L nm cZ c),_,ab.trans (cw [(3,bv .u8 (jv z L nm cZ c))] (l1 z R (dh L nm s (some (p6 cV dN dS))) nm++(Md bs++Tm bO.am cV dN dS)))
   (ab.trans (ab.CQ 8004 9100 bO.am rfl (agK cV dN dS) rfl) (ab.trans (ab.adj 9100 bO.am rfl)
   (ab.trans (ab.KV 9000 (AP z R L nm bO.am) (fun c=>c - 1000) bs ⟨rfl,congrArg (fun e=>some (ba.map .str .aL e)) aZ,congrArg (fun e=>some (ba.aF (.bw e))) cp,congrArg (fun e=>some (ba.aF (.bw e))) (agL cV dN dS),rfl,rfl,trivial⟩ az rfl)
   (ab.trans (ab.adi 9000 1001 9001 bO.am rfl rfl) (ab.KW 9100 (dB s) (fun c=>c+8000) (Dm bO.am cV dN dS) rfl az rfl rfl (CO (agE s))))))),?_,?_,?_⟩
  .exact rfl
  .exact az
  .rfl
theorem To {f:FuncId} {args:List aO} {res:aO} {s s':bL} {bn:bo->bg} (h:Fn Tryz.prog f (ah 1001::args) (gc s bn) [] res (gc s' bn)) (E:ob 1001 [1002,1003,1004] (ah 1001::args) (dB s) [(9000,.cg 1001 bn)] [] []=true) (G:oc 1001 (mY [1002,1003,1004] [] []) res (dB s') [(9000,.cg 1001 bn)]=true):
  Fn Tryz.prog f (ah 1001::args) [(1001,.aF (ja s)),(9000,.cg 1001 bn)] [] res [(1001,.aF (ja s')),(9000,.cg 1001 bn)]:=
 Fn.close (bp:=dB s) (dz:=dB s') (aI:=[(9000,.cg 1001 bn)]) (aN:=[(9000,.cg 1001 bn)]) [1002,1003,1004] h (fun _ _ _ _ h=>h) (fun _ _ _ _ h=>h) E G
abbrev lz (x y:D):ay:=[(3001,.cells [.d x]),(3002,.cells [.d y])]
abbrev AQ (d6 cV dN dS kI lA:Nat):Nat->Nat:=fun c=>cond (Nat.beq c 8001) d6 (cond (Nat.beq c 8002) cV (cond (Nat.beq c 8003) dN (cond (Nat.beq c 8004) dS (cond (Nat.beq c 8005) kI lA))))
abbrev Dn:aO:=.c (.one (.cY 158 [.p 8005 0,.p 8006 0]))
abbrev G2 (z R:Int) (L:List aM) (nm:aA0) (am:Nat) (s:bL) (d6 cV dN dS kI lA:Nat) (x y:D):ay:=[(7000,.aF (ja s)),(9000,.cg 7000 (sW z R L nm am (AQ d6 cV dN dS kI lA)))]++(Md (AQ d6 cV dN dS kI lA)++lz x y)
abbrev Tp:aA1:=[8001,8002,8003,8004,8005,8006,3001,3002]
abbrev Mf (am:Nat):aX:=[(0,c8 am),(1,Dn),(2,ah 3001),(3,ah 3002)]
abbrev agM (kI lA:Nat):aX:=[(0,ah 7000),(1,nA kI lA),(2,ah 3001),(3,ah 3002)]
theorem ab.Tq (z R:Int) (L:List aM) (nm:aA0) (am:Nat) (im:bL) (cH:eB (iq L) am=some (ja im)) (x y:D):
  c5 (X:=Nat×Nat×Nat×Nat×Nat×Nat) Tp (Mf am) (l1 z R L nm++lz x y) (fun p=>agM p.2.2.2.2.1 p.2.2.2.2.2) (fun p=>G2 z R L nm am im p.1 p.2.1 p.2.2.1 p.2.2.2.1 p.2.2.2.2.1 p.2.2.2.2.2 x y):=by
 intro N C a w Me;have E:=ab.CQ 8004 7000 am rfl cH rfl N C a w Me;obtain⟨d6,G⟩:=c5.mark 8001 7001 rfl aw1 N C a w E;obtain⟨cV,al⟩:=c5.mark 8002 7002 rfl aw1 N C a w G;obtain⟨dN,aW⟩:=c5.mark 8003 7003 rfl aw1 N C a w al;obtain⟨dS,bG⟩:=c5.mark 8004 7004 rfl aw1 N C a w aW;obtain⟨kI,fP⟩:=c5.mark 8005 7005 rfl aw1 N C a w bG;obtain⟨lA,ji⟩:=c5.mark 8006 7006 rfl aw1 N C a w fP;have gJ:=ab.KV 9000 (AP z R L nm am) (fun c=>c - 1000) (AQ d6 cV dN dS kI lA) az az rfl N C a w ji;have rs:=ab.adk 1 158 8005 8006 7005 7006 kI lA rfl rfl rfl N C a w gJ;have BR:=ab.RE 0 7000 am rfl rfl N C a w rs;have agN:=ab.pU 9000 7000 am rfl rfl aw1 N C a w BR;exact⟨(d6,cV,dN,dS,kI,lA),fa.sub agN az az⟩
theorem ab.Tr (z R:Int) (L:List aM) (e5:h8 L) (nm:aA0) (bO:aM) (av:dk L nm=some bO) (ae:bO.cS=none) (s:bL) (d6 cV dN dS kI lA:Nat) (x y:D) (r:Int):
  ab Tp [(6,ac r)] (G2 z R L nm bO.am s d6 cV dN dS kI lA x y) [(6,ac r)] (l1 z R (dh L nm s none) nm++lz x y):=by
 have fJ:=e5.M (cU av).1;have aZ:=GY nm s none L;have cp:=GZ nm s none L;have ar:ff (iq L) bO.am (ja s)=iq (dh L nm s none):=G0 (cS:=none) (im:=s) e5.iA e5.wH av
 exact ab.trans (ab.adg 9000 7000 bO.am rfl rfl aw1) (ab.trans (ab.KW 9000 (AP z R L nm bO.am) (fun c=>c - 1000) (AQ d6 cV dN dS kI lA) rfl az rfl rfl (CO (Tl z R L nm bO.am)))
  (ab.trans (ab.RJ 8004 7000 bO.am rfl rfl fJ aw1) (ab.sub az ⟨rfl,congrArg (fun e=>some (ba.map .str .aL e)) aZ.symm,congrArg (fun e=>some (ba.aF (.bw e))) cp.symm,congrArg (fun e=>some (ba.aF (.bw e))) ar,rfl,rfl,rfl,rfl,trivial⟩)))
theorem agO (z R:Int) (L:List aM) (e5:h8 L) (nm:aA0) (bO:aM) (av:dk L nm=some bO) (ae:bO.cS=none) (a:Int) (bs:aA0) (r:Int) (s':bL)
  (h: ∀bE:Nat->Nat,Fn Tryz.prog 106 [ah 1001,ac a,bv .u8 bs,nA (bE 8005) (bE 8006)] (gc bO.im (sW z R L nm bO.am bE)) [] (ac r) (gc s' (sW z R L nm bO.am bE))):
  Fn Tryz.prog 105 [c8 bO.am,Dn,ah 3001,ah 3002] (l1 z R L nm++lz (.int .i64 a) (.cf .u8 bs)) [] (ac r) (l1 z R (dh L nm s' none) nm++lz (.int .i64 a) (.cf .u8 bs)):=by
 have fJ:eB (iq L) bO.am=some (ja bO.im):=by
  have:=e5.M (cU av).1
  rwa[show kF bO=ja bO.im by unfold kF;rw[ae]] at this
 refine aT [1] Tryz.func105 ?_;refine bk.le (cw (Mf bO.am) (l1 z R L nm++lz (.int .i64 a) (.cf .u8 bs))) <| bk.eH (ab.Tq z R L nm bO.am bO.im fJ _ _) fun p=>?_
 obtain⟨d6,cV,dN,dS,kI,lA⟩:=p;exact br [] (bq) <| ak (Fn.aV [(1001,7000)] (To (h (AQ d6 cV dN dS kI lA)) rfl rfl)) ⟨_,_,_,ab.trans (cw [(6,ac r)] (G2 z R L nm bO.am s' d6 cV dN dS kI lA (.int .i64 a) (.cf .u8 bs))) (ab.Tr z R L e5 nm bO av ae s' d6 cV dN dS kI lA _ _ r),rfl,rfl,az,rfl⟩
theorem agP (z R:Int) (L:List aM) (e5:h8 L) (nm:aA0) (bO:aM) (av:dk L nm=some bO) (ae:bO.cS=none) (a l:Int) (r:Int) (s':bL)
  (h: ∀bE:Nat->Nat,Fn Tryz.prog 108 [ah 1001,ac a,ac l,nA (bE 8005) (bE 8006)] (gc bO.im (sW z R L nm bO.am bE)) [] (ac r) (gc s' (sW z R L nm bO.am bE))):
  Fn Tryz.prog 107 [c8 bO.am,Dn,ah 3001,ah 3002] (l1 z R L nm++lz (.int .i64 a) (.int .i64 l)) [] (ac r) (l1 z R (dh L nm s' none) nm++lz (.int .i64 a) (.int .i64 l)):=by
 have fJ:eB (iq L) bO.am=some (ja bO.im):=by
  have:=e5.M (cU av).1
  rwa[show kF bO=ja bO.im by unfold kF;rw[ae]] at this
 refine aT [1] Tryz.func107 ?_;refine bk.le (cw (Mf bO.am) (l1 z R L nm++lz (.int .i64 a) (.int .i64 l))) <| bk.eH (ab.Tq z R L nm bO.am bO.im fJ _ _) fun p=>?_
 obtain⟨d6,cV,dN,dS,kI,lA⟩:=p;exact br [] (bq) <| ak (Fn.aV [(1001,7000)] (To (h (AQ d6 cV dN dS kI lA)) rfl rfl)) ⟨_,_,_,ab.trans (cw [(6,ac r)] (G2 z R L nm bO.am s' d6 cV dN dS kI lA (.int .i64 a) (.int .i64 l))) (ab.Tr z R L e5 nm bO av ae s' d6 cV dN dS kI lA _ _ r),rfl,rfl,az,rfl⟩
theorem agQ (z R:Int) (L:List aM) (e5:h8 L) (nm:aA0) (bO:aM) (av:dk L nm=some bO) (ae:bO.cS=none) (a l:Int) (r:Int) (s':bL)
  (h:Fn Tryz.prog 110 [ah 1001,ac a,ac l] (dB bO.im) [] (ac r) (dB s')):
  Fn Tryz.prog 109 [c8 bO.am,Dn,ah 3001,ah 3002] (l1 z R L nm++lz (.int .i64 a) (.int .i64 l)) [] (ac r) (l1 z R (dh L nm s' none) nm++lz (.int .i64 a) (.int .i64 l)):=by
 have fJ:eB (iq L) bO.am=some (ja bO.im):=by
  have:=e5.M (cU av).1
  rwa[show kF bO=ja bO.im by unfold kF;rw[ae]] at this
 have aZ:=GY nm s' none L;have cp:=GZ nm s' none L;have ar:ff (iq L) bO.am (ja s')=iq (dh L nm s' none):=G0 (cS:=none) (im:=s') e5.iA e5.wH av;have J:Fn Tryz.prog 110 [ah 1001,ac a,ac l] [(1001,.aF (ja bO.im))] [] (ac r) [(1001,.aF (ja s'))]:=Fn.close (bp:=dB bO.im) (dz:=dB s') (aI:=[]) (aN:=[]) [1002,1003,1004] h (fun _ _ _ _ h=>h) (fun _ _ _ _ h=>h) rfl rfl;have aP:=(cA.bw (c:=1001) (q:=8004) (b:=bO.am) (args:=[ac a,ac l]) (aI:=[]) (bb:=[]) (X:=Unit) (res:=fun _=>ac r) (aN:=fun _=>[]) (o:=ja bO.im) (o':=fun _=>ja s') (L:=iq L) J.x fJ rfl ⟨rfl,rfl⟩ rfl (fun _=>rfl)).fn;refine aT [] Tryz.func109 ?_;exact ak aP <| sJ bq rfl rfl ⟨rfl,congrArg (fun e=>some (ba.map .str .aL e)) aZ.symm,congrArg (fun e=>some (ba.aF (.bw e))) cp.symm,congrArg (fun e=>some (ba.aF (.bw e))) ar,rfl,rfl,rfl,rfl,trivial⟩ rfl
theorem Mg (z R:Int) (L L':List aM) (e5:h8 L) (nm:aA0) (bO:aM) (av:dk L nm=some bO) (f:Nat) (r:Int) (x y:D)
  (hf:Fn Tryz.prog f [c8 bO.am,Dn,ah 3001,ah 3002] (l1 z R L nm++lz x y) [] (ac r) (l1 z R L' nm++lz x y)):
  Fn Tryz.prog 104 [ah 1001,bQ nm,.c (.one (.cY f [.p 3001 0,.p 3002 0]))] (bS z R L++lz x y) [] (ac r) (bS z R L'++lz x y):=by
 obtain⟨ph,gk,gl⟩:=ki yk;have cH:=e5.D (cU av).1;have hx:(bY (aH:=.str) (aJ:=.aL) (c9 L) nm).getD (cL .aL)=some bO.ad:=az4
 refine aT [2] Tryz.func104 ?_;refine⟨rfl,rfl,rfl,br [] (bq) ?_⟩;refine⟨fun ea O=>⟨_,_,fun N=>i' (b:=bO.ad) rfl ay7 N,rfl,?_⟩,fun O=>absurd (show(bY (aH:=.str) (aJ:=.aL) (c9 L) nm).getD (cL .aL)=none from O) ax8⟩;refine⟨_,_,fun N=>jr rfl Tryz.underlying122 rfl rfl gk ax2 rfl N,rfl,?_⟩;refine⟨_,_,fun N=>ln (q:=1003) rfl Tryz.underlying112 rfl rfl rfl cH rfl N,rfl,?_⟩;exact ak (Fn.aV [(8001,1001),(8002,1002),(8003,1003),(8004,1004),(8005,3),(8006,4)] hf) bc
theorem Ts (z R:Int) (L L':List aM) (nm:aA0) (a:Int) (bs:aA0) (r:Int)
  (h:Fn Tryz.prog 104 [ah 1001,bQ nm,.c (.one (.cY 105 [.p 3001 0,.p 3002 0]))] (bS z R L++lz (.int .i64 a) (.cf .u8 bs)) [] (ac r) (bS z R L'++lz (.int .i64 a) (.cf .u8 bs))):
  Fn Tryz.prog 63 [ah 1001,bQ nm,ac a,bv .u8 bs] (bS z R L) [] (ac r) (bS z R L'):=by
 refine aT [] Tryz.func63 ?_;exact⟨rfl,rfl,ak (Fn.aV [(3001,6),(3002,7)] h) bc⟩
theorem Tt (z R:Int) (L L':List aM) (nm:aA0) (a l:Int) (r:Int)
  (h:Fn Tryz.prog 104 [ah 1001,bQ nm,.c (.one (.cY 107 [.p 3001 0,.p 3002 0]))] (bS z R L++lz (.int .i64 a) (.int .i64 l)) [] (ac r) (bS z R L'++lz (.int .i64 a) (.int .i64 l))):
  Fn Tryz.prog 65 [ah 1001,bQ nm,ac a,ac l] (bS z R L) [] (ac r) (bS z R L'):=by
 refine aT [] Tryz.func65 ?_;exact⟨rfl,rfl,ak (Fn.aV [(3001,6),(3002,7)] h) bc⟩
theorem Tu (z R:Int) (L L':List aM) (nm:aA0) (a l:Int) (r:Int)
  (h:Fn Tryz.prog 104 [ah 1001,bQ nm,.c (.one (.cY 109 [.p 3001 0,.p 3002 0]))] (bS z R L++lz (.int .i64 a) (.int .i64 l)) [] (ac r) (bS z R L'++lz (.int .i64 a) (.int .i64 l))):
  Fn Tryz.prog 67 [ah 1001,bQ nm,ac a,ac l] (bS z R L) [] (ac r) (bS z R L'):=by
 refine aT [] Tryz.func67 ?_;exact⟨rfl,rfl,ak (Fn.aV [(3001,6),(3002,7)] h) bc⟩
theorem Fn.res {P:Program} {f:FuncId} {args:List aO} {aI:ay} {bb:aA1} {res res':aO} {aN:ay} (h:Fn P f args aI bb res aN) (ap:tw res res'):Fn P f args aI bb res' aN:=
 ⟨h.1,fun ρ F I w bW b0 ca a3 a4 a5 gD=>(h.2 ρ F I w bW b0 ca a3 a4 a5 gD).mono fun e w' ⟨x,ρ',F',r1,r2,fV,I',j1,lR,mq,lS,m0,od⟩=>⟨x,ρ',F',r1,r2,fV,I',j1,lR,mq,lS,m0,wa ap od⟩⟩
theorem cA.to {P:Program} {f:FuncId} {args:List aO} {aI:ay} {bb:aA1} {X Y:Type} {res:X->aO} {aN:X->ay} {res':Y->aO} {oe:Y->ay} (h:cA P f args aI bb res aN) (g:X->Y) (E: ∀x,res x=res' (g x)) (G: ∀x,aN x=oe (g x)):cA P f args aI bb res' oe:=
 ⟨h.1,fun ρ F I w bW b0 ca a3 a4 a5 gD=>(h.2 ρ F I w bW b0 ca a3 a4 a5 gD).mono fun e w' ⟨y,x,ρ',F',r1,r2,fV,I',j1,lR,mq,lS,m0,od⟩=>by
  rw[G] at mq lS m0;rw[E] at od;exact⟨g y,x,ρ',F',r1,r2,fV,I',j1,lR,mq,lS,m0,od⟩⟩
def AR (L:List aM):Nat->aA0->Nat
 |0,_=>0
 |f+1,nm=>match dk L nm with
  |none=>0
  |some d=>if d.back=[] then 0 else AR L f d.back+1
def c' (L:List aM) (nm:aA0):Nat:=AR L 100 nm
theorem agR {L:List aM} {nm:aA0} {k:Nat} (h:eZ L nm k): ∀f,k<=f->AR L f nm=k:=by
 induction h with
 |gone h=>
  intro f _
  cases f with
  |zero=>rfl
  |succ f=>unfold AR;rw[h]
 |base E G=>
  intro f _
  cases f with
  |zero=>rfl
  |succ f=>unfold AR;rw[E];simp only;rw[if_pos G]
 |step E G _ bu=>
  intro f hf
  cases f with
  |zero=>omega
  |succ f=>unfold AR;rw[E];simp only;rw[if_neg G,bu f aw0]
theorem G3 {L:List aM} {nm:aA0} {k:Nat} (h:eZ L nm k) (Z:k<=100):c' L nm=k:=agR h 100 Z
structure cr (z R:Nat) (L:List aM):Prop extends nC z R L where
 vf:L1 L
 Do: ∀d,d∈L->g4 d.nm=true
theorem Dp {s:aA0} (h:g4 s=true):1<=s.length/\s.length<=15:=by
 unfold g4 at h;simp only[vj] at h;exact⟨gd h.1.1,gd h.1.2⟩
section
variable {z R:Nat} {L:List aM}
theorem cr.Tv (h:cr z R L): ∀d,d∈L->d.nm.length<=100000:=fun d H=>by
 have:=Dp (h.Do d H);omega
theorem cr.cg (h:cr z R L) (nm:aA0):eZ L nm (c' L nm)/\c' L nm<=8:=by
 cases e:dk L nm with
 |none=>
  have:=eZ.gone e;rw[G3 this aw0];exact⟨this,aw0⟩
 |some d=>
  obtain⟨k,Z,H⟩:=h.sS d (cU e).1;rw[(cU e).2] at H;rw[G3 H aw0];exact⟨H,Z⟩
theorem cr.nil (E:z<=3) (G:R<=512):cr z R []:=
 ⟨⟨⟨au7,au7,au7⟩,E,G,aq9 _,(fun _ h=>by cases h),(fun _ h=>by cases h),(fun _ h=>by cases h),(fun _ h=>by cases h)⟩,(fun _ h=>by cases h),(fun _ h=>by cases h)⟩
theorem Dq: ∀{L:List aM},(L.map (·.nm)).Nodup-> ∀{d:aM},d∈L->dk L d.nm=some d
 | [],_,d,h=>by cases h
 |e::L,hn,d,h=>by
  rw[ar8] at hn;obtain⟨cM,dK⟩:=at0.1 hn;rw[p5];rcases aq7.1 h with rfl |h
  .rw[if_pos rfl]
  .rw[if_neg fun x=>cM (by rw[x];exact as0 (f:=fun d:aM=>d.nm) h),Dq dK h]
theorem Dr (hn:(L.map (·.nm)).Nodup) {nm:aA0} {d:aM} (h:dk L nm=some d) (ae:d.cS=none):dh L nm d.im none=L:=by
 unfold dh;refine(as7 fun e U=>?_).trans (List.map_id' L);unfold ia
 split
 .rename_i c;have:=Dq hn U;rw[c,h] at this;injection this with this
  subst this;rw[<-ae]
 .rfl
theorem cr.dh (h:cr z R L) {nm:aA0} {bO:aM} (av:dk L nm=some bO) {im:bL} (ax:iz bO.im im):cr z R (dh L nm im none):=by
 refine⟨h.tonC.dh av ax none,fun d H=>?_,fun d H=>?_⟩
 .obtain⟨e,U,rfl⟩:=as5.1 H;unfold ia
  split
  .rfl
  .exact h.vf e U
 .obtain⟨e,U,rfl⟩:=as5.1 H;rw[AN];exact h.Do e U
end
structure pm where
 e:Int
 L:List aM
def eU (z:Nat) (L:List aM) (nm:aA0) (a:Int) (bs:aA0):pm:=match dk L nm with
 |none=>⟨140,L⟩
 |some d=>if bs.length % 16≠0 then⟨1,L⟩ else if ec d.im a ((bs.length/16:Nat):Int)≠0 then⟨ec d.im a ((bs.length/16:Nat):Int),L⟩ else
  ⟨AD d.im a.toNat (bs.length/16),dh L nm (wG d.im a.toNat (bs.length/16) bs (jv z L nm (c' L nm))) none⟩
def mx (z:Nat) (L:List aM) (nm:aA0) (a l:Int):pm:=match dk L nm with
 |none=>⟨140,L⟩
 |some d=>if ec d.im a l≠0 then⟨ec d.im a l,L⟩ else
  ⟨SO d.im a.toNat l.toNat,dh L nm (GL d.im a.toNat l.toNat (jv z L nm (c' L nm))) none⟩
def my (L:List aM) (nm:aA0) (a l:Int):pm:=match dk L nm with
 |none=>⟨140,L⟩
 |some d=>if ec d.im a l≠0 then⟨ec d.im a l,L⟩ else⟨0,dh L nm (SK d.im a.toNat l.toNat) none⟩
theorem t7 {s:bL} {a l:Int} (h:ec s a l=0):a=((a.toNat:Nat):Int)/\l=((l.toNat:Nat):Int):=by
 unfold ec at h
 split at h
 .cases h
 .split at h
  .cases h
  .omega
section
variable {z R:Nat} {L:List aM}
theorem agS (h:cr z R L) (nm:aA0) (a:Int) (bs:aA0):cr z R (eU z L nm a bs).L:=by
 unfold eU
 cases av:dk L nm with
 |none=>exact h
 |some d=>
  simp only
  split
  .exact h
  .rename_i E
   split
   .exact h
   .rename_i G;have G:ec d.im a ((bs.length/16:Nat):Int)=0:=Decidable.byContradiction G;have e:=(t7 G).1;rw[e] at G;exact h.dh av (SJ (h.gf d (cU av).1).1 aw0 G _)
theorem agT (h:cr z R L) (nm:aA0) (a l:Int):cr z R (my L nm a l).L:=by
 unfold my
 cases av:dk L nm with
 |none=>exact h
 |some d=>
  simp only
  split
  .exact h
  .rename_i G;have G:ec d.im a l=0:=Decidable.byContradiction G;obtain⟨af,ao⟩:=t7 G;rw[af,ao] at G;exact h.dh av (Dc (h.gf d (cU av).1).1 (qK G) _ (aq4 _)).fq
theorem Tw (h:cr z R L) {nm:aA0} {bO:aM} (av:dk L nm=some bO) (bE:Nat->Nat):LG bO.im (sW z R L nm bO.am bE) (bE 8005) (bE 8006) (jv z L nm (c' L nm)):=fun s' ax c J aR=>by
 have H:=h.cg nm;exact agJ z R L h.tonC nm bO av (c' L nm) H.1 aw0 s' ax bE c J aR
theorem Mh (h:cr z R L) (nm:aA0) (a:Int) (bs:aA0) (gE:bs.length<=1000000000):
  Fn Tryz.prog 63 [ah 1001,bQ nm,ac a,bv .u8 bs] (bS z R L) [] (ac (eU z L nm a bs).e) (bS z R (eU z L nm a bs).L):=by
 unfold eU
 cases av:dk L nm with
 |none=>exact Ts z R L L nm a bs 140 (L7 z R L nm av _ _ _)
 |some d=>
  have ae:=h.vf d (cU av).1;have ag:=(h.gf d (cU av).1).1
  have key: ∀(r:Int) (s':bL),(∀bE:Nat->Nat,Fn Tryz.prog 106 [ah 1001,ac a,bv .u8 bs,nA (bE 8005) (bE 8006)] (gc d.im (sW z R L nm d.am bE)) [] (ac r) (gc s' (sW z R L nm d.am bE)))->
    Fn Tryz.prog 63 [ah 1001,bQ nm,ac a,bv .u8 bs] (bS z R L) [] (ac r) (bS z R (dh L nm s' none)):=fun r s' aG=>
   Ts z R L _ nm a bs r (Mg z R L _ h.toh8 nm d av _ r _ _ (agO z R L h.toh8 nm d av ae a bs r s' aG))
  simp only
  split
  .rename_i E;have:=key 1 d.im fun bE=>ae4 d.im _ _ _ a bs E gE
   rwa[Dr h.iA av ae] at this
  .rename_i E;have E:bs.length=16*(bs.length/16):=aw8
   split
   .rename_i G;have:=key _ d.im fun bE=>ae5 d.im _ _ _ ag a _ bs E aw0 G
    rwa[Dr h.iA av ae] at this
   .rename_i G;have G:ec d.im a ((bs.length/16:Nat):Int)=0:=Decidable.byContradiction G;have e:=(t7 G).1;have al:=G;rw[e] at al;refine key _ _ fun bE=>?_
    have:=afi d.im _ _ _ ag a.toNat _ bs E al _ (Tw h av bE)
    rwa[<-e] at this
theorem Tx (h:cr z R L) (nm:aA0) (a l:Int):
  Fn Tryz.prog 65 [ah 1001,bQ nm,ac a,ac l] (bS z R L) [] (ac (mx z L nm a l).e) (bS z R (mx z L nm a l).L):=by
 unfold mx
 cases av:dk L nm with
 |none=>exact Tt z R L L nm a l 140 (L7 z R L nm av _ _ _)
 |some d=>
  have ae:=h.vf d (cU av).1;have ag:=(h.gf d (cU av).1).1
  have key: ∀(r:Int) (s':bL),(∀bE:Nat->Nat,Fn Tryz.prog 108 [ah 1001,ac a,ac l,nA (bE 8005) (bE 8006)] (gc d.im (sW z R L nm d.am bE)) [] (ac r) (gc s' (sW z R L nm d.am bE)))->
    Fn Tryz.prog 65 [ah 1001,bQ nm,ac a,ac l] (bS z R L) [] (ac r) (bS z R (dh L nm s' none)):=fun r s' aG=>
   Tt z R L _ nm a l r (Mg z R L _ h.toh8 nm d av _ r _ _ (agP z R L h.toh8 nm d av ae a l r s' aG))
  simp only
  split
  .rename_i G;have:=key _ d.im fun bE=>afn d.im _ _ _ ag a l G
   rwa[Dr h.iA av ae] at this
  .rename_i G;have G:ec d.im a l=0:=Decidable.byContradiction G;obtain⟨af,ao⟩:=t7 G;have al:=G;rw[af,ao] at al;refine key _ _ fun bE=>?_
   have:=afl d.im _ _ _ ag a.toNat l.toNat al _ (Tw h av bE)
   rwa[<-af,<-ao] at this
theorem Ty (h:cr z R L) (nm:aA0) (a l:Int):
  Fn Tryz.prog 67 [ah 1001,bQ nm,ac a,ac l] (bS z R L) [] (ac (my L nm a l).e) (bS z R (my L nm a l).L):=by
 unfold my
 cases av:dk L nm with
 |none=>exact Tu z R L L nm a l 140 (L7 z R L nm av _ _ _)
 |some d=>
  have ae:=h.vf d (cU av).1;have ag:=(h.gf d (cU av).1).1
  have key: ∀(r:Int) (s':bL),Fn Tryz.prog 110 [ah 1001,ac a,ac l] (dB d.im) [] (ac r) (dB s')->
    Fn Tryz.prog 67 [ah 1001,bQ nm,ac a,ac l] (bS z R L) [] (ac r) (bS z R (dh L nm s' none)):=fun r s' aG=>
   Tu z R L _ nm a l r (Mg z R L _ h.toh8 nm d av _ r _ _ (agQ z R L h.toh8 nm d av ae a l r s' aG))
  simp only
  split
  .rename_i G;have:=key _ d.im (ae7 d.im ag a l G)
   rwa[Dr h.iA av ae] at this
  .rename_i G;have G:ec d.im a l=0:=Decidable.byContradiction G;obtain⟨af,ao⟩:=t7 G;have al:=G;rw[af,ao] at al;have:=afj d.im ag a.toNat l.toNat al;rw[<-af,<-ao] at this;exact key _ _ this
def ou (z:Nat) (L:List aM) (nm:aA0) (a l:Int):aA0×Int:=match dk L nm with
 |none=>([],140)
 |some d=>if ec d.im a l=0 then(k1 z L nm (c' L nm) a.toNat l.toNat,0) else([],ec d.im a l)
theorem agU (h:cr z R L) (nm:aA0) (a l:Int):
  Fn Tryz.prog 45 [ah 1001,bQ nm,ac a,ac l] (bS z R L) [] (.cb [.one (.d (.cf .u8 (ou z L nm a l).1)),dp (ou z L nm a l).2]) (bS z R L):=by
 unfold ou
 cases av:dk L nm with
 |none=>exact(afP z R L nm av a l).res az
 |some d=>
  simp only
  split
  .rename_i G;obtain⟨af,ao⟩:=t7 G;have al:=G;rw[af,ao] at al;have H:=h.cg nm;have:=afO z R L h.tonC nm d av (c' L nm) H.1 aw0 a.toNat l.toNat al
   rwa[<-af,<-ao] at this
  .rename_i G;exact(afQ z R L h.tonC nm d av a l G).res az
def gH (L:List aM) (nm:aA0):aA0×Int:=match dk L nm with
 |none=>([],140)
 |some d=>(d.back,0)
theorem G4 (h:cr z R L) (nm:aA0):Fn Tryz.prog 114 [ah 1001,bQ nm] (bS z R L) [] (.cb [.one (.d (.str (gH L nm).1)),dp (gH L nm).2]) (bS z R L):=by
 unfold gH
 cases av:dk L nm with
 |none=>exact afu z R L nm av
 |some d=>exact aft z R L h.toh8 nm d av
theorem Tz (h:cr z R L) (nm:aA0):Fn Tryz.prog 115 [ah 1001,bQ nm] (bS z R L) [] (bv .str (pj L nm)) (bS z R L):=afY z R L h.toh8 h.Tv (by have:=h.len;omega) nm
def ib (z R:Nat) (L:List aM) (nm:aA0) (size:Int) (back:aA0) (p:Nat×Nat):pm:=
 if(g4 nm&&h7 z size R)=false then⟨1,L⟩ else if(dk L nm).isSome=true\/16<=L.length then⟨143,L⟩ else if(decide (back=[])||(dk L back).isSome)=false then⟨140,L⟩
 else if back≠[]/\8 < c' L back+1 then⟨142,L⟩ else⟨0,nF L nm back p.1 p.2 (hI z size.toNat R)⟩
theorem agV (L M:List aM) (nm:aA0):dk (L++M) nm=(dk L nm).or (dk M nm):=by
 unfold dk;rw[List.find?_append]
theorem Ds {nm back:aA0} {ad am:Nat} {im:bL} (n:aA0):dk (nF L nm back ad am im) n=(dk L n).or (if nm=n then some ⟨nm,back,ad,am,im,none⟩ else none):=by
 show dk (L++_) n=_;rw[agV,p5];rfl
theorem agW {L':List aM} (Z: ∀n d,dk L n=some d-> ∃cT,dk L' n=some cT/\cT.back=d.back) (iS: ∀d,d∈L->d.back≠[]-> ∃e,dk L d.back=some e) {n:aA0} {k:Nat} (h:eZ L n k):(∃d,dk L n=some d)->eZ L' n k:=by
 induction h with
 |gone h=>rintro⟨d,H⟩;rw[h] at H;cases H
 |base E G=>
  intro _;obtain⟨cT,af,ao⟩:=Z _ _ E;exact .base af (by rw[ao];exact G)
 |step E G al bu=>
  intro _;obtain⟨cT,af,ao⟩:=Z _ _ E;exact .step af (by rw[ao];exact G) (by rw[ao];exact bu (iS _ (cU E).1 G))
theorem agX {z size R:Int} (h:h7 z size R=true):(0<=size/\size<=256)/\(0<=R/\R<=512)/\0<=z/\z<=3:=by
 unfold h7 at h;simp only[vj,as1] at h;omega
theorem cr.add (h:cr z R L) {nm back:aA0} {size ad am:Nat} (e5:h8 (nF L nm back ad am (hI z size R))) (ax:size<=256) (hn:g4 nm=true) (av:dk L nm=none) (ot:L.length < 16) (O:back=[]\/(dk L back).isSome=true/\c' L back+1<=8):cr z R (nF L nm back ad am (hI z size R)):=by
 have Dt: ∀n d,dk L n=some d->dk (nF L nm back ad am (hI z size R)) n=some d:=fun n d H=>by rw[Ds,H];rfl
 have wN:dk (nF L nm back ad am (hI z size R)) nm=some ⟨nm,back,ad,am,hI z size R,none⟩:=by rw[Ds,av,if_pos rfl];rfl
 have pQ: ∀d,d∈nF L nm back ad am (hI z size R)->d∈L\/d=⟨nm,back,ad,am,hI z size R,none⟩:=fun d H=>by
  rcases as4.1 H with H |H
  .exact .inl H
  .exact .inr (ar5.1 H)
 have mW: ∀n k,(∃d,dk L n=some d)->eZ L n k->eZ (nF L nm back ad am (hI z size R)) n k:=fun n k H Z=>agW (fun n d H=>⟨d,Dt n d H,rfl⟩) h.iB Z H
 refine⟨⟨e5,h.b3,h.vc,by rw[aq5];exact ot,fun d H=>?_,fun d H li=>?_,fun d H=>?_,fun d H=>?_⟩,fun d H=>?_,fun d H=>?_⟩
 .rcases pQ d H with H |rfl
  .exact h.gf d H
  .exact⟨afo h.b3 ax h.vc,rfl,at1 ..⟩
 .rcases pQ d H with H |rfl
  .obtain⟨e,U⟩:=h.iB d H li;exact⟨e,Dt _ _ U⟩
  .rcases O with O |⟨O,_⟩
   .exact absurd O li
   .obtain⟨e,U⟩:=at5.1 O;exact⟨e,Dt _ _ U⟩
 .rcases pQ d H with H |rfl
  .exact h.ne d H
  .intro e;have:=(Dp hn).1;have e:nm=[]:=e;rw[e] at this;exact absurd this aw1
 .rcases pQ d H with H |rfl
  .obtain⟨k,Z,qO⟩:=h.sS d H;exact⟨k,Z,mW _ _ ⟨d,Dq h.iA H⟩ qO⟩
  .by_cases AS:back=[]
   .exact⟨0,aq9 _,.base wN AS⟩
   .rcases O with O |⟨O,agY⟩
    .exact absurd O AS
    .exact⟨c' L back+1,agY,.step wN AS (mW _ _ (at5.1 O) (h.cg back).1)⟩
 .rcases pQ d H with H |rfl
  .exact h.vf d H
  .rfl
 .rcases pQ d H with H |rfl
  .exact h.Do d H
  .exact hn
theorem agZ (h:cr z R L) (nm:aA0) (size:Int) (back:aA0) (ap:nm.length<=4294967296):
  cA Tryz.prog 27 [ah 1001,bQ nm,ac size,bQ back] (bS z R L) [] (X:={p:Nat×Nat//cr z R (ib z R L nm size back p).L}) (fun p=>ac (ib z R L nm size back p.1).e) (fun p=>bS z R (ib z R L nm size back p.1).L):=by
 have G5: ∀e:Int,(∀p,ib z R L nm size back p=⟨e,L⟩)->Fn Tryz.prog 27 [ah 1001,bQ nm,ac size,bQ back] (bS z R L) [] (ac e) (bS z R L)->
   cA Tryz.prog 27 [ah 1001,bQ nm,ac size,bQ back] (bS z R L) [] (X:={p:Nat×Nat//cr z R (ib z R L nm size back p).L}) (fun p=>ac (ib z R L nm size back p.1).e) (fun p=>bS z R (ib z R L nm size back p.1).L):=fun e U hf=>
  hf.x.to (fun _=>⟨(0,0),by rw[U];exact h⟩) (fun _=>by rw[U]) (fun _=>by rw[U])
 by_cases E:(g4 nm&&h7 z size R)=false
 .exact G5 1 (fun p=>if_pos E) (agj z R size L nm back ap E)
 have tF:g4 nm=true/\h7 z size R=true:=by
  rw[Bool.not_eq_false,vj] at E;exact E
 obtain⟨⟨cy,kY⟩,_⟩:=agX tF.2;obtain⟨ew,rfl⟩: ∃n:Nat,size=(n:Int):=⟨size.toNat,aw0⟩;have ax:ew<=256:=aw8
 by_cases G:(dk L nm).isSome=true\/16<=L.length
 .exact G5 143 (fun p=>(if_neg E).trans (if_pos G)) (agk z ew R h.b3 ax h.vc L nm back ap tF.1 G)
 have av:dk L nm=none:=by
  cases e:dk L nm with
  |none=>rfl
  |some d=>exact absurd (.inl (by rw[e];rfl)) G
 have ot:L.length < 16:=by
  rcases Nat.lt_or_ge L.length 16 with bj |bj
  .exact bj
  .exact absurd (.inr bj) G
 by_cases al:(decide (back=[])||(dk L back).isSome)=false
 .exact G5 140 (fun p=>(if_neg E).trans ((if_neg G).trans (if_pos al))) (agl z ew R h.b3 ax h.vc L nm back ap tF.1 av ot al)
 have H:=h.cg back
 by_cases aW:back≠[]/\8 < c' L back+1
 .have O:(dk L back).isSome=true:=by
   rw[Bool.not_eq_false,Bool.or_eq_true] at al;exact al.resolve_left fun e=>aW.1 (gd e)
  exact G5 142 (fun p=>(if_neg E).trans ((if_neg G).trans ((if_neg al).trans (if_pos aW)))) (agm z ew R h.b3 ax h.vc L h.toh8 nm back ap tF.1 av ot aW.1 O _ H.1 aw0 aW.2)
 have O:back=[]\/(dk L back).isSome=true/\c' L back+1<=8:=by
  by_cases e:back=[]
  .exact .inl e
  .rw[Bool.not_eq_false,Bool.or_eq_true] at al;have gJ: ¬8 < c' L back+1:=fun x=>aW ⟨e,x⟩
   exact .inr ⟨al.resolve_left fun x=>e (gd x),aw0⟩
 have aZ: ∀p,ib z R L nm (ew:Int) back p=⟨0,nF L nm back p.1 p.2 (hI z ew R)⟩:=fun p=>(if_neg E).trans ((if_neg G).trans ((if_neg al).trans (if_neg aW)))
 exact(agh z ew R h.b3 ax h.vc L h.toh8 h.vf nm back ap tF.1 av ot (c' L back) (O.imp id fun x=>⟨x.1,H.1,x.2⟩)).to (fun p=>⟨p.1,by rw[aZ];exact h.add p.2 ax tF.1 av ot O⟩) (fun p=>by rw[aZ]) (fun p=>by rw[aZ])
theorem G6 {nm n:aA0} (a6:n≠nm): ∀L:List aM,dk (p4 L nm) n=dk L n
 | []=>rfl
 |d::L=>by
  unfold p4
  by_cases c:d.nm=nm
  .rw[if_pos c,p5,if_neg fun e=>a6 (e.symm.trans c)]
  .rw[if_neg c,p5,p5,G6 a6 L]
theorem ag0 (h:cr z R L) {nm:aA0} (a6:nm≠[]) {d:aM} (H:d∈L):d.nm∈pj L nm↔d.back=nm:=by
 unfold pj;rw[av0]
 have aw:d.nm∈lw L:=by
  unfold lw nE;rw[List.mem_mergeSort,AJ];exact as0 H
 unfold l0;rw[Dq h.iA H,at3 a6];simp[aw]
theorem cr.lU (h:cr z R L) {nm:aA0} {bO:aM} (av:dk L nm=some bO) (a8:pj L nm=[]):cr z R (p4 L nm):=by
 have qs:nm≠[]:=by rw[<-(cU av).2];exact h.ne bO (cU av).1
 have fH: ∀d,d∈L->d.back≠nm:=fun d H e=>by
  have:=(ag0 h qs H).2 e;rw[a8] at this
  cases this
 have Dt: ∀d,d∈L->d.back≠[]->dk (p4 L nm) d.back=dk L d.back:=fun d H _=>G6 (fH d H) L
 have e5:=h.toh8.lU nm
 have tO: ∀d,d∈p4 L nm->d.nm≠nm:=fun d H e=>by
  have key: ∀{M:List aM},(M.map (·.nm)).Nodup->d∈p4 M nm->d.nm=nm->(∃e,dk M nm=some e)->False:=by
   intro M
   induction M with
   |nil=>intro _ H _ _;cases H
   |cons x M bu=>
    intro hn H e hx;rw[ar8] at hn;obtain⟨cM,dK⟩:=at0.1 hn;unfold p4 at H
    by_cases c:x.nm=nm
    .rw[if_pos c] at H;exact cM (by rw[c,<-e];exact as0 (f:=fun d:aM=>d.nm) H)
    .rw[if_neg c] at H;rcases aq7.1 H with rfl |H
     .exact c e
     .refine bu dK H e ?_;obtain⟨y,aD⟩:=hx;rw[p5,if_neg c] at aD;exact⟨y,aD⟩
  exact key h.iA H e ⟨bO,av⟩
 have qO: ∀{n:aA0} {k:Nat},eZ L n k->n≠nm->(∃d,dk L n=some d)->eZ (p4 L nm) n k:=by
  intro n k bj
  induction bj with
  |gone aY=>rintro _ ⟨d,H⟩;rw[aY] at H;cases H
  |base E G=>intro a6 _;exact .base (by rw[G6 a6];exact E) G
  |step E G al bu=>intro a6 _;exact .step (by rw[G6 a6];exact E) G (bu (fH _ (cU E).1) (h.iB _ (cU E).1 G))
 refine⟨⟨e5,h.b3,h.vc,au4 (GU L nm).length_le h.len,fun d H=>h.gf d (wJ H),fun d H O=>?_,fun d H=>h.ne d (wJ H),fun d H=>?_⟩,fun d H=>h.vf d (wJ H),fun d H=>h.Do d (wJ H)⟩
 .rw[Dt d (wJ H) O];exact h.iB d (wJ H) O
 .obtain⟨k,Z,bj⟩:=h.sS d (wJ H);exact⟨k,Z,qO bj (tO d H) ⟨d,Dq h.iA (wJ H)⟩⟩
def jc (L:List aM) (nm back:aA0):pm:=
 if(dk L nm).isSome=false\/(decide (back=[])||(dk L back).isSome)=false then⟨140,L⟩ else if nm=back\/nm∈eO L (c' L back) back then⟨141,L⟩
 else if∀n∈lw L,c' (ft L nm back) n<=8 then⟨0,ft L nm back⟩ else⟨142,L⟩
theorem Du {nm back:aA0} {d:aM} (h:d.nm≠nm):gA nm back d=d:=by unfold gA;rw[if_neg h]
theorem TA {nm back:aA0} {d:aM} (h:d.nm=nm):(gA nm back d).back=back:=by unfold gA;rw[if_pos h]
theorem ag1 {nm back:aA0} {n:aA0} {k:Nat} (h:eZ L n k):n≠nm->nm∉eO L k n->eZ (ft L nm back) n k:=by
 induction h with
 |gone h=>intro _ _;exact .gone (by rw[sU,h];rfl)
 | @base n d E G=>
  intro a6 _;have e:=(cU E).2;exact .base (d:=d) (by rw[sU,E];show some (gA nm back d)=_;rw[Du (by rw[e];exact a6)]) G
 | @step n d k E G al bu=>
  intro a6 O;have e:=(cU E).2;unfold eO at O;rw[E] at O;simp only[aq7,not_or] at O;exact .step (d:=d) (by rw[sU,E];show some (gA nm back d)=_;rw[Du (by rw[e];exact a6)]) G (bu (fun x=>O.1 x.symm) O.2)
theorem ag2 {nm back:aA0} {k:Nat} (cp:eZ L back k) (E:nm≠back) (G:nm∉eO L k back) {n:aA0} {j:Nat} (h:eZ L n j): ∃i,i<=j+k+1/\eZ (ft L nm back) n i:=by
 have CM:eZ (ft L nm back) back k:=ag1 cp (Ne.symm E) G
 have wN: ∀d,dk L nm=some d-> ∃i,i<=k+1/\eZ (ft L nm back) nm i:=fun d H=>by
  have e:dk (ft L nm back) nm=some (gA nm back d):=by rw[sU,H];rfl
  have De:=TA (back:=back) (cU H).2
  by_cases O:back=[]
  .exact⟨0,aq9 _,.base e (by rw[De];exact O)⟩
  .exact⟨k+1,aq4 _,.step e (by rw[De];exact O) (by rw[De];exact CM)⟩
 induction h with
 |gone h=>exact⟨0,aq9 _,.gone (by rw[sU,h];rfl)⟩
 | @base n d g1 g2=>
  have e:=(cU g1).2
  by_cases c:n=nm
  .subst c;obtain⟨i,aG,H⟩:=wN d g1;exact⟨i,aw0,H⟩
  .exact⟨0,aq9 _,.base (d:=d) (by rw[sU,g1];show some (gA nm back d)=_;rw[Du (by rw[e];exact c)]) g2⟩
 | @step n d j g1 g2 c2 bu=>
  have e:=(cU g1).2
  by_cases c:n=nm
  .subst c;obtain⟨i,aG,H⟩:=wN d g1;exact⟨i,aw0,H⟩
  .obtain⟨i,aG,H⟩:=bu;exact⟨i+1,aw0,.step (d:=d) (by rw[sU,g1];show some (gA nm back d)=_;rw[Du (by rw[e];exact c)]) g2 H⟩
theorem cr.TB (h:cr z R L) {nm back:aA0} (E:nm≠back) (G:nm∉eO L (c' L back) back) (n:aA0):eZ (ft L nm back) n (c' (ft L nm back) n)/\c' (ft L nm back) n<=20:=by
 have O:=h.cg back;have hn:=h.cg n;obtain⟨i,aG,H⟩:=ag2 O.1 E G hn.1;rw[G3 H aw0];exact⟨H,aw0⟩
theorem TC {nm back:aA0} (h: ¬((dk L nm).isSome=false\/(decide (back=[])||(dk L back).isSome)=false)):(∃d,dk L nm=some d)/\(decide (back=[])||(dk L back).isSome)=true:=by
 constructor
 .cases e:dk L nm with
  |none=>exact absurd (.inl (by rw[e];rfl)) h
  |some d=>exact⟨d,rfl⟩
 .cases e:(decide (back=[])||(dk L back).isSome) with
  |false=>exact absurd (.inr e) h
  |true=>rfl
theorem cr.set (h:cr z R L) {nm back:aA0} (Z:(decide (back=[])||(dk L back).isSome)=true) (E:nm≠back) (G:nm∉eO L (c' L back) back) (gJ: ∀n∈lw L,c' (ft L nm back) n<=8):cr z R (ft L nm back):=by
 have key: ∀d,d∈ft L nm back-> ∃e,e∈L/\gA nm back e=d:=fun d H=>by
  obtain⟨e,U,rfl⟩:=as5.1 H;exact⟨e,U,rfl⟩
 refine⟨⟨h.toh8.ft nm back,h.b3,h.vc,by unfold ft;rw[ar7];exact h.len,fun d H=>?_,fun d H O=>?_,fun d H=>?_,fun d H=>?_⟩,fun d H=>?_,fun d H=>?_⟩
 .obtain⟨e,U,rfl⟩:=key d H;rw[Tc];exact h.gf e U
 .obtain⟨e,U,rfl⟩:=key d H
  have iB: ∃x,dk L (gA nm back e).back=some x:=by
   by_cases c:e.nm=nm
   .rw[TA c] at O⊢;rw[Bool.or_eq_true] at Z;exact at5.1 (Z.resolve_left fun x=>O (gd x))
   .rw[Du c] at O⊢;exact h.iB e U O
  obtain⟨x,hx⟩:=iB;exact⟨gA nm back x,by rw[sU,hx];rfl⟩
 .obtain⟨e,U,rfl⟩:=key d H;rw[yr];exact h.ne e U
 .obtain⟨e,U,rfl⟩:=key d H;rw[yr]
  have aw:e.nm∈lw L:=by
   unfold lw nE;rw[List.mem_mergeSort,AJ];exact as0 U
  exact⟨_,gJ _ aw,(h.TB E G e.nm).1⟩
 .obtain⟨e,U,rfl⟩:=key d H;rw[Td];exact h.vf e U
 .obtain⟨e,U,rfl⟩:=key d H;rw[yr];exact h.Do e U
theorem ag3 (h:cr z R L) (nm back:aA0):cr z R (jc L nm back).L:=by
 unfold jc
 split
 .exact h
 .rename_i E
  split
  .exact h
  .rename_i G
   split
   .rename_i al;exact h.set (TC E).2 (fun e=>G (.inl e)) (fun e=>G (.inr e)) al
   .exact h
theorem ag4 (h:cr z R L) (nm back:aA0):Fn Tryz.prog 303 [ah 1001,bQ nm,bQ back] (bS z R L) [] (ac (jc L nm back).e) (bS z R (jc L nm back).L):=by
 have H:=h.cg back
 by_cases E:(dk L nm).isSome=false\/(decide (back=[])||(dk L back).isSome)=false
 .rw[show jc L nm back=⟨140,L⟩ from if_pos E];exact ago z R L nm back E
 obtain⟨⟨d,j2⟩,Z⟩:=TC E
 by_cases G:nm=back\/nm∈eO L (c' L back) back
 .rw[show jc L nm back=⟨141,L⟩ from(if_neg E).trans (if_pos G)];exact agp z R L h.toh8 nm back d j2 Z _ H.1 aw0 G
 have gM:=fun n=>h.TB (back:=back) (fun e=>G (.inl e)) (fun e=>G (.inr e)) n
 refine agv z R L h.toh8 h.Tv (by have:=h.len;omega) nm back d j2 Z _ H.1 aw0 G (fun n=>c' (ft L nm back) n) (fun n _=>⟨(gM n).1,by have:=(gM n).2;omega⟩) _ _ (fun bj=>?_) (fun bj=>?_)
 .rw[show jc L nm back=⟨0,ft L nm back⟩ from(if_neg E).trans ((if_neg G).trans (if_pos bj))];exact⟨rfl,rfl⟩
 .have fH: ¬ ∀n∈lw L,c' (ft L nm back) n<=8:=fun ez=>by
   obtain⟨n,hn,gJ⟩:=bj;have:=ez n hn;omega
  rw[show jc L nm back=⟨142,L⟩ from(if_neg E).trans ((if_neg G).trans (if_neg fH))];exact⟨rfl,rfl⟩
end
end
section
section
variable {z R:Nat} {L:List aM}
def e8 (z:Nat) (L:List aM) (nm:aA0) (k:Int):aA0:=match dk L nm with
 |none=>[]
 |some d=>if 0<=k/\k < (d.im.t.length:Nat) then jb z L nm (c' L nm) k.toNat else[]
theorem Mi (h:cr z R L) (nm:aA0) (k:Int):Fn Tryz.prog 88 [ah 1001,bQ nm,ac k] (bS z R L) [] (bv .u8 (e8 z L nm k)) (bS z R L):=by
 unfold e8
 cases av:dk L nm with
 |none=>
  have hx:(bY (aH:=.str) (aJ:=.aL) (c9 L) nm).getD (cL .aL)=none:=az4
  simp only;refine aT [2,4] Tryz.func88 ?_;refine br [4] (bq) ?_;exact⟨fun ea O=>absurd (show(bY (aH:=.str) (aJ:=.aL) (c9 L) nm).getD (cL .aL)=some ea from O) ax8,fun _=>bc⟩
 |some bO=>
  simp only
  split
  .rename_i Z;have H:=h.cg nm;have:=LO z R L h.tonC nm bO av (c' L nm) H.1 aw0 k.toNat aw0
   rwa[show((k.toNat:Nat):Int)=k by omega] at this
  .rename_i Z;obtain⟨ph,gk,gl⟩:=ki yk;have lZ:=h.toh8.D (cU av).1;have fJ:=h.toh8.M (cU av).1;have hx:(bY (aH:=.str) (aJ:=.aL) (c9 L) nm).getD (cL .aL)=some bO.ad:=az4
   refine aT [2,4] Tryz.func88 ?_;refine br [4] (bq) ?_;refine⟨fun ea O=>⟨fun _=>?_,fun E=>?_⟩,fun O=>absurd (show(bY (aH:=.str) (aJ:=.aL) (c9 L) nm).getD (cL .aL)=none from O) ax8⟩
   .exact bc
   have E: ¬k < 0:=mu E;refine⟨_,_,fun N=>i' (b:=bO.ad) rfl ay7 N,rfl,?_⟩;refine⟨_,_,fun N=>jr rfl Tryz.underlying122 rfl rfl gk ax2 rfl N,rfl,?_⟩;refine⟨_,_,fun N=>ln (q:=1003) rfl Tryz.underlying112 rfl rfl rfl lZ rfl N,rfl,?_⟩;refine ak (h9 (nz bO.im) fJ rfl rfl rfl rfl) ⟨fun _=>?_,fun G=>?_⟩
   .exact bc
   .exfalso;have G: ¬((bO.im.t.length:Nat):Int)<=k:=mu G;omega
end
end
section
section
variable {z R:Nat} {L:List aM}
theorem Mj (h:cr z R L) {nm:aA0} {k:Nat} (H:eZ L nm k) (av: ∃d,dk L nm=some d): ∀j,j<=k-> ∃e,dk L (eT L j nm)=some e
 |0,_=>av
 |j+1,V=>by
  obtain⟨e,U⟩:=Mj h H av j aw0;have jL:=GO H j aw0;rw[AF,U];simp only;generalize aw:k - j=m at jL
  cases jL with
  |gone aY=>rw[U] at aY;cases aY
  |base _ _=>omega
  |step E G _=>
   rw[U] at E;injection E with E
   subst E;exact h.iB e (cU U).1 G
theorem Mk (h:cr z R L) {nm:aA0} {k:Nat} (H:eZ L nm k) (av: ∃d,dk L nm=some d):eT L (k+1) nm=[]:=by
 obtain⟨e,U⟩:=Mj h H av k (aq4 _);have jL:=GO H k (aq4 _);rw[Nat.sub_self] at jL;rw[AF,U];simp only
 cases jL with
 |gone aY=>rw[U] at aY;cases aY
 |base E G=>
  rw[U] at E;injection E with E
  subst E;exact G
theorem ag5 (h:cr z R L) {n:aA0} (hn: ∃e,dk L n=some e):n≠[]:=by
 obtain⟨e,U⟩:=hn;rw[<-(cU U).2];exact h.ne e (cU U).1
end
section
variable {z:Nat} {L:List aM} {c:Nat}
theorem ag6 {n:aA0} {ns:List aA0} {i:Nat} {d:aM} (H:dk L n=some d) (h:c < d.im.t.length/\(d.im.t.getD c cy).1≠0):kG z L c (n::ns) i=(eR d.im c none,i+1):=by
 unfold kG;rw[H];simp only;rw[if_pos h]
theorem ag7 {n:aA0} {ns:List aA0} {i:Nat} {d:aM} (H:dk L n=some d) (h: ¬(c < d.im.t.length/\(d.im.t.getD c cy).1≠0)):kG z L c (n::ns) i=kG z L c ns (i+1):=by
 conv=>lhs;unfold kG
 rw[H];simp only;rw[if_neg h]
theorem TD {nm:aA0} {cZ:Nat} {d:aM} (H:dk L nm=some d) (h: ¬(c < d.im.t.length/\(d.im.t.getD c cy).1≠0)):jb z L nm cZ c=jv z L nm cZ c:=by
 unfold jb jv;rw[ag7 H h]
end
section
variable {z R:Nat} {L:List aM}
theorem cr.TE (h:cr z R L) {nm:aA0} (av: ∃d,dk L nm=some d): ∀n,n∈nm::eO L (c' L nm) nm-> ∃e,dk L n=some e:=fun n hn=>by
 rcases aq7.1 hn with rfl |hn
 .exact av
 .exact LL h.tonC (h.cg nm).1 n hn
end
theorem ag8 {s:bL} (aq:gG s) {n:Nat} (hn:n<=g3 s):ec s 0 (n:Int)=0:=by
 unfold ec;rw[if_neg aw0,if_neg aw0]
theorem ag9 {z R:Nat} {L:List aM} (h:cr z R L) {nm:aA0} {d:aM} (H:dk L nm=some d) {n:Nat} (hn:n<=g3 d.im):ou z L nm 0 (n:Int)=(k1 z L nm (c' L nm) 0 n,0):=by
 unfold ou;rw[H];simp only;rw[if_pos (ag8 (h.gf d (cU H).1).1 hn)];rfl
theorem TF {z R:Nat} {L:List aM} (h:cr z R L) {nm:aA0} {d:aM} (H:dk L nm=some d):g3 d.im=d.im.t.length*2 ^z:=by
 unfold g3;rw[(h.gf d (cU H).1).2.1]
def pn (L:List aM) (t:aA0) (L':List aM):Prop:=L'=L\/ ∃d im,dk L t=some d/\iz d.im im/\L'=dh L t im none
section
variable {z R:Nat} {L L':List aM} {t n:aA0}
theorem AT (h:cr z R L) (nm:aA0) (a:Int) (bs:aA0):pn L nm (eU z L nm a bs).L:=by
 unfold eU
 cases av:dk L nm with
 |none=>exact .inl rfl
 |some d=>
  simp only
  split
  .exact .inl rfl
  .rename_i E
   split
   .exact .inl rfl
   .rename_i G;have G:ec d.im a ((bs.length/16:Nat):Int)=0:=Decidable.byContradiction G;have e:=(t7 G).1;rw[e] at G;exact .inr ⟨d,_,av,SJ (h.gf d (cU av).1).1 aw0 G _,rfl⟩
theorem G7 (h:cr z R L) (nm:aA0) (a l:Int):pn L nm (mx z L nm a l).L:=by
 unfold mx
 cases av:dk L nm with
 |none=>exact .inl rfl
 |some d=>
  simp only
  split
  .exact .inl rfl
  .rename_i G;have G:ec d.im a l=0:=Decidable.byContradiction G;obtain⟨af,ao⟩:=t7 G;rw[af,ao] at G;exact .inr ⟨d,_,av,afm (h.gf d (cU av).1).1 G _,rfl⟩
theorem AU (h:cr z R L) (nm:aA0) (a l:Int):pn L nm (my L nm a l).L:=by
 unfold my
 cases av:dk L nm with
 |none=>exact .inl rfl
 |some d=>
  simp only
  split
  .exact .inl rfl
  .rename_i G;have G:ec d.im a l=0:=Decidable.byContradiction G;obtain⟨af,ao⟩:=t7 G;rw[af,ao] at G;exact .inr ⟨d,_,av,(Dc (h.gf d (cU av).1).1 (qK G) _ (aq4 _)).fq,rfl⟩
theorem pn.cs (h:cr z R L) (ap:pn L t L'):cr z R L':=by
 rcases ap with rfl |⟨d,im,av,ax,rfl⟩
 .exact h
 .exact h.dh av ax
theorem Ml (h:cr z R L) (t:aA0) (im:bL) (cS:Option (Nat->Nat)) (n:aA0):c' (dh L t im cS) n=c' L n:=by
 have H:=h.cg n;exact G3 (Ma t im cS H.1) aw0
end
end
section
def ic (x:aA0) (j:Nat):aA0:=(x.take (j*16+16)).drop (j*16)
theorem sX (x:aA0) (j i:Nat):(ic x j)[i]? =if i < 16 then x[j*16+i]? else none:=by
 unfold ic;rw[List.getElem?_drop,List.getElem?_take]
 by_cases h:i < 16
 .rw[if_pos h,if_pos aw0]
 .rw[if_neg h,if_neg aw0]
theorem TG {X:aA0} {off n:Nat} {ys:aA0} (E:off+n<=X.length) (G:ys.length=n) (m:Nat):(laid X off n ys)[m]? =if m < off then X[m]? else if m < off+n then ys[m - off]? else X[m]? :=by
 unfold laid;have af:(X.take off).length=off:=ax7
 have ao:ys.take n=ys:=List.take_of_length_le aw0;rw[ao]
 by_cases cJ:m < off
 .rw[if_pos cJ,au2,as8 aw0,List.getElem?_take,if_pos cJ]
 .rw[if_neg cJ]
  by_cases cG:m < off+n
  .rw[if_pos cG,au2,at4 aw0,af,as8 aw0]
  .rw[if_neg cG,at4 (by rw[aq5];omega),aq5,af,G,List.getElem?_drop]
   congr 1
   omega
theorem ag' {X bs:aA0} {t W a l j pa vg Dv:Nat} (sY:X.length=W) (O:bs.length=16*l) (V:j*16+16<=W) (af:pa=16*a - 16*t) (ao:vg=min (16*(a+l) - 16*t) W) (bm:Dv=16*t+pa - 16*a) (ae:pa<=vg) (aP:16*t < 16*(a+l)):
  ic (laid X pa (vg - pa) ((bs.take (Dv+vg - pa)).drop Dv)) j=if a<=t+j/\t+j < a+l then ic bs (t+j - a) else ic X j:=by
 have bZ:((bs.take (Dv+vg - pa)).drop Dv).length=vg - pa:=by
  rw[au3,ar3];omega
 refine List.ext_getElem? fun i=>?_
 rw[sX,TG aw0 bZ]
 by_cases aG:i < 16
 .rw[if_pos aG]
  by_cases c:a<=t+j/\t+j < a+l
  .rw[if_pos c,sX,if_pos aG,if_neg aw0,if_pos aw0,List.getElem?_drop,List.getElem?_take,if_pos aw0]
   congr 1
   omega
  .rw[if_neg c,sX,if_pos aG]
   by_cases cG:j*16+i < pa
   .rw[if_pos cG]
   .rw[if_neg cG,if_neg aw0]
 .rw[if_neg aG]
  split
  .rw[sX,if_neg aG]
  .rw[sX,if_neg aG]
theorem G8 (z:Nat) (L:List aM) (nm:aA0) (cZ s:Nat):nD z L nm cZ s=ic (jb z L nm cZ (s/2 ^z)) (s % 2 ^z):=rfl
theorem TH {z:Nat} {L L':List aM} {nm G9:aA0} {cZ G' a:Nat}: ∀n,(∀i,i < n->nD z L nm cZ (a+i)=nD z L' G9 G' (a+i))->k1 z L nm cZ a n=k1 z L' G9 G' a n
 |0,_=>rfl
 |n+1,h=>by
  show k1 z L nm cZ a n++nD z L nm cZ (a+n)=k1 z L' G9 G' a n++nD z L' G9 G' (a+n);rw[TH n fun i aG=>h i aw0,h n (Nat.lt_succ_self n)]
section
variable {z R:Nat} {L:List aM} {nm:aA0} {d:aM}
theorem aha (h:cr z R L) (H:dk L nm=some d) (c:Nat):(jv z L nm (c' L nm) c).length=16*2 ^z:=LP h.tonC c _ _ fun n hn=>h.TE ⟨d,H⟩ n (aq6 _ hn)
theorem Ha (h:cr z R L) (H:dk L nm=some d):aK d.im=16*2 ^z:=by
 unfold aK;rw[(h.gf d (cU H).1).2.1]
theorem ahb {s:bL} {c:Nat} {y:aA0} (h:(s.t.getD c cy).1≠0):eR s c (some y)=eR s c none:=by
 unfold eR;rw[ar2] at h
 cases e:s.t[c]? with
 |none=>rfl
 |some q=>
  rw[e] at h;simp only[Option.getD_some] at h;simp only
  split
  .rfl
  .first |rfl |(rw[if_neg h])
theorem ahc {s:bL} {c:Nat} {y:aA0} (J:c < s.t.length) (h:(s.t.getD c cy).1=0) (aD:y.length=aK s):eR s c (some y)=y:=by
 unfold eR;rw[ar2] at h;rw[oj J] at h⊢;simp only[Option.getD_some] at h;simp only;rw[if_neg (by rw[h];decide),if_pos h,if_pos aD]
theorem TI (h:cr z R L) (H:dk L nm=some d) {c:Nat} (J:c < d.im.t.length):jb z L nm (c' L nm) c=eR d.im c (some (jv z L nm (c' L nm) c)):=by
 by_cases Z:(d.im.t.getD c cy).1=0
 .rw[TD H (fun bj=>bj.2 Z),ahc J Z (by rw[aha h H,Ha h H])]
 .rw[ahb Z];unfold jb;rw[ag6 H ⟨J,Z⟩]
theorem ahd (h:cr z R L) (H:dk L nm=some d) {im:bL} (ax:iz d.im im) {c:Nat} (J:c < d.im.t.length):jb z (dh L nm im none) nm (c' (dh L nm im none) nm) c=eR im c (some (jv z L nm (c' L nm) c)):=by
 have h':=h.dh H ax;have dn:=wM H im none;rw[TI h' dn (by show c < im.t.length;rw[ax.eN];exact J),Ml h nm im none nm];show eR im c (some _)=_
 have e:jv z (dh L nm im none) nm (c' L nm) c=jv z L nm (c' L nm) c:=by
  unfold jv;rw[G1,Mc _ _ (Mb (h.cg nm).1)]
 rw[e]
theorem ahe (h:cr z R L) (H:dk L nm=some d) {im:bL} (ax:iz d.im im) {c:Nat} (J: ¬c < d.im.t.length):jb z (dh L nm im none) nm (c' (dh L nm im none) nm) c=jb z L nm (c' L nm) c:=by
 have dn:=wM H im none;rw[Ml h nm im none nm,Tk H (h.cg nm).1,if_neg fun bj=>J (by rw[<-ax.eN];exact bj.1),TD H fun bj=>J bj.1]
theorem ahf (h:cr z R L) (H:dk L nm=some d) {c:Nat} (J:c < d.im.t.length) (y:Option aA0):(eR d.im c y).length=16*2 ^z:=by
 rw[wD (h.gf d (cU H).1).1 J,Ha h H]
end
theorem Hb {W a l:Nat} (cW:yd W) (ap:0 < l) {c:Nat}:(16*a/W<=c/\c < 16*a/W+cK W a l)↔(16*a < (c+1)*W/\c*W < 16*(a+l)):=by
 have ae:0 < W:=by rcases cW with h |h |h |h <;>omega
 have ce:16*a/W<=c↔16*a < (c+1)*W:=by
  rw[<-Nat.lt_succ_iff,Nat.succ_eq_add_one,Nat.div_lt_iff_lt_mul ae]
 constructor
 .rintro⟨E,G⟩;have:=(vb cW (a:=a) (l:=l) (k:=c - 16*a/W)).2 aw0;rw[show 16*a/W+(c - 16*a/W)=c by omega] at this;exact⟨ce.1 E,this.2⟩
 .rintro⟨E,G⟩;have E:=ce.2 E;refine⟨E,?_⟩;have:=(vb cW (a:=a) (l:=l) (k:=c - 16*a/W)).1 ⟨ap,by rw[show 16*a/W+(c - 16*a/W)=c by omega];exact G⟩;omega
theorem ahg {X bs:aA0} {b a l c:Nat} (O:b<=3) (sY:X.length=16*2 ^b) (JM:bs.length=16*l) (eD:16*a < (c+1)*(16*2 ^b)/\c*(16*2 ^b) < 16*(a+l)) {j:Nat} (V:j < 2 ^b):
  ic (laid X (bt (16*2 ^b) a l (c - 16*a/(16*2 ^b))).a ((bt (16*2 ^b) a l (c - 16*a/(16*2 ^b))).b - (bt (16*2 ^b) a l (c - 16*a/(16*2 ^b))).a) (rT bs (bt (16*2 ^b) a l (c - 16*a/(16*2 ^b))))) j=
   if a<=c*2 ^b+j/\c*2 ^b+j < a+l then ic bs (c*2 ^b+j - a) else ic X j:=by
 have ae:=js O;have cW:0 < 16*2 ^b:=aw8
 have J:16*a/(16*2 ^b)<=c:=by
  rw[<-Nat.lt_succ_iff,Nat.succ_eq_add_one,Nat.div_lt_iff_lt_mul cW];exact eD.1
 have oa:16*a/(16*2 ^b)+(c - 16*a/(16*2 ^b))=c:=aw8
 have cn:c*(16*2 ^b)=16*(c*2 ^b):=Nat.mul_left_comm ..;have aqt:(c+1)*(16*2 ^b)=16*(c*2 ^b)+16*2 ^b:=by rw[Nat.succ_mul,cn]
 unfold rT;refine ag' (t:=c*2 ^b) (W:=16*2 ^b) sY JM aw0 ?_ ?_ ?_ ?_ aw0
 .show 16*a - (16*a/(16*2 ^b)+(c - 16*a/(16*2 ^b)))*(16*2 ^b)=_;rw[oa,cn]
 .show min (16*(a+l) - (16*a/(16*2 ^b)+(c - 16*a/(16*2 ^b)))*(16*2 ^b)) (16*2 ^b)=_;rw[oa,cn]
 .show(16*a/(16*2 ^b)+(c - 16*a/(16*2 ^b)))*(16*2 ^b)+(16*a - (16*a/(16*2 ^b)+(c - 16*a/(16*2 ^b)))*(16*2 ^b)) - 16*a=16*(c*2 ^b)+(16*a - (16*a/(16*2 ^b)+(c - 16*a/(16*2 ^b)))*(16*2 ^b)) - 16*a;rw[oa,cn]
 .show 16*a - (16*a/(16*2 ^b)+(c - 16*a/(16*2 ^b)))*(16*2 ^b)<=min (16*(a+l) - (16*a/(16*2 ^b)+(c - 16*a/(16*2 ^b)))*(16*2 ^b)) (16*2 ^b);rw[oa,cn];omega
section
variable {z R:Nat} {L:List aM} {nm:aA0}
theorem TJ {a:Int} {bs:aA0} (U:(eU z L nm a bs).e=0): ∃d,dk L nm=some d/\bs.length=16*(bs.length/16)/\a=((a.toNat:Nat):Int)/\ec d.im a.toNat ((bs.length/16:Nat):Int)=0/\h6 d.im a.toNat (bs.length/16) (cK (aK d.im) a.toNat (bs.length/16))<=d9 d.im.l/\
  (eU z L nm a bs).L=dh L nm (i1 d.im a.toNat (bs.length/16) bs (jv z L nm (c' L nm)) (cK (aK d.im) a.toNat (bs.length/16))) none:=by
 unfold eU at U⊢
 cases av:dk L nm with
 |none=>rw[av] at U;exact absurd U (show¬(140:Int)=0 by decide)
 |some d=>
  rw[av] at U;simp only at U⊢
  split at U
  .exact absurd U (show¬(1:Int)=0 by decide)
  .rename_i E
   split at U
   .rename_i G;exact absurd U G
   .rename_i G;rw[if_neg E,if_neg G];have G:ec d.im a ((bs.length/16:Nat):Int)=0:=Decidable.byContradiction G;have af:=(t7 G).1;have U:AD d.im a.toNat (bs.length/16)=0:=U;unfold AD at U
    split at U
    .rename_i al;refine⟨d,rfl,aw0,af,by rw[<-af];exact G,al,?_⟩;show dh L nm (wG d.im a.toNat (bs.length/16) bs _) none=_;unfold wG;rw[if_pos al]
    .exact absurd U aw1
theorem ahh (h:cr z R L) {a:Int} {bs:aA0} (U:(eU z L nm a bs).e=0) (s:Nat):
  nD z (eU z L nm a bs).L nm (c' (eU z L nm a bs).L nm) s=if a.toNat<=s/\s < a.toNat+bs.length/16 then ic bs (s - a.toNat) else nD z L nm (c' L nm) s:=by
 obtain⟨d,H,gE,ha,eD,dR,cH⟩:=TJ U;rw[cH];obtain⟨aq,kv,_⟩:=h.gf d (cU H).1;have ez:=qK eD;have cW:=qI aq.z;have Dw:=Ha h H;have ae:=js h.b3;generalize a.toNat=a0 at*;have a2:=(AC aq gE ez (jv z L nm (c' L nm)) dR _ (aq4 _)).1;have mm:0 < 2 ^z:=aw8
 have V:s % 2 ^z < 2 ^z:=Nat.mod_lt _ mm;have ax:s/2 ^z*2 ^z+s % 2 ^z=s:=by rw[Nat.mul_comm];exact Nat.div_add_mod s _
 have LQ:g3 d.im=d.im.t.length*2 ^z:=TF h H;rw[G8,G8]
 by_cases J:s/2 ^z < d.im.t.length
 .rw[ahd h H a2.fq J,TI h H J];have sY:=ahf h H J (some (jv z L nm (c' L nm) (s/2 ^z)))
  by_cases aC:16*a0/aK d.im<=s/2 ^z/\s/2 ^z < 16*a0/aK d.im+cK (aK d.im) a0 (bs.length/16)
  .have pe:0 < bs.length/16:=by
    refine Nat.pos_of_ne_zero fun e=>?_
    rw[e] at aC;have:cK (aK d.im) a0 0=0:=rfl;omega
   have qO:=(a2.done (s/2 ^z - 16*a0/aK d.im) aw0).2 (some (jv z L nm (c' L nm) (s/2 ^z)));rw[show 16*a0/aK d.im+(s/2 ^z - 16*a0/aK d.im)=s/2 ^z by omega] at qO;rw[qO];have tL:=(Hb cW pe).1 aC;rw[Dw] at tL⊢;rw[ahg h.b3 sY gE tL V,ax]
  .have t8:=(a2.kE (s/2 ^z) aw0).2 (some (jv z L nm (c' L nm) (s/2 ^z)));rw[t8,if_neg];rintro⟨g1,g2⟩;apply aC;refine(Hb cW aw0).2 ?_;rw[Dw];have af:(s/2 ^z+1)*(16*2 ^z)=16*(s/2 ^z*2 ^z)+16*2 ^z:=by rw[Nat.succ_mul,Nat.mul_left_comm]
   have ao:s/2 ^z*(16*2 ^z)=16*(s/2 ^z*2 ^z):=Nat.mul_left_comm ..;rw[af,ao];omega
 .rw[ahe h H a2.fq J,if_neg];rintro⟨g1,g2⟩;apply J;rw[Nat.div_lt_iff_lt_mul mm,<-LQ];omega
end
section
variable {z R:Nat} {L:List aM} {nm:aA0}
end
end
section
theorem AV: ∀(n:Nat) (l:aA1),l.Nodup->(∀x,x∈l->x < n)->l.length<=n
 |0,[],_,_=>aq4 _
 |0,x::l,_,h=>absurd (h x (ar4 ..)) (av5 x)
 |n+1,l,hn,h=>by
  have E:(l.erase n).Nodup:=hn.erase n
  have G:=AV n (l.erase n) E fun x hx=>by
   have pN:=(hn.mem_erase_iff).1 hx;have:=h x pN.2;have:=pN.1;omega
  have al:l.length<=(l.erase n).length+1:=by
   rw[List.length_erase]
   split <;>omega
  omega
theorem Mm {α lT:Type} {f:α->lT}: ∀{l:List α},(∀x,x∈l-> ∀y,y∈l->f x=f y->x=y)->l.Nodup->(l.map f).Nodup
 | [],_,_=>au7
 |a::l,aG,hn=>by
  obtain⟨cM,dK⟩:=at0.1 hn;rw[ar8];refine at0.2 ⟨fun aw=>?_,Mm (fun x hx y aD=>aG x (aq6 _ hx) y (aq6 _ aD)) dK⟩;obtain⟨y,aD,e⟩:=as5.1 aw;have:=aG y (aq6 _ aD) a (ar4 ..) e;exact cM (this▸aD)
section
variable {z R:Nat} {L:List aM} {nm:aA0}
theorem ahi {a:Int} {bs:aA0} (h:cr z R L) (U:(eU z L nm a bs).e≠0):(eU z L nm a bs).L=L:=by
 unfold eU at U⊢
 cases av:dk L nm with
 |none=>rfl
 |some d=>
  rw[av] at U;simp only at U⊢
  split at U
  .rename_i E;rw[if_pos E]
  .rename_i E;rw[if_neg E]
   split at U
   .rename_i G;rw[if_pos G]
   .rename_i G;rw[if_neg G];have U:AD d.im a.toNat (bs.length/16)≠0:=U;unfold AD at U
    split at U
    .exact absurd rfl U
    .rename_i al;show dh L nm (wG d.im a.toNat (bs.length/16) bs _) none=L;unfold wG;rw[if_neg al,Dr h.iA av (h.vf d (cU av).1)]
theorem TK (h:cr z R L) {a:Int} {bs:aA0} (U:(eU z L nm a bs).e=0): ∃d im,dk L nm=some d/\iz d.im im/\(eU z L nm a bs).L=dh L nm im none/\ ∀c,(im.t.getD c cy).1=if 0 < bs.length/16/\16*a.toNat < (c+1)*(16*2 ^z)/\c*(16*2 ^z) < 16*(a.toNat+bs.length/16) then 1 else(d.im.t.getD c cy).1:=by
 obtain⟨d,H,gE,ha,eD,dR,cH⟩:=TJ U;obtain⟨aq,kv,_⟩:=h.gf d (cU H).1;have ez:=qK eD;have cW:=qI aq.z;have Dw:=Ha h H;generalize a.toNat=a0 at*;have a2:=(AC aq gE ez (jv z L nm (c' L nm)) dR _ (aq4 _)).1;refine⟨d,_,H,a2.fq,cH,fun c=>?_⟩
 by_cases pe:0 < bs.length/16
 .by_cases aC:16*a0/aK d.im<=c/\c < 16*a0/aK d.im+cK (aK d.im) a0 (bs.length/16)
  .have tL:=(Hb cW pe).1 aC;rw[Dw] at tL;rw[if_pos ⟨pe,tL⟩];have qO:=(a2.done (c - 16*a0/aK d.im) aw0).1;rw[show 16*a0/aK d.im+(c - 16*a0/aK d.im)=c by omega] at qO;unfold hr u4 at qO;simp only[Bool.not_eq_false',vj] at qO;exact gd qO.1
  .have tL:=fun x=>aC ((Hb cW pe).2 x)
   rw[Dw] at tL;rw[if_neg fun x=>tL x.2];have t8:=(a2.kE c aw0).1;rw[ar2,ar2,t8]
 .have aR:bs.length/16=0:=aw8
  rw[if_neg fun x=>pe x.1,aR];rfl
end
theorem Hc {L:List aM} {nm:aA0} {k:Nat} (h:eZ L nm k) {i:Nat} (aG:i < k):(eO L k nm)[i]? =some (eT L (i+1) nm):=by
 have E:=GP h i aG;have G:=rX h;rw[List.take_add_one] at E;have al:=List.append_cancel_left E;rw[oj aw0] at al⊢;injection al with al
 rw[al]
theorem TL {α:Type} (p:α->Bool): ∀(l:List α) (j:Nat),j<=l.length->(∀i x,i < j->l[i]? =some x->p x=true)->(j=l.length\/ ∃x,l[j]? =some x/\p x=false)->l.takeWhile p=l.take j
 | [],j,V,_,_=>by
  have:j=0:=ay0
  subst this;rfl
 |a::l,0,_,_,h=>by
  rcases h with h |⟨x,hx,ae⟩
  .cases h
  .injection hx with hx
   subst hx;rw[List.takeWhile_cons,ae];rfl
 |a::l,j+1,V,E,G=>by
  have ha:=E 0 a (Nat.succ_pos j) rfl;rw[List.takeWhile_cons,ha];show a::l.takeWhile p=a::l.take j;rw[TL p l j ay0 (fun i x aG hx=>E (i+1) x aw0 hx) (G.imp (fun e=>by simpa using e) id)]
def kj (L:List aM) (top base:aA0):List aA0:=(eO L (c' L top) top).takeWhile fun n=> !decide (n=base)
def lB (L:List aM) (top base:aA0):Bool:=(dk L top).isSome&&(decide (base=[])||decide (base∈eO L (c' L top) top))
def hJ (L:List aM) (n:aA0) (k:Nat):Bool:=match dk L n with
 |none=>true
 |some d=>decide (d.im.t.length<=k)||decide ((d.im.t.getD k cy).1=0)
def l2 (L:List aM) (top base:aA0) (k:Nat):Bool:=hJ L top k&&(kj L top base).any fun n=> !hJ L n k
def cl (L:List aM) (nm:aA0):Nat:=match dk L nm with
 |none=>0
 |some d=>d.im.t.length
def rZ (L:List aM) (top base:aA0):Option Nat:=if lB L top base=true then(List.range (cl L top)).find? (l2 L top base) else none
structure ahj where
 done:Bool
 e:Int
 L:List aM
 over:Bool
def hU (z:Nat) (L:List aM) (top base:aA0) (over:Bool):ahj:=if(over|| !(dk L top).isSome)=true then⟨false,160,L,over⟩ else match rZ L top base with
 |some k=>⟨false,(eU z L top ((k*2 ^z:Nat):Int) (e8 z L top (k:Int))).e,(eU z L top ((k*2 ^z:Nat):Int) (e8 z L top (k:Int))).L,over⟩
 |none=>⟨decide ((jc L top base).e=0),(jc L top base).e,(jc L top base).L,decide ((jc L top base).e=0)⟩
def sZ (z:Nat) (L:List aM) (nm:aA0):aA0:=match dk L nm with
 |none=>[]
 |some d=>k1 z L nm (c' L nm) 0 (d.im.t.length*2 ^z)
theorem ahk {z:Nat} {L L':List aM} {nm:aA0} (ax:cl L' nm=cl L nm) (Z:(dk L' nm).isSome=(dk L nm).isSome) (h: ∀s,s < cl L nm*2 ^z->nD z L' nm (c' L' nm) s=nD z L nm (c' L nm) s):sZ z L' nm=sZ z L nm:=by
 unfold sZ;unfold cl at ax h
 cases e:dk L nm with
 |none=>
  rw[e] at Z
  cases b6:dk L' nm with
  |none=>rfl
  |some cT=>rw[b6] at Z;cases Z
 |some d=>
  rw[e] at Z ax h
  cases b6:dk L' nm with
  |none=>rw[b6] at Z;cases Z
  |some cT=>
   rw[b6] at ax;simp only at ax h⊢;rw[ax]
   exact TH _ fun i aG=>by
    rw[Nat.zero_add];exact h i aG
section
variable {z R:Nat} {L:List aM} {nm:aA0}
theorem Mn (L:List aM) {t n:aA0} {d:aM} {im:bL} (H:dk L t=some d) (ax:iz d.im im):cl (dh L t im none) n=cl L n/\(dk (dh L t im none) n).isSome=(dk L n).isSome:=by
 by_cases e:n=t
 .subst e;unfold cl;rw[wM H,H];exact⟨ax.eN,rfl⟩
 .unfold cl;rw[L9 e];exact⟨rfl,rfl⟩
theorem ahl (h:cr z R L) {d:aM} (H:dk L nm=some d) {k:Nat} (Z:k < d.im.t.length):sZ z (eU z L nm ((k*2 ^z:Nat):Int) (e8 z L nm (k:Int))).L nm=sZ z L nm:=by
 have dF:e8 z L nm (k:Int)=jb z L nm (c' L nm) k:=by
  unfold e8;rw[H];simp only;rw[if_pos ⟨aw0,aw0⟩];rfl
 rw[dF]
 by_cases U:(eU z L nm ((k*2 ^z:Nat):Int) (jb z L nm (c' L nm) k)).e=0
 .obtain⟨cT,im,dn,ax,cH,_⟩:=TK h U;have hw:=ahh h U;have bZ:(jb z L nm (c' L nm) k).length=16*2 ^z:=wI h.tonC H (h.cg nm).1 k;have ae:=js h.b3;rw[bZ,show 16*2 ^z/16=2 ^z by omega] at hw;rw[cH] at hw⊢;obtain⟨g1,g2⟩:=Mn L (n:=nm) dn ax;refine ahk g1 g2 fun s _=>?_
  rw[hw s];show(if k*2 ^z<=s/\s < k*2 ^z+2 ^z then _ else _)=_
  split
  .rename_i c
   have hE:s/2 ^z=k:=by
    rw[Nat.div_eq_iff aw0];omega
   have fR:s % 2 ^z=s - k*2 ^z:=by
    have E:=Nat.div_add_mod s (2 ^z);rw[hE,Nat.mul_comm] at E;omega
   rw[G8,hE,fR];rfl
  .rfl
 .rw[ahi h U]
end
section
variable {z R:Nat} {L:List aM} {top base:aA0}
theorem TM (h:cr z R L) {d:aM} (H:dk L top=some d): ∀n,n∈kj L top base->n≠top/\ ∃e,dk L n=some e:=fun n hn=>by
 have aw:n∈eO L (c' L top) top:=(List.takeWhile_sublist _).mem hn;refine⟨fun e=>?_,h.TE ⟨d,H⟩ n (aq6 _ aw)⟩;rw[e] at aw;exact Mb (h.cg top).1 aw
end
end
end Go.Proofs.YtkfbeijmgggkmaaGreat
