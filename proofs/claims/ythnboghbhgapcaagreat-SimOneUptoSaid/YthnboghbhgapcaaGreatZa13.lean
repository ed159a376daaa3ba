/-
A part of the proof of this claim: lemmas, with no condition beyond what each says.
-/
import Derived.Test.YthnboghbhgapcaaGreatZa12
set_option linter.unusedVariables false
set_option linter.unusedSimpArgs false
set_option maxRecDepth 10000
namespace Go.Proofs.YthnboghbhgapcaaGreat
open Go.RowKit Go.Proofs
section
abbrev afD (nm:List UInt8):ay:=[(2001,.cells [.ptr 1001 0]),(2002,.cells [.d (.str nm)])]
abbrev Sf (z U:Int) (L:List aO) (nm:List UInt8):ay:=bP z U L++afD nm
theorem afE (z U:Nat) (L:List aO) (eD:nd z U L) (nm:List UInt8) (bO:aO) (aw:dk L nm=some bO) (dg:Nat) (h4:eP L nm dg) (mM:dg<=100) (k:Nat) (ab:k < bO.im.t.length):
  Fn Tryz.prog 139 [ae (k:Int),ao 2001,ao 2002] (Sf z U L nm) [] (bS .u8 (pC z L nm dg k)) (Sf z U L nm):=by
 have dJ:=KN z U L eD nm bO aw dg h4 mM k ab;generalize pC z L nm dg k=y at dJ;refine aW [] Tryz.func139 rfl rfl rfl rfl ?_;refine au dJ ?_;exact aT aH rfl rfl ac rfl
theorem K5 (z U:Int) (L:List aO) (nm:List UInt8) (aw:dk L nm=none) (g:Nat) (x y:D):
  Fn Tryz.prog 86 [ao 1001,bV nm,.c (.one (.cT g [.p 3001 0,.p 3002 0]))] (bP z U L++[(3001,.cells [.d x]),(3002,.cells [.d y])]) [] (ae 140) (bP z U L++[(3001,.cells [.d x]),(3002,.cells [.d y])]):=by
 have hx:(b0 (aJ:=.str) (aL:=.aM) (c3 L) nm).getD (cK .aM)=none:=by rw[jP,aw];rfl
 refine aW [2] Tryz.func86 rfl rfl rfl rfl ?_;refine⟨rfl,rfl,rfl,bz [] (aH) ?_⟩;refine⟨fun dZ O=>absurd (show(b0 (aJ:=.str) (aL:=.aM) (c3 L) nm).getD (cK .aM)=some dZ from O) (by rw[hx];intro h;cases h),fun _=>?_⟩;exact aT aH rfl rfl ac rfl
theorem eX.sub {N:Nat} {ids:List Nat} {C:e8} {K K':a1} {B B':ay} {a:Act} {w:World} (h:eX N ids C K B a w) (di:zb K K') (c':kI B B'):eX N ids C K' B' a w:=af.sub di c' N C a w h
theorem afF (t:List e7):jM (.aG (rj t)):=by
 rintro mr sd I F w p jY _ ag ⟨es,h,a6⟩;exact⟨es,h,jM.iX (c:=1001) (B4 (bp:=oT (t.length:Nat) es) ⟨jM.cells rfl,jM.map,trivial⟩) mr sd I F w p jY (fun _ h=>by cases h) ag a6⟩
theorem afG (l:List Int):jM (.aG (rk l)):=by
 rintro mr sd I F w p jY _ ag ⟨ρ,b8,E,G,al,aZ⟩;refine⟨c5 ρ 1001 jY,b8,c6 ..,fun d ch J=>?_,al,aZ⟩;have cV:=G d ch J;rw[ca] at J
 split at J
 .rename_i e;injection J with J
  subst J e;obtain⟨g1,aD,T,g2,cX⟩:=cV;rw[c6];rw[E] at g1 g2;exact⟨fun b=>by rw[ag];exact g1 b,aD,T,by rw[ag];exact g2,b'.mono (cd.refl _ _) _ aD (fun c H=>de _ _ (fun e=>by subst e;cases H)) cX⟩
 .rename_i e;rw[de _ _ (Ne.symm e)];rw[ca] at J
  split at J
  .injection J with J
   subst J;exact Holds.cg (cd.refl _ _) (fun _ _=>rfl) (ap0 _) _ (fun c H=>by cases H) cV
  .cases J
theorem afH (f:k7):jM (.aG (mH f)):=by
 intro mr sd I F w p jY _ ag h;have h:vU (fun _=>none) f I F w p:=h;show vU (fun _=>none) f I F w jY;unfold vU at*;rw[ag];exact h
theorem afI (s:bL):Fm (dx s):=⟨jM.cells rfl,afF _,afG _,afH _,trivial⟩
def hW (nm:List UInt8) (im:bL) (cP:Option (Nat->Nat)) (d:aO):aO:=if d.nm=nm then {d with im:=im,cP:=cP} else d
def d9 (L:List aO) (nm:List UInt8) (im:bL) (cP:Option (Nat->Nat)):List aO:=L.map (hW nm im cP)
section
variable (nm:List UInt8) (im:bL) (cP:Option (Nat->Nat)) (d:aO)
theorem zW:(hW nm im cP d).nm=d.nm:=by unfold hW;split <;>rfl
theorem K6:(hW nm im cP d).ad=d.ad:=by unfold hW;split <;>rfl
theorem Sg:(hW nm im cP d).am=d.am:=by unfold hW;split <;>rfl
theorem xY:(hW nm im cP d).back=d.back:=by unfold hW;split <;>rfl
theorem F4 (L:List aO):c3 (d9 L nm im cP)=c3 L:=by
 unfold c3 d9;rw[as2];refine ar1 fun d _=>?_
 show lF (hW nm im cP d)=lF d;unfold lF;rw[zW,K6]
theorem F5 (L:List aO):l6 (d9 L nm im cP)=l6 L:=by
 unfold l6 d9;rw[as2];refine ar1 fun d _=>?_
 show((hW nm im cP d).ad,tv (hW nm im cP d).am (hW nm im cP d).back)=_;rw[K6,Sg,xY]
theorem uL (n:List UInt8): ∀L:List aO,dk (d9 L nm im cP) n=(dk L n).map (hW nm im cP)
 | []=>rfl
 |d::L=>by
  show dk (hW nm im cP d::d9 L nm im cP) n=_;rw[pF,pF,zW,uL n L]
  split <;>rfl
end
theorem F6 {L:List aO} {nm:List UInt8} {d:aO} (h:dk L nm=some d) (im:bL) (cP:Option (Nat->Nat)):dk (d9 L nm im cP) nm=some {d with im:=im,cP:=cP}:=by
 rw[uL,h];show some (hW nm im cP d)=_;unfold hW;rw[if_pos (c1 h).2]
theorem Sh {L:List aO} {nm n:List UInt8} (ba:n≠nm) (im:bL) (cP:Option (Nat->Nat)):dk (d9 L nm im cP) n=dk L n:=by
 rw[uL]
 cases h:dk L n with
 |none=>rfl
 |some d=>
  show some (hW nm im cP d)=_;unfold hW;rw[if_neg (fun e=>ba ((c1 h).2.symm.trans e))]
theorem afJ {L:List aO} {nm:List UInt8} (im:bL) (cP:Option (Nat->Nat)) (h:nm∉L.map (·.nm)):d9 L nm im cP=L:=by
 unfold d9;refine(ar1 fun d J=>?_).trans (List.map_id' L);unfold hW;rw[if_neg fun e=>h (by rw[<-e];exact aq6 J)]
theorem F7 {nm:List UInt8} {im:bL} {cP:Option (Nat->Nat)}: ∀{L:List aO},(L.map (·.nm)).Nodup->(L.map (·.am)).Nodup-> ∀{d:aO},dk L nm=some d->e5 (h6 L) d.am (kr {d with im:=im,cP:=cP})=h6 (d9 L nm im cP)
 | [],_,_,d,h=>by cases h
 |e::L,hn,ha,d,h=>by
  rw[aq4] at hn ha;obtain⟨cH,dF⟩:=aq7.1 hn;obtain⟨b4,ci⟩:=aq7.1 ha;rw[pF] at h;show e5 ((e.am,kr e)::h6 L) d.am _=h6 (hW nm im cP e::d9 L nm im cP);unfold e5
  by_cases c:e.nm=nm
  .rw[if_pos c] at h;injection h with h
   subst h;rw[if_pos rfl,afJ im cP (by rw[<-c];exact cH)];unfold hW;rw[if_pos c];rfl
  .rw[if_neg c] at h;have ba: ¬e.am=d.am:=fun x=>b4 (by rw[x];exact aq6 (f:=fun d:aO=>d.am) (c1 h).1)
   rw[if_neg ba,F7 dF ci h];unfold hW;rw[if_neg c];rfl
theorem Si {b:Nat} {o:bh}: ∀L:List (Nat×bh),j4 (e5 L b o) b=j4 L b
 | []=>rfl
 |(a,q)::L=>by
  unfold e5
  by_cases e:a=b
  .rw[if_pos e];show(if a=b then L else _)=if a=b then L else _
   rw[if_pos e,if_pos e]
  .rw[if_neg e];show(if a=b then _ else(a,q)::j4 (e5 L b o) b)=if a=b then L else(a,q)::j4 L b
   rw[if_neg e,if_neg e,Si L]
theorem Sj {L:List aO} (nm:List UInt8) (im:bL) (cP:Option (Nat->Nat)) {n:List UInt8} {k:Nat} (h:eP L n k):eP (d9 L nm im cP) n k:=by
 induction h with
 |gone h=>exact .gone (by rw[uL,h];rfl)
 |base E G=>exact .base (d:=hW nm im cP _) (by rw[uL,E];rfl) (by rw[xY];exact G)
 |step E G al br=>exact .step (d:=hW nm im cP _) (by rw[uL,E];rfl) (by rw[xY];exact G) (by rw[xY];exact br)
theorem Sk (L:List aO) (nm:List UInt8) (im:bL) (cP:Option (Nat->Nat)): ∀(k:Nat) (n:List UInt8),ey (d9 L nm im cP) k n=ey L k n
 |0,_=>rfl
 |k+1,n=>by
  show(match dk (d9 L nm im cP) n with |none=>[] |some d=>d.back::ey (d9 L nm im cP) k d.back)=match dk L n with |none=>[] |some d=>d.back::ey L k d.back
  rw[uL]
  cases h:dk L n with
  |none=>rfl
  |some d=>
   show(hW nm im cP d).back::ey (d9 L nm im cP) k (hW nm im cP d).back=d.back::ey L k d.back;rw[xY,Sk L nm im cP k]
theorem hU.d9 {L:List aO} (h:hU L) (nm:List UInt8) (im:bL) (cP:Option (Nat->Nat)):hU (d9 L nm im cP):=by
 have key: ∀{α:Type} (f:aO->α),(∀d,f (hW nm im cP d)=f d)->(Go.Proofs.YthnboghbhgapcaaGreat.d9 L nm im cP).map f=L.map f:=fun f hf=>by
  unfold Go.Proofs.YthnboghbhgapcaaGreat.d9;rw[as2];exact ar1 fun d _=>hf d
 exact⟨by rw[key _ (zW nm im cP)];exact h.ik,by rw[key _ (K6 nm im cP)];exact h.lf,by rw[key _ (Sg nm im cP)];exact h.wc⟩
theorem nd.d9 {z U:Nat} {L:List aO} (h:nd z U L) {nm:List UInt8} {bO:aO} (aw:dk L nm=some bO) {im:bL} (ax:jd bO.im im) (cP:Option (Nat->Nat)):nd z U (d9 L nm im cP):=by
 obtain⟨fg,g0,pB⟩:=h.hh bO (c1 aw).1
 have key: ∀d,d∈Go.Proofs.YthnboghbhgapcaaGreat.d9 L nm im cP-> ∃e,e∈L/\hW nm im cP e=d:=fun d J=>by
  obtain⟨e,V,rfl⟩:=ar2.1 J;exact⟨e,V,rfl⟩
 refine⟨h.tohU.d9 nm im cP,h.b3,h.uJ,by unfold Go.Proofs.YthnboghbhgapcaaGreat.d9;rw[aq3];exact h.len,fun d J=>?_,fun d J O=>?_,fun d J=>?_,fun d J=>?_⟩
 .obtain⟨e,V,rfl⟩:=key d J;unfold hW
  split
  .exact⟨ax.ok,ax.z.trans g0,ax.lc.trans pB⟩
  .exact h.hh e V
 .obtain⟨e,V,rfl⟩:=key d J;rw[xY] at O⊢;obtain⟨b5,h'⟩:=h.il e V O;exact⟨hW nm im cP b5,by rw[uL,h'];rfl⟩
 .obtain⟨e,V,rfl⟩:=key d J;rw[zW];exact h.ne e V
 .obtain⟨e,V,rfl⟩:=key d J;rw[zW];obtain⟨k,ab,J⟩:=h.so e V;exact⟨k,ab,Sj nm im cP J⟩
theorem afK {L:List aO} {n:List UInt8} {k dU:Nat} (h:eP L n k) (h':eP L n dU):k=dU:=by
 induction h generalizing dU with
 |gone h=>
  cases h' with
  |gone _=>rfl
  |base _ _=>rfl
  |step E _ _=>rw[h] at E;cases E
 |base E G=>
  cases h' with
  |gone _=>rfl
  |base _ _=>rfl
  |step g1 g2 _=>rw[E] at g1;injection g1 with g1;rw[<-g1] at g2;exact absurd G g2
 |step E G al br=>
  cases h' with
  |gone h=>rw[E] at h;cases h
  |base g1 g2=>rw[E] at g1;injection g1 with g1;rw[<-g1] at g2;exact absurd g2 G
  |step g1 g2 cX=>rw[E] at g1;injection g1 with g1;rw[<-g1] at cX;rw[br cX]
theorem afL {L:List aO} {n:List UInt8} {k:Nat} (h:eP L n k): ∀x,x∈ey L k n-> ∃j,j < k/\eP L x j:=by
 induction h with
 |gone _=>intro x hx;cases hx
 |base _ _=>intro x hx;cases hx
 | @step n d k E G al br=>
  intro x hx;unfold ey at hx;rw[E] at hx;rcases ap3.1 hx with rfl |hx
  .exact⟨k,Nat.lt_succ_self k,al⟩
  .obtain⟨j,aa,J⟩:=br x hx;exact⟨j,au5,J⟩
theorem Sl {L:List aO} {n:List UInt8} {k:Nat} (h:eP L n k):n∉ey L k n:=fun hx=>by
 obtain⟨j,aa,J⟩:=afL h n hx;have:=afK h J;omega
theorem Sm {z:Nat} {L:List aO} {nm:List UInt8} {im:bL} {cP:Option (Nat->Nat)} {c:Nat}: ∀(ns:List (List UInt8)) (i:Nat),nm∉ns->mL z (d9 L nm im cP) c ns i=mL z L c ns i
 | [],_,_=>rfl
 |n::ns,i,h=>by
  have ba:n≠nm:=fun e=>h (by rw[e];exact aq1 ..)
  have br:=Sm (z:=z) (L:=L) (nm:=nm) (im:=im) (cP:=cP) (c:=c) ns (i+1) fun aA=>h (ap2 _ aA)
  unfold mL;rw[Sh ba,br]
def qo (z:Nat) (L:List aO) (nm:List UInt8) (dg c:Nat):List UInt8:=(mL z L c (ey L dg nm) 1).1
theorem afM {z:Nat} {L:List aO} {nm:List UInt8} {bO:aO} (aw:dk L nm=some bO) {dg:Nat} (h4:eP L nm dg) (im:bL) (cP:Option (Nat->Nat)) (c:Nat):
  pC z (d9 L nm im cP) nm dg c=if c < im.t.length/\(im.t.getD c cD).1≠0 then fL im c none else qo z L nm dg c:=by
 unfold pC qo;rw[Sk]
 conv=>lhs;unfold mL
 rw[F6 aw];simp only
 split
 .rfl
 .rw[Sm _ _ (Sl h4)]
abbrev zX (z U:Int) (L:List aO) (nm:List UInt8) (am:Nat):ay:=[(8001,.cells [.d (.int .i64 z),.d (.int .i64 U),.mp 8002]),(8002,.map .str .aM (c3 L)),(8003,.aG (.bA (l6 L))),(8004,.aG (.bA (j4 (h6 L) am))),(8005,.cells [.ptr 8001 0]),(8006,.cells [.d (.str nm)])]
def ss (z U:Int) (L:List aO) (nm:List UInt8) (am:Nat) (bs:Nat->Nat):bo->bh:=.pr am (.m6 (zX z U L nm am) bs)
theorem Sn (z U:Int) (L:List aO) (nm:List UInt8) (am:Nat):Fm (zX z U L nm am):=⟨jM.cells rfl,jM.map,jM.bA,jM.bA,jM.cells rfl,jM.cells rfl,trivial⟩
abbrev lI (z U:Int) (L:List aO) (nm:List UInt8):ay:=[(8001,.cells [.d (.int .i64 z),.d (.int .i64 U),.mp 8002]),(8002,.map .str .aM (c3 L)),(8003,.aG (.bA (l6 L))),(8004,.aG (.bA (h6 L))),(8005,.cells [.ptr 8001 0]),(8006,.cells [.d (.str nm)])]
abbrev CD (am cR dG dL:Nat):Nat->Nat:=fun c=>cond (Nat.beq c 1001) am (cond (Nat.beq c 1002) cR (cond (Nat.beq c 1003) dG dL))
abbrev pG (cR dG dL:Nat):Nat->Nat:=fun c=>cond (Nat.beq c 1002) cR (cond (Nat.beq c 1003) dG dL)
abbrev So (am cR dG dL:Nat):ay:=[(9001,.co 1001 (e6 am)),(9002,.co 1002 (e6 cR)),(9003,.co 1003 (e6 dG)),(9004,.co 1004 (e6 dL))]
abbrev K7 (bs:Nat->Nat):ay:=[(7001,.co 8001 (e6 (bs 8001))),(7002,.co 8002 (e6 (bs 8002))),(7003,.co 8003 (e6 (bs 8003))),(7004,.co 8004 (e6 (bs 8004))),(7005,.co 8005 (e6 (bs 8005))),(7006,.co 8006 (e6 (bs 8006)))]
theorem afN (z U:Nat) (L:List aO) (eD:nd z U L) (nm:List UInt8) (bO:aO) (aw:dk L nm=some bO) (dg:Nat) (h4:eP L nm dg) (mM:dg<=100) (k:Nat) (ab:k < bO.im.t.length):
  Fn Tryz.prog 139 [ae (k:Int),ao 8005,ao 8006] (lI z U L nm) [] (bS .u8 (pC z L nm dg k)) (lI z U L nm):=
 Fn.aX [(1001,8001),(1002,8002),(1003,8003),(1004,8004),(2001,8005),(2002,8006)] (afE z U L eD nm bO aw dg h4 mM k ab)
theorem afO (z U:Nat) (L:List aO) (eD:nd z U L) (nm:List UInt8) (bO:aO) (aw:dk L nm=some bO) (dg:Nat) (h4:eP L nm dg) (mM:dg<=100) (s:bL) (ax:jd bO.im s) (bs:Nat->Nat) (c:Nat) (H:c < s.t.length) (aR:(s.t[c]).1=0):
  FD s (ss z U L nm bO.am bs) (bs 8005) (bs 8006) c (qo z L nm dg c):=by
 have b6:(qo z L nm dg c).length<=1000000:=by
  have:=RQ eD c (ey L dg nm) 1;unfold qo;omega
 refine⟨b6,?_⟩;have fv:=eD.tohU.M (c1 aw).1
 have II: ∀cP,pC z (d9 L nm s cP) nm dg c=qo z L nm dg c:=fun cP=>by
  rw[afM aw h4,if_neg fun h=>h.2 (by rw[ap9,oj H];exact aR)]
 have j0: ∀cP,Fn Tryz.prog 139 [ae (c:Int),ao 8005,ao 8006] (lI z U (d9 L nm s cP) nm) [] (bS .u8 (qo z L nm dg c)) (lI z U (d9 L nm s cP) nm):=fun cP=>by
  have:=afN z U (d9 L nm s cP) (eD.d9 aw ax cP) nm _ (F6 aw s cP) dg (Sj nm s cP h4) mM c H;rw[II cP] at this;exact this
 have Sp: ∀cR dG dL,kr {bO with im:=s,cP:=some (pG cR dG dL)}= .m6 (dx s) (CD bO.am cR dG dL):=fun cR dG dL=>rfl
 have lu: ∀cR dG dL,e5 (h6 L) bO.am (.m6 (dx s) (CD bO.am cR dG dL))=h6 (d9 L nm s (some (pG cR dG dL))):=fun cR dG dL=>by
  rw[<-Sp];exact F7 eD.ik eD.wc aw
 have afP: ∀cR dG dL,eg (h6 (d9 L nm s (some (pG cR dG dL)))) bO.am=some (.m6 (dx s) (CD bO.am cR dG dL)):=fun cR dG dL=>by
  have:=(eD.tohU.d9 nm s (some (pG cR dG dL))).M (c1 (F6 aw s (some (pG cR dG dL)))).1;rw[Sp] at this;exact this
 have afQ: ∀cR dG dL,j4 (h6 (d9 L nm s (some (pG cR dG dL)))) bO.am=j4 (h6 L) bO.am:=fun cR dG dL=>by
  rw[<-lu,Si]
 refine Fn.via (X:=Nat×Nat×Nat) (args':=fun _=>[ae (c:Int),ao 8005,ao 8006]) (uy:=fun x=>lI z U (d9 L nm s (some (pG x.1 x.2.1 x.2.2))) nm++(K7 bs++So bO.am x.1 x.2.1 x.2.2)) (m0:=fun x=>lI z U (d9 L nm s (some (pG x.1 x.2.1 x.2.2))) nm) (i':=fun _=>[]) (res':=fun _=>bS .u8 (qo z L nm dg c)) (nR:=fun x=>lI z U (d9 L nm s (some (pG x.1 x.2.1 x.2.2))) nm)
  au8 3 rfl ?_ (fun x=>j0 _) (fun x=>ac) (fun x=>rfl) (fun x=>rfl) ?_
 .intro N C a w K8;have E:=af.eV 9000 1001 bO.am rfl N C a w (af.ach 9000 1001 9001 bO.am rfl rfl au6 N C a w K8);obtain⟨cR,G⟩:=df.mark 1002 9002 rfl au6 N C a w E;obtain⟨dG,al⟩:=df.mark 1003 9003 rfl au6 N C a w G;obtain⟨dL,aZ⟩:=df.mark 1004 9004 rfl au6 N C a w al;have bK:=af.JV 9100 (dx s) (fun c=>c+8000) (CD bO.am cR dG dL) ac ac rfl N C a w aZ;have fD:=af.place 8006 7006 (bs 8006) rfl rfl au6 N C a w (af.place 8005 7005 (bs 8005) rfl rfl au6 N C a w (af.place 8004 7004 (bs 8004) rfl rfl au6 N C a w (af.place 8003 7003 (bs 8003) rfl rfl au6 N C a w (af.place 8002 7002 (bs 8002) rfl rfl au6 N C a w (af.place 8001 7001 (bs 8001) rfl rfl au6 N C a w bK)))));have jG:=af.JW 9000 (zX z U L nm bO.am) (fun c=>c - 1000) bs rfl ac rfl rfl (B4 (Sn z U L nm bO.am)) N C a w fD;have iS:=af.acr 8004 9100 bO.am rfl rfl fv au6 N C a w jG;have vv:=af.JX 1 8005 7005 (bs 8005) rfl rfl N C a w iS;have A7:=af.JX 2 8006 7006 (bs 8006) rfl rfl N C a w vv;have aY:=F4 nm s (some (pG cR dG dL)) L;have b9:=F5 nm s (some (pG cR dG dL)) L;refine⟨(cR,dG,dL),eX.sub A7 ac ⟨rfl,congrArg (fun e=>some (bd.map .str .aM e)) aY.symm,congrArg (fun e=>some (bd.aG (.bA e))) b9.symm,congrArg (fun e=>some (bd.aG (.bA e))) (lu cR dG dL),rfl,rfl,rfl,rfl,rfl,rfl,rfl,rfl,rfl,rfl,rfl,rfl,trivial⟩⟩
 .rintro⟨cR,dG,dL⟩;have aY:=F4 nm s (some (pG cR dG dL)) L;have b9:=F5 nm s (some (pG cR dG dL)) L
  refine⟨bS .u8 (qo z L nm dg c),_,af.trans (cG [(3,bS .u8 (qo z L nm dg c))] (lI z U (d9 L nm s (some (pG cR dG dL))) nm++(K7 bs++So bO.am cR dG dL)))
   (af.trans (af.B6 8004 9100 bO.am rfl (afP cR dG dL) rfl) (af.trans (af.acj 9100 bO.am rfl)
   (af.trans (af.JV 9000 (zX z U L nm bO.am) (fun c=>c - 1000) bs ⟨rfl,congrArg (fun e=>some (bd.map .str .aM e)) aY,congrArg (fun e=>some (bd.aG (.bA e))) b9,congrArg (fun e=>some (bd.aG (.bA e))) (afQ cR dG dL),rfl,rfl,trivial⟩ ac rfl)
   (af.trans (af.aci 9000 1001 9001 bO.am rfl rfl) (af.JW 9100 (dx s) (fun c=>c+8000) (CD bO.am cR dG dL) rfl ac rfl rfl (B4 (afI s))))))),?_,?_,?_⟩
  .exact rfl
  .exact ac
  .rfl
theorem Sq {f:FuncId} {args:List aQ} {res:aQ} {s s':bL} {R:bo->bh} (h:Fn Tryz.prog f (ao 1001::args) (fX s R) [] res (fX s' R)) (E:nO 1001 [1002,1003,1004] (ao 1001::args) (dx s) [(9000,.co 1001 R)] [] []=true) (G:nP 1001 (mE [1002,1003,1004] [] []) res (dx s') [(9000,.co 1001 R)]=true):
  Fn Tryz.prog f (ao 1001::args) [(1001,.aG (iZ s)),(9000,.co 1001 R)] [] res [(1001,.aG (iZ s')),(9000,.co 1001 R)]:=
 Fn.close (bp:=dx s) (dv:=dx s') (aK:=[(9000,.co 1001 R)]) (aP:=[(9000,.co 1001 R)]) [1002,1003,1004] h (fun _ _ _ _ h=>h) (fun _ _ _ _ h=>h) E G
abbrev lh (x y:D):ay:=[(3001,.cells [.d x]),(3002,.cells [.d y])]
abbrev zY (dY cR dG dL ku li:Nat):Nat->Nat:=fun c=>cond (Nat.beq c 8001) dY (cond (Nat.beq c 8002) cR (cond (Nat.beq c 8003) dG (cond (Nat.beq c 8004) dL (cond (Nat.beq c 8005) ku li))))
abbrev CE:aQ:=.c (.one (.cT 139 [.p 8005 0,.p 8006 0]))
abbrev F8 (z U:Int) (L:List aO) (nm:List UInt8) (am:Nat) (s:bL) (dY cR dG dL ku li:Nat) (x y:D):ay:=[(7000,.aG (iZ s)),(9000,.co 7000 (ss z U L nm am (zY dY cR dG dL ku li)))]++(K7 (zY dY cR dG dL ku li)++lh x y)
abbrev Sr:List Nat:=[8001,8002,8003,8004,8005,8006,3001,3002]
abbrev K9 (am:Nat):a1:=[(0,dn am),(1,CE),(2,ao 3001),(3,ao 3002)]
abbrev afR (ku li:Nat):a1:=[(0,ao 7000),(1,nb ku li),(2,ao 3001),(3,ao 3002)]
theorem af.Ss (z U:Int) (L:List aO) (nm:List UInt8) (am:Nat) (im:bL) (cW:eg (h6 L) am=some (iZ im)) (x y:D):
  df (X:=Nat×Nat×Nat×Nat×Nat×Nat) Sr (K9 am) (lI z U L nm++lh x y) (fun p=>afR p.2.2.2.2.1 p.2.2.2.2.2) (fun p=>F8 z U L nm am im p.1 p.2.1 p.2.2.1 p.2.2.2.1 p.2.2.2.2.1 p.2.2.2.2.2 x y):=by
 intro N C a w K8;have E:=af.B6 8004 7000 am rfl cW rfl N C a w K8;obtain⟨dY,G⟩:=df.mark 8001 7001 rfl au6 N C a w E;obtain⟨cR,al⟩:=df.mark 8002 7002 rfl au6 N C a w G;obtain⟨dG,aZ⟩:=df.mark 8003 7003 rfl au6 N C a w al;obtain⟨dL,bK⟩:=df.mark 8004 7004 rfl au6 N C a w aZ;obtain⟨ku,fD⟩:=df.mark 8005 7005 rfl au6 N C a w bK;obtain⟨li,jG⟩:=df.mark 8006 7006 rfl au6 N C a w fD;have iS:=af.JV 9000 (zX z U L nm am) (fun c=>c - 1000) (zY dY cR dG dL ku li) ac ac rfl N C a w jG;have vv:=af.ack 1 139 8005 8006 7005 7006 ku li rfl rfl rfl N C a w iS;have A7:=af.Qz 0 7000 am rfl rfl N C a w vv;have afS:=af.pr 9000 7000 am rfl rfl au6 N C a w A7;exact⟨(dY,cR,dG,dL,ku,li),eX.sub afS ac ac⟩
theorem af.St (z U:Int) (L:List aO) (eH:hU L) (nm:List UInt8) (bO:aO) (aw:dk L nm=some bO) (ag:bO.cP=none) (s:bL) (dY cR dG dL ku li:Nat) (x y:D) (r:Int):
  af Sr [(6,ae r)] (F8 z U L nm bO.am s dY cR dG dL ku li x y) [(6,ae r)] (lI z U (d9 L nm s none) nm++lh x y):=by
 have fv:=eH.M (c1 aw).1;have aY:=F4 nm s none L;have b9:=F5 nm s none L;have ar:e5 (h6 L) bO.am (iZ s)=h6 (d9 L nm s none):=F7 (cP:=none) (im:=s) eH.ik eH.wc aw
 exact af.trans (af.acg 9000 7000 bO.am rfl rfl au6) (af.trans (af.JW 9000 (zX z U L nm bO.am) (fun c=>c - 1000) (zY dY cR dG dL ku li) rfl ac rfl rfl (B4 (Sn z U L nm bO.am)))
  (af.trans (af.QE 8004 7000 bO.am rfl rfl fv au6) (af.sub ac ⟨rfl,congrArg (fun e=>some (bd.map .str .aM e)) aY.symm,congrArg (fun e=>some (bd.aG (.bA e))) b9.symm,congrArg (fun e=>some (bd.aG (.bA e))) ar,rfl,rfl,rfl,rfl,trivial⟩)))
theorem afT (z U:Int) (L:List aO) (eH:hU L) (nm:List UInt8) (bO:aO) (aw:dk L nm=some bO) (ag:bO.cP=none) (a:Int) (bs:List UInt8) (r:Int) (s':bL)
  (h: ∀bE:Nat->Nat,Fn Tryz.prog 88 [ao 1001,ae a,bS .u8 bs,nb (bE 8005) (bE 8006)] (fX bO.im (ss z U L nm bO.am bE)) [] (ae r) (fX s' (ss z U L nm bO.am bE))):
  Fn Tryz.prog 87 [dn bO.am,CE,ao 3001,ao 3002] (lI z U L nm++lh (.int .i64 a) (.ck .u8 bs)) [] (ae r) (lI z U (d9 L nm s' none) nm++lh (.int .i64 a) (.ck .u8 bs)):=by
 have fv:eg (h6 L) bO.am=some (iZ bO.im):=by
  have:=eH.M (c1 aw).1
  rwa[show kr bO=iZ bO.im by unfold kr;rw[ag]] at this
 refine aW [1] Tryz.func87 rfl rfl rfl rfl ?_;refine bt.le (cG (K9 bO.am) (lI z U L nm++lh (.int .i64 a) (.ck .u8 bs))) ?_;refine bt.eY (af.Ss z U L nm bO.am bO.im fv _ _) fun p=>?_
 obtain⟨dY,cR,dG,dL,ku,li⟩:=p;refine bz [] (aH) ?_;refine au (Fn.aX [(1001,7000)] (Sq (h (zY dY cR dG dL ku li)) rfl rfl)) ?_;exact⟨_,_,_,af.trans (cG [(6,ae r)] (F8 z U L nm bO.am s' dY cR dG dL ku li (.int .i64 a) (.ck .u8 bs))) (af.St z U L eH nm bO aw ag s' dY cR dG dL ku li _ _ r),rfl,rfl,ac,rfl⟩
theorem afU (z U:Int) (L:List aO) (eH:hU L) (nm:List UInt8) (bO:aO) (aw:dk L nm=some bO) (ag:bO.cP=none) (a l:Int) (r:Int) (s':bL)
  (h: ∀bE:Nat->Nat,Fn Tryz.prog 90 [ao 1001,ae a,ae l,nb (bE 8005) (bE 8006)] (fX bO.im (ss z U L nm bO.am bE)) [] (ae r) (fX s' (ss z U L nm bO.am bE))):
  Fn Tryz.prog 89 [dn bO.am,CE,ao 3001,ao 3002] (lI z U L nm++lh (.int .i64 a) (.int .i64 l)) [] (ae r) (lI z U (d9 L nm s' none) nm++lh (.int .i64 a) (.int .i64 l)):=by
 have fv:eg (h6 L) bO.am=some (iZ bO.im):=by
  have:=eH.M (c1 aw).1
  rwa[show kr bO=iZ bO.im by unfold kr;rw[ag]] at this
 refine aW [1] Tryz.func89 rfl rfl rfl rfl ?_;refine bt.le (cG (K9 bO.am) (lI z U L nm++lh (.int .i64 a) (.int .i64 l))) ?_;refine bt.eY (af.Ss z U L nm bO.am bO.im fv _ _) fun p=>?_
 obtain⟨dY,cR,dG,dL,ku,li⟩:=p;refine bz [] (aH) ?_;refine au (Fn.aX [(1001,7000)] (Sq (h (zY dY cR dG dL ku li)) rfl rfl)) ?_;exact⟨_,_,_,af.trans (cG [(6,ae r)] (F8 z U L nm bO.am s' dY cR dG dL ku li (.int .i64 a) (.int .i64 l))) (af.St z U L eH nm bO aw ag s' dY cR dG dL ku li _ _ r),rfl,rfl,ac,rfl⟩
theorem afV (z U:Int) (L:List aO) (eH:hU L) (nm:List UInt8) (bO:aO) (aw:dk L nm=some bO) (ag:bO.cP=none) (a l:Int) (r:Int) (s':bL)
  (h:Fn Tryz.prog 92 [ao 1001,ae a,ae l] (dx bO.im) [] (ae r) (dx s')):
  Fn Tryz.prog 91 [dn bO.am,CE,ao 3001,ao 3002] (lI z U L nm++lh (.int .i64 a) (.int .i64 l)) [] (ae r) (lI z U (d9 L nm s' none) nm++lh (.int .i64 a) (.int .i64 l)):=by
 have fv:eg (h6 L) bO.am=some (iZ bO.im):=by
  have:=eH.M (c1 aw).1
  rwa[show kr bO=iZ bO.im by unfold kr;rw[ag]] at this
 have aY:=F4 nm s' none L;have b9:=F5 nm s' none L;have ar:e5 (h6 L) bO.am (iZ s')=h6 (d9 L nm s' none):=F7 (cP:=none) (im:=s') eH.ik eH.wc aw;have H:Fn Tryz.prog 92 [ao 1001,ae a,ae l] [(1001,.aG (iZ bO.im))] [] (ae r) [(1001,.aG (iZ s'))]:=Fn.close (bp:=dx bO.im) (dv:=dx s') (aK:=[]) (aP:=[]) [1002,1003,1004] h (fun _ _ _ _ h=>h) (fun _ _ _ _ h=>h) rfl rfl;have aV:=(cv.bA (c:=1001) (q:=8004) (b:=bO.am) (args:=[ae a,ae l]) (aK:=[]) (bf:=[]) (X:=Unit) (res:=fun _=>ae r) (aP:=fun _=>[]) (o:=iZ bO.im) (o':=fun _=>iZ s') (L:=h6 L) H.x fv rfl ⟨rfl,rfl⟩ rfl (fun _=>rfl)).fn;refine aW [] Tryz.func91 rfl rfl rfl rfl ?_;refine au aV ?_;exact aT aH rfl rfl ⟨rfl,congrArg (fun e=>some (bd.map .str .aM e)) aY.symm,congrArg (fun e=>some (bd.aG (.bA e))) b9.symm,congrArg (fun e=>some (bd.aG (.bA e))) ar,rfl,rfl,rfl,rfl,trivial⟩ rfl
theorem La (z U:Int) (L L':List aO) (eH:hU L) (nm:List UInt8) (bO:aO) (aw:dk L nm=some bO) (f:Nat) (r:Int) (x y:D)
  (hf:Fn Tryz.prog f [dn bO.am,CE,ao 3001,ao 3002] (lI z U L nm++lh x y) [] (ae r) (lI z U L' nm++lh x y)):
  Fn Tryz.prog 86 [ao 1001,bV nm,.c (.one (.cT f [.p 3001 0,.p 3002 0]))] (bP z U L++lh x y) [] (ae r) (bP z U L'++lh x y):=by
 obtain⟨oU,gb,gc⟩:=j5 xQ;have cW:=eH.D (c1 aw).1;have hx:(b0 (aJ:=.str) (aL:=.aM) (c3 L) nm).getD (cK .aM)=some bO.ad:=by rw[jP,aw];rfl
 refine aW [2] Tryz.func86 rfl rfl rfl rfl ?_;refine⟨rfl,rfl,rfl,bz [] (aH) ?_⟩;refine⟨fun dZ O=>?_,fun O=>absurd (show(b0 (aJ:=.str) (aL:=.aM) (c3 L) nm).getD (cK .aM)=none from O) (by rw[hx];intro h;cases h)⟩;refine⟨_,_,fun N=>iY (b:=bO.ad) rfl (by exact nY hx) N,rfl,?_⟩;refine⟨_,_,fun N=>jb rfl Tryz.underlying86 rfl rfl gb (by rw[gc];decide) rfl N,rfl,?_⟩;refine⟨_,_,fun N=>k8 (q:=1003) rfl Tryz.underlying43 rfl rfl rfl cW rfl N,rfl,?_⟩;refine au (Fn.aX [(8001,1001),(8002,1002),(8003,1003),(8004,1004),(8005,3),(8006,4)] hf) ?_;exact aT aH rfl rfl ac rfl
theorem Su (z U:Int) (L L':List aO) (nm:List UInt8) (a:Int) (bs:List UInt8) (r:Int)
  (h:Fn Tryz.prog 86 [ao 1001,bV nm,.c (.one (.cT 87 [.p 3001 0,.p 3002 0]))] (bP z U L++lh (.int .i64 a) (.ck .u8 bs)) [] (ae r) (bP z U L'++lh (.int .i64 a) (.ck .u8 bs))):
  Fn Tryz.prog 48 [ao 1001,bV nm,ae a,bS .u8 bs] (bP z U L) [] (ae r) (bP z U L'):=by
 refine aW [] Tryz.func48 rfl rfl rfl rfl ?_;refine⟨rfl,rfl,au (Fn.aX [(3001,6),(3002,7)] h) ?_⟩;exact aT aH rfl rfl ac rfl
theorem Sv (z U:Int) (L L':List aO) (nm:List UInt8) (a l:Int) (r:Int)
  (h:Fn Tryz.prog 86 [ao 1001,bV nm,.c (.one (.cT 89 [.p 3001 0,.p 3002 0]))] (bP z U L++lh (.int .i64 a) (.int .i64 l)) [] (ae r) (bP z U L'++lh (.int .i64 a) (.int .i64 l))):
  Fn Tryz.prog 50 [ao 1001,bV nm,ae a,ae l] (bP z U L) [] (ae r) (bP z U L'):=by
 refine aW [] Tryz.func50 rfl rfl rfl rfl ?_;refine⟨rfl,rfl,au (Fn.aX [(3001,6),(3002,7)] h) ?_⟩;exact aT aH rfl rfl ac rfl
theorem Sw (z U:Int) (L L':List aO) (nm:List UInt8) (a l:Int) (r:Int)
  (h:Fn Tryz.prog 86 [ao 1001,bV nm,.c (.one (.cT 91 [.p 3001 0,.p 3002 0]))] (bP z U L++lh (.int .i64 a) (.int .i64 l)) [] (ae r) (bP z U L'++lh (.int .i64 a) (.int .i64 l))):
  Fn Tryz.prog 52 [ao 1001,bV nm,ae a,ae l] (bP z U L) [] (ae r) (bP z U L'):=by
 refine aW [] Tryz.func52 rfl rfl rfl rfl ?_;refine⟨rfl,rfl,au (Fn.aX [(3001,6),(3002,7)] h) ?_⟩;exact aT aH rfl rfl ac rfl
theorem Fn.res {P:Program} {f:FuncId} {args:List aQ} {aK:ay} {bf:List Nat} {res res':aQ} {aP:ay} (h:Fn P f args aK bf res aP) (aq:sZ res res'):Fn P f args aK bf res' aP:=
 ⟨h.1,fun ρ F I w bW b4 ci a3 a4 a5 gw=>(h.2 ρ F I w bW b4 ci a3 a4 a5 gw).mono fun e w' ⟨x,ρ',F',r1,r2,ga,I',jK,lA,l4,lB,mG,nQ⟩=>⟨x,ρ',F',r1,r2,ga,I',jK,lA,l4,lB,mG,vE aq nQ⟩⟩
theorem cv.to {P:Program} {f:FuncId} {args:List aQ} {aK:ay} {bf:List Nat} {X Y:Type} {res:X->aQ} {aP:X->ay} {res':Y->aQ} {nR:Y->ay} (h:cv P f args aK bf res aP) (g:X->Y) (E: ∀x,res x=res' (g x)) (G: ∀x,aP x=nR (g x)):cv P f args aK bf res' nR:=
 ⟨h.1,fun ρ F I w bW b4 ci a3 a4 a5 gw=>(h.2 ρ F I w bW b4 ci a3 a4 a5 gw).mono fun e w' ⟨y,x,ρ',F',r1,r2,ga,I',jK,lA,l4,lB,mG,nQ⟩=>by
  rw[G] at l4 lB mG;rw[E] at nQ;exact⟨g y,x,ρ',F',r1,r2,ga,I',jK,lA,l4,lB,mG,nQ⟩⟩
def zZ (L:List aO):Nat->List UInt8->Nat
 |0,_=>0
 |f+1,nm=>match dk L nm with
  |none=>0
  |some d=>if d.back=[] then 0 else zZ L f d.back+1
def fi (L:List aO) (nm:List UInt8):Nat:=zZ L 100 nm
theorem afW {L:List aO} {nm:List UInt8} {k:Nat} (h:eP L nm k): ∀f,k<=f->zZ L f nm=k:=by
 induction h with
 |gone h=>
  intro f _
  cases f with
  |zero=>rfl
  |succ f=>unfold zZ;rw[h]
 |base E G=>
  intro f _
  cases f with
  |zero=>rfl
  |succ f=>unfold zZ;rw[E];simp only;rw[if_pos G]
 |step E G _ br=>
  intro f hf
  cases f with
  |zero=>omega
  |succ f=>unfold zZ;rw[E];simp only;rw[if_neg G,br f au5]
theorem Lb {L:List aO} {nm:List UInt8} {k:Nat} (h:eP L nm k) (ab:k<=100):fi L nm=k:=afW h 100 ab
structure cE (z U:Nat) (L:List aO):Prop extends nd z U L where
 wh:KZ L
 CF: ∀d,d∈L->gp d.nm=true
theorem CG {s:List UInt8} (h:gp s=true):1<=s.length/\s.length<=15:=by
 unfold gp at h;simp only[vj] at h;exact⟨gd h.1.1,gd h.1.2⟩
section
variable {z U:Nat} {L:List aO}
theorem cE.Sx (h:cE z U L): ∀d,d∈L->d.nm.length<=100000:=fun d J=>by
 have:=CG (h.CF d J);omega
theorem cE.co (h:cE z U L) (nm:List UInt8):eP L nm (fi L nm)/\fi L nm<=8:=by
 cases e:dk L nm with
 |none=>
  have:=eP.gone e;rw[Lb this au5];exact⟨this,au5⟩
 |some d=>
  obtain⟨k,ab,J⟩:=h.so d (c1 e).1;rw[(c1 e).2] at J;rw[Lb J au5];exact⟨J,ab⟩
theorem cE.nil (E:z<=3) (G:U<=512):cE z U []:=
 ⟨⟨⟨at0,at0,at0⟩,E,G,ap7 _,(fun _ h=>by cases h),(fun _ h=>by cases h),(fun _ h=>by cases h),(fun _ h=>by cases h)⟩,(fun _ h=>by cases h),(fun _ h=>by cases h)⟩
theorem z1: ∀{L:List aO},(L.map (·.nm)).Nodup-> ∀{d:aO},d∈L->dk L d.nm=some d
 | [],_,d,h=>by cases h
 |e::L,hn,d,h=>by
  rw[aq4] at hn;obtain⟨cH,dF⟩:=aq7.1 hn;rw[pF];rcases ap3.1 h with rfl |h
  .rw[if_pos rfl]
  .rw[if_neg fun x=>cH (by rw[x];exact aq6 (f:=fun d:aO=>d.nm) h),z1 dF h]
theorem F9 (hn:(L.map (·.nm)).Nodup) {nm:List UInt8} {d:aO} (h:dk L nm=some d) (ag:d.cP=none):d9 L nm d.im none=L:=by
 unfold d9;refine(ar1 fun e V=>?_).trans (List.map_id' L);unfold hW
 split
 .rename_i c;have:=z1 hn V;rw[c,h] at this;injection this with this
  subst this;rw[<-ag]
 .rfl
theorem cE.d9 (h:cE z U L) {nm:List UInt8} {bO:aO} (aw:dk L nm=some bO) {im:bL} (ax:jd bO.im im):cE z U (d9 L nm im none):=by
 refine⟨h.tond.d9 aw ax none,fun d J=>?_,fun d J=>?_⟩
 .obtain⟨e,V,rfl⟩:=ar2.1 J;unfold hW
  split
  .rfl
  .exact h.wh e V
 .obtain⟨e,V,rfl⟩:=ar2.1 J;rw[zW];exact h.CF e V
end
structure pH where
 e:Int
 L:List aO
def hG (z:Nat) (L:List aO) (nm:List UInt8) (a:Int) (bs:List UInt8):pH:=match dk L nm with
 |none=>⟨140,L⟩
 |some d=>if bs.length % 16≠0 then⟨1,L⟩ else if eh d.im a ((bs.length/16:Nat):Int)≠0 then⟨eh d.im a ((bs.length/16:Nat):Int),L⟩ else
  ⟨RG d.im a.toNat (bs.length/16),d9 L nm (FQ d.im a.toNat (bs.length/16) bs (qo z L nm (fi L nm))) none⟩
def ma (z:Nat) (L:List aO) (nm:List UInt8) (a l:Int):pH:=match dk L nm with
 |none=>⟨140,L⟩
 |some d=>if eh d.im a l≠0 then⟨eh d.im a l,L⟩ else
  ⟨RL d.im a.toNat l.toNat,d9 L nm (FR d.im a.toNat l.toNat (qo z L nm (fi L nm))) none⟩
def mN (L:List aO) (nm:List UInt8) (a l:Int):pH:=match dk L nm with
 |none=>⟨140,L⟩
 |some d=>if eh d.im a l≠0 then⟨eh d.im a l,L⟩ else⟨0,d9 L nm (RH d.im a.toNat l.toNat) none⟩
theorem wi {s:bL} {a l:Int} (h:eh s a l=0):a=((a.toNat:Nat):Int)/\l=((l.toNat:Nat):Int):=by
 unfold eh at h
 split at h
 .cases h
 .split at h
  .cases h
  .omega
section
variable {z U:Nat} {L:List aO}
theorem afX (h:cE z U L) (nm:List UInt8) (a l:Int):cE z U (mN L nm a l).L:=by
 unfold mN
 cases aw:dk L nm with
 |none=>exact h
 |some d=>
  simp only
  split
  .exact h
  .rename_i G;have G:eh d.im a l=0:=Decidable.byContradiction G;obtain⟨aj,ap⟩:=wi G;rw[aj,ap] at G;exact h.d9 aw (Cs (h.hh d (c1 aw).1).1 (sn G) _ (ap0 _)).fG
theorem Sy (h:cE z U L) {nm:List UInt8} {bO:aO} (aw:dk L nm=some bO) (bE:Nat->Nat):KF bO.im (ss z U L nm bO.am bE) (bE 8005) (bE 8006) (qo z L nm (fi L nm)):=fun s' ax c H aR=>by
 have J:=h.co nm;exact afO z U L h.tond nm bO aw (fi L nm) J.1 au5 s' ax bE c H aR
theorem Lc (h:cE z U L) (nm:List UInt8) (a:Int) (bs:List UInt8) (hb:bs.length<=1000000000):
  Fn Tryz.prog 48 [ao 1001,bV nm,ae a,bS .u8 bs] (bP z U L) [] (ae (hG z L nm a bs).e) (bP z U (hG z L nm a bs).L):=by
 unfold hG
 cases aw:dk L nm with
 |none=>exact Su z U L L nm a bs 140 (K5 z U L nm aw _ _ _)
 |some d=>
  have ag:=h.wh d (c1 aw).1;have ai:=(h.hh d (c1 aw).1).1
  have key: ∀(r:Int) (s':bL),(∀bE:Nat->Nat,Fn Tryz.prog 88 [ao 1001,ae a,bS .u8 bs,nb (bE 8005) (bE 8006)] (fX d.im (ss z U L nm d.am bE)) [] (ae r) (fX s' (ss z U L nm d.am bE)))->
    Fn Tryz.prog 48 [ao 1001,bV nm,ae a,bS .u8 bs] (bP z U L) [] (ae r) (bP z U (d9 L nm s' none)):=fun r s' aI=>
   Su z U L _ nm a bs r (La z U L _ h.tohU nm d aw _ r _ _ (afT z U L h.tohU nm d aw ag a bs r s' aI))
  simp only
  split
  .rename_i E;have:=key 1 d.im fun bE=>ad7 d.im _ _ _ a bs E hb
   rwa[F9 h.ik aw ag] at this
  .rename_i E;have E:bs.length=16*(bs.length/16):=by omega
   split
   .rename_i G;have:=key _ d.im fun bE=>ad8 d.im _ _ _ ai a _ bs E au5 G
    rwa[F9 h.ik aw ag] at this
   .rename_i G;have G:eh d.im a ((bs.length/16:Nat):Int)=0:=Decidable.byContradiction G;have e:=(wi G).1;have al:=G;rw[e] at al;refine key _ _ fun bE=>?_
    have:=ael d.im _ _ _ ai a.toNat _ bs E al _ (Sy h aw bE)
    rwa[<-e] at this
theorem Sz (h:cE z U L) (nm:List UInt8) (a l:Int):
  Fn Tryz.prog 50 [ao 1001,bV nm,ae a,ae l] (bP z U L) [] (ae (ma z L nm a l).e) (bP z U (ma z L nm a l).L):=by
 unfold ma
 cases aw:dk L nm with
 |none=>exact Sv z U L L nm a l 140 (K5 z U L nm aw _ _ _)
 |some d=>
  have ag:=h.wh d (c1 aw).1;have ai:=(h.hh d (c1 aw).1).1
  have key: ∀(r:Int) (s':bL),(∀bE:Nat->Nat,Fn Tryz.prog 90 [ao 1001,ae a,ae l,nb (bE 8005) (bE 8006)] (fX d.im (ss z U L nm d.am bE)) [] (ae r) (fX s' (ss z U L nm d.am bE)))->
    Fn Tryz.prog 50 [ao 1001,bV nm,ae a,ae l] (bP z U L) [] (ae r) (bP z U (d9 L nm s' none)):=fun r s' aI=>
   Sv z U L _ nm a l r (La z U L _ h.tohU nm d aw _ r _ _ (afU z U L h.tohU nm d aw ag a l r s' aI))
  simp only
  split
  .rename_i G;have:=key _ d.im fun bE=>aer d.im _ _ _ ai a l G
   rwa[F9 h.ik aw ag] at this
  .rename_i G;have G:eh d.im a l=0:=Decidable.byContradiction G;obtain⟨aj,ap⟩:=wi G;have al:=G;rw[aj,ap] at al;refine key _ _ fun bE=>?_
   have:=aep d.im _ _ _ ai a.toNat l.toNat al _ (Sy h aw bE)
   rwa[<-aj,<-ap] at this
theorem SA (h:cE z U L) (nm:List UInt8) (a l:Int):
  Fn Tryz.prog 52 [ao 1001,bV nm,ae a,ae l] (bP z U L) [] (ae (mN L nm a l).e) (bP z U (mN L nm a l).L):=by
 unfold mN
 cases aw:dk L nm with
 |none=>exact Sw z U L L nm a l 140 (K5 z U L nm aw _ _ _)
 |some d=>
  have ag:=h.wh d (c1 aw).1;have ai:=(h.hh d (c1 aw).1).1
  have key: ∀(r:Int) (s':bL),Fn Tryz.prog 92 [ao 1001,ae a,ae l] (dx d.im) [] (ae r) (dx s')->
    Fn Tryz.prog 52 [ao 1001,bV nm,ae a,ae l] (bP z U L) [] (ae r) (bP z U (d9 L nm s' none)):=fun r s' aI=>
   Sw z U L _ nm a l r (La z U L _ h.tohU nm d aw _ r _ _ (afV z U L h.tohU nm d aw ag a l r s' aI))
  simp only
  split
  .rename_i G;have:=key _ d.im (ad' d.im ai a l G)
   rwa[F9 h.ik aw ag] at this
  .rename_i G;have G:eh d.im a l=0:=Decidable.byContradiction G;obtain⟨aj,ap⟩:=wi G;have al:=G;rw[aj,ap] at al;have:=aen d.im ai a.toNat l.toNat al;rw[<-aj,<-ap] at this;exact key _ _ this
def z2 (z:Nat) (L:List aO) (nm:List UInt8) (a l:Int):List UInt8×Int:=match dk L nm with
 |none=>([],140)
 |some d=>if eh d.im a l=0 then(rt z L nm (fi L nm) a.toNat l.toNat,0) else([],eh d.im a l)
theorem afY (h:cE z U L) (nm:List UInt8) (a l:Int):
  Fn Tryz.prog 45 [ao 1001,bV nm,ae a,ae l] (bP z U L) [] (.ce [.one (.d (.ck .u8 (z2 z L nm a l).1)),dw (z2 z L nm a l).2]) (bP z U L):=by
 unfold z2
 cases aw:dk L nm with
 |none=>exact(aeU z U L nm aw a l).res ac
 |some d=>
  simp only
  split
  .rename_i G;obtain⟨aj,ap⟩:=wi G;have al:=G;rw[aj,ap] at al;have J:=h.co nm;have:=aeT z U L h.tond nm d aw (fi L nm) J.1 au5 a.toNat l.toNat al
   rwa[<-aj,<-ap] at this
  .rename_i G;exact(aeV z U L h.tond nm d aw a l G).res ac
def fw (L:List aO) (nm:List UInt8):List UInt8×Int:=match dk L nm with
 |none=>([],140)
 |some d=>(d.back,0)
theorem Ga (h:cE z U L) (nm:List UInt8):Fn Tryz.prog 16 [ao 1001,bV nm] (bP z U L) [] (.ce [.one (.d (.str (fw L nm).1)),dw (fw L nm).2]) (bP z U L):=by
 unfold fw
 cases aw:dk L nm with
 |none=>exact aey z U L nm aw
 |some d=>exact aex z U L h.tohU nm d aw
theorem SB (h:cE z U L) (nm:List UInt8):Fn Tryz.prog 95 [ao 1001,bV nm] (bP z U L) [] (bS .str (oW L nm)) (bP z U L):=ae3 z U L h.tohU h.Sx (by have:=h.len;omega) nm
def h7 (z U:Nat) (L:List aO) (nm:List UInt8) (size:Int) (back:List UInt8) (p:Nat×Nat):pH:=
 if(gp nm&&kq z size U)=false then⟨1,L⟩ else if(dk L nm).isSome=true\/16<=L.length then⟨143,L⟩ else if(decide (back=[])||(dk L back).isSome)=false then⟨140,L⟩
 else if back≠[]/\8 < fi L back+1 then⟨142,L⟩ else⟨0,ng L nm back p.1 p.2 (hF z size.toNat U)⟩
theorem afZ (L M:List aO) (nm:List UInt8):dk (L++M) nm=(dk L nm).or (dk M nm):=by
 unfold dk;rw[List.find?_append]
theorem Gb {nm back:List UInt8} {ad am:Nat} {im:bL} (n:List UInt8):dk (ng L nm back ad am im) n=(dk L n).or (if nm=n then some ⟨nm,back,ad,am,im,none⟩ else none):=by
 show dk (L++_) n=_;rw[afZ,pF];rfl
theorem af0 {L':List aO} (ab: ∀n d,dk L n=some d-> ∃cZ,dk L' n=some cZ/\cZ.back=d.back) (iN: ∀d,d∈L->d.back≠[]-> ∃e,dk L d.back=some e) {n:List UInt8} {k:Nat} (h:eP L n k):(∃d,dk L n=some d)->eP L' n k:=by
 induction h with
 |gone h=>rintro⟨d,J⟩;rw[h] at J;cases J
 |base E G=>
  intro _;obtain⟨cZ,aj,ap⟩:=ab _ _ E;exact .base aj (by rw[ap];exact G)
 |step E G al br=>
  intro _;obtain⟨cZ,aj,ap⟩:=ab _ _ E;exact .step aj (by rw[ap];exact G) (by rw[ap];exact br (iN _ (c1 E).1 G))
theorem af1 {z size U:Int} (h:kq z size U=true):(0<=size/\size<=256)/\(0<=U/\U<=512)/\0<=z/\z<=3:=by
 unfold kq at h;simp only[vj,ar5] at h;omega
theorem cE.add (h:cE z U L) {nm back:List UInt8} {size ad am:Nat} (eH:hU (ng L nm back ad am (hF z size U))) (ax:size<=256) (hn:gp nm=true) (aw:dk L nm=none) (nZ:L.length < 16) (O:back=[]\/(dk L back).isSome=true/\fi L back+1<=8):cE z U (ng L nm back ad am (hF z size U)):=by
 have CH: ∀n d,dk L n=some d->dk (ng L nm back ad am (hF z size U)) n=some d:=fun n d J=>by rw[Gb,J];rfl
 have CI:dk (ng L nm back ad am (hF z size U)) nm=some ⟨nm,back,ad,am,hF z size U,none⟩:=by rw[Gb,aw,if_pos rfl];rfl
 have pn: ∀d,d∈ng L nm back ad am (hF z size U)->d∈L\/d=⟨nm,back,ad,am,hF z size U,none⟩:=fun d J=>by
  rcases aq8.1 J with J |J
  .exact .inl J
  .exact .inr (aq0.1 J)
 have mC: ∀n k,(∃d,dk L n=some d)->eP L n k->eP (ng L nm back ad am (hF z size U)) n k:=fun n k J ab=>af0 (fun n d J=>⟨d,CH n d J,rfl⟩) h.il ab J
 refine⟨⟨eH,h.b3,h.uJ,by rw[ap1];exact nZ,fun d J=>?_,fun d J k3=>?_,fun d J=>?_,fun d J=>?_⟩,fun d J=>?_,fun d J=>?_⟩
 .rcases pn d J with J |rfl
  .exact h.hh d J
  .exact⟨aes h.b3 ax h.uJ,rfl,as7 ..⟩
 .rcases pn d J with J |rfl
  .obtain⟨e,V⟩:=h.il d J k3;exact⟨e,CH _ _ V⟩
  .rcases O with O |⟨O,_⟩
   .exact absurd O k3
   .obtain⟨e,V⟩:=as8.1 O;exact⟨e,CH _ _ V⟩
 .rcases pn d J with J |rfl
  .exact h.ne d J
  .intro e;have:=(CG hn).1;have e:nm=[]:=e;rw[e] at this;exact absurd this au6
 .rcases pn d J with J |rfl
  .obtain⟨k,ab,CJ⟩:=h.so d J;exact⟨k,ab,mC _ _ ⟨d,z1 h.ik J⟩ CJ⟩
  .by_cases z6:back=[]
   .exact⟨0,ap7 _,.base CI z6⟩
   .rcases O with O |⟨O,af2⟩
    .exact absurd O z6
    .exact⟨fi L back+1,af2,.step CI z6 (mC _ _ (as8.1 O) (h.co back).1)⟩
 .rcases pn d J with J |rfl
  .exact h.wh d J
  .rfl
 .rcases pn d J with J |rfl
  .exact h.CF d J
  .exact hn
theorem af3 (h:cE z U L) (nm:List UInt8) (size:Int) (back:List UInt8) (aq:nm.length<=4294967296):
  cv Tryz.prog 18 [ao 1001,bV nm,ae size,bV back] (bP z U L) [] (X:={p:Nat×Nat//cE z U (h7 z U L nm size back p).L}) (fun p=>ae (h7 z U L nm size back p.1).e) (fun p=>bP z U (h7 z U L nm size back p.1).L):=by
 have Gc: ∀e:Int,(∀p,h7 z U L nm size back p=⟨e,L⟩)->Fn Tryz.prog 18 [ao 1001,bV nm,ae size,bV back] (bP z U L) [] (ae e) (bP z U L)->
   cv Tryz.prog 18 [ao 1001,bV nm,ae size,bV back] (bP z U L) [] (X:={p:Nat×Nat//cE z U (h7 z U L nm size back p).L}) (fun p=>ae (h7 z U L nm size back p.1).e) (fun p=>bP z U (h7 z U L nm size back p.1).L):=fun e V hf=>
  hf.x.to (fun _=>⟨(0,0),by rw[V];exact h⟩) (fun _=>by rw[V]) (fun _=>by rw[V])
 by_cases E:(gp nm&&kq z size U)=false
 .exact Gc 1 (fun p=>if_pos E) (afn z U size L nm back aq E)
 have s7:gp nm=true/\kq z size U=true:=by
  rw[Bool.not_eq_false,vj] at E;exact E
 obtain⟨⟨cD,kN⟩,_⟩:=af1 s7.2;obtain⟨ec,rfl⟩: ∃n:Nat,size=(n:Int):=⟨size.toNat,au5⟩;have ax:ec<=256:=by omega
 by_cases G:(dk L nm).isSome=true\/16<=L.length
 .exact Gc 143 (fun p=>(if_neg E).trans (if_pos G)) (afo z ec U h.b3 ax h.uJ L nm back aq s7.1 G)
 have aw:dk L nm=none:=by
  cases e:dk L nm with
  |none=>rfl
  |some d=>exact absurd (.inl (by rw[e];rfl)) G
 have nZ:L.length < 16:=by
  rcases Nat.lt_or_ge L.length 16 with bl |bl
  .exact bl
  .exact absurd (.inr bl) G
 by_cases al:(decide (back=[])||(dk L back).isSome)=false
 .exact Gc 140 (fun p=>(if_neg E).trans ((if_neg G).trans (if_pos al))) (afp z ec U h.b3 ax h.uJ L nm back aq s7.1 aw nZ al)
 have J:=h.co back
 by_cases aZ:back≠[]/\8 < fi L back+1
 .have O:(dk L back).isSome=true:=by
   rw[Bool.not_eq_false,Bool.or_eq_true] at al;exact al.resolve_left fun e=>aZ.1 (gd e)
  exact Gc 142 (fun p=>(if_neg E).trans ((if_neg G).trans ((if_neg al).trans (if_pos aZ)))) (afq z ec U h.b3 ax h.uJ L h.tohU nm back aq s7.1 aw nZ aZ.1 O _ J.1 au5 aZ.2)
 have O:back=[]\/(dk L back).isSome=true/\fi L back+1<=8:=by
  by_cases e:back=[]
  .exact .inl e
  .rw[Bool.not_eq_false,Bool.or_eq_true] at al;have iS: ¬8 < fi L back+1:=fun x=>aZ ⟨e,x⟩
   exact .inr ⟨al.resolve_left fun x=>e (gd x),au5⟩
 have aY: ∀p,h7 z U L nm (ec:Int) back p=⟨0,ng L nm back p.1 p.2 (hF z ec U)⟩:=fun p=>(if_neg E).trans ((if_neg G).trans ((if_neg al).trans (if_neg aZ)))
 exact(afl z ec U h.b3 ax h.uJ L h.tohU h.wh nm back aq s7.1 aw nZ (fi L back) (O.imp id fun x=>⟨x.1,J.1,x.2⟩)).to (fun p=>⟨p.1,by rw[aY];exact h.add p.2 ax s7.1 aw nZ O⟩) (fun p=>by rw[aY]) (fun p=>by rw[aY])
theorem Gd {nm n:List UInt8} (ba:n≠nm): ∀L:List aO,dk (pE L nm) n=dk L n
 | []=>rfl
 |d::L=>by
  unfold pE
  by_cases c:d.nm=nm
  .rw[if_pos c,pF,if_neg fun e=>ba (e.symm.trans c)]
  .rw[if_neg c,pF,pF,Gd ba L]
theorem af4 (h:cE z U L) {nm:List UInt8} (ba:nm≠[]) {d:aO} (J:d∈L):d.nm∈oW L nm↔d.back=nm:=by
 unfold oW;rw[at5]
 have aA:d.nm∈lg L:=by
  unfold lg nf;rw[List.mem_mergeSort,zS];exact aq6 J
 unfold lH;rw[z1 h.ik J,ar8 ba];simp[aA]
theorem cE.k6 (h:cE z U L) {nm:List UInt8} {bO:aO} (aw:dk L nm=some bO) (a8:oW L nm=[]):cE z U (pE L nm):=by
 have p5:nm≠[]:=by rw[<-(c1 aw).2];exact h.ne bO (c1 aw).1
 have e4: ∀d,d∈L->d.back≠nm:=fun d J e=>by
  have:=(af4 h p5 J).2 e;rw[a8] at this
  cases this
 have CH: ∀d,d∈L->d.back≠[]->dk (pE L nm) d.back=dk L d.back:=fun d J _=>Gd (e4 d J) L
 have eH:=h.tohU.k6 nm
 have tg: ∀d,d∈pE L nm->d.nm≠nm:=fun d J e=>by
  have key: ∀{M:List aO},(M.map (·.nm)).Nodup->d∈pE M nm->d.nm=nm->(∃e,dk M nm=some e)->False:=by
   intro M
   induction M with
   |nil=>intro _ J _ _;cases J
   |cons x M br=>
    intro hn J e hx;rw[aq4] at hn;obtain⟨cH,dF⟩:=aq7.1 hn;unfold pE at J
    by_cases c:x.nm=nm
    .rw[if_pos c] at J;exact cH (by rw[c,<-e];exact aq6 (f:=fun d:aO=>d.nm) J)
    .rw[if_neg c] at J;rcases ap3.1 J with rfl |J
     .exact c e
     .refine br dF J e ?_;obtain⟨y,aC⟩:=hx;rw[pF,if_neg c] at aC;exact⟨y,aC⟩
  exact key h.ik J e ⟨bO,aw⟩
 have CJ: ∀{n:List UInt8} {k:Nat},eP L n k->n≠nm->(∃d,dk L n=some d)->eP (pE L nm) n k:=by
  intro n k bl
  induction bl with
  |gone a6=>rintro _ ⟨d,J⟩;rw[a6] at J;cases J
  |base E G=>intro ba _;exact .base (by rw[Gd ba];exact E) G
  |step E G al br=>intro ba _;exact .step (by rw[Gd ba];exact E) G (br (e4 _ (c1 E).1) (h.il _ (c1 E).1 G))
 refine⟨⟨eH,h.b3,h.uJ,as9 (F0 L nm).length_le h.len,fun d J=>h.hh d (we J),fun d J O=>?_,fun d J=>h.ne d (we J),fun d J=>?_⟩,fun d J=>h.wh d (we J),fun d J=>h.CF d (we J)⟩
 .rw[CH d (we J) O];exact h.il d (we J) O
 .obtain⟨k,ab,bl⟩:=h.so d (we J);exact⟨k,ab,CJ bl (tg d J) ⟨d,z1 h.ik (we J)⟩⟩
def kv (L:List aO) (nm back:List UInt8):pH:=
 if(dk L nm).isSome=false\/(decide (back=[])||(dk L back).isSome)=false then⟨140,L⟩ else if nm=back\/nm∈ey L (fi L back) back then⟨141,L⟩
 else if∀n∈lg L,fi (fe L nm back) n<=8 then⟨0,fe L nm back⟩ else⟨142,L⟩
theorem CK {nm back:List UInt8} {d:aO} (h:d.nm≠nm):gq nm back d=d:=by unfold gq;rw[if_neg h]
theorem SC {nm back:List UInt8} {d:aO} (h:d.nm=nm):(gq nm back d).back=back:=by unfold gq;rw[if_pos h]
theorem af5 {nm back:List UInt8} {n:List UInt8} {k:Nat} (h:eP L n k):n≠nm->nm∉ey L k n->eP (fe L nm back) n k:=by
 induction h with
 |gone h=>intro _ _;exact .gone (by rw[sq,h];rfl)
 | @base n d E G=>
  intro ba _;have e:=(c1 E).2;exact .base (d:=d) (by rw[sq,E];show some (gq nm back d)=_;rw[CK (by rw[e];exact ba)]) G
 | @step n d k E G al br=>
  intro ba O;have e:=(c1 E).2;unfold ey at O;rw[E] at O;simp only[ap3,not_or] at O;exact .step (d:=d) (by rw[sq,E];show some (gq nm back d)=_;rw[CK (by rw[e];exact ba)]) G (br (fun x=>O.1 x.symm) O.2)
theorem af6 {nm back:List UInt8} {k:Nat} (b9:eP L back k) (E:nm≠back) (G:nm∉ey L k back) {n:List UInt8} {j:Nat} (h:eP L n j): ∃i,i<=j+k+1/\eP (fe L nm back) n i:=by
 have B2:eP (fe L nm back) back k:=af5 b9 (Ne.symm E) G
 have CI: ∀d,dk L nm=some d-> ∃i,i<=k+1/\eP (fe L nm back) nm i:=fun d J=>by
  have e:dk (fe L nm back) nm=some (gq nm back d):=by rw[sq,J];rfl
  have Cu:=SC (back:=back) (c1 J).2
  by_cases O:back=[]
  .exact⟨0,ap7 _,.base e (by rw[Cu];exact O)⟩
  .exact⟨k+1,ap0 _,.step e (by rw[Cu];exact O) (by rw[Cu];exact B2)⟩
 induction h with
 |gone h=>exact⟨0,ap7 _,.gone (by rw[sq,h];rfl)⟩
 | @base n d g1 g2=>
  have e:=(c1 g1).2
  by_cases c:n=nm
  .subst c;obtain⟨i,aI,J⟩:=CI d g1;exact⟨i,au5,J⟩
  .exact⟨0,ap7 _,.base (d:=d) (by rw[sq,g1];show some (gq nm back d)=_;rw[CK (by rw[e];exact c)]) g2⟩
 | @step n d j g1 g2 cX br=>
  have e:=(c1 g1).2
  by_cases c:n=nm
  .subst c;obtain⟨i,aI,J⟩:=CI d g1;exact⟨i,au5,J⟩
  .obtain⟨i,aI,J⟩:=br;exact⟨i+1,au5,.step (d:=d) (by rw[sq,g1];show some (gq nm back d)=_;rw[CK (by rw[e];exact c)]) g2 J⟩
theorem cE.SD (h:cE z U L) {nm back:List UInt8} (E:nm≠back) (G:nm∉ey L (fi L back) back) (n:List UInt8):eP (fe L nm back) n (fi (fe L nm back) n)/\fi (fe L nm back) n<=20:=by
 have O:=h.co back;have hn:=h.co n;obtain⟨i,aI,J⟩:=af6 O.1 E G hn.1;rw[Lb J au5];exact⟨J,au5⟩
theorem SE {nm back:List UInt8} (h: ¬((dk L nm).isSome=false\/(decide (back=[])||(dk L back).isSome)=false)):(∃d,dk L nm=some d)/\(decide (back=[])||(dk L back).isSome)=true:=by
 constructor
 .cases e:dk L nm with
  |none=>exact absurd (.inl (by rw[e];rfl)) h
  |some d=>exact⟨d,rfl⟩
 .cases e:(decide (back=[])||(dk L back).isSome) with
  |false=>exact absurd (.inr e) h
  |true=>rfl
theorem cE.set (h:cE z U L) {nm back:List UInt8} (ab:(decide (back=[])||(dk L back).isSome)=true) (E:nm≠back) (G:nm∉ey L (fi L back) back) (iS: ∀n∈lg L,fi (fe L nm back) n<=8):cE z U (fe L nm back):=by
 have key: ∀d,d∈fe L nm back-> ∃e,e∈L/\gq nm back e=d:=fun d J=>by
  obtain⟨e,V,rfl⟩:=ar2.1 J;exact⟨e,V,rfl⟩
 refine⟨⟨h.tohU.fe nm back,h.b3,h.uJ,by unfold fe;rw[aq3];exact h.len,fun d J=>?_,fun d J O=>?_,fun d J=>?_,fun d J=>?_⟩,fun d J=>?_,fun d J=>?_⟩
 .obtain⟨e,V,rfl⟩:=key d J;rw[Sa];exact h.hh e V
 .obtain⟨e,V,rfl⟩:=key d J
  have il: ∃x,dk L (gq nm back e).back=some x:=by
   by_cases c:e.nm=nm
   .rw[SC c] at O⊢;rw[Bool.or_eq_true] at ab;exact as8.1 (ab.resolve_left fun x=>O (gd x))
   .rw[CK c] at O⊢;exact h.il e V O
  obtain⟨x,hx⟩:=il;exact⟨gq nm back x,by rw[sq,hx];rfl⟩
 .obtain⟨e,V,rfl⟩:=key d J;rw[xX];exact h.ne e V
 .obtain⟨e,V,rfl⟩:=key d J;rw[xX]
  have aA:e.nm∈lg L:=by
   unfold lg nf;rw[List.mem_mergeSort,zS];exact aq6 V
  exact⟨_,iS _ aA,(h.SD E G e.nm).1⟩
 .obtain⟨e,V,rfl⟩:=key d J;rw[Sb];exact h.wh e V
 .obtain⟨e,V,rfl⟩:=key d J;rw[xX];exact h.CF e V
theorem af7 (h:cE z U L) (nm back:List UInt8):cE z U (kv L nm back).L:=by
 unfold kv
 split
 .exact h
 .rename_i E
  split
  .exact h
  .rename_i G
   split
   .rename_i al;exact h.set (SE E).2 (fun e=>G (.inl e)) (fun e=>G (.inr e)) al
   .exact h
theorem af8 (h:cE z U L) (nm back:List UInt8):Fn Tryz.prog 299 [ao 1001,bV nm,bV back] (bP z U L) [] (ae (kv L nm back).e) (bP z U (kv L nm back).L):=by
 have J:=h.co back
 by_cases E:(dk L nm).isSome=false\/(decide (back=[])||(dk L back).isSome)=false
 .rw[show kv L nm back=⟨140,L⟩ from if_pos E];exact afs z U L nm back E
 obtain⟨⟨d,jL⟩,ab⟩:=SE E
 by_cases G:nm=back\/nm∈ey L (fi L back) back
 .rw[show kv L nm back=⟨141,L⟩ from(if_neg E).trans (if_pos G)];exact aft z U L h.tohU nm back d jL ab _ J.1 au5 G
 have fp:=fun n=>h.SD (back:=back) (fun e=>G (.inl e)) (fun e=>G (.inr e)) n
 refine afz z U L h.tohU h.Sx (by have:=h.len;omega) nm back d jL ab _ J.1 au5 G (fun n=>fi (fe L nm back) n) (fun n _=>⟨(fp n).1,by have:=(fp n).2;omega⟩) _ _ (fun bl=>?_) (fun bl=>?_)
 .rw[show kv L nm back=⟨0,fe L nm back⟩ from(if_neg E).trans ((if_neg G).trans (if_pos bl))];exact⟨rfl,rfl⟩
 .have e4: ¬ ∀n∈lg L,fi (fe L nm back) n<=8:=fun eB=>by
   obtain⟨n,hn,iS⟩:=bl;have:=eB n hn;omega
  rw[show kv L nm back=⟨142,L⟩ from(if_neg E).trans ((if_neg G).trans (if_neg e4))];exact⟨rfl,rfl⟩
end
end
section
section
variable {z U:Nat} {L:List aO}
def hH (z:Nat) (L:List aO) (nm:List UInt8) (k:Int):List UInt8:=match dk L nm with
 |none=>[]
 |some d=>if 0<=k/\k < (d.im.t.length:Nat) then pC z L nm (fi L nm) k.toNat else[]
theorem Ld (h:cE z U L) (nm:List UInt8) (k:Int):Fn Tryz.prog 81 [ao 1001,bV nm,ae k] (bP z U L) [] (bS .u8 (hH z L nm k)) (bP z U L):=by
 unfold hH
 cases aw:dk L nm with
 |none=>
  have hx:(b0 (aJ:=.str) (aL:=.aM) (c3 L) nm).getD (cK .aM)=none:=by rw[jP,aw];rfl
  simp only;refine aW [2,4] Tryz.func81 rfl rfl rfl rfl ?_;refine bz [4] (aH) ?_;refine⟨fun dZ O=>absurd (show(b0 (aJ:=.str) (aL:=.aM) (c3 L) nm).getD (cK .aM)=some dZ from O) (by rw[hx];intro h;cases h),fun _=>?_⟩;exact aT aH rfl rfl ac rfl
 |some bO=>
  simp only
  split
  .rename_i ab;have J:=h.co nm;have:=KN z U L h.tond nm bO aw (fi L nm) J.1 au5 k.toNat au5
   rwa[show((k.toNat:Nat):Int)=k by omega] at this
  .rename_i ab;obtain⟨oU,gb,gc⟩:=j5 xQ;have lG:=h.tohU.D (c1 aw).1;have fv:=h.tohU.M (c1 aw).1;have hx:(b0 (aJ:=.str) (aL:=.aM) (c3 L) nm).getD (cK .aM)=some bO.ad:=by rw[jP,aw];rfl
   refine aW [2,4] Tryz.func81 rfl rfl rfl rfl ?_;refine bz [4] (aH) ?_;refine⟨fun dZ O=>?_,fun O=>absurd (show(b0 (aJ:=.str) (aL:=.aM) (c3 L) nm).getD (cK .aM)=none from O) (by rw[hx];intro h;cases h)⟩;refine⟨fun _=>?_,fun E=>?_⟩
   .exact aT aH rfl rfl ac rfl
   have E: ¬k < 0:=mu E;refine⟨_,_,fun N=>iY (b:=bO.ad) rfl (by exact nY hx) N,rfl,?_⟩;refine⟨_,_,fun N=>jb rfl Tryz.underlying86 rfl rfl gb (by rw[gc];decide) rfl N,rfl,?_⟩;refine⟨_,_,fun N=>k8 (q:=1003) rfl Tryz.underlying43 rfl rfl rfl lG rfl N,rfl,?_⟩;refine au (hV (na bO.im) fv rfl rfl rfl rfl) ?_;refine⟨fun _=>?_,fun G=>?_⟩
   .exact aT aH rfl rfl ac rfl
   .exfalso;have G: ¬((bO.im.t.length:Nat):Int)<=k:=mu G;omega
end
end
section
section
variable {z U:Nat} {L:List aO}
theorem Le (h:cE z U L) {nm:List UInt8} {k:Nat} (J:eP L nm k) (aw: ∃d,dk L nm=some d): ∀j,j<=k-> ∃e,dk L (eI L j nm)=some e
 |0,_=>aw
 |j+1,aa=>by
  obtain⟨e,V⟩:=Le h J aw j au5;have iR:=FU J j au5;rw[zO,V];simp only;generalize aA:k - j=m at iR
  cases iR with
  |gone a6=>rw[V] at a6;cases a6
  |base _ _=>omega
  |step E G _=>
   rw[V] at E;injection E with E
   subst E;exact h.il e (c1 V).1 G
theorem Lf (h:cE z U L) {nm:List UInt8} {k:Nat} (J:eP L nm k) (aw: ∃d,dk L nm=some d):eI L (k+1) nm=[]:=by
 obtain⟨e,V⟩:=Le h J aw k (ap0 _);have iR:=FU J k (ap0 _);rw[Nat.sub_self] at iR;rw[zO,V];simp only
 cases iR with
 |gone a6=>rw[V] at a6;cases a6
 |base E G=>
  rw[V] at E;injection E with E
  subst E;exact G
theorem af9 (h:cE z U L) {n:List UInt8} (hn: ∃e,dk L n=some e):n≠[]:=by
 obtain⟨e,V⟩:=hn;rw[<-(c1 V).2];exact h.ne e (c1 V).1
end
section
variable {z:Nat} {L:List aO} {c:Nat}
end
section
variable {z U:Nat} {L:List aO}
theorem cE.af' (h:cE z U L) {nm:List UInt8} (aw: ∃d,dk L nm=some d): ∀n,n∈nm::ey L (fi L nm) nm-> ∃e,dk L n=some e:=fun n hn=>by
 rcases ap3.1 hn with rfl |hn
 .exact aw
 .exact KK h.tond (h.co nm).1 n hn
end
def mb (L:List aO) (t:List UInt8) (L':List aO):Prop:=L'=L\/ ∃d im,dk L t=some d/\jd d.im im/\L'=d9 L t im none
section
variable {z U:Nat} {L L':List aO} {t n:List UInt8}
theorem CL (h:cE z U L) (nm:List UInt8) (a:Int) (bs:List UInt8):mb L nm (hG z L nm a bs).L:=by
 unfold hG
 cases aw:dk L nm with
 |none=>exact .inl rfl
 |some d=>
  simp only
  split
  .exact .inl rfl
  .rename_i E
   split
   .exact .inl rfl
   .rename_i G;have G:eh d.im a ((bs.length/16:Nat):Int)=0:=Decidable.byContradiction G;have e:=(wi G).1;rw[e] at G;exact .inr ⟨d,_,aw,aem (h.hh d (c1 aw).1).1 au5 G _,rfl⟩
theorem Lg (h:cE z U L) (nm:List UInt8) (a l:Int):mb L nm (ma z L nm a l).L:=by
 unfold ma
 cases aw:dk L nm with
 |none=>exact .inl rfl
 |some d=>
  simp only
  split
  .exact .inl rfl
  .rename_i G;have G:eh d.im a l=0:=Decidable.byContradiction G;obtain⟨aj,ap⟩:=wi G;rw[aj,ap] at G;exact .inr ⟨d,_,aw,aeq (h.hh d (c1 aw).1).1 G _,rfl⟩
theorem z7 (h:cE z U L) (nm:List UInt8) (a l:Int):mb L nm (mN L nm a l).L:=by
 unfold mN
 cases aw:dk L nm with
 |none=>exact .inl rfl
 |some d=>
  simp only
  split
  .exact .inl rfl
  .rename_i G;have G:eh d.im a l=0:=Decidable.byContradiction G;obtain⟨aj,ap⟩:=wi G;rw[aj,ap] at G;exact .inr ⟨d,_,aw,(Cs (h.hh d (c1 aw).1).1 (sn G) _ (ap0 _)).fG,rfl⟩
theorem mb.cs (h:cE z U L) (aq:mb L t L'):cE z U L':=by
 rcases aq with rfl |⟨d,im,aw,ax,rfl⟩
 .exact h
 .exact h.d9 aw ax
end
end
section
theorem CM: ∀(n:Nat) (l:List Nat),l.Nodup->(∀x,x∈l->x < n)->l.length<=n
 |0,[],_,_=>ap0 _
 |0,x::l,_,h=>absurd (h x (aq1 ..)) (au3 x)
 |n+1,l,hn,h=>by
  have E:(l.erase n).Nodup:=hn.erase n
  have G:=CM n (l.erase n) E fun x hx=>by
   have pk:=(hn.mem_erase_iff).1 hx;have:=h x pk.2;have:=pk.1;omega
  have al:l.length<=(l.erase n).length+1:=by
   rw[List.length_erase]
   split <;>omega
  omega
theorem Lh {α lC:Type} {f:α->lC}: ∀{l:List α},(∀x,x∈l-> ∀y,y∈l->f x=f y->x=y)->l.Nodup->(l.map f).Nodup
 | [],_,_=>at0
 |a::l,aI,hn=>by
  obtain⟨cH,dF⟩:=aq7.1 hn;rw[aq4];refine aq7.2 ⟨fun aA=>?_,Lh (fun x hx y aC=>aI x (ap2 _ hx) y (ap2 _ aC)) dF⟩;obtain⟨y,aC,e⟩:=ar2.1 aA;have:=aI y (ap2 _ aC) a (aq1 ..) e;exact cH (this▸aC)
section
variable {z U:Nat} {L:List aO} {nm:List UInt8}
end
theorem Ge {L:List aO} {nm:List UInt8} {k:Nat} (h:eP L nm k) {i:Nat} (aI:i < k):(ey L k nm)[i]? =some (eI L (i+1) nm):=by
 have E:=FV h i aI;have G:=rs h;rw[List.take_add_one] at E;have al:=List.append_cancel_left E;rw[oj au5] at al⊢;injection al with al
 rw[al]
theorem SF {α:Type} (p:α->Bool): ∀(l:List α) (j:Nat),j<=l.length->(∀i x,i < j->l[i]? =some x->p x=true)->(j=l.length\/ ∃x,l[j]? =some x/\p x=false)->l.takeWhile p=l.take j
 | [],j,aa,_,_=>by
  have:j=0:=by simpa using aa
  subst this;rfl
 |a::l,0,_,_,h=>by
  rcases h with h |⟨x,hx,ag⟩
  .cases h
  .injection hx with hx
   subst hx;rw[List.takeWhile_cons,ag];rfl
 |a::l,j+1,aa,E,G=>by
  have ha:=E 0 a (Nat.succ_pos j) rfl;rw[List.takeWhile_cons,ha];show a::l.takeWhile p=a::l.take j;rw[SF p l j (by simpa using aa) (fun i x aI hx=>E (i+1) x au5 hx) (G.imp (fun e=>by simpa using e) id)]
def nh (L:List aO) (top base:List UInt8):List (List UInt8):=(ey L (fi L top) top).takeWhile fun n=> !decide (n=base)
def n0 (L:List aO) (top base:List UInt8):Bool:=(dk L top).isSome&&(decide (base=[])||decide (base∈ey L (fi L top) top))
def jf (L:List aO) (n:List UInt8) (k:Nat):Bool:=match dk L n with
 |none=>true
 |some d=>decide (d.im.t.length<=k)||decide ((d.im.t.getD k cD).1=0)
def su (L:List aO) (top base:List UInt8) (k:Nat):Bool:=jf L top k&&(nh L top base).any fun n=> !jf L n k
def c4 (L:List aO) (nm:List UInt8):Nat:=match dk L nm with
 |none=>0
 |some d=>d.im.t.length
def sv (L:List aO) (top base:List UInt8):Option Nat:=if n0 L top base=true then(List.range (c4 L top)).find? (su L top base) else none
structure aga where
 done:Bool
 e:Int
 L:List aO
 over:Bool
def iF (z:Nat) (L:List aO) (top base:List UInt8) (over:Bool):aga:=if(over|| !(dk L top).isSome)=true then⟨false,160,L,over⟩ else match sv L top base with
 |some k=>⟨false,(hG z L top ((k*2 ^z:Nat):Int) (hH z L top (k:Int))).e,(hG z L top ((k*2 ^z:Nat):Int) (hH z L top (k:Int))).L,over⟩
 |none=>⟨decide ((kv L top base).e=0),(kv L top base).e,(kv L top base).L,decide ((kv L top base).e=0)⟩
section
variable {z U:Nat} {L:List aO} {nm:List UInt8}
theorem agb (L:List aO) {t n:List UInt8} {d:aO} {im:bL} (J:dk L t=some d) (ax:jd d.im im):c4 (d9 L t im none) n=c4 L n/\(dk (d9 L t im none) n).isSome=(dk L n).isSome:=by
 by_cases e:n=t
 .subst e;unfold c4;rw[F6 J,J];exact⟨ax.eW,rfl⟩
 .unfold c4;rw[Sh e];exact⟨rfl,rfl⟩
end
section
variable {z U:Nat} {L:List aO} {top base:List UInt8}
theorem agc (h:cE z U L) {d:aO} (J:dk L top=some d): ∀n,n∈nh L top base->n≠top/\ ∃e,dk L n=some e:=fun n hn=>by
 have aA:n∈ey L (fi L top) top:=(List.takeWhile_sublist _).mem hn;refine⟨fun e=>?_,h.af' ⟨d,J⟩ n (ap2 _ aA)⟩;rw[e] at aA;exact Sl (h.co top).1 aA
end
end
section
open Go.RowKit Go.Proofs Go.Maps Go.Shelf Go.MapKept
open Go.WideElems (Fit rd rg pl rd_val rd_key rg_of)
def agd {aL:bx} (p:Z ak×Z aL):Int:=p.1
def gR {aL:bx} (es:List (Z ak×Z aL)):List Int:=es.map agd
theorem SG {I:Nat->Prop} {w:World} {aL:bx}: ∀{l:List (Z ak×Z aL)} {es:List MapEntry},ie I w ak aL l es->es.map (·.key)=(gR l).map encZ
 | [],_,h=>by rw[show _=[] from h];rfl
 |p::l,_,⟨e,r,h,E,_,al⟩=>by
  rw[h,aq4,SG al,E];rfl
theorem age {P:Program} {k:TypeId} (ab:P.underlying k=some (.int .i64)) (s:Int) (h:(Lit.int .i64 s).wf=true):keyOf P k (encZ s)=some (.int .i64 s):=by
 simp[keyOf,ab,encZ,mapKey,h]
theorem SH: ∀{l m:List Int},l.map encZ=m.map encZ->l=m
 | [],[],_=>rfl
 | [],_::_,h=>by simp at h
 |_::_,[],h=>by simp at h
 |x::l,y::m,h=>by
  simp only[aq4,List.cons.injEq] at h;rw[encZ_inj h.1,SH h.2]
theorem Li {P:Program} {k:TypeId} (ab:P.underlying k=some (.int .i64)) {I:Nat->Prop} {w:World} {aL:bx} {es:List (Z ak×Z aL)} {bT:List MapEntry} {bU b:Nat} (O:w.heap[b]? =some (.map (List.toArray bT) bU))
  (aA:ie I w ak aL es bT) (c':lX bT bU) (hn:(gR es).Nodup) (aq: ∀s∈gR es,(Lit.int .i64 s).wf=true) (ax:es.length<=maxLen):
  ∃je,w.ownsMap P k pD b es.length je/\Maps.size je=es.length/\(intKeys je).Perm (gR es):=by
 have b6:=AZ aA;have xS:=SG aA
 have Cx: ∀x∈bT,∃s:Int,x.key=encZ s/\rg P k pD x=(.int .i64 s,.nil)/\ ∃y,rd P k pD x=some y:=by
  intro x hx;have:x.key∈(gR es).map encZ:=by rw[<-xS];exact aq6 hx
  obtain⟨s,ag,V⟩:=ar2.1 this;have KR:keyOf P k x.key=some (.int .i64 s):=V▸age ab _ (aq s ag);have tw:rd P k pD x=some (.int .i64 s,.nil):=by simp[rd,KR]
  exact⟨s,V.symm,rg_of tw,_,tw⟩
 have oV:=Go.WideShapes.sorted_perm (bT.map (rg P k pD))
 have h4:(bT.map (rg P k pD)).map (fun p=>Go.intOf p.1)=gR es:=by
  refine SH ?_;rw[<-xS,as2,as2];refine ar1 fun x hx=>?_
  obtain⟨s,aj,ap,_⟩:=Cx x hx;simp[ap,aj,Go.intOf]
 refine⟨.map ((bT.map (rg P k pD)).foldr DataW.insert []),⟨List.toArray bT,bU,O,⟨by simp[b6];exact ax,(stamped_iff _ _).2 ⟨c'.2,c'.1.imp fun h=>by omega,?_⟩,fun x hx=>(Cx x hx).choose_spec.2.2⟩,by simp[b6],rfl⟩,?_,?_⟩
 .have E:(bT.map (·.key)).Pairwise (· ≠ ·):=by
   rw[xS];exact List.pairwise_map.2 (hn.imp fun ba e=>ba (encZ_inj e))
  exact List.pairwise_map.1 E
 .show List.length _=_;rw[oV.length_eq,aq3,b6]
 .show(List.map (fun p=>Go.intOf (Prod.fst p)) _).Perm _;rw[<-h4];exact oV.map _
theorem Lj (es:List (Z ak×Z ak)):Fn Tryz.prog 136 [.c (.one (.mp 1001))] [(1001,.map ak ak es)] [2001] (.c (.one (.cT 178 [.p 2001 0]))) [(2001,.cells [.mp 1001]),(1001,.map ak ak es)]:=by
 refine aW [] Tryz.func136 rfl rfl rfl rfl ?_;refine⟨rfl,?_⟩;exact⟨_,_,_,af.aX 1 2001 rfl,rfl,rfl,ac,rfl⟩
theorem eL.Lk {I D:Nat->Prop} {w:World} {v:Value} {l:List Int} (h:eL D w 1 v l.length (l.map encZ)) (b9: ∀b,b < w.heap.size->D b->I b):cp I w (.b7 ak) l (fun _=>some v):=by
 obtain⟨_,A,c,aw,E,G,al⟩:=h;refine⟨A,c,congrArg some aw,E,G,fun ag=>?_⟩;obtain⟨b,o,eG,O,bw,hx⟩:=al ag;refine⟨b,o,eG,b9 b bw O,fun i x aI=>?_⟩;have:=hx i (encZ x) (by rw[ar0,show l[i]? =some x from aI];rfl);simpa[cp,aS,encZ] using this
theorem SI (es:List (Z ak×Z ak)) (hn:(gR es).Nodup) (aq: ∀s∈gR es,(Lit.int .i64 s).wf=true) (ax:es.length<=4294967296):
  cv Tryz.prog 176 [.c (.one (.cT 178 [.p 2001 0]))] [(2001,.cells [.mp 1001]),(1001,.map ak ak es)] [] (X:={g3:List Int//g3.Perm (gR es)}) (fun g=>bS ak g.1) (fun _=>[(2001,.cells [.mp 1001]),(1001,.map ak ak es)]):=by
 refine⟨au8,fun ρ F I w bW bb cV bj eo b6 dt=>?_⟩
 match bW,b6 with
 | [v],_=>
  obtain⟨aD,az,f2,r,hq,l8,aF⟩:=dt 0 _ v rfl rfl;have aF:r=[]:=aF;have l8:f2= .pointer (some ⟨(ρ 2001).bk,0,none⟩):=l8;subst aF l8 hq az;obtain⟨_,aD,T,gQ,hq⟩:=cV 2001 _ rfl;obtain⟨x,r,hq,hx,aF⟩:=hq;have aF:r=[]:=aF;have hx:x= .map (some (ρ 1001).bk):=hx;subst aF hx hq;obtain⟨_,bT,bU,hc,aA,c'⟩:=cV 1001 _ rfl;have FZ:(4294967296:Nat)<=maxLen:=by decide
  obtain⟨je,du,cQ,oV⟩:=Li (P:=Tryz.prog) (k:=3) au8 hc aA c' hn aq au5;have bw:(ρ 2001).bk < w.heap.size:=k0 gQ
  have uK:SeqGives Fence.wide 2 Tryz.prog 178 #[.pointer (some ⟨(ρ 2001).bk,0,none⟩)] encZ (fun g3=>g3.Perm (intKeys je)) (Maps.size je) w:=
   AnyZI.keys_gives (ρ:=Tryz.J2) {Tryz.QK with} Fence.wide _ trivial rfl au5 (ρ 2001).bk (ρ 1001).bk es.length je w bw (oD gQ rfl) du
  have H:=AnyZI.collect_in Tryz.acE Fence.wide 4 trivial trivial rfl au5 178 #[.pointer (some ⟨(ρ 2001).bk,0,none⟩)] trivial (enters_of Tryz.func178 au8 rfl) _ _ (by rw[cQ];omega) (by rw[cQ];omega) _ uK;refine(callsIn_wide.1 H).mono ?_;rintro e w' ⟨v,g3,rfl,av,fW,xT,gC⟩;have aY:cd I w (fun b=>b < w'.heap.size/\(I b\/w.heap.size<=b)) w':=fun b fM=>⟨⟨Nat.lt_of_lt_of_le (bb b fM) gC.size,.inl fM⟩,gC.block b (bb b fM)⟩
  refine⟨⟨g3,av.trans oV⟩,v,ρ,F,rfl,cJ.mn gC,fun _ _=>rfl,_,aY,fun b h=>⟨h.1,h.2.imp id .inr⟩,fun c ch H=>Holds.cg aY (fun b O=>gC.block b (bj c ch H b O).1) gC.size ch (fun _ _=>rfl) (cV c ch H),fun c ch H b O=>?_,fun c bX ch ch' b E G=>eo c bX ch ch' b E G,?_⟩
  .have:=bj c ch H b O;exact⟨Nat.lt_of_lt_of_le this.1 gC.size,fun h=>(by rcases h.2 with h |h;exact this.2 h;omega),.inl ⟨c,ch,H,O⟩⟩
  .have ho:=eL.qO fW;exact(ho.wR fun i _ aI=>(fW.lt i aI).1).Lk fun b E G=>⟨E,.inr G⟩
def oZ:List Int->Int
 | []=>0
 |x::l=>l.foldl min x
theorem agf {l:List Int} (h:0 < l.length):oZ (l.take 1)=l[0]:=by
 cases l with
 |nil=>simp at h
 |cons x l=>rfl
theorem agh {l:List Int} {k:Nat} (aw:0 < k) (h:k < l.length):oZ (l.take (k+1))=min (oZ (l.take k)) l[k]:=by
 cases l with
 |nil=>simp at h
 |cons x l=>
  cases k with
  |zero=>omega
  |succ k=>
   have ab:k < l.length:=by simpa using h
   show List.foldl min x (l.take (k+1))=min (List.foldl min x (l.take k)) l[k];rw[List.take_add_one,oj ab,at9];rfl
theorem SJ: ∀(l:List Int) (x:Int),List.foldl min x l<=x/\(∀y,y∈l->List.foldl min x l<=y)/\(List.foldl min x l=x\/List.foldl min x l∈l)
 | [],x=>⟨Int.le_refl _,fun y h=>(by cases h),.inl rfl⟩
 |aB::l,x=>by
  obtain⟨E,G,al⟩:=SJ l (min x aB);show List.foldl min (min x aB) l<=x/\(∀y,y∈aB::l->List.foldl min (min x aB) l<=y)/\(List.foldl min (min x aB) l=x\/List.foldl min (min x aB) l∈aB::l);refine⟨au5,fun y aC=>?_,?_⟩
  .rcases ap3.1 aC with rfl |aC
   .omega
   .exact G y aC
  .rcases al with al |al
   .rcases Int.le_total x aB with c |c
    .exact .inl au5
    .exact .inr (by rw[al,show min x aB=aB by omega];exact aq1 ..)
   .exact .inr (ap2 _ al)
theorem Ll {l:List Int} (h:l≠[]):oZ l∈l/\ ∀y,y∈l->oZ l<=y:=by
 cases l with
 |nil=>exact absurd rfl h
 |cons x l=>
  obtain⟨E,G,al⟩:=SJ l x;refine⟨?_,fun y aC=>?_⟩
  .rcases al with al |al
   .show List.foldl min x l∈x::l;rw[al];exact aq1 ..
   .exact ap2 _ al
  .rcases ap3.1 aC with rfl |aC
   .exact E
   .exact G y aC
theorem SK {l m:List Int} (h:l.Perm m) (hn:m≠[]):oZ l=oZ m:=by
 have aq:l≠[]:=fun e=>hn (by subst e;exact List.nil_perm.1 h)
 obtain⟨b4,ci⟩:=Ll aq;obtain⟨b1,b2⟩:=Ll hn;have:=ci _ (h.mem_iff.2 b1);have:=b2 _ (h.mem_iff.1 b4);omega
theorem SL (l:List Int) (aw:0 < l.length) (E:l.length<=1073741824):Fn Tryz.prog 287 [bS ak l] [] [] (ae (oZ l)) []:=by
 have a6:=jv (n:=0) aw;have cr:=agf aw;refine aW [3] Tryz.func287 rfl rfl rfl rfl ?_;refine⟨fun h=>?_,fun _=>?_⟩
 .have h:decide (((l.length:Nat):Int) < 1)=true:=h;have:=gd h;omega
 refine bz [] (aH) ?_;refine⟨au5,l[0],a6,dX [] (X:=Nat) (fun k=>[(0,bS ak l),(3,ae (oZ (l.take k))),(4,ae (k:Int))]) (fun _=>[]) (fun k=>1<=k/\k<=l.length) (fun k=>l.length - k) 1 ⟨ap0 _,aw⟩ ?_ ?_⟩
 .exact af.sub ⟨rfl,cr.symm,rfl,trivial⟩ trivial
 rintro k ⟨cn,ab⟩;refine⟨fun H=>?_,fun H=>?_⟩
 .have H:decide ((k:Int) < ((l.length:Nat):Int))=true:=H;have hg:k < l.length:=by have:=gd H;omega
  have ax:=agh cn hg;refine⟨au5,l[k],jv (n:=k) hg,?_⟩;exact⟨au5,k+1,⟨au5,hg⟩,au5,af.sub ⟨rfl,ax.symm,rfl,trivial⟩ trivial⟩
 .have H:decide ((k:Int) < ((l.length:Nat):Int))=false:=H;have hg:k=l.length:=by have:=mu H;omega
  exact aT aH rfl (show oZ (l.take k)=oZ l by rw[hg,aq9]) trivial rfl
section
variable {P:Program} {N:Nat} {ids:List Nat} {K:a1} {B:ay}
theorem SM {o:Oper} {T kt et:TypeId} {x:Operand} {c:Nat} (ai:o.op= .call {callee:=.builtin .clear,args:= #[x],argTypes:= #[T]}) (cc:P.underlying T=some (.map kt et)) {aJ aL:bx} {es:List (Z aJ×Z aL)}
  (hx:a7 K x= .c (.one (.mp c))) (H:ah B c=some (.map aJ aL es)) (N:Nat):bB P N ids o K B (.ce []) ⟨[c],[],[(c,some (.map aJ aL []))]⟩:=by
 have m1:x∈o.op.operands:=by rw[ai];simp[Op.operands,Call.operands]
 refine bB.O2 H fun K' B' g1 C ρ F a w ar av f4=>?_
 obtain⟨bj,bT,bU,O,aA,c'⟩:=ar.holds c _ f4;have aj:=av.mp ((g1 x m1).trans hx);have bw:=k0 O;have eu:=fun o=>MapKept.run_setObj_map (P:=P) o O
 have aF:(Builtin.clear_ #[T] o.type #[.map (some (ρ c).bk)]).run P w= .ok (.tuple #[]) {w with heap:=w.heap.setIfInBounds (ρ c).bk (.map #[] bU)}:=by
  simp[Builtin.clear_,run_underlying cc,MapKept.run_getObj_map O,eu,Result.andThen]
 refine⟨{w with heap:=w.heap.setIfInBounds (ρ c).bk (.map #[] bU)},?_,uf ((bj _).2 rfl),fun I aY=>⟨bj,[],bU,by simp[bw],rfl,au7,fun e V=>by cases V⟩⟩;simp[execOp,ai,resolve,invoke,builtin,aj,aF]
theorem bB.SN {o:Oper} {c:Nat} {ig:List Nat} {cw ch:bd} (H:ah B c=some cw)
  (h: ∀(K':a1) (B':ay),(∀x,x∈o.op.operands->a7 K' x=a7 K x)->(∀d,d∈ig->ah B' d=ah B d)-> ∀(C:e8) (ρ:Nat->bo) (F:Nat->Nat->Prop) (a:Act) (w:World),Mem ids C B' ρ F w->ee K' ρ (bZ C B' F w) a w->ah B' c=some cw-> ∃w',(execOp a.eval o).run P w= .ok .skip w'/\cJ (F c) w w'/\
   (∀I,cd (bZ C B' F w) w I w'->Holds ρ I (F c) w' (ρ c) ch)):
  bB P N ids o K B .undef ⟨c::ig,[],[(c,some ch)]⟩:=by
 rintro K' B' E G - C a w ⟨hn,J,ρ,F,ar,av⟩ bw fC Q di;have cF:ah B' c=some cw:=(G c au7).trans H;obtain⟨w',hx,cz,cV⟩:=h K' B' E (fun d J=>G d (ap2 _ J)) C ρ F a w ar av cF;obtain⟨bN,V⟩:=ar.hN cF cz cV;unfold Oper.wp;rw[hx,Oper.upon_skip];exact di _ _ ⟨ke.trans hn,kf.trans J,ρ,F,bN,(av.mono V fun _ _ _=>rfl).kg (fun e V=>by rw[hn];exact bw e V) rfl⟩
def z8 (es:List (Z ak×Z .fn)):bh where
 R:=fun I F w p=>Holds (fun _=>⟨0,none,0,0⟩) I F w p (.map ak .fn es)
 cg:=fun I F w I' w' p h V bj aR=>Holds.cg V bj aR _ (fun _ _=>rfl) h
def CN (es:List (Z ak×Z .fn)) (ch:bd):Prop:=ch= .map ak .fn es\/ch= .aG (z8 es)
theorem CN.holds {es:List (Z ak×Z .fn)} {ch:bd} (h:CN es ch) {ρ:Nat->bo} {I F:Nat->Prop} {w:World} {p:bo}:Holds ρ I F w p ch↔(∀b,F b↔b=p.bk)/\ ∃bT bU,w.heap[p.bk]? =some (.map (List.toArray bT) bU)/\ie I w ak .fn es bT/\lX bT bU:=by
 rcases h with rfl |rfl
 .exact Iff.rfl
 .exact Iff.rfl
theorem Aa {o:Oper} {T kt et:TypeId} {x i v:Operand} {c f hz i5 p2 m1 m2 m3 b1 b2 b3:Nat} (ai:o.op= .insert T x i v) (cc:P.underlying T=some (.map kt et)) (j3:P.underlying kt=some (.int .i64)) {es:List (Z ak×Z .fn)} {ch ch':bd} (hx:a7 K x= .c (.one (.mp c))) {key:Int} (ab:a7 K i= .c (.one (.d (.int .i64 key))))
  (az:a7 K v= .c (.one (.cT f [.p hz 0,.p i5 0,.p p2 0]))) (E:ah B m1=some (.co hz (e6 b1))) (G:ah B m2=some (.co i5 (e6 b2))) (al:ah B m3=some (.co p2 (e6 b3)))
  (H:ah B c=some ch) (hw:CN es ch) (p6:CN (dr (aJ:=ak) (aL:=.fn) es key (f,[b1,b2,b3])) ch') (N:Nat):bB P N ids o K B .undef ⟨[c,m1,m2,m3],[],[(c,some ch')]⟩:=by
 have cH:x∈o.op.operands:=by rw[ai];simp[Op.operands]
 have dF:i∈o.op.operands:=by rw[ai];simp[Op.operands]
 have la:v∈o.op.operands:=by rw[ai];simp[Op.operands]
 refine bB.SN H fun K' B' g1 g2 C ρ F a w ar av f4=>?_
 obtain⟨bj,bT,bU,O,aA,c'⟩:=hw.holds.1 (ar.holds c _ f4);have aj:=av.mp ((g1 x cH).trans hx);have ap:a.eval i= .int .i64 key:=av.int ((g1 i dF).trans ab)
 have bm:a.eval v=mo (f,[b1,b2,b3]):=by
  have h:=av.ev ((g1 v la).trans az);obtain⟨aD,e,kH,r1,aj,cx,v2,r2,ap,cA,v3,ga,bm,dy,fa⟩:=h;have cf:=ps (N:=N) (a:=a) ar ((g2 m1 au7).trans E);have cM:=ps (N:=N) (a:=a) ar ((g2 m2 au7).trans G);have eb:=ps (N:=N) (a:=a) ar ((g2 m3 au7).trans al);have cx:kH= .pointer (some ⟨(ρ hz).bk,0,none⟩):=cx;have cA:v2= .pointer (some ⟨(ρ i5).bk,0,none⟩):=cA;have dy:v3= .pointer (some ⟨(ρ p2).bk,0,none⟩):=dy;have fa:ga=[]:=fa;rw[e,aj,ap,bm,cx,cA,dy,fa,cf,cM,eb];rfl
 have b9:jk (bZ C B' F w) w .fn (f,[b1,b2,b3]) (mo (f,[b1,b2,b3])):=⟨rfl,⟨fun _=>rfl,fun e=>by cases e⟩,rfl⟩;obtain⟨ek,jE,aF,gk,p4⟩:=A1 (P:=P) (aJ:=ak) (aL:=.fn) cc j3 rfl O aA c' key b9;have bw:=k0 O;refine⟨{w with heap:=w.heap.setIfInBounds (ρ c).bk (.map (List.toArray ek) jE)},?_,uf ((bj _).2 rfl),fun I aY=>p6.holds.2 ⟨bj,ek,jE,by simp[bw],gk.mono aY,p4⟩⟩;have aF:(Instr.mapUpdate T (.map (some (ρ c).bk)) (.int .i64 key) (mo (f,[b1,b2,b3]))).run P w= .ok () {w with heap:=w.heap.setIfInBounds (ρ c).bk (.map (List.toArray ek) jE)}:=aF;simp only[execOp,ai,Sem.run_bind,aj,ap,bm,aF,Result.andThen_ok,Sem.run_pure]
def agi (x:Option (Z .fn)):aQ:=match x with
 |some x=>.ce [.one (.d (.fn x)),.one (.d (.lit true))]
 |none=>.ce [.one .any,.one (.d (.lit false))]
theorem agj {I:Nat->Prop} {w:World} {x:Z .fn} {v:Value} (h:jk I w .fn x v):v=mo x:=by
 have E:=h.2.1.1 rfl;have G:=h.2.2;rw[E] at G;have G:some v=some (mo x):=G;injection G
theorem Lm {aU:dd} (bn:d6 P aU) {o:Oper} {T kt et:TypeId} {x i:Operand} {c:Nat} (ai:o.op= .lookup T x i true) (cc:P.underlying T=some (.map kt et)) (j3:P.underlying kt=some (.int .i64)) {ti:cb} (gz:aU.find et=some ti) {es:List (Z ak×Z .fn)} (hx:a7 K x= .c (.one (.mp c))) {key:Int} (ab:a7 K i= .c (.one (.d (.int .i64 key))))
  (H:ah B c=some (.aG (z8 es))) {r:Option (Z .fn)} (aF:b0 (aJ:=ak) (aL:=.fn) es key=r) (N:Nat):bB P N ids o K B (agi r) ⟨[c],[],[]⟩:=by
 have cH:x∈o.op.operands:=by rw[ai];simp[Op.operands]
 have dF:i∈o.op.operands:=by rw[ai];simp[Op.operands]
 subst aF;obtain⟨Ch,d,bu⟩:=bn.at_ gz;obtain⟨aB,aR,mx⟩:=bu.zero;refine bB.val fun K' B' g1 g2 C ρ F a w ar av=>?_
 obtain⟨bj,bT,bU,O,aA,c'⟩:=(CN.holds (.inr rfl)).1 (ar.holds c _ ((g2 c au7).trans H));have aj:=av.mp ((g1 x cH).trans hx);have ap:a.eval i= .int .i64 key:=av.int ((g1 i dF).trans ab);have B0:(zeroValue et).run P w= .ok aB w:=by simp[zeroValue,typeInfo,bu.jF,aR]
 have qp:=fun e=>MapKept.run_checkKey (P:=P) (w:=w) j3 (rS (aJ:=ak) (d:=.int .i64) rfl key) e 9999
 rcases A0 (I:=bZ C B' F w) (w:=w) (aJ:=ak) (aL:=.fn) (d:=.int .i64) rfl key es bT 0 aA with⟨b4,ci,_⟩ |⟨j,y,e,b4,ci,_,_,a5,_⟩
 .have hf:=MapKept.run_findKey (P:=P) (w:=w) j3 b4;refine⟨.tuple #[aB,.bool false],?_,by rw[ci];exact⟨[aB,.bool false],rfl,_,_,rfl,trivial,_,_,rfl,rfl,rfl⟩⟩
  have aF:(Instr.lookup T (.map (some (ρ c).bk)) (.int .i64 key) true).run P w= .ok (.tuple #[aB,.bool false]) w:=by
   simp only[gF] at qp hf;simp[Instr.lookup,run_underlying cc,MapKept.run_getObj_map O,qp,hf,B0,Result.andThen]
  simp only[execOp,ai,Sem.run_bind,aj,ap,aF,Result.andThen_ok,Sem.run_pure]
 .have hf:=MapKept.run_findKey (P:=P) (w:=w) j3 b4;have aC:=agj a5;refine⟨.tuple #[mo y,.bool true],?_,by rw[ci];exact⟨[mo y,.bool true],rfl,_,_,rfl,rfl,_,_,rfl,rfl,rfl⟩⟩
  have aF:(Instr.lookup T (.map (some (ρ c).bk)) (.int .i64 key) true).run P w= .ok (.tuple #[mo y,.bool true]) w:=by
   simp only[gF] at qp hf;simp[Instr.lookup,run_underlying cc,MapKept.run_getObj_map O,qp,hf,Result.andThen,aC]
  simp only[execOp,ai,Sem.run_bind,aj,ap,aF,Result.andThen_ok,Sem.run_pure]
theorem af.SO (s f hz i5 p2 m1 m2 m3 b1 b2 b3:Nat) (ax:dA K s= .c (.one (.d (.fn (f,[b1,b2,b3]))))) (E:ah B m1=some (.co hz (e6 b1))) (G:ah B m2=some (.co i5 (e6 b2))) (al:ah B m3=some (.co p2 (e6 b3))):af ids K B ((s,.c (.one (.cT f [.p hz 0,.p i5 0,.p p2 0])))::K) B:=by
 rintro N C a w ⟨hn,J,ρ,F,ar,av⟩;refine⟨hn,J,ρ,F,ar,fun t=>?_⟩;rw[kc]
 split
 .rename_i e;subst e;have h:=av s;rw[ax] at h;have h:a.tmps.getD s undef=mo (f,[b1,b2,b3]):=h;have cf:=ps (N:=N) (a:=a) ar E;have cM:=ps (N:=N) (a:=a) ar G;have eb:=ps (N:=N) (a:=a) ar al;exact⟨_,h,_,_,rfl,by rw[<-cf];rfl,_,_,rfl,by rw[<-cM];rfl,_,_,rfl,by rw[<-eb];rfl,rfl⟩
 .exact av t
end
abbrev CO (k:Nat):Z ak×Z ak:=@Prod.mk Int Int (k:Int) 1
abbrev fY (l:List Nat):List (Z ak×Z ak):=l.map CO
def ni (l:List Nat) (k:Nat):List Nat:=if k∈l then l else l++[k]
theorem Ln (l:List Nat):(fY l).length=l.length:=aq3 _
theorem CP (a b:Nat):fV ak (a:Int) (b:Int)=decide (a=b):=by
 show decide ((a:Int)=(b:Int))=_
 by_cases h:a=b
 .rw[aq2 h,aq2 au5]
 .rw[ar8 h,ar8 au5]
theorem agk {l:List (Z ak×Z ak)} {p:Z ak×Z ak} {k x:Int} (h:fV ak k p.1=true):dr (aJ:=ak) (aL:=ak) (p::l) k x= @Prod.mk Int Int k x::l:=by
 simp only[dr,h];rfl
theorem agl {l:List (Z ak×Z ak)} {p:Z ak×Z ak} {k x:Int} (h:fV ak k p.1=false):dr (aJ:=ak) (aL:=ak) (p::l) k x=p::dr (aJ:=ak) (aL:=ak) l k x:=by
 simp only[dr,h]
theorem agm {l:List (Z ak×Z ak)} {p:Z ak×Z ak} {k:Int} (h:fV ak k p.1=true):gG (aJ:=ak) (aL:=ak) (p::l) k=l:=by
 simp only[gG,h]
theorem agn {l:List (Z ak×Z ak)} {p:Z ak×Z ak} {k:Int} (h:fV ak k p.1=false):gG (aJ:=ak) (aL:=ak) (p::l) k=p::gG (aJ:=ak) (aL:=ak) l k:=by
 simp only[gG,h]
theorem CQ (k:Nat): ∀l:List Nat,dr (aJ:=ak) (aL:=ak) (fY l) (k:Int) (1:Int)=fY (ni l k)
 | []=>rfl
 |x::l=>by
  by_cases h:k=x
  .refine(agk (p:=CO x) (l:=fY l) ((CP k x).trans (aq2 h))).trans ?_;subst h;unfold ni;rw[if_pos (aq1 ..)];rfl
  .refine(agl (p:=CO x) (l:=fY l) ((CP k x).trans (ar8 h))).trans ?_;rw[CQ k l];unfold ni
   by_cases G:k∈l
   .rw[if_pos G,if_pos (ap2 _ G)];rfl
   .rw[if_neg G,if_neg (fun e=>by rcases ap3.1 e with e |e;exact h e;exact G e)];rfl
theorem Lo (k:Nat): ∀l:List Nat,gG (aJ:=ak) (aL:=ak) (fY l) (k:Int)=fY (l.erase k)
 | []=>rfl
 |x::l=>by
  by_cases h:k=x
  .refine(agm (p:=CO x) (l:=fY l) ((CP k x).trans (aq2 h))).trans ?_;subst h;rw[List.erase_cons_head]
  .refine(agn (p:=CO x) (l:=fY l) ((CP k x).trans (ar8 h))).trans ?_;rw[Lo k l,List.erase_cons_tail (by simpa using fun e=>h e.symm)];rfl
theorem SP {l:List Nat} {k x:Nat}:x∈ni l k↔x∈l\/x=k:=by
 unfold ni
 split
 .rename_i h;exact⟨.inl,fun h'=>h'.elim id fun e=>e▸h⟩
 .rw[aq8,aq0]
theorem SQ {l:List Nat} {k:Nat} (h:l.Nodup):(ni l k).Nodup:=by
 unfold ni
 split
 .exact h
 .rename_i ab;rw[List.nodup_append];refine⟨h,au7,fun a ha b O e=>?_⟩;rw[aq0] at O;subst O e;exact ab ha
theorem uM (l:List Nat):gR (fY l)=l.map fun k:Nat=>(k:Int):=by
 unfold gR fY;rw[as2];rfl
theorem Lp {l:List Nat} (h:l.Nodup):(gR (fY l)).Nodup:=by
 rw[uM];exact Lh (fun x _ y _ e=>by have e:(x:Int)=(y:Int):=e;omega) h
theorem Lq {l:List Nat} (h: ∀k,k∈l->k<=1000000): ∀s∈gR (fY l),(Lit.int .i64 s).wf=true:=fun s ax=>by
 rw[uM] at ax;obtain⟨k,ab,rfl⟩:=ar2.1 ax;have:=h k ab;show(decide (IntKind.i64.min<=(k:Int))&&decide ((k:Int)<=IntKind.i64.max))=true;rw[aq2 (show(IntKind.i64.min:Int)<=(k:Int) from Int.le_trans (by decide:IntKind.i64.min<=(0:Int)) au5),aq2 (show(k:Int)<=IntKind.i64.max from Int.le_trans (by omega:(k:Int)<=1000000) au6)];rfl
def eQ (l:List Nat):Nat:=(oZ (l.map fun k:Nat=>(k:Int))).toNat
theorem Gf {l:List Nat} (h:l≠[]):oZ (l.map fun k:Nat=>(k:Int))=((eQ l:Nat):Int)/\eQ l∈l/\ ∀y,y∈l->eQ l<=y:=by
 have ba:l.map (fun k:Nat=>(k:Int))≠[]:=by simpa using h
 obtain⟨E,G⟩:=Ll ba;obtain⟨k,ab,V⟩:=ar2.1 E;have aA:eQ l=k:=by unfold eQ;rw[<-V];rfl
 refine⟨by rw[aA,V],by rw[aA];exact ab,fun y aC=>?_⟩;have:=G _ (aq6 aC);rw[aA];omega
end
section
section
variable {z U:Nat} {L:List aO} {top base:List UInt8}
theorem ago {k:Nat} (h:sv L top base=some k):n0 L top base=true/\k < c4 L top/\su L top base k=true/\ ∀j,j < k->su L top base j=false:=by
 unfold sv at h
 split at h
 .rename_i O;obtain⟨g1,g2,cX⟩:=List.find?_range_eq_some.1 h;exact⟨O,List.mem_range.1 g2,g1,fun j aa=>by simpa using cX j aa⟩
 .cases h
theorem agp (h: ∀k,k < c4 L top->su L top base k=false):sv L top base=none:=by
 unfold sv
 split
 .exact List.find?_range_eq_none.2 fun k ab=>by simp[h k ab]
 .rfl
end
end
section
theorem af.sw {ids:List Nat} {K:a1} {B:ay} (c:Nat) {l l':List bC} (H:ah B c=some (.cells l)) (aq:D5 l l'):af ids K B K ((c,.cells l')::B):=by
 rintro N C a w ⟨hn,J,ρ,F,ar,av⟩
 obtain⟨bN,aY⟩:=ar.hN (w':=w) (ch:=.cells l') H (cJ.refl _ _) fun I bb=>by
  obtain⟨E,aD,T,G,al⟩:=ar.holds c _ H;exact⟨E,aD,T,G,I9 aq (b'.mono bb _ _ (fun _ _=>rfl) al)⟩
 exact⟨hn,J,ρ,F,bN,av.mono aY fun _ _ _=>rfl⟩
theorem wj (s:bL):Fn Tryz.prog 15 [ao 1001] (dx s) [] (ae (s.z:Nat)) (dx s):=by
 refine aW [] Tryz.func15 rfl rfl rfl rfl ?_;exact aT aH rfl rfl ac rfl
end
end Go.Proofs.YthnboghbhgapcaaGreat
