/-
A part of the proof of this claim: lemmas, with no condition beyond what each says.
-/
import Derived.Test.YthnboghbhgapcaaGreatZb12
set_option linter.unusedVariables false
set_option linter.unusedSimpArgs false
set_option maxRecDepth 10000
set_option maxHeartbeats 4000000
namespace Go.Proofs.YthnboghbhgapcaaGreat
open Go.RowKit Go.Proofs Tryz
section
abbrev afK (nm:ay4):aw:=[(2001,.cells [.ptr 1001 0]),(2002,.cells [.d (.str nm)])]
abbrev So (z U:Int) (L:List aN) (nm:ay4):aw:=bP z U L++afK nm
theorem afL (z U:Nat) (L:List aN) (eE:nf z U L) (nm:ay4) (bO:aN) (av:dk L nm=some bO) (dg:Nat) (h4:eC L nm dg) (mP:dg<=100) (k:Nat) (ab:k < bO.im.t.length):
  Fn Tryz.prog 139 [ac (k:Int),ap 2001,ap 2002] (So z U L nm) [] (bS .u8 (pG z L nm dg k)) (So z U L nm):=by
 have dJ:=KV z U L eE nm bO av dg h4 mP k ab;generalize pG z L nm dg k=y at dJ;refine aU [] Tryz.func139 ?_;exact ar dJ bg
theorem Ld (z U:Int) (L:List aN) (nm:ay4) (av:dk L nm=none) (g:Nat) (x y:D):
  Fn Tryz.prog 86 [ap 1001,bU nm,.c (.one (.cU g [.p 3001 0,.p 3002 0]))] (bP z U L++[(3001,.cells [.d x]),(3002,.cells [.d y])]) [] (ac 140) (bP z U L++[(3001,.cells [.d x]),(3002,.cells [.d y])]):=by
 have hx:(b0 (aI:=.str) (aK:=.aL) (c4 L) nm).getD (cL .aL)=none:=ax6
 refine aU [2] Tryz.func86 ?_;refine⟨rfl,rfl,rfl,bz [] (bp) ?_⟩;exact⟨fun dZ O=>absurd (show(b0 (aI:=.str) (aK:=.aL) (c4 L) nm).getD (cL .aL)=some dZ from O) aw2,fun _=>bg⟩
theorem eW.sub {N:Nat} {ids:ay5} {C:e9} {K K':aY} {B B':aw} {a:Act} {w:World} (h:eW N ids C K B a w) (di:zj K K') (da:kK B B'):eW N ids C K' B' a w:=ae.sub di da N C a w h
theorem afM (t:List e7):jL (.aG (rl t)):=by
 rintro ms sh I F w p jX _ af ⟨es,h,a1⟩;exact⟨es,h,jL.iX (c:=1001) (Cc (bo:=oW (t.length:Nat) es) ⟨jL.cells rfl,jL.map,trivial⟩) ms sh I F w p jX (fun _ h=>by cases h) af a1⟩
theorem afN (l:List Int):jL (.aG (rn l)):=by
 rintro ms sh I F w p jX _ af ⟨ρ,b8,E,G,aj,aX⟩;refine⟨c5 ρ 1001 jX,b8,c6 ..,fun d ch J=>?_,aj,aX⟩;have cX:=G d ch J;rw[ca] at J
 split at J
 .rename_i e;injection J with J
  subst J e;obtain⟨g1,aE,T,g2,cZ⟩:=cX;rw[c6];rw[E] at g1 g2;exact⟨fun b=>by rw[af];exact g1 b,aE,T,by rw[af];exact g2,b'.mono (ce.refl _ _) _ aE (fun c H=>dd _ _ (fun e=>by subst e;cases H)) cZ⟩
 .rename_i e;rw[dd _ _ (Ne.symm e)];rw[ca] at J
  split at J
  .injection J with J
   subst J;exact Holds.cj (ce.refl _ _) (fun _ _=>rfl) (ap0 _) _ (fun c H=>by cases H) cX
  .cases J
theorem afO (f:k8):jL (.aG (mJ f)):=by
 intro ms sh I F w p jX _ af h;have h:v8 (fun _=>none) f I F w p:=h;show v8 (fun _=>none) f I F w jX;unfold v8 at*;rw[af];exact h
theorem afP (s:bM):Fw (dx s):=⟨jL.cells rfl,afM _,afN _,afO _,trivial⟩
def hX (nm:ay4) (im:bM) (cR:Option (Nat->Nat)) (d:aN):aN:=if d.nm=nm then {d with im:=im,cR:=cR} else d
def d9 (L:List aN) (nm:ay4) (im:bM) (cR:Option (Nat->Nat)):List aN:=L.map (hX nm im cR)
section
variable (nm:ay4) (im:bM) (cR:Option (Nat->Nat)) (d:aN)
theorem z8:(hX nm im cR d).nm=d.nm:=by unfold hX;split <;>rfl
theorem Le:(hX nm im cR d).ad=d.ad:=by unfold hX;split <;>rfl
theorem Sp:(hX nm im cR d).am=d.am:=by unfold hX;split <;>rfl
theorem x5:(hX nm im cR d).back=d.back:=by unfold hX;split <;>rfl
theorem Gd (L:List aN):c4 (d9 L nm im cR)=c4 L:=by
 unfold c4 d9;rw[as2];refine ar1 fun d _=>?_
 show lI (hX nm im cR d)=lI d;unfold lI;rw[z8,Le]
theorem Ge (L:List aN):l8 (d9 L nm im cR)=l8 L:=by
 unfold l8 d9;rw[as2];refine ar1 fun d _=>?_
 show((hX nm im cR d).ad,tC (hX nm im cR d).am (hX nm im cR d).back)=_;rw[Le,Sp,x5]
theorem uR (n:ay4): ∀L:List aN,dk (d9 L nm im cR) n=(dk L n).map (hX nm im cR)
 | []=>rfl
 |d::L=>by
  show dk (hX nm im cR d::d9 L nm im cR) n=_;rw[pJ,pJ,z8,uR n L]
  split <;>rfl
end
theorem Gf {L:List aN} {nm:ay4} {d:aN} (h:dk L nm=some d) (im:bM) (cR:Option (Nat->Nat)):dk (d9 L nm im cR) nm=some {d with im:=im,cR:=cR}:=by
 rw[uR,h];show some (hX nm im cR d)=_;unfold hX;rw[if_pos (cV h).2]
theorem Sq {L:List aN} {nm n:ay4} (a2:n≠nm) (im:bM) (cR:Option (Nat->Nat)):dk (d9 L nm im cR) n=dk L n:=by
 rw[uR]
 cases h:dk L n with
 |none=>rfl
 |some d=>
  show some (hX nm im cR d)=_;unfold hX;rw[if_neg (fun e=>a2 ((cV h).2.symm.trans e))]
theorem afQ {L:List aN} {nm:ay4} (im:bM) (cR:Option (Nat->Nat)) (h:nm∉L.map (·.nm)):d9 L nm im cR=L:=by
 unfold d9;refine(ar1 fun d J=>?_).trans (List.map_id' L);unfold hX;rw[if_neg fun e=>h (by rw[<-e];exact aq6 J)]
theorem Gg {nm:ay4} {im:bM} {cR:Option (Nat->Nat)}: ∀{L:List aN},(L.map (·.nm)).Nodup->(L.map (·.am)).Nodup-> ∀{d:aN},dk L nm=some d->e4 (h6 L) d.am (kr {d with im:=im,cR:=cR})=h6 (d9 L nm im cR)
 | [],_,_,d,h=>by cases h
 |e::L,hn,ha,d,h=>by
  rw[aq4] at hn ha;obtain⟨cI,dF⟩:=aq7.1 hn;obtain⟨b4,cg⟩:=aq7.1 ha;rw[pJ] at h;show e4 ((e.am,kr e)::h6 L) d.am _=h6 (hX nm im cR e::d9 L nm im cR);unfold e4
  by_cases c:e.nm=nm
  .rw[if_pos c] at h;injection h with h
   subst h;rw[if_pos rfl,afQ im cR (by rw[<-c];exact cI)];unfold hX;rw[if_pos c];rfl
  .rw[if_neg c] at h;have a2: ¬e.am=d.am:=fun x=>b4 (by rw[x];exact aq6 (f:=fun d:aN=>d.am) (cV h).1)
   rw[if_neg a2,Gg dF cg h];unfold hX;rw[if_neg c];rfl
theorem Sr {b:Nat} {o:bf}: ∀L:List (Nat×bf),j4 (e4 L b o) b=j4 L b
 | []=>rfl
 |(a,q)::L=>by
  unfold e4
  by_cases e:a=b
  .rw[if_pos e];show(if a=b then L else _)=if a=b then L else _
   rw[if_pos e,if_pos e]
  .rw[if_neg e];show(if a=b then _ else(a,q)::j4 (e4 L b o) b)=if a=b then L else(a,q)::j4 L b
   rw[if_neg e,if_neg e,Sr L]
theorem Ss {L:List aN} (nm:ay4) (im:bM) (cR:Option (Nat->Nat)) {n:ay4} {k:Nat} (h:eC L n k):eC (d9 L nm im cR) n k:=by
 induction h with
 |gone h=>exact .gone (by rw[uR,h];rfl)
 |base E G=>exact .base (d:=hX nm im cR _) (by rw[uR,E];rfl) (by rw[x5];exact G)
 |step E G aj br=>exact .step (d:=hX nm im cR _) (by rw[uR,E];rfl) (by rw[x5];exact G) (by rw[x5];exact br)
theorem St (L:List aN) (nm:ay4) (im:bM) (cR:Option (Nat->Nat)): ∀(k:Nat) (n:ay4),eD (d9 L nm im cR) k n=eD L k n
 |0,_=>rfl
 |k+1,n=>by
  show(match dk (d9 L nm im cR) n with |none=>[] |some d=>d.back::eD (d9 L nm im cR) k d.back)=match dk L n with |none=>[] |some d=>d.back::eD L k d.back
  rw[uR]
  cases h:dk L n with
  |none=>rfl
  |some d=>
   show(hX nm im cR d).back::eD (d9 L nm im cR) k (hX nm im cR d).back=d.back::eD L k d.back;rw[x5,St L nm im cR k]
theorem hW.d9 {L:List aN} (h:hW L) (nm:ay4) (im:bM) (cR:Option (Nat->Nat)):hW (d9 L nm im cR):=by
 have key: ∀{α:Type} (f:aN->α),(∀d,f (hX nm im cR d)=f d)->(Go.Proofs.YthnboghbhgapcaaGreat.d9 L nm im cR).map f=L.map f:=fun f hf=>by
  unfold Go.Proofs.YthnboghbhgapcaaGreat.d9;rw[as2];exact ar1 fun d _=>hf d
 exact⟨by rw[key _ (z8 nm im cR)];exact h.ik,by rw[key _ (Le nm im cR)];exact h.lh,by rw[key _ (Sp nm im cR)];exact h.wl⟩
theorem nf.d9 {z U:Nat} {L:List aN} (h:nf z U L) {nm:ay4} {bO:aN} (av:dk L nm=some bO) {im:bM} (ax:jc bO.im im) (cR:Option (Nat->Nat)):nf z U (d9 L nm im cR):=by
 obtain⟨fi,g3,pF⟩:=h.g4 bO (cV av).1
 have key: ∀d,d∈Go.Proofs.YthnboghbhgapcaaGreat.d9 L nm im cR-> ∃e,e∈L/\hX nm im cR e=d:=fun d J=>by
  obtain⟨e,V,rfl⟩:=ar2.1 J;exact⟨e,V,rfl⟩
 refine⟨h.tohW.d9 nm im cR,h.b3,h.uP,by unfold Go.Proofs.YthnboghbhgapcaaGreat.d9;rw[aq3];exact h.len,fun d J=>?_,fun d J O=>?_,fun d J=>?_,fun d J=>?_⟩
 .obtain⟨e,V,rfl⟩:=key d J;unfold hX
  split
  .exact⟨ax.ok,ax.z.trans g3,ax.lf.trans pF⟩
  .exact h.g4 e V
 .obtain⟨e,V,rfl⟩:=key d J;rw[x5] at O⊢;obtain⟨b5,h'⟩:=h.h7 e V O;exact⟨hX nm im cR b5,by rw[uR,h'];rfl⟩
 .obtain⟨e,V,rfl⟩:=key d J;rw[z8];exact h.ne e V
 .obtain⟨e,V,rfl⟩:=key d J;rw[z8];obtain⟨k,ab,J⟩:=h.rv e V;exact⟨k,ab,Ss nm im cR J⟩
theorem afR {L:List aN} {n:ay4} {k dV:Nat} (h:eC L n k) (h':eC L n dV):k=dV:=by
 induction h generalizing dV with
 |gone h=>
  cases h' with
  |gone _=>rfl
  |base _ _=>rfl
  |step E _ _=>rw[h] at E;cases E
 |base E G=>
  cases h' with
  |gone _=>rfl
  |base _ _=>rfl
  |step g1 g2 _=>rw[E] at g1;injection g1 with g1;rw[<-g1] at g2;exact absurd G g2
 |step E G aj br=>
  cases h' with
  |gone h=>rw[E] at h;cases h
  |base g1 g2=>rw[E] at g1;injection g1 with g1;rw[<-g1] at g2;exact absurd g2 G
  |step g1 g2 cZ=>rw[E] at g1;injection g1 with g1;rw[<-g1] at cZ;rw[br cZ]
theorem afS {L:List aN} {n:ay4} {k:Nat} (h:eC L n k): ∀x,x∈eD L k n-> ∃j,j < k/\eC L x j:=by
 induction h with
 |gone _=>intro x hx;cases hx
 |base _ _=>intro x hx;cases hx
 | @step n d k E G aj br=>
  intro x hx;unfold eD at hx;rw[E] at hx;rcases ap3.1 hx with rfl |hx
  .exact⟨k,Nat.lt_succ_self k,aj⟩
  .obtain⟨j,Z,J⟩:=br x hx;exact⟨j,au5,J⟩
theorem Su {L:List aN} {n:ay4} {k:Nat} (h:eC L n k):n∉eD L k n:=fun hx=>by
 obtain⟨j,Z,J⟩:=afS h n hx;have:=afR h J;omega
theorem Sv {z:Nat} {L:List aN} {nm:ay4} {im:bM} {cR:Option (Nat->Nat)} {c:Nat}: ∀(ns:List ay4) (i:Nat),nm∉ns->mO z (d9 L nm im cR) c ns i=mO z L c ns i
 | [],_,_=>rfl
 |n::ns,i,h=>by
  have a2:n≠nm:=fun e=>h (by rw[e];exact aq0 ..)
  have br:=Sv (z:=z) (L:=L) (nm:=nm) (im:=im) (cR:=cR) (c:=c) ns (i+1) fun az=>h (ap2 _ az)
  unfold mO;rw[Sq a2,br]
def qq (z:Nat) (L:List aN) (nm:ay4) (dg c:Nat):ay4:=(mO z L c (eD L dg nm) 1).1
theorem afT {z:Nat} {L:List aN} {nm:ay4} {bO:aN} (av:dk L nm=some bO) {dg:Nat} (h4:eC L nm dg) (im:bM) (cR:Option (Nat->Nat)) (c:Nat):
  pG z (d9 L nm im cR) nm dg c=if c < im.t.length/\(im.t.getD c cD).1≠0 then fO im c none else qq z L nm dg c:=by
 unfold pG qq;rw[St]
 conv=>lhs;unfold mO
 rw[Gf av];simp only
 split
 .rfl
 .rw[Sv _ _ (Su h4)]
abbrev Aa (z U:Int) (L:List aN) (nm:ay4) (am:Nat):aw:=[(8001,.cells [.d (.int .i64 z),.d (.int .i64 U),.mp 8002]),(8002,.map .str .aL (c4 L)),(8003,.aG (.bA (l8 L))),(8004,.aG (.bA (j4 (h6 L) am))),(8005,.cells [.ptr 8001 0]),(8006,.cells [.d (.str nm)])]
def sx (z U:Int) (L:List aN) (nm:ay4) (am:Nat) (bs:Nat->Nat):bn->bf:=.px am (.m8 (Aa z U L nm am) bs)
theorem Sw (z U:Int) (L:List aN) (nm:ay4) (am:Nat):Fw (Aa z U L nm am):=⟨jL.cells rfl,jL.map,jL.bA,jL.bA,jL.cells rfl,jL.cells rfl,trivial⟩
abbrev lL (z U:Int) (L:List aN) (nm:ay4):aw:=[(8001,.cells [.d (.int .i64 z),.d (.int .i64 U),.mp 8002]),(8002,.map .str .aL (c4 L)),(8003,.aG (.bA (l8 L))),(8004,.aG (.bA (h6 L))),(8005,.cells [.ptr 8001 0]),(8006,.cells [.d (.str nm)])]
abbrev CL (am cS dG dL:Nat):Nat->Nat:=fun c=>cond (Nat.beq c 1001) am (cond (Nat.beq c 1002) cS (cond (Nat.beq c 1003) dG dL))
abbrev pK (cS dG dL:Nat):Nat->Nat:=fun c=>cond (Nat.beq c 1002) cS (cond (Nat.beq c 1003) dG dL)
abbrev Sx (am cS dG dL:Nat):aw:=[(9001,.cn 1001 (e6 am)),(9002,.cn 1002 (e6 cS)),(9003,.cn 1003 (e6 dG)),(9004,.cn 1004 (e6 dL))]
abbrev Lf (bs:Nat->Nat):aw:=[(7001,.cn 8001 (e6 (bs 8001))),(7002,.cn 8002 (e6 (bs 8002))),(7003,.cn 8003 (e6 (bs 8003))),(7004,.cn 8004 (e6 (bs 8004))),(7005,.cn 8005 (e6 (bs 8005))),(7006,.cn 8006 (e6 (bs 8006)))]
theorem afU (z U:Nat) (L:List aN) (eE:nf z U L) (nm:ay4) (bO:aN) (av:dk L nm=some bO) (dg:Nat) (h4:eC L nm dg) (mP:dg<=100) (k:Nat) (ab:k < bO.im.t.length):
  Fn Tryz.prog 139 [ac (k:Int),ap 8005,ap 8006] (lL z U L nm) [] (bS .u8 (pG z L nm dg k)) (lL z U L nm):=
 Fn.aV [(1001,8001),(1002,8002),(1003,8003),(1004,8004),(2001,8005),(2002,8006)] (afL z U L eE nm bO av dg h4 mP k ab)
theorem afV (z U:Nat) (L:List aN) (eE:nf z U L) (nm:ay4) (bO:aN) (av:dk L nm=some bO) (dg:Nat) (h4:eC L nm dg) (mP:dg<=100) (s:bM) (ax:jc bO.im s) (bs:Nat->Nat) (c:Nat) (H:c < s.t.length) (aR:(s.t[c]).1=0):
  FM s (sx z U L nm bO.am bs) (bs 8005) (bs 8006) c (qq z L nm dg c):=by
 have b6:(qq z L nm dg c).length<=1000000:=by
  have:=RZ eE c (eD L dg nm) 1;unfold qq;omega
 refine⟨b6,?_⟩;have fx:=eE.tohW.M (cV av).1
 have IR: ∀cR,pG z (d9 L nm s cR) nm dg c=qq z L nm dg c:=fun cR=>by
  rw[afT av h4,if_neg fun h=>h.2 (by rw[ap9,oj H];exact aR)]
 have j0: ∀cR,Fn Tryz.prog 139 [ac (c:Int),ap 8005,ap 8006] (lL z U (d9 L nm s cR) nm) [] (bS .u8 (qq z L nm dg c)) (lL z U (d9 L nm s cR) nm):=fun cR=>by
  have:=afU z U (d9 L nm s cR) (eE.d9 av ax cR) nm _ (Gf av s cR) dg (Ss nm s cR h4) mP c H;rw[IR cR] at this;exact this
 have Sy: ∀cS dG dL,kr {bO with im:=s,cR:=some (pK cS dG dL)}= .m8 (dx s) (CL bO.am cS dG dL):=fun cS dG dL=>rfl
 have lw: ∀cS dG dL,e4 (h6 L) bO.am (.m8 (dx s) (CL bO.am cS dG dL))=h6 (d9 L nm s (some (pK cS dG dL))):=fun cS dG dL=>by
  rw[<-Sy];exact Gg eE.ik eE.wl av
 have afW: ∀cS dG dL,eg (h6 (d9 L nm s (some (pK cS dG dL)))) bO.am=some (.m8 (dx s) (CL bO.am cS dG dL)):=fun cS dG dL=>by
  have:=(eE.tohW.d9 nm s (some (pK cS dG dL))).M (cV (Gf av s (some (pK cS dG dL)))).1;rw[Sy] at this;exact this
 have afX: ∀cS dG dL,j4 (h6 (d9 L nm s (some (pK cS dG dL)))) bO.am=j4 (h6 L) bO.am:=fun cS dG dL=>by
  rw[<-lw,Sr]
 refine Fn.via (X:=Nat×Nat×Nat) (args':=fun _=>[ac (c:Int),ap 8005,ap 8006]) (uE:=fun x=>lL z U (d9 L nm s (some (pK x.1 x.2.1 x.2.2))) nm++(Lf bs++Sx bO.am x.1 x.2.1 x.2.2)) (m6:=fun x=>lL z U (d9 L nm s (some (pK x.1 x.2.1 x.2.2))) nm) (i9:=fun _=>[]) (res':=fun _=>bS .u8 (qq z L nm dg c)) (nR:=fun x=>lL z U (d9 L nm s (some (pK x.1 x.2.1 x.2.2))) nm)
  au8 3 rfl ?_ (fun x=>j0 _) (fun x=>aA) (fun x=>rfl) (fun x=>rfl) ?_
 .intro N C a w Lg;have E:=ae.eU 9000 1001 bO.am rfl N C a w (ae.acp 9000 1001 9001 bO.am rfl rfl au6 N C a w Lg);obtain⟨cS,G⟩:=de.mark 1002 9002 rfl au6 N C a w E;obtain⟨dG,aj⟩:=de.mark 1003 9003 rfl au6 N C a w G;obtain⟨dL,aX⟩:=de.mark 1004 9004 rfl au6 N C a w aj;have bH:=ae.J3 9100 (dx s) (fun c=>c+8000) (CL bO.am cS dG dL) aA aA rfl N C a w aX;have fF:=ae.place 8006 7006 (bs 8006) rfl rfl au6 N C a w (ae.place 8005 7005 (bs 8005) rfl rfl au6 N C a w (ae.place 8004 7004 (bs 8004) rfl rfl au6 N C a w (ae.place 8003 7003 (bs 8003) rfl rfl au6 N C a w (ae.place 8002 7002 (bs 8002) rfl rfl au6 N C a w (ae.place 8001 7001 (bs 8001) rfl rfl au6 N C a w bH)))));have jF:=ae.J4 9000 (Aa z U L nm bO.am) (fun c=>c - 1000) bs rfl aA rfl rfl (Cc (Sw z U L nm bO.am)) N C a w fF;have iA:=ae.acA 8004 9100 bO.am rfl rfl fx au6 N C a w jF;have vD:=ae.J5 1 8005 7005 (bs 8005) rfl rfl N C a w iA;have Bf:=ae.J5 2 8006 7006 (bs 8006) rfl rfl N C a w vD;have aW:=Gd nm s (some (pK cS dG dL)) L;have b9:=Ge nm s (some (pK cS dG dL)) L;refine⟨(cS,dG,dL),eW.sub Bf aA ⟨rfl,congrArg (fun e=>some (bb.map .str .aL e)) aW.symm,congrArg (fun e=>some (bb.aG (.bA e))) b9.symm,congrArg (fun e=>some (bb.aG (.bA e))) (lw cS dG dL),rfl,rfl,rfl,rfl,rfl,rfl,rfl,rfl,rfl,rfl,rfl,rfl,trivial⟩⟩
 .rintro⟨cS,dG,dL⟩;have aW:=Gd nm s (some (pK cS dG dL)) L;have b9:=Ge nm s (some (pK cS dG dL)) L
  refine⟨bS .u8 (qq z L nm dg c),_,ae.trans (cH [(3,bS .u8 (qq z L nm dg c))] (lL z U (d9 L nm s (some (pK cS dG dL))) nm++(Lf bs++Sx bO.am cS dG dL)))
   (ae.trans (ae.Ce 8004 9100 bO.am rfl (afW cS dG dL) rfl) (ae.trans (ae.acr 9100 bO.am rfl)
   (ae.trans (ae.J3 9000 (Aa z U L nm bO.am) (fun c=>c - 1000) bs ⟨rfl,congrArg (fun e=>some (bb.map .str .aL e)) aW,congrArg (fun e=>some (bb.aG (.bA e))) b9,congrArg (fun e=>some (bb.aG (.bA e))) (afX cS dG dL),rfl,rfl,trivial⟩ aA rfl)
   (ae.trans (ae.acq 9000 1001 9001 bO.am rfl rfl) (ae.J4 9100 (dx s) (fun c=>c+8000) (CL bO.am cS dG dL) rfl aA rfl rfl (Cc (afP s))))))),?_,?_,?_⟩
  .exact rfl
  .exact aA
  .rfl
theorem Sz {f:FuncId} {args:List aP} {res:aP} {s s':bM} {R:bn->bf} (h:Fn Tryz.prog f (ap 1001::args) (fY s R) [] res (fY s' R)) (E:nO 1001 [1002,1003,1004] (ap 1001::args) (dx s) [(9000,.cn 1001 R)] [] []=true) (G:nP 1001 (mF [1002,1003,1004] [] []) res (dx s') [(9000,.cn 1001 R)]=true):
  Fn Tryz.prog f (ap 1001::args) [(1001,.aG (iZ s)),(9000,.cn 1001 R)] [] res [(1001,.aG (iZ s')),(9000,.cn 1001 R)]:=
 Fn.close (bo:=dx s) (dv:=dx s') (aJ:=[(9000,.cn 1001 R)]) (aO:=[(9000,.cn 1001 R)]) [1002,1003,1004] h (fun _ _ _ _ h=>h) (fun _ _ _ _ h=>h) E G
abbrev lj (x y:D):aw:=[(3001,.cells [.d x]),(3002,.cells [.d y])]
abbrev Ab (dY cS dG dL ku lk:Nat):Nat->Nat:=fun c=>cond (Nat.beq c 8001) dY (cond (Nat.beq c 8002) cS (cond (Nat.beq c 8003) dG (cond (Nat.beq c 8004) dL (cond (Nat.beq c 8005) ku lk))))
abbrev CM:aP:=.c (.one (.cU 139 [.p 8005 0,.p 8006 0]))
abbrev Gh (z U:Int) (L:List aN) (nm:ay4) (am:Nat) (s:bM) (dY cS dG dL ku lk:Nat) (x y:D):aw:=[(7000,.aG (iZ s)),(9000,.cn 7000 (sx z U L nm am (Ab dY cS dG dL ku lk)))]++(Lf (Ab dY cS dG dL ku lk)++lj x y)
abbrev SA:ay5:=[8001,8002,8003,8004,8005,8006,3001,3002]
abbrev Lh (am:Nat):aY:=[(0,dn am),(1,CM),(2,ap 3001),(3,ap 3002)]
abbrev afY (ku lk:Nat):aY:=[(0,ap 7000),(1,nc ku lk),(2,ap 3001),(3,ap 3002)]
theorem ae.SB (z U:Int) (L:List aN) (nm:ay4) (am:Nat) (im:bM) (cY:eg (h6 L) am=some (iZ im)) (x y:D):
  de (X:=Nat×Nat×Nat×Nat×Nat×Nat) SA (Lh am) (lL z U L nm++lj x y) (fun p=>afY p.2.2.2.2.1 p.2.2.2.2.2) (fun p=>Gh z U L nm am im p.1 p.2.1 p.2.2.1 p.2.2.2.1 p.2.2.2.2.1 p.2.2.2.2.2 x y):=by
 intro N C a w Lg;have E:=ae.Ce 8004 7000 am rfl cY rfl N C a w Lg;obtain⟨dY,G⟩:=de.mark 8001 7001 rfl au6 N C a w E;obtain⟨cS,aj⟩:=de.mark 8002 7002 rfl au6 N C a w G;obtain⟨dG,aX⟩:=de.mark 8003 7003 rfl au6 N C a w aj;obtain⟨dL,bH⟩:=de.mark 8004 7004 rfl au6 N C a w aX;obtain⟨ku,fF⟩:=de.mark 8005 7005 rfl au6 N C a w bH;obtain⟨lk,jF⟩:=de.mark 8006 7006 rfl au6 N C a w fF;have iA:=ae.J3 9000 (Aa z U L nm am) (fun c=>c - 1000) (Ab dY cS dG dL ku lk) aA aA rfl N C a w jF;have vD:=ae.acs 1 139 8005 8006 7005 7006 ku lk rfl rfl rfl N C a w iA;have Bf:=ae.QH 0 7000 am rfl rfl N C a w vD;have afZ:=ae.px 9000 7000 am rfl rfl au6 N C a w Bf;exact⟨(dY,cS,dG,dL,ku,lk),eW.sub afZ aA aA⟩
theorem ae.SC (z U:Int) (L:List aN) (eJ:hW L) (nm:ay4) (bO:aN) (av:dk L nm=some bO) (af:bO.cR=none) (s:bM) (dY cS dG dL ku lk:Nat) (x y:D) (r:Int):
  ae SA [(6,ac r)] (Gh z U L nm bO.am s dY cS dG dL ku lk x y) [(6,ac r)] (lL z U (d9 L nm s none) nm++lj x y):=by
 have fx:=eJ.M (cV av).1;have aW:=Gd nm s none L;have b9:=Ge nm s none L;have aq:e4 (h6 L) bO.am (iZ s)=h6 (d9 L nm s none):=Gg (cR:=none) (im:=s) eJ.ik eJ.wl av
 exact ae.trans (ae.aco 9000 7000 bO.am rfl rfl au6) (ae.trans (ae.J4 9000 (Aa z U L nm bO.am) (fun c=>c - 1000) (Ab dY cS dG dL ku lk) rfl aA rfl rfl (Cc (Sw z U L nm bO.am)))
  (ae.trans (ae.QM 8004 7000 bO.am rfl rfl fx au6) (ae.sub aA ⟨rfl,congrArg (fun e=>some (bb.map .str .aL e)) aW.symm,congrArg (fun e=>some (bb.aG (.bA e))) b9.symm,congrArg (fun e=>some (bb.aG (.bA e))) aq,rfl,rfl,rfl,rfl,trivial⟩)))
theorem af0 (z U:Int) (L:List aN) (eJ:hW L) (nm:ay4) (bO:aN) (av:dk L nm=some bO) (af:bO.cR=none) (a:Int) (bs:ay4) (r:Int) (s':bM)
  (h: ∀bE:Nat->Nat,Fn Tryz.prog 88 [ap 1001,ac a,bS .u8 bs,nc (bE 8005) (bE 8006)] (fY bO.im (sx z U L nm bO.am bE)) [] (ac r) (fY s' (sx z U L nm bO.am bE))):
  Fn Tryz.prog 87 [dn bO.am,CM,ap 3001,ap 3002] (lL z U L nm++lj (.int .i64 a) (.ck .u8 bs)) [] (ac r) (lL z U (d9 L nm s' none) nm++lj (.int .i64 a) (.ck .u8 bs)):=by
 have fx:eg (h6 L) bO.am=some (iZ bO.im):=by
  have:=eJ.M (cV av).1
  rwa[show kr bO=iZ bO.im by unfold kr;rw[af]] at this
 refine aU [1] Tryz.func87 ?_;refine bt.le (cH (Lh bO.am) (lL z U L nm++lj (.int .i64 a) (.ck .u8 bs))) <| bt.eY (ae.SB z U L nm bO.am bO.im fx _ _) fun p=>?_
 obtain⟨dY,cS,dG,dL,ku,lk⟩:=p;exact bz [] (bp) <| ar (Fn.aV [(1001,7000)] (Sz (h (Ab dY cS dG dL ku lk)) rfl rfl)) ⟨_,_,_,ae.trans (cH [(6,ac r)] (Gh z U L nm bO.am s' dY cS dG dL ku lk (.int .i64 a) (.ck .u8 bs))) (ae.SC z U L eJ nm bO av af s' dY cS dG dL ku lk _ _ r),rfl,rfl,aA,rfl⟩
theorem af1 (z U:Int) (L:List aN) (eJ:hW L) (nm:ay4) (bO:aN) (av:dk L nm=some bO) (af:bO.cR=none) (a l:Int) (r:Int) (s':bM)
  (h: ∀bE:Nat->Nat,Fn Tryz.prog 90 [ap 1001,ac a,ac l,nc (bE 8005) (bE 8006)] (fY bO.im (sx z U L nm bO.am bE)) [] (ac r) (fY s' (sx z U L nm bO.am bE))):
  Fn Tryz.prog 89 [dn bO.am,CM,ap 3001,ap 3002] (lL z U L nm++lj (.int .i64 a) (.int .i64 l)) [] (ac r) (lL z U (d9 L nm s' none) nm++lj (.int .i64 a) (.int .i64 l)):=by
 have fx:eg (h6 L) bO.am=some (iZ bO.im):=by
  have:=eJ.M (cV av).1
  rwa[show kr bO=iZ bO.im by unfold kr;rw[af]] at this
 refine aU [1] Tryz.func89 ?_;refine bt.le (cH (Lh bO.am) (lL z U L nm++lj (.int .i64 a) (.int .i64 l))) <| bt.eY (ae.SB z U L nm bO.am bO.im fx _ _) fun p=>?_
 obtain⟨dY,cS,dG,dL,ku,lk⟩:=p;exact bz [] (bp) <| ar (Fn.aV [(1001,7000)] (Sz (h (Ab dY cS dG dL ku lk)) rfl rfl)) ⟨_,_,_,ae.trans (cH [(6,ac r)] (Gh z U L nm bO.am s' dY cS dG dL ku lk (.int .i64 a) (.int .i64 l))) (ae.SC z U L eJ nm bO av af s' dY cS dG dL ku lk _ _ r),rfl,rfl,aA,rfl⟩
theorem af2 (z U:Int) (L:List aN) (eJ:hW L) (nm:ay4) (bO:aN) (av:dk L nm=some bO) (af:bO.cR=none) (a l:Int) (r:Int) (s':bM)
  (h:Fn Tryz.prog 92 [ap 1001,ac a,ac l] (dx bO.im) [] (ac r) (dx s')):
  Fn Tryz.prog 91 [dn bO.am,CM,ap 3001,ap 3002] (lL z U L nm++lj (.int .i64 a) (.int .i64 l)) [] (ac r) (lL z U (d9 L nm s' none) nm++lj (.int .i64 a) (.int .i64 l)):=by
 have fx:eg (h6 L) bO.am=some (iZ bO.im):=by
  have:=eJ.M (cV av).1
  rwa[show kr bO=iZ bO.im by unfold kr;rw[af]] at this
 have aW:=Gd nm s' none L;have b9:=Ge nm s' none L;have aq:e4 (h6 L) bO.am (iZ s')=h6 (d9 L nm s' none):=Gg (cR:=none) (im:=s') eJ.ik eJ.wl av;have H:Fn Tryz.prog 92 [ap 1001,ac a,ac l] [(1001,.aG (iZ bO.im))] [] (ac r) [(1001,.aG (iZ s'))]:=Fn.close (bo:=dx bO.im) (dv:=dx s') (aJ:=[]) (aO:=[]) [1002,1003,1004] h (fun _ _ _ _ h=>h) (fun _ _ _ _ h=>h) rfl rfl;have aT:=(cu.bA (c:=1001) (q:=8004) (b:=bO.am) (args:=[ac a,ac l]) (aJ:=[]) (bc:=[]) (X:=Unit) (res:=fun _=>ac r) (aO:=fun _=>[]) (o:=iZ bO.im) (o':=fun _=>iZ s') (L:=h6 L) H.x fx rfl ⟨rfl,rfl⟩ rfl (fun _=>rfl)).fn;refine aU [] Tryz.func91 ?_;exact ar aT <| si bp rfl rfl ⟨rfl,congrArg (fun e=>some (bb.map .str .aL e)) aW.symm,congrArg (fun e=>some (bb.aG (.bA e))) b9.symm,congrArg (fun e=>some (bb.aG (.bA e))) aq,rfl,rfl,rfl,rfl,trivial⟩ rfl
theorem Li (z U:Int) (L L':List aN) (eJ:hW L) (nm:ay4) (bO:aN) (av:dk L nm=some bO) (f:Nat) (r:Int) (x y:D)
  (hf:Fn Tryz.prog f [dn bO.am,CM,ap 3001,ap 3002] (lL z U L nm++lj x y) [] (ac r) (lL z U L' nm++lj x y)):
  Fn Tryz.prog 86 [ap 1001,bU nm,.c (.one (.cU f [.p 3001 0,.p 3002 0]))] (bP z U L++lj x y) [] (ac r) (bP z U L'++lj x y):=by
 obtain⟨oX,gb,gc⟩:=j5 xX;have cY:=eJ.D (cV av).1;have hx:(b0 (aI:=.str) (aK:=.aL) (c4 L) nm).getD (cL .aL)=some bO.ad:=ax6
 refine aU [2] Tryz.func86 ?_;refine⟨rfl,rfl,rfl,bz [] (bp) ?_⟩;refine⟨fun dZ O=>⟨_,_,fun N=>iY (b:=bO.ad) rfl ax1 N,rfl,?_⟩,fun O=>absurd (show(b0 (aI:=.str) (aK:=.aL) (c4 L) nm).getD (cL .aL)=none from O) aw2⟩;refine⟨_,_,fun N=>ja rfl Tryz.underlying86 rfl rfl gb av7 rfl N,rfl,?_⟩;refine⟨_,_,fun N=>k9 (q:=1003) rfl Tryz.underlying43 rfl rfl rfl cY rfl N,rfl,?_⟩;exact ar (Fn.aV [(8001,1001),(8002,1002),(8003,1003),(8004,1004),(8005,3),(8006,4)] hf) bg
theorem SD (z U:Int) (L L':List aN) (nm:ay4) (a:Int) (bs:ay4) (r:Int)
  (h:Fn Tryz.prog 86 [ap 1001,bU nm,.c (.one (.cU 87 [.p 3001 0,.p 3002 0]))] (bP z U L++lj (.int .i64 a) (.ck .u8 bs)) [] (ac r) (bP z U L'++lj (.int .i64 a) (.ck .u8 bs))):
  Fn Tryz.prog 48 [ap 1001,bU nm,ac a,bS .u8 bs] (bP z U L) [] (ac r) (bP z U L'):=by
 refine aU [] Tryz.func48 ?_;exact⟨rfl,rfl,ar (Fn.aV [(3001,6),(3002,7)] h) bg⟩
theorem SE (z U:Int) (L L':List aN) (nm:ay4) (a l:Int) (r:Int)
  (h:Fn Tryz.prog 86 [ap 1001,bU nm,.c (.one (.cU 89 [.p 3001 0,.p 3002 0]))] (bP z U L++lj (.int .i64 a) (.int .i64 l)) [] (ac r) (bP z U L'++lj (.int .i64 a) (.int .i64 l))):
  Fn Tryz.prog 50 [ap 1001,bU nm,ac a,ac l] (bP z U L) [] (ac r) (bP z U L'):=by
 refine aU [] Tryz.func50 ?_;exact⟨rfl,rfl,ar (Fn.aV [(3001,6),(3002,7)] h) bg⟩
theorem SF (z U:Int) (L L':List aN) (nm:ay4) (a l:Int) (r:Int)
  (h:Fn Tryz.prog 86 [ap 1001,bU nm,.c (.one (.cU 91 [.p 3001 0,.p 3002 0]))] (bP z U L++lj (.int .i64 a) (.int .i64 l)) [] (ac r) (bP z U L'++lj (.int .i64 a) (.int .i64 l))):
  Fn Tryz.prog 52 [ap 1001,bU nm,ac a,ac l] (bP z U L) [] (ac r) (bP z U L'):=by
 refine aU [] Tryz.func52 ?_;exact⟨rfl,rfl,ar (Fn.aV [(3001,6),(3002,7)] h) bg⟩
theorem Fn.res {P:Program} {f:FuncId} {args:List aP} {aJ:aw} {bc:ay5} {res res':aP} {aO:aw} (h:Fn P f args aJ bc res aO) (al:s5 res res'):Fn P f args aJ bc res' aO:=
 ⟨h.1,fun ρ F I w bW b4 cg a3 a4 a5 gy=>(h.2 ρ F I w bW b4 cg a3 a4 a5 gy).mono fun e w' ⟨x,ρ',F',r1,r2,ga,I',jJ,lC,l6,lD,mH,nQ⟩=>⟨x,ρ',F',r1,r2,ga,I',jJ,lC,l6,lD,mH,vM al nQ⟩⟩
theorem cu.to {P:Program} {f:FuncId} {args:List aP} {aJ:aw} {bc:ay5} {X Y:Type} {res:X->aP} {aO:X->aw} {res':Y->aP} {nR:Y->aw} (h:cu P f args aJ bc res aO) (g:X->Y) (E: ∀x,res x=res' (g x)) (G: ∀x,aO x=nR (g x)):cu P f args aJ bc res' nR:=
 ⟨h.1,fun ρ F I w bW b4 cg a3 a4 a5 gy=>(h.2 ρ F I w bW b4 cg a3 a4 a5 gy).mono fun e w' ⟨y,x,ρ',F',r1,r2,ga,I',jJ,lC,l6,lD,mH,nQ⟩=>by
  rw[G] at l6 lD mH;rw[E] at nQ;exact⟨g y,x,ρ',F',r1,r2,ga,I',jJ,lC,l6,lD,mH,nQ⟩⟩
def Ac (L:List aN):Nat->ay4->Nat
 |0,_=>0
 |f+1,nm=>match dk L nm with
  |none=>0
  |some d=>if d.back=[] then 0 else Ac L f d.back+1
def fk (L:List aN) (nm:ay4):Nat:=Ac L 100 nm
theorem af3 {L:List aN} {nm:ay4} {k:Nat} (h:eC L nm k): ∀f,k<=f->Ac L f nm=k:=by
 induction h with
 |gone h=>
  intro f _
  cases f with
  |zero=>rfl
  |succ f=>unfold Ac;rw[h]
 |base E G=>
  intro f _
  cases f with
  |zero=>rfl
  |succ f=>unfold Ac;rw[E];simp only;rw[if_pos G]
 |step E G _ br=>
  intro f hf
  cases f with
  |zero=>omega
  |succ f=>unfold Ac;rw[E];simp only;rw[if_neg G,br f au5]
theorem Lj {L:List aN} {nm:ay4} {k:Nat} (h:eC L nm k) (ab:k<=100):fk L nm=k:=af3 h 100 ab
structure cE (z U:Nat) (L:List aN):Prop extends nf z U L where
 wq:K7 L
 CN: ∀d,d∈L->gr d.nm=true
theorem CO {s:ay4} (h:gr s=true):1<=s.length/\s.length<=15:=by
 unfold gr at h;simp only[vj] at h;exact⟨gd h.1.1,gd h.1.2⟩
section
variable {z U:Nat} {L:List aN}
theorem cE.SG (h:cE z U L): ∀d,d∈L->d.nm.length<=100000:=fun d J=>by
 have:=CO (h.CN d J);omega
theorem cE.cn (h:cE z U L) (nm:ay4):eC L nm (fk L nm)/\fk L nm<=8:=by
 cases e:dk L nm with
 |none=>
  have:=eC.gone e;rw[Lj this au5];exact⟨this,au5⟩
 |some d=>
  obtain⟨k,ab,J⟩:=h.rv d (cV e).1;rw[(cV e).2] at J;rw[Lj J au5];exact⟨J,ab⟩
theorem cE.nil (E:z<=3) (G:U<=512):cE z U []:=
 ⟨⟨⟨at0,at0,at0⟩,E,G,ap7 _,(fun _ h=>by cases h),(fun _ h=>by cases h),(fun _ h=>by cases h),(fun _ h=>by cases h)⟩,(fun _ h=>by cases h),(fun _ h=>by cases h)⟩
theorem Ad: ∀{L:List aN},(L.map (·.nm)).Nodup-> ∀{d:aN},d∈L->dk L d.nm=some d
 | [],_,d,h=>by cases h
 |e::L,hn,d,h=>by
  rw[aq4] at hn;obtain⟨cI,dF⟩:=aq7.1 hn;rw[pJ];rcases ap3.1 h with rfl |h
  .rw[if_pos rfl]
  .rw[if_neg fun x=>cI (by rw[x];exact aq6 (f:=fun d:aN=>d.nm) h),Ad dF h]
theorem Gi (hn:(L.map (·.nm)).Nodup) {nm:ay4} {d:aN} (h:dk L nm=some d) (af:d.cR=none):d9 L nm d.im none=L:=by
 unfold d9;refine(ar1 fun e V=>?_).trans (List.map_id' L);unfold hX
 split
 .rename_i c;have:=Ad hn V;rw[c,h] at this;injection this with this
  subst this;rw[<-af]
 .rfl
theorem cE.d9 (h:cE z U L) {nm:ay4} {bO:aN} (av:dk L nm=some bO) {im:bM} (ax:jc bO.im im):cE z U (d9 L nm im none):=by
 refine⟨h.tonf.d9 av ax none,fun d J=>?_,fun d J=>?_⟩
 .obtain⟨e,V,rfl⟩:=ar2.1 J;unfold hX
  split
  .rfl
  .exact h.wq e V
 .obtain⟨e,V,rfl⟩:=ar2.1 J;rw[z8];exact h.CN e V
end
structure o2 where
 e:Int
 L:List aN
def hI (z:Nat) (L:List aN) (nm:ay4) (a:Int) (bs:ay4):o2:=match dk L nm with
 |none=>⟨140,L⟩
 |some d=>if bs.length % 16≠0 then⟨1,L⟩ else if eh d.im a ((bs.length/16:Nat):Int)≠0 then⟨eh d.im a ((bs.length/16:Nat):Int),L⟩ else
  ⟨RO d.im a.toNat (bs.length/16),d9 L nm (FZ d.im a.toNat (bs.length/16) bs (qq z L nm (fk L nm))) none⟩
def mc (z:Nat) (L:List aN) (nm:ay4) (a l:Int):o2:=match dk L nm with
 |none=>⟨140,L⟩
 |some d=>if eh d.im a l≠0 then⟨eh d.im a l,L⟩ else
  ⟨RT d.im a.toNat l.toNat,d9 L nm (F0 d.im a.toNat l.toNat (qq z L nm (fk L nm))) none⟩
def mQ (L:List aN) (nm:ay4) (a l:Int):o2:=match dk L nm with
 |none=>⟨140,L⟩
 |some d=>if eh d.im a l≠0 then⟨eh d.im a l,L⟩ else⟨0,d9 L nm (RP d.im a.toNat l.toNat) none⟩
theorem ws {s:bM} {a l:Int} (h:eh s a l=0):a=((a.toNat:Nat):Int)/\l=((l.toNat:Nat):Int):=by
 unfold eh at h
 split at h
 .cases h
 .split at h
  .cases h
  .omega
section
variable {z U:Nat} {L:List aN}
theorem af4 (h:cE z U L) (nm:ay4) (a l:Int):cE z U (mQ L nm a l).L:=by
 unfold mQ
 cases av:dk L nm with
 |none=>exact h
 |some d=>
  simp only
  split
  .exact h
  .rename_i G;have G:eh d.im a l=0:=Decidable.byContradiction G;obtain⟨ai,ao⟩:=ws G;rw[ai,ao] at G;exact h.d9 av (CA (h.g4 d (cV av).1).1 (su G) _ (ap0 _)).fH
theorem SH (h:cE z U L) {nm:ay4} {bO:aN} (av:dk L nm=some bO) (bE:Nat->Nat):KN bO.im (sx z U L nm bO.am bE) (bE 8005) (bE 8006) (qq z L nm (fk L nm)):=fun s' ax c H aR=>by
 have J:=h.cn nm;exact afV z U L h.tonf nm bO av (fk L nm) J.1 au5 s' ax bE c H aR
theorem Lk (h:cE z U L) (nm:ay4) (a:Int) (bs:ay4) (hd:bs.length<=1000000000):
  Fn Tryz.prog 48 [ap 1001,bU nm,ac a,bS .u8 bs] (bP z U L) [] (ac (hI z L nm a bs).e) (bP z U (hI z L nm a bs).L):=by
 unfold hI
 cases av:dk L nm with
 |none=>exact SD z U L L nm a bs 140 (Ld z U L nm av _ _ _)
 |some d=>
  have af:=h.wq d (cV av).1;have ah:=(h.g4 d (cV av).1).1
  have key: ∀(r:Int) (s':bM),(∀bE:Nat->Nat,Fn Tryz.prog 88 [ap 1001,ac a,bS .u8 bs,nc (bE 8005) (bE 8006)] (fY d.im (sx z U L nm d.am bE)) [] (ac r) (fY s' (sx z U L nm d.am bE)))->
    Fn Tryz.prog 48 [ap 1001,bU nm,ac a,bS .u8 bs] (bP z U L) [] (ac r) (bP z U (d9 L nm s' none)):=fun r s' aH=>
   SD z U L _ nm a bs r (Li z U L _ h.tohW nm d av _ r _ _ (af0 z U L h.tohW nm d av af a bs r s' aH))
  simp only
  split
  .rename_i E;have:=key 1 d.im fun bE=>aee d.im _ _ _ a bs E hd
   rwa[Gi h.ik av af] at this
  .rename_i E;have E:bs.length=16*(bs.length/16):=av3
   split
   .rename_i G;have:=key _ d.im fun bE=>aef d.im _ _ _ ah a _ bs E au5 G
    rwa[Gi h.ik av af] at this
   .rename_i G;have G:eh d.im a ((bs.length/16:Nat):Int)=0:=Decidable.byContradiction G;have e:=(ws G).1;have aj:=G;rw[e] at aj;refine key _ _ fun bE=>?_
    have:=aet d.im _ _ _ ah a.toNat _ bs E aj _ (SH h av bE)
    rwa[<-e] at this
theorem SI (h:cE z U L) (nm:ay4) (a l:Int):
  Fn Tryz.prog 50 [ap 1001,bU nm,ac a,ac l] (bP z U L) [] (ac (mc z L nm a l).e) (bP z U (mc z L nm a l).L):=by
 unfold mc
 cases av:dk L nm with
 |none=>exact SE z U L L nm a l 140 (Ld z U L nm av _ _ _)
 |some d=>
  have af:=h.wq d (cV av).1;have ah:=(h.g4 d (cV av).1).1
  have key: ∀(r:Int) (s':bM),(∀bE:Nat->Nat,Fn Tryz.prog 90 [ap 1001,ac a,ac l,nc (bE 8005) (bE 8006)] (fY d.im (sx z U L nm d.am bE)) [] (ac r) (fY s' (sx z U L nm d.am bE)))->
    Fn Tryz.prog 50 [ap 1001,bU nm,ac a,ac l] (bP z U L) [] (ac r) (bP z U (d9 L nm s' none)):=fun r s' aH=>
   SE z U L _ nm a l r (Li z U L _ h.tohW nm d av _ r _ _ (af1 z U L h.tohW nm d av af a l r s' aH))
  simp only
  split
  .rename_i G;have:=key _ d.im fun bE=>aez d.im _ _ _ ah a l G
   rwa[Gi h.ik av af] at this
  .rename_i G;have G:eh d.im a l=0:=Decidable.byContradiction G;obtain⟨ai,ao⟩:=ws G;have aj:=G;rw[ai,ao] at aj;refine key _ _ fun bE=>?_
   have:=aex d.im _ _ _ ah a.toNat l.toNat aj _ (SH h av bE)
   rwa[<-ai,<-ao] at this
theorem SJ (h:cE z U L) (nm:ay4) (a l:Int):
  Fn Tryz.prog 52 [ap 1001,bU nm,ac a,ac l] (bP z U L) [] (ac (mQ L nm a l).e) (bP z U (mQ L nm a l).L):=by
 unfold mQ
 cases av:dk L nm with
 |none=>exact SF z U L L nm a l 140 (Ld z U L nm av _ _ _)
 |some d=>
  have af:=h.wq d (cV av).1;have ah:=(h.g4 d (cV av).1).1
  have key: ∀(r:Int) (s':bM),Fn Tryz.prog 92 [ap 1001,ac a,ac l] (dx d.im) [] (ac r) (dx s')->
    Fn Tryz.prog 52 [ap 1001,bU nm,ac a,ac l] (bP z U L) [] (ac r) (bP z U (d9 L nm s' none)):=fun r s' aH=>
   SF z U L _ nm a l r (Li z U L _ h.tohW nm d av _ r _ _ (af2 z U L h.tohW nm d av af a l r s' aH))
  simp only
  split
  .rename_i G;have:=key _ d.im (aeh d.im ah a l G)
   rwa[Gi h.ik av af] at this
  .rename_i G;have G:eh d.im a l=0:=Decidable.byContradiction G;obtain⟨ai,ao⟩:=ws G;have aj:=G;rw[ai,ao] at aj;have:=aev d.im ah a.toNat l.toNat aj;rw[<-ai,<-ao] at this;exact key _ _ this
def Ae (z:Nat) (L:List aN) (nm:ay4) (a l:Int):ay4×Int:=match dk L nm with
 |none=>([],140)
 |some d=>if eh d.im a l=0 then(rx z L nm (fk L nm) a.toNat l.toNat,0) else([],eh d.im a l)
theorem af5 (h:cE z U L) (nm:ay4) (a l:Int):
  Fn Tryz.prog 45 [ap 1001,bU nm,ac a,ac l] (bP z U L) [] (.cf [.one (.d (.ck .u8 (Ae z L nm a l).1)),dw (Ae z L nm a l).2]) (bP z U L):=by
 unfold Ae
 cases av:dk L nm with
 |none=>exact(ae1 z U L nm av a l).res aA
 |some d=>
  simp only
  split
  .rename_i G;obtain⟨ai,ao⟩:=ws G;have aj:=G;rw[ai,ao] at aj;have J:=h.cn nm;have:=ae0 z U L h.tonf nm d av (fk L nm) J.1 au5 a.toNat l.toNat aj
   rwa[<-ai,<-ao] at this
  .rename_i G;exact(ae2 z U L h.tonf nm d av a l G).res aA
def fy (L:List aN) (nm:ay4):ay4×Int:=match dk L nm with
 |none=>([],140)
 |some d=>(d.back,0)
theorem Gj (h:cE z U L) (nm:ay4):Fn Tryz.prog 16 [ap 1001,bU nm] (bP z U L) [] (.cf [.one (.d (.str (fy L nm).1)),dw (fy L nm).2]) (bP z U L):=by
 unfold fy
 cases av:dk L nm with
 |none=>exact aeF z U L nm av
 |some d=>exact RV z U L h.tohW nm d av
theorem SK (h:cE z U L) (nm:ay4):Fn Tryz.prog 95 [ap 1001,bU nm] (bP z U L) [] (bS .str (oZ L nm)) (bP z U L):=ae' z U L h.tohW h.SG (by have:=h.len;omega) nm
def hY (z U:Nat) (L:List aN) (nm:ay4) (size:Int) (back:ay4) (p:Nat×Nat):o2:=
 if(gr nm&&j6 z size U)=false then⟨1,L⟩ else if(dk L nm).isSome=true\/16<=L.length then⟨143,L⟩ else if(decide (back=[])||(dk L back).isSome)=false then⟨140,L⟩
 else if back≠[]/\8 < fk L back+1 then⟨142,L⟩ else⟨0,nh L nm back p.1 p.2 (hv z size.toNat U)⟩
theorem af6 (L M:List aN) (nm:ay4):dk (L++M) nm=(dk L nm).or (dk M nm):=by
 unfold dk;rw[List.find?_append]
theorem CP {nm back:ay4} {ad am:Nat} {im:bM} (n:ay4):dk (nh L nm back ad am im) n=(dk L n).or (if nm=n then some ⟨nm,back,ad,am,im,none⟩ else none):=by
 show dk (L++_) n=_;rw[af6,pJ];rfl
theorem af7 {L':List aN} (ab: ∀n d,dk L n=some d-> ∃c1,dk L' n=some c1/\c1.back=d.back) (iQ: ∀d,d∈L->d.back≠[]-> ∃e,dk L d.back=some e) {n:ay4} {k:Nat} (h:eC L n k):(∃d,dk L n=some d)->eC L' n k:=by
 induction h with
 |gone h=>rintro⟨d,J⟩;rw[h] at J;cases J
 |base E G=>
  intro _;obtain⟨c1,ai,ao⟩:=ab _ _ E;exact .base ai (by rw[ao];exact G)
 |step E G aj br=>
  intro _;obtain⟨c1,ai,ao⟩:=ab _ _ E;exact .step ai (by rw[ao];exact G) (by rw[ao];exact br (iQ _ (cV E).1 G))
theorem af8 {z size U:Int} (h:j6 z size U=true):(0<=size/\size<=256)/\(0<=U/\U<=512)/\0<=z/\z<=3:=by
 unfold j6 at h;simp only[vj,ar5] at h;omega
theorem cE.add (h:cE z U L) {nm back:ay4} {size ad am:Nat} (eJ:hW (nh L nm back ad am (hv z size U))) (ax:size<=256) (hn:gr nm=true) (av:dk L nm=none) (nZ:L.length < 16) (O:back=[]\/(dk L back).isSome=true/\fk L back+1<=8):cE z U (nh L nm back ad am (hv z size U)):=by
 have CQ: ∀n d,dk L n=some d->dk (nh L nm back ad am (hv z size U)) n=some d:=fun n d J=>by rw[CP,J];rfl
 have CR:dk (nh L nm back ad am (hv z size U)) nm=some ⟨nm,back,ad,am,hv z size U,none⟩:=by rw[CP,av,if_pos rfl];rfl
 have pr: ∀d,d∈nh L nm back ad am (hv z size U)->d∈L\/d=⟨nm,back,ad,am,hv z size U,none⟩:=fun d J=>by
  rcases aq8.1 J with J |J
  .exact .inl J
  .exact .inr (aq2.1 J)
 have mD: ∀n k,(∃d,dk L n=some d)->eC L n k->eC (nh L nm back ad am (hv z size U)) n k:=fun n k J ab=>af7 (fun n d J=>⟨d,CQ n d J,rfl⟩) h.h7 ab J
 refine⟨⟨eJ,h.b3,h.uP,by rw[ap1];exact nZ,fun d J=>?_,fun d J k4=>?_,fun d J=>?_,fun d J=>?_⟩,fun d J=>?_,fun d J=>?_⟩
 .rcases pr d J with J |rfl
  .exact h.g4 d J
  .exact⟨aeA h.b3 ax h.uP,rfl,as4 ..⟩
 .rcases pr d J with J |rfl
  .obtain⟨e,V⟩:=h.h7 d J k4;exact⟨e,CQ _ _ V⟩
  .rcases O with O |⟨O,_⟩
   .exact absurd O k4
   .obtain⟨e,V⟩:=as7.1 O;exact⟨e,CQ _ _ V⟩
 .rcases pr d J with J |rfl
  .exact h.ne d J
  .intro e;have:=(CO hn).1;have e:nm=[]:=e;rw[e] at this;exact absurd this au6
 .rcases pr d J with J |rfl
  .obtain⟨k,ab,CS⟩:=h.rv d J;exact⟨k,ab,mD _ _ ⟨d,Ad h.ik J⟩ CS⟩
  .by_cases Af:back=[]
   .exact⟨0,ap7 _,.base CR Af⟩
   .rcases O with O |⟨O,af9⟩
    .exact absurd O Af
    .exact⟨fk L back+1,af9,.step CR Af (mD _ _ (as7.1 O) (h.cn back).1)⟩
 .rcases pr d J with J |rfl
  .exact h.wq d J
  .rfl
 .rcases pr d J with J |rfl
  .exact h.CN d J
  .exact hn
theorem af' (h:cE z U L) (nm:ay4) (size:Int) (back:ay4) (al:nm.length<=4294967296):
  cu Tryz.prog 18 [ap 1001,bU nm,ac size,bU back] (bP z U L) [] (X:={p:Nat×Nat//cE z U (hY z U L nm size back p).L}) (fun p=>ac (hY z U L nm size back p.1).e) (fun p=>bP z U (hY z U L nm size back p.1).L):=by
 have Gk: ∀e:Int,(∀p,hY z U L nm size back p=⟨e,L⟩)->Fn Tryz.prog 18 [ap 1001,bU nm,ac size,bU back] (bP z U L) [] (ac e) (bP z U L)->
   cu Tryz.prog 18 [ap 1001,bU nm,ac size,bU back] (bP z U L) [] (X:={p:Nat×Nat//cE z U (hY z U L nm size back p).L}) (fun p=>ac (hY z U L nm size back p.1).e) (fun p=>bP z U (hY z U L nm size back p.1).L):=fun e V hf=>
  hf.x.to (fun _=>⟨(0,0),by rw[V];exact h⟩) (fun _=>by rw[V]) (fun _=>by rw[V])
 by_cases E:(gr nm&&j6 z size U)=false
 .exact Gk 1 (fun p=>if_pos E) (afu z U size L nm back al E)
 have td:gr nm=true/\j6 z size U=true:=by
  rw[Bool.not_eq_false,vj] at E;exact E
 obtain⟨⟨cD,kO⟩,_⟩:=af8 td.2;obtain⟨ed,rfl⟩: ∃n:Nat,size=(n:Int):=⟨size.toNat,au5⟩;have ax:ed<=256:=av3
 by_cases G:(dk L nm).isSome=true\/16<=L.length
 .exact Gk 143 (fun p=>(if_neg E).trans (if_pos G)) (afv z ed U h.b3 ax h.uP L nm back al td.1 G)
 have av:dk L nm=none:=by
  cases e:dk L nm with
  |none=>rfl
  |some d=>exact absurd (.inl (by rw[e];rfl)) G
 have nZ:L.length < 16:=by
  rcases Nat.lt_or_ge L.length 16 with bk |bk
  .exact bk
  .exact absurd (.inr bk) G
 by_cases aj:(decide (back=[])||(dk L back).isSome)=false
 .exact Gk 140 (fun p=>(if_neg E).trans ((if_neg G).trans (if_pos aj))) (afw z ed U h.b3 ax h.uP L nm back al td.1 av nZ aj)
 have J:=h.cn back
 by_cases aX:back≠[]/\8 < fk L back+1
 .have O:(dk L back).isSome=true:=by
   rw[Bool.not_eq_false,Bool.or_eq_true] at aj;exact aj.resolve_left fun e=>aX.1 (gd e)
  exact Gk 142 (fun p=>(if_neg E).trans ((if_neg G).trans ((if_neg aj).trans (if_pos aX)))) (afx z ed U h.b3 ax h.uP L h.tohW nm back al td.1 av nZ aX.1 O _ J.1 au5 aX.2)
 have O:back=[]\/(dk L back).isSome=true/\fk L back+1<=8:=by
  by_cases e:back=[]
  .exact .inl e
  .rw[Bool.not_eq_false,Bool.or_eq_true] at aj;have iA: ¬8 < fk L back+1:=fun x=>aX ⟨e,x⟩
   exact .inr ⟨aj.resolve_left fun x=>e (gd x),au5⟩
 have aW: ∀p,hY z U L nm (ed:Int) back p=⟨0,nh L nm back p.1 p.2 (hv z ed U)⟩:=fun p=>(if_neg E).trans ((if_neg G).trans ((if_neg aj).trans (if_neg aX)))
 exact(afs z ed U h.b3 ax h.uP L h.tohW h.wq nm back al td.1 av nZ (fk L back) (O.imp id fun x=>⟨x.1,J.1,x.2⟩)).to (fun p=>⟨p.1,by rw[aW];exact h.add p.2 ax td.1 av nZ O⟩) (fun p=>by rw[aW]) (fun p=>by rw[aW])
theorem Gl {nm n:ay4} (a2:n≠nm): ∀L:List aN,dk (pI L nm) n=dk L n
 | []=>rfl
 |d::L=>by
  unfold pI
  by_cases c:d.nm=nm
  .rw[if_pos c,pJ,if_neg fun e=>a2 (e.symm.trans c)]
  .rw[if_neg c,pJ,pJ,Gl a2 L]
theorem aga (h:cE z U L) {nm:ay4} (a2:nm≠[]) {d:aN} (J:d∈L):d.nm∈oZ L nm↔d.back=nm:=by
 unfold oZ;rw[at5]
 have az:d.nm∈li L:=by
  unfold li ng;rw[List.mem_mergeSort,z1];exact aq6 J
 unfold lK;rw[Ad h.ik J,ar8 a2];simp[az]
theorem cE.k7 (h:cE z U L) {nm:ay4} {bO:aN} (av:dk L nm=some bO) (a7:oZ L nm=[]):cE z U (pI L nm):=by
 have p7:nm≠[]:=by rw[<-(cV av).2];exact h.ne bO (cV av).1
 have fv: ∀d,d∈L->d.back≠nm:=fun d J e=>by
  have:=(aga h p7 J).2 e;rw[a7] at this
  cases this
 have CQ: ∀d,d∈L->d.back≠[]->dk (pI L nm) d.back=dk L d.back:=fun d J _=>Gl (fv d J) L
 have eJ:=h.tohW.k7 nm
 have tn: ∀d,d∈pI L nm->d.nm≠nm:=fun d J e=>by
  have key: ∀{M:List aN},(M.map (·.nm)).Nodup->d∈pI M nm->d.nm=nm->(∃e,dk M nm=some e)->False:=by
   intro M
   induction M with
   |nil=>intro _ J _ _;cases J
   |cons x M br=>
    intro hn J e hx;rw[aq4] at hn;obtain⟨cI,dF⟩:=aq7.1 hn;unfold pI at J
    by_cases c:x.nm=nm
    .rw[if_pos c] at J;exact cI (by rw[c,<-e];exact aq6 (f:=fun d:aN=>d.nm) J)
    .rw[if_neg c] at J;rcases ap3.1 J with rfl |J
     .exact c e
     .refine br dF J e ?_;obtain⟨y,aB⟩:=hx;rw[pJ,if_neg c] at aB;exact⟨y,aB⟩
  exact key h.ik J e ⟨bO,av⟩
 have CS: ∀{n:ay4} {k:Nat},eC L n k->n≠nm->(∃d,dk L n=some d)->eC (pI L nm) n k:=by
  intro n k bk
  induction bk with
  |gone a1=>rintro _ ⟨d,J⟩;rw[a1] at J;cases J
  |base E G=>intro a2 _;exact .base (by rw[Gl a2];exact E) G
  |step E G aj br=>intro a2 _;exact .step (by rw[Gl a2];exact E) G (br (fv _ (cV E).1) (h.h7 _ (cV E).1 G))
 refine⟨⟨eJ,h.b3,h.uP,as9 (F9 L nm).length_le h.len,fun d J=>h.g4 d (wn J),fun d J O=>?_,fun d J=>h.ne d (wn J),fun d J=>?_⟩,fun d J=>h.wq d (wn J),fun d J=>h.CN d (wn J)⟩
 .rw[CQ d (wn J) O];exact h.h7 d (wn J) O
 .obtain⟨k,ab,bk⟩:=h.rv d (wn J);exact⟨k,ab,CS bk (tn d J) ⟨d,Ad h.ik (wn J)⟩⟩
def kv (L:List aN) (nm back:ay4):o2:=
 if(dk L nm).isSome=false\/(decide (back=[])||(dk L back).isSome)=false then⟨140,L⟩ else if nm=back\/nm∈eD L (fk L back) back then⟨141,L⟩
 else if∀n∈li L,fk (ff L nm back) n<=8 then⟨0,ff L nm back⟩ else⟨142,L⟩
theorem CT {nm back:ay4} {d:aN} (h:d.nm≠nm):gu nm back d=d:=by unfold gu;rw[if_neg h]
theorem SL {nm back:ay4} {d:aN} (h:d.nm=nm):(gu nm back d).back=back:=by unfold gu;rw[if_pos h]
theorem agb {nm back:ay4} {n:ay4} {k:Nat} (h:eC L n k):n≠nm->nm∉eD L k n->eC (ff L nm back) n k:=by
 induction h with
 |gone h=>intro _ _;exact .gone (by rw[sv,h];rfl)
 | @base n d E G=>
  intro a2 _;have e:=(cV E).2;exact .base (d:=d) (by rw[sv,E];show some (gu nm back d)=_;rw[CT (by rw[e];exact a2)]) G
 | @step n d k E G aj br=>
  intro a2 O;have e:=(cV E).2;unfold eD at O;rw[E] at O;simp only[ap3,not_or] at O;exact .step (d:=d) (by rw[sv,E];show some (gu nm back d)=_;rw[CT (by rw[e];exact a2)]) G (br (fun x=>O.1 x.symm) O.2)
theorem agc {nm back:ay4} {k:Nat} (b9:eC L back k) (E:nm≠back) (G:nm∉eD L k back) {n:ay4} {j:Nat} (h:eC L n j): ∃i,i<=j+k+1/\eC (ff L nm back) n i:=by
 have Ca:eC (ff L nm back) back k:=agb b9 (Ne.symm E) G
 have CR: ∀d,dk L nm=some d-> ∃i,i<=k+1/\eC (ff L nm back) nm i:=fun d J=>by
  have e:dk (ff L nm back) nm=some (gu nm back d):=by rw[sv,J];rfl
  have CC:=SL (back:=back) (cV J).2
  by_cases O:back=[]
  .exact⟨0,ap7 _,.base e (by rw[CC];exact O)⟩
  .exact⟨k+1,ap0 _,.step e (by rw[CC];exact O) (by rw[CC];exact Ca)⟩
 induction h with
 |gone h=>exact⟨0,ap7 _,.gone (by rw[sv,h];rfl)⟩
 | @base n d g1 g2=>
  have e:=(cV g1).2
  by_cases c:n=nm
  .subst c;obtain⟨i,aH,J⟩:=CR d g1;exact⟨i,au5,J⟩
  .exact⟨0,ap7 _,.base (d:=d) (by rw[sv,g1];show some (gu nm back d)=_;rw[CT (by rw[e];exact c)]) g2⟩
 | @step n d j g1 g2 cZ br=>
  have e:=(cV g1).2
  by_cases c:n=nm
  .subst c;obtain⟨i,aH,J⟩:=CR d g1;exact⟨i,au5,J⟩
  .obtain⟨i,aH,J⟩:=br;exact⟨i+1,au5,.step (d:=d) (by rw[sv,g1];show some (gu nm back d)=_;rw[CT (by rw[e];exact c)]) g2 J⟩
theorem cE.SM (h:cE z U L) {nm back:ay4} (E:nm≠back) (G:nm∉eD L (fk L back) back) (n:ay4):eC (ff L nm back) n (fk (ff L nm back) n)/\fk (ff L nm back) n<=20:=by
 have O:=h.cn back;have hn:=h.cn n;obtain⟨i,aH,J⟩:=agc O.1 E G hn.1;rw[Lj J au5];exact⟨J,au5⟩
theorem SN {nm back:ay4} (h: ¬((dk L nm).isSome=false\/(decide (back=[])||(dk L back).isSome)=false)):(∃d,dk L nm=some d)/\(decide (back=[])||(dk L back).isSome)=true:=by
 constructor
 .cases e:dk L nm with
  |none=>exact absurd (.inl (by rw[e];rfl)) h
  |some d=>exact⟨d,rfl⟩
 .cases e:(decide (back=[])||(dk L back).isSome) with
  |false=>exact absurd (.inr e) h
  |true=>rfl
theorem cE.set (h:cE z U L) {nm back:ay4} (ab:(decide (back=[])||(dk L back).isSome)=true) (E:nm≠back) (G:nm∉eD L (fk L back) back) (iA: ∀n∈li L,fk (ff L nm back) n<=8):cE z U (ff L nm back):=by
 have key: ∀d,d∈ff L nm back-> ∃e,e∈L/\gu nm back e=d:=fun d J=>by
  obtain⟨e,V,rfl⟩:=ar2.1 J;exact⟨e,V,rfl⟩
 refine⟨⟨h.tohW.ff nm back,h.b3,h.uP,by unfold ff;rw[aq3];exact h.len,fun d J=>?_,fun d J O=>?_,fun d J=>?_,fun d J=>?_⟩,fun d J=>?_,fun d J=>?_⟩
 .obtain⟨e,V,rfl⟩:=key d J;rw[Sj];exact h.g4 e V
 .obtain⟨e,V,rfl⟩:=key d J
  have h7: ∃x,dk L (gu nm back e).back=some x:=by
   by_cases c:e.nm=nm
   .rw[SL c] at O⊢;rw[Bool.or_eq_true] at ab;exact as7.1 (ab.resolve_left fun x=>O (gd x))
   .rw[CT c] at O⊢;exact h.h7 e V O
  obtain⟨x,hx⟩:=h7;exact⟨gu nm back x,by rw[sv,hx];rfl⟩
 .obtain⟨e,V,rfl⟩:=key d J;rw[x4];exact h.ne e V
 .obtain⟨e,V,rfl⟩:=key d J;rw[x4]
  have az:e.nm∈li L:=by
   unfold li ng;rw[List.mem_mergeSort,z1];exact aq6 V
  exact⟨_,iA _ az,(h.SM E G e.nm).1⟩
 .obtain⟨e,V,rfl⟩:=key d J;rw[Sk];exact h.wq e V
 .obtain⟨e,V,rfl⟩:=key d J;rw[x4];exact h.CN e V
theorem agd (h:cE z U L) (nm back:ay4):cE z U (kv L nm back).L:=by
 unfold kv
 split
 .exact h
 .rename_i E
  split
  .exact h
  .rename_i G
   split
   .rename_i aj;exact h.set (SN E).2 (fun e=>G (.inl e)) (fun e=>G (.inr e)) aj
   .exact h
theorem age (h:cE z U L) (nm back:ay4):Fn Tryz.prog 299 [ap 1001,bU nm,bU back] (bP z U L) [] (ac (kv L nm back).e) (bP z U (kv L nm back).L):=by
 have J:=h.cn back
 by_cases E:(dk L nm).isSome=false\/(decide (back=[])||(dk L back).isSome)=false
 .rw[show kv L nm back=⟨140,L⟩ from if_pos E];exact afz z U L nm back E
 obtain⟨⟨d,jK⟩,ab⟩:=SN E
 by_cases G:nm=back\/nm∈eD L (fk L back) back
 .rw[show kv L nm back=⟨141,L⟩ from(if_neg E).trans (if_pos G)];exact afA z U L h.tohW nm back d jK ab _ J.1 au5 G
 have fq:=fun n=>h.SM (back:=back) (fun e=>G (.inl e)) (fun e=>G (.inr e)) n
 refine afG z U L h.tohW h.SG (by have:=h.len;omega) nm back d jK ab _ J.1 au5 G (fun n=>fk (ff L nm back) n) (fun n _=>⟨(fq n).1,by have:=(fq n).2;omega⟩) _ _ (fun bk=>?_) (fun bk=>?_)
 .rw[show kv L nm back=⟨0,ff L nm back⟩ from(if_neg E).trans ((if_neg G).trans (if_pos bk))];exact⟨rfl,rfl⟩
 .have fv: ¬ ∀n∈li L,fk (ff L nm back) n<=8:=fun eH=>by
   obtain⟨n,hn,iA⟩:=bk;have:=eH n hn;omega
  rw[show kv L nm back=⟨142,L⟩ from(if_neg E).trans ((if_neg G).trans (if_neg fv))];exact⟨rfl,rfl⟩
end
end
section
section
variable {z U:Nat} {L:List aN}
def hJ (z:Nat) (L:List aN) (nm:ay4) (k:Int):ay4:=match dk L nm with
 |none=>[]
 |some d=>if 0<=k/\k < (d.im.t.length:Nat) then pG z L nm (fk L nm) k.toNat else[]
theorem Ll (h:cE z U L) (nm:ay4) (k:Int):Fn Tryz.prog 81 [ap 1001,bU nm,ac k] (bP z U L) [] (bS .u8 (hJ z L nm k)) (bP z U L):=by
 unfold hJ
 cases av:dk L nm with
 |none=>
  have hx:(b0 (aI:=.str) (aK:=.aL) (c4 L) nm).getD (cL .aL)=none:=ax6
  simp only;refine aU [2,4] Tryz.func81 ?_;refine bz [4] (bp) ?_;exact⟨fun dZ O=>absurd (show(b0 (aI:=.str) (aK:=.aL) (c4 L) nm).getD (cL .aL)=some dZ from O) aw2,fun _=>bg⟩
 |some bO=>
  simp only
  split
  .rename_i ab;have J:=h.cn nm;have:=KV z U L h.tonf nm bO av (fk L nm) J.1 au5 k.toNat au5
   rwa[show((k.toNat:Nat):Int)=k by omega] at this
  .rename_i ab;obtain⟨oX,gb,gc⟩:=j5 xX;have lJ:=h.tohW.D (cV av).1;have fx:=h.tohW.M (cV av).1;have hx:(b0 (aI:=.str) (aK:=.aL) (c4 L) nm).getD (cL .aL)=some bO.ad:=ax6
   refine aU [2,4] Tryz.func81 ?_;refine bz [4] (bp) ?_;refine⟨fun dZ O=>⟨fun _=>?_,fun E=>?_⟩,fun O=>absurd (show(b0 (aI:=.str) (aK:=.aL) (c4 L) nm).getD (cL .aL)=none from O) aw2⟩
   .exact bg
   have E: ¬k < 0:=mu E;refine⟨_,_,fun N=>iY (b:=bO.ad) rfl ax1 N,rfl,?_⟩;refine⟨_,_,fun N=>ja rfl Tryz.underlying86 rfl rfl gb av7 rfl N,rfl,?_⟩;refine⟨_,_,fun N=>k9 (q:=1003) rfl Tryz.underlying43 rfl rfl rfl lJ rfl N,rfl,?_⟩;refine ar (hy (mL bO.im) fx rfl rfl rfl rfl) ⟨fun _=>?_,fun G=>?_⟩
   .exact bg
   .exfalso;have G: ¬((bO.im.t.length:Nat):Int)<=k:=mu G;omega
end
end
section
section
variable {z U:Nat} {L:List aN}
theorem Lm (h:cE z U L) {nm:ay4} {k:Nat} (J:eC L nm k) (av: ∃d,dk L nm=some d): ∀j,j<=k-> ∃e,dk L (eK L j nm)=some e
 |0,_=>av
 |j+1,Z=>by
  obtain⟨e,V⟩:=Lm h J av j au5;have iT:=F3 J j au5;rw[zW,V];simp only;generalize az:k - j=m at iT
  cases iT with
  |gone a1=>rw[V] at a1;cases a1
  |base _ _=>omega
  |step E G _=>
   rw[V] at E;injection E with E
   subst E;exact h.h7 e (cV V).1 G
theorem Ln (h:cE z U L) {nm:ay4} {k:Nat} (J:eC L nm k) (av: ∃d,dk L nm=some d):eK L (k+1) nm=[]:=by
 obtain⟨e,V⟩:=Lm h J av k (ap0 _);have iT:=F3 J k (ap0 _);rw[Nat.sub_self] at iT;rw[zW,V];simp only
 cases iT with
 |gone a1=>rw[V] at a1;cases a1
 |base E G=>
  rw[V] at E;injection E with E
  subst E;exact G
theorem agf (h:cE z U L) {n:ay4} (hn: ∃e,dk L n=some e):n≠[]:=by
 obtain⟨e,V⟩:=hn;rw[<-(cV V).2];exact h.ne e (cV V).1
end
section
variable {z:Nat} {L:List aN} {c:Nat}
end
section
variable {z U:Nat} {L:List aN}
theorem cE.agh (h:cE z U L) {nm:ay4} (av: ∃d,dk L nm=some d): ∀n,n∈nm::eD L (fk L nm) nm-> ∃e,dk L n=some e:=fun n hn=>by
 rcases ap3.1 hn with rfl |hn
 .exact av
 .exact KS h.tonf (h.cn nm).1 n hn
end
def kR (L:List aN) (t:ay4) (L':List aN):Prop:=L'=L\/ ∃d im,dk L t=some d/\jc d.im im/\L'=d9 L t im none
section
variable {z U:Nat} {L L':List aN} {t n:ay4}
theorem Ag (h:cE z U L) (nm:ay4) (a:Int) (bs:ay4):kR L nm (hI z L nm a bs).L:=by
 unfold hI
 cases av:dk L nm with
 |none=>exact .inl rfl
 |some d=>
  simp only
  split
  .exact .inl rfl
  .rename_i E
   split
   .exact .inl rfl
   .rename_i G;have G:eh d.im a ((bs.length/16:Nat):Int)=0:=Decidable.byContradiction G;have e:=(ws G).1;rw[e] at G;exact .inr ⟨d,_,av,aeu (h.g4 d (cV av).1).1 au5 G _,rfl⟩
theorem Gm (h:cE z U L) (nm:ay4) (a l:Int):kR L nm (mc z L nm a l).L:=by
 unfold mc
 cases av:dk L nm with
 |none=>exact .inl rfl
 |some d=>
  simp only
  split
  .exact .inl rfl
  .rename_i G;have G:eh d.im a l=0:=Decidable.byContradiction G;obtain⟨ai,ao⟩:=ws G;rw[ai,ao] at G;exact .inr ⟨d,_,av,aey (h.g4 d (cV av).1).1 G _,rfl⟩
theorem x6 (h:cE z U L) (nm:ay4) (a l:Int):kR L nm (mQ L nm a l).L:=by
 unfold mQ
 cases av:dk L nm with
 |none=>exact .inl rfl
 |some d=>
  simp only
  split
  .exact .inl rfl
  .rename_i G;have G:eh d.im a l=0:=Decidable.byContradiction G;obtain⟨ai,ao⟩:=ws G;rw[ai,ao] at G;exact .inr ⟨d,_,av,(CA (h.g4 d (cV av).1).1 (su G) _ (ap0 _)).fH,rfl⟩
theorem kR.cs (h:cE z U L) (al:kR L t L'):cE z U L':=by
 rcases al with rfl |⟨d,im,av,ax,rfl⟩
 .exact h
 .exact h.d9 av ax
end
end
section
theorem CU: ∀(n:Nat) (l:ay5),l.Nodup->(∀x,x∈l->x < n)->l.length<=n
 |0,[],_,_=>ap0 _
 |0,x::l,_,h=>absurd (h x (aq0 ..)) (au3 x)
 |n+1,l,hn,h=>by
  have E:(l.erase n).Nodup:=hn.erase n
  have G:=CU n (l.erase n) E fun x hx=>by
   have pp:=(hn.mem_erase_iff).1 hx;have:=h x pp.2;have:=pp.1;omega
  have aj:l.length<=(l.erase n).length+1:=by
   rw[List.length_erase]
   split <;>omega
  omega
theorem Lo {α lE:Type} {f:α->lE}: ∀{l:List α},(∀x,x∈l-> ∀y,y∈l->f x=f y->x=y)->l.Nodup->(l.map f).Nodup
 | [],_,_=>at0
 |a::l,aH,hn=>by
  obtain⟨cI,dF⟩:=aq7.1 hn;rw[aq4];refine aq7.2 ⟨fun az=>?_,Lo (fun x hx y aB=>aH x (ap2 _ hx) y (ap2 _ aB)) dF⟩;obtain⟨y,aB,e⟩:=ar2.1 az;have:=aH y (ap2 _ aB) a (aq0 ..) e;exact cI (this▸aB)
section
variable {z U:Nat} {L:List aN} {nm:ay4}
end
theorem Gn {L:List aN} {nm:ay4} {k:Nat} (h:eC L nm k) {i:Nat} (aH:i < k):(eD L k nm)[i]? =some (eK L (i+1) nm):=by
 have E:=F4 h i aH;have G:=ru h;rw[List.take_add_one] at E;have aj:=List.append_cancel_left E;rw[oj au5] at aj⊢;injection aj with aj
 rw[aj]
theorem SO {α:Type} (p:α->Bool): ∀(l:List α) (j:Nat),j<=l.length->(∀i x,i < j->l[i]? =some x->p x=true)->(j=l.length\/ ∃x,l[j]? =some x/\p x=false)->l.takeWhile p=l.take j
 | [],j,Z,_,_=>by
  have:j=0:=aw4
  subst this;rfl
 |a::l,0,_,_,h=>by
  rcases h with h |⟨x,hx,af⟩
  .cases h
  .injection hx with hx
   subst hx;rw[List.takeWhile_cons,af];rfl
 |a::l,j+1,Z,E,G=>by
  have ha:=E 0 a (Nat.succ_pos j) rfl;rw[List.takeWhile_cons,ha];show a::l.takeWhile p=a::l.take j;rw[SO p l j aw4 (fun i x aH hx=>E (i+1) x au5 hx) (G.imp (fun e=>by simpa using e) id)]
def ni (L:List aN) (top base:ay4):List ay4:=(eD L (fk L top) top).takeWhile fun n=> !decide (n=base)
def n0 (L:List aN) (top base:ay4):Bool:=(dk L top).isSome&&(decide (base=[])||decide (base∈eD L (fk L top) top))
def jf (L:List aN) (n:ay4) (k:Nat):Bool:=match dk L n with
 |none=>true
 |some d=>decide (d.im.t.length<=k)||decide ((d.im.t.getD k cD).1=0)
def sy (L:List aN) (top base:ay4) (k:Nat):Bool:=jf L top k&&(ni L top base).any fun n=> !jf L n k
def cO (L:List aN) (nm:ay4):Nat:=match dk L nm with
 |none=>0
 |some d=>d.im.t.length
def sz (L:List aN) (top base:ay4):Option Nat:=if n0 L top base=true then(List.range (cO L top)).find? (sy L top base) else none
structure agi where
 done:Bool
 e:Int
 L:List aN
 over:Bool
def iH (z:Nat) (L:List aN) (top base:ay4) (over:Bool):agi:=if(over|| !(dk L top).isSome)=true then⟨false,160,L,over⟩ else match sz L top base with
 |some k=>⟨false,(hI z L top ((k*2 ^z:Nat):Int) (hJ z L top (k:Int))).e,(hI z L top ((k*2 ^z:Nat):Int) (hJ z L top (k:Int))).L,over⟩
 |none=>⟨decide ((kv L top base).e=0),(kv L top base).e,(kv L top base).L,decide ((kv L top base).e=0)⟩
section
variable {z U:Nat} {L:List aN} {nm:ay4}
theorem agj (L:List aN) {t n:ay4} {d:aN} {im:bM} (J:dk L t=some d) (ax:jc d.im im):cO (d9 L t im none) n=cO L n/\(dk (d9 L t im none) n).isSome=(dk L n).isSome:=by
 by_cases e:n=t
 .subst e;unfold cO;rw[Gf J,J];exact⟨ax.eV,rfl⟩
 .unfold cO;rw[Sq e];exact⟨rfl,rfl⟩
end
section
variable {z U:Nat} {L:List aN} {top base:ay4}
theorem agk (h:cE z U L) {d:aN} (J:dk L top=some d): ∀n,n∈ni L top base->n≠top/\ ∃e,dk L n=some e:=fun n hn=>by
 have az:n∈eD L (fk L top) top:=(List.takeWhile_sublist _).mem hn;refine⟨fun e=>?_,h.agh ⟨d,J⟩ n (ap2 _ az)⟩;rw[e] at az;exact Su (h.cn top).1 az
end
end
section
open Go.RowKit Go.Proofs Go.Maps Go.Shelf Go.MapKept Tryz
open Go.WideElems (Fit rd rg pl rd_val rd_key rg_of)
def agl {aK:bx} (p:aa ak×aa aK):Int:=p.1
def gR {aK:bx} (es:List (aa ak×aa aK)):List Int:=es.map agl
theorem SP {I:Nat->Prop} {w:World} {aK:bx}: ∀{l:List (aa ak×aa aK)} {es:List MapEntry},ie I w ak aK l es->es.map (·.key)=(gR l).map encZ
 | [],_,h=>by rw[show _=[] from h];rfl
 |p::l,_,⟨e,r,h,E,_,aj⟩=>by
  rw[h,aq4,SP aj,E];rfl
theorem agm {P:Program} {k:TypeId} (ab:P.underlying k=some (.int .i64)) (s:Int) (h:(Lit.int .i64 s).wf=true):keyOf P k (encZ s)=some (.int .i64 s):=by
 simp[keyOf,ab,encZ,mapKey,h]
theorem SQ: ∀{l m:List Int},l.map encZ=m.map encZ->l=m
 | [],[],_=>rfl
 | [],_::_,h=>by simp at h
 |_::_,[],h=>by simp at h
 |x::l,y::m,h=>by
  simp only[aq4,List.cons.injEq] at h;rw[encZ_inj h.1,SQ h.2]
theorem Lp {P:Program} {k:TypeId} (ab:P.underlying k=some (.int .i64)) {I:Nat->Prop} {w:World} {aK:bx} {es:List (aa ak×aa aK)} {bT:List MapEntry} {bV b:Nat} (O:w.heap[b]? =some (.map (List.toArray bT) bV))
  (az:ie I w ak aK es bT) (da:lZ bT bV) (hn:(gR es).Nodup) (al: ∀s∈gR es,(Lit.int .i64 s).wf=true) (ax:es.length<=maxLen):
  ∃je,w.ownsMap P k pH b es.length je/\Maps.size je=es.length/\(intKeys je).Perm (gR es):=by
 have b6:=A7 az;have xZ:=SP az
 have CF: ∀x∈bT,∃s:Int,x.key=encZ s/\rg P k pH x=(.int .i64 s,.nil)/\ ∃y,rd P k pH x=some y:=by
  intro x hx;have:x.key∈(gR es).map encZ:=by rw[<-xZ];exact aq6 hx
  obtain⟨s,af,V⟩:=ar2.1 this;have KZ:keyOf P k x.key=some (.int .i64 s):=V▸agm ab _ (al s af);have tD:rd P k pH x=some (.int .i64 s,.nil):=by simp[rd,KZ]
  exact⟨s,V.symm,rg_of tD,_,tD⟩
 have oY:=Go.WideShapes.sorted_perm (bT.map (rg P k pH))
 have h4:(bT.map (rg P k pH)).map (fun p=>Go.intOf p.1)=gR es:=by
  refine SQ ?_;rw[<-xZ,as2,as2];refine ar1 fun x hx=>?_
  obtain⟨s,ai,ao,_⟩:=CF x hx;simp[ao,ai,Go.intOf]
 refine⟨.map ((bT.map (rg P k pH)).foldr DataW.insert []),⟨List.toArray bT,bV,O,⟨by simp[b6];exact ax,(stamped_iff _ _).2 ⟨da.2,da.1.imp fun h=>by omega,?_⟩,fun x hx=>(CF x hx).choose_spec.2.2⟩,by simp[b6],rfl⟩,?_,?_⟩
 .have E:(bT.map (·.key)).Pairwise (· ≠ ·):=by
   rw[xZ];exact List.pairwise_map.2 (hn.imp fun a2 e=>a2 (encZ_inj e))
  exact List.pairwise_map.1 E
 .show List.length _=_;rw[oY.length_eq,aq3,b6]
 .show(List.map (fun p=>Go.intOf (Prod.fst p)) _).Perm _;rw[<-h4];exact oY.map _
theorem Lq (es:List (aa ak×aa ak)):Fn Tryz.prog 136 [.c (.one (.mp 1001))] [(1001,.map ak ak es)] [2001] (.c (.one (.cU 178 [.p 2001 0]))) [(2001,.cells [.mp 1001]),(1001,.map ak ak es)]:=by
 refine aU [] Tryz.func136 ?_;exact⟨rfl,_,_,_,ae.aV 1 2001 rfl,rfl,rfl,aA,rfl⟩
theorem eN.Lr {I D:Nat->Prop} {w:World} {v:Value} {l:List Int} (h:eN D w 1 v l.length (l.map encZ)) (b9: ∀b,b < w.heap.size->D b->I b):co I w (.b7 ak) l (fun _=>some v):=by
 obtain⟨_,A,c,av,E,G,aj⟩:=h;refine⟨A,c,congrArg some av,E,G,fun af=>?_⟩;obtain⟨b,o,ek,O,bw,hx⟩:=aj af;refine⟨b,o,ek,b9 b bw O,fun i x aH=>?_⟩;have:=hx i (encZ x) (by rw[ar0,show l[i]? =some x from aH];rfl);simpa[co,aQ,encZ] using this
theorem SR (es:List (aa ak×aa ak)) (hn:(gR es).Nodup) (al: ∀s∈gR es,(Lit.int .i64 s).wf=true) (ax:es.length<=4294967296):
  cu Tryz.prog 176 [.c (.one (.cU 178 [.p 2001 0]))] [(2001,.cells [.mp 1001]),(1001,.map ak ak es)] [] (X:={g5:List Int//g5.Perm (gR es)}) (fun g=>bS ak g.1) (fun _=>[(2001,.cells [.mp 1001]),(1001,.map ak ak es)]):=by
 refine⟨au8,fun ρ F I w bW ba cX bh ep b6 dt=>?_⟩
 match bW,b6 with
 | [v],_=>
  obtain⟨aE,ay,gh,r,hr,ma,aF⟩:=dt 0 _ v rfl rfl;have aF:r=[]:=aF;have ma:gh= .pointer (some ⟨(ρ 2001).bj,0,none⟩):=ma;subst aF ma hr ay;obtain⟨_,aE,T,gQ,hr⟩:=cX 2001 _ rfl;obtain⟨x,r,hr,hx,aF⟩:=hr;have aF:r=[]:=aF;have hx:x= .map (some (ρ 1001).bj):=hx;subst aF hx hr;obtain⟨_,bT,bV,he,az,da⟩:=cX 1001 _ rfl;have F8:(4294967296:Nat)<=maxLen:=by decide
  obtain⟨je,du,cM,oY⟩:=Lp (P:=Tryz.prog) (k:=3) au8 he az da hn al au5;have bw:(ρ 2001).bj < w.heap.size:=k1 gQ
  have uQ:SeqGives Fence.wide 2 Tryz.prog 178 #[.pointer (some ⟨(ρ 2001).bj,0,none⟩)] encZ (fun g5=>g5.Perm (intKeys je)) (Maps.size je) w:=
   AnyZI.keys_gives (ρ:=J') {QS with} Fence.wide _ trivial rfl au5 (ρ 2001).bj (ρ 1001).bj es.length je w bw (oF gQ rfl) du
  have H:=AnyZI.collect_in acM Fence.wide 4 trivial trivial rfl au5 178 #[.pointer (some ⟨(ρ 2001).bj,0,none⟩)] trivial (enters_of Tryz.func178 au8 rfl) _ _ ax0 ax0 _ uQ;refine(callsIn_wide.1 H).mono ?_;rintro e w' ⟨v,g5,rfl,au,fX,x0,gD⟩;have aW:ce I w (fun b=>b < w'.heap.size/\(I b\/w.heap.size<=b)) w':=fun b fP=>⟨⟨Nat.lt_of_lt_of_le (ba b fP) gD.size,.inl fP⟩,gD.block b (ba b fP)⟩
  refine⟨⟨g5,au.trans oY⟩,v,ρ,F,rfl,cK.mo gD,fun _ _=>rfl,_,aW,fun b h=>⟨h.1,h.2.imp id .inr⟩,fun c ch H=>Holds.cj aW (fun b O=>gD.block b (bh c ch H b O).1) gD.size ch (fun _ _=>rfl) (cX c ch H),fun c ch H b O=>?_,fun c bX ch ch' b E G=>ep c bX ch ch' b E G,?_⟩
  .have:=bh c ch H b O;exact⟨Nat.lt_of_lt_of_le this.1 gD.size,fun h=>(by rcases h.2 with h |h;exact this.2 h;omega),.inl ⟨c,ch,H,O⟩⟩
  .have hp:=eN.qQ fX;exact(hp.wY fun i _ aH=>(fX.lt i aH).1).Lr fun b E G=>⟨E,.inr G⟩
def o3:List Int->Int
 | []=>0
 |x::l=>l.foldl min x
theorem agn {l:List Int} (h:0 < l.length):o3 (l.take 1)=l[0]:=by
 cases l with
 |nil=>simp at h
 |cons x l=>rfl
theorem ago {l:List Int} {k:Nat} (av:0 < k) (h:k < l.length):o3 (l.take (k+1))=min (o3 (l.take k)) l[k]:=by
 cases l with
 |nil=>simp at h
 |cons x l=>
  cases k with
  |zero=>omega
  |succ k=>
   have ab:k < l.length:=av4
   show List.foldl min x (l.take (k+1))=min (List.foldl min x (l.take k)) l[k];rw[List.take_add_one,oj ab,at9];rfl
theorem SS: ∀(l:List Int) (x:Int),List.foldl min x l<=x/\(∀y,y∈l->List.foldl min x l<=y)/\(List.foldl min x l=x\/List.foldl min x l∈l)
 | [],x=>⟨Int.le_refl _,fun y h=>av5,.inl rfl⟩
 |aC::l,x=>by
  obtain⟨E,G,aj⟩:=SS l (min x aC);show List.foldl min (min x aC) l<=x/\(∀y,y∈aC::l->List.foldl min (min x aC) l<=y)/\(List.foldl min (min x aC) l=x\/List.foldl min (min x aC) l∈aC::l);refine⟨au5,fun y aB=>?_,?_⟩
  .rcases ap3.1 aB with rfl |aB
   .omega
   .exact G y aB
  .rcases aj with aj |aj
   .rcases Int.le_total x aC with c |c
    .exact .inl au5
    .exact .inr (by rw[aj,show min x aC=aC by omega];exact aq0 ..)
   .exact .inr (ap2 _ aj)
theorem Ls {l:List Int} (h:l≠[]):o3 l∈l/\ ∀y,y∈l->o3 l<=y:=by
 cases l with
 |nil=>exact absurd rfl h
 |cons x l=>
  obtain⟨E,G,aj⟩:=SS l x;refine⟨?_,fun y aB=>?_⟩
  .rcases aj with aj |aj
   .show List.foldl min x l∈x::l;rw[aj];exact aq0 ..
   .exact ap2 _ aj
  .rcases ap3.1 aB with rfl |aB
   .exact E
   .exact G y aB
theorem ST {l m:List Int} (h:l.Perm m) (hn:m≠[]):o3 l=o3 m:=by
 have al:l≠[]:=fun e=>hn (by subst e;exact List.nil_perm.1 h)
 obtain⟨b4,cg⟩:=Ls al;obtain⟨b1,b2⟩:=Ls hn;have:=cg _ (h.mem_iff.2 b1);have:=b2 _ (h.mem_iff.1 b4);omega
theorem SU (l:List Int) (av:0 < l.length) (E:l.length<=1073741824):Fn Tryz.prog 287 [bS ak l] [] [] (ac (o3 l)) []:=by
 have a1:=jv (n:=0) av;have cq:=agn av;refine aU [3] Tryz.func287 ?_;refine⟨fun h=>?_,fun _=>?_⟩
 .have h:decide (((l.length:Nat):Int) < 1)=true:=h;have:=gd h;omega
 refine bz [] (bp) ⟨au5,l[0],a1,dQ [] (X:=Nat) (fun k=>[(0,bS ak l),(3,ac (o3 (l.take k))),(4,ac (k:Int))]) (fun _=>[]) (fun k=>1<=k/\k<=l.length) (fun k=>l.length - k) 1 ⟨ap0 _,av⟩ ?_ ?_⟩
 .exact ae.sub ⟨rfl,cq.symm,rfl,trivial⟩ trivial
 rintro k ⟨cm,ab⟩;refine⟨fun H=>?_,fun H=>?_⟩
 .have H:decide ((k:Int) < ((l.length:Nat):Int))=true:=H;have hi:k < l.length:=aw7
  have ax:=ago cm hi;exact⟨au5,l[k],jv (n:=k) hi,au5,k+1,⟨au5,hi⟩,au5,ae.sub ⟨rfl,ax.symm,rfl,trivial⟩ trivial⟩
 .have H:decide ((k:Int) < ((l.length:Nat):Int))=false:=H;have hi:k=l.length:=aw3
  exact eq bp rfl (show o3 (l.take k)=o3 l by rw[hi,aq9])
section
variable {P:Program} {N:Nat} {ids:ay5} {K:aY} {B:aw}
theorem SV {o:Oper} {T kt et:TypeId} {x:Operand} {c:Nat} (ah:o.op= .call {callee:=.builtin .clear,args:= #[x],argTypes:= #[T]}) (cd:P.underlying T=some (.map kt et)) {aI aK:bx} {es:List (aa aI×aa aK)}
  (hx:a6 K x= .c (.one (.mp c))) (H:ag B c=some (.map aI aK es)) (N:Nat):bB P N ids o K B (.cf []) ⟨[c],[],[(c,some (.map aI aK []))]⟩:=by
 have m1:x∈o.op.operands:=av6
 refine bB.O8 H fun K' B' g1 C ρ F a w aq au f3=>?_
 obtain⟨bh,bT,bV,O,az,da⟩:=aq.holds c _ f3;have ai:=au.mp ((g1 x m1).trans hx);have bw:=k1 O;have ez:=fun o=>MapKept.run_setObj_map (P:=P) o O
 have aF:(Builtin.clear_ #[T] o.type #[.map (some (ρ c).bj)]).run P w= .ok (.tuple #[]) {w with heap:=w.heap.setIfInBounds (ρ c).bj (.map #[] bV)}:=by
  simp[Builtin.clear_,run_underlying cd,MapKept.run_getObj_map O,ez,Result.andThen]
 refine⟨{w with heap:=w.heap.setIfInBounds (ρ c).bj (.map #[] bV)},?_,ul ((bh _).2 rfl),fun I aW=>⟨bh,[],bV,by simp[bw],rfl,au7,fun e V=>by cases V⟩⟩;simp[execOp,ah,resolve,invoke,builtin,ai,aF]
theorem bB.SW {o:Oper} {c:Nat} {ig:ay5} {cw ch:bb} (H:ag B c=some cw)
  (h: ∀(K':aY) (B':aw),(∀x,x∈o.op.operands->a6 K' x=a6 K x)->(∀d,d∈ig->ag B' d=ag B d)-> ∀(C:e9) (ρ:Nat->bn) (F:Nat->Nat->Prop) (a:Act) (w:World),Mem ids C B' ρ F w->ee K' ρ (bZ C B' F w) a w->ag B' c=some cw-> ∃w',(execOp a.eval o).run P w= .ok .skip w'/\cK (F c) w w'/\
   (∀I,ce (bZ C B' F w) w I w'->Holds ρ I (F c) w' (ρ c) ch)):
  bB P N ids o K B .undef ⟨c::ig,[],[(c,some ch)]⟩:=by
 rintro K' B' E G - C a w ⟨hn,J,ρ,F,aq,au⟩ bw fE Q di;have cF:ag B' c=some cw:=(G c au7).trans H;obtain⟨w',hx,cz,cX⟩:=h K' B' E (fun d J=>G d (ap2 _ J)) C ρ F a w aq au cF;obtain⟨bN,V⟩:=aq.hP cF cz cX;unfold Oper.wp;rw[hx,Oper.upon_skip];exact di _ _ ⟨kf.trans hn,kg.trans J,ρ,F,bN,(au.mono V fun _ _ _=>rfl).kh (fun e V=>by rw[hn];exact bw e V) rfl⟩
def Ah (es:List (aa ak×aa .fn)):bf where
 R:=fun I F w p=>Holds (fun _=>⟨0,none,0,0⟩) I F w p (.map ak .fn es)
 cj:=fun I F w I' w' p h V bh aR=>Holds.cj V bh aR _ (fun _ _=>rfl) h
def CV (es:List (aa ak×aa .fn)) (ch:bb):Prop:=ch= .map ak .fn es\/ch= .aG (Ah es)
theorem CV.holds {es:List (aa ak×aa .fn)} {ch:bb} (h:CV es ch) {ρ:Nat->bn} {I F:Nat->Prop} {w:World} {p:bn}:Holds ρ I F w p ch↔(∀b,F b↔b=p.bj)/\ ∃bT bV,w.heap[p.bj]? =some (.map (List.toArray bT) bV)/\ie I w ak .fn es bT/\lZ bT bV:=by
 rcases h with rfl |rfl
 .exact Iff.rfl
 .exact Iff.rfl
theorem Ai {o:Oper} {T kt et:TypeId} {x i v:Operand} {c f hB iB p5 m1 m2 m3 b1 b2 b3:Nat} (ah:o.op= .insert T x i v) (cd:P.underlying T=some (.map kt et)) (j3:P.underlying kt=some (.int .i64)) {es:List (aa ak×aa .fn)} {ch ch':bb} (hx:a6 K x= .c (.one (.mp c))) {key:Int} (ab:a6 K i= .c (.one (.d (.int .i64 key))))
  (ay:a6 K v= .c (.one (.cU f [.p hB 0,.p iB 0,.p p5 0]))) (E:ag B m1=some (.cn hB (e6 b1))) (G:ag B m2=some (.cn iB (e6 b2))) (aj:ag B m3=some (.cn p5 (e6 b3)))
  (H:ag B c=some ch) (hw:CV es ch) (p8:CV (dr (aI:=ak) (aK:=.fn) es key (f,[b1,b2,b3])) ch') (N:Nat):bB P N ids o K B .undef ⟨[c,m1,m2,m3],[],[(c,some ch')]⟩:=by
 have cI:x∈o.op.operands:=av2
 have dF:i∈o.op.operands:=av2
 have ld:v∈o.op.operands:=av2
 refine bB.SW H fun K' B' g1 g2 C ρ F a w aq au f3=>?_
 obtain⟨bh,bT,bV,O,az,da⟩:=hw.holds.1 (aq.holds c _ f3);have ai:=au.mp ((g1 x cI).trans hx);have ao:a.eval i= .int .i64 key:=au.int ((g1 i dF).trans ab)
 have bl:a.eval v=mq (f,[b1,b2,b3]):=by
  have h:=au.ev ((g1 v ld).trans ay);obtain⟨aE,e,kJ,r1,ai,cx,v2,r2,ao,cA,v3,ga,bl,dy,fb⟩:=h;have ci:=py (N:=N) (a:=a) aq ((g2 m1 au7).trans E);have cN:=py (N:=N) (a:=a) aq ((g2 m2 au7).trans G);have ec:=py (N:=N) (a:=a) aq ((g2 m3 au7).trans aj);have cx:kJ= .pointer (some ⟨(ρ hB).bj,0,none⟩):=cx;have cA:v2= .pointer (some ⟨(ρ iB).bj,0,none⟩):=cA;have dy:v3= .pointer (some ⟨(ρ p5).bj,0,none⟩):=dy;have fb:ga=[]:=fb;rw[e,ai,ao,bl,cx,cA,dy,fb,ci,cN,ec];rfl
 have b9:jk (bZ C B' F w) w .fn (f,[b1,b2,b3]) (mq (f,[b1,b2,b3])):=⟨rfl,⟨fun _=>rfl,fun e=>by cases e⟩,rfl⟩;obtain⟨en,jD,aF,gl,p6⟩:=A9 (P:=P) (aI:=ak) (aK:=.fn) cd j3 rfl O az da key b9;have bw:=k1 O;refine⟨{w with heap:=w.heap.setIfInBounds (ρ c).bj (.map (List.toArray en) jD)},?_,ul ((bh _).2 rfl),fun I aW=>p8.holds.2 ⟨bh,en,jD,by simp[bw],gl.mono aW,p6⟩⟩;have aF:(Instr.mapUpdate T (.map (some (ρ c).bj)) (.int .i64 key) (mq (f,[b1,b2,b3]))).run P w= .ok () {w with heap:=w.heap.setIfInBounds (ρ c).bj (.map (List.toArray en) jD)}:=aF;simp only[execOp,ah,Sem.run_bind,ai,ao,bl,aF,Result.andThen_ok,Sem.run_pure]
def agp (x:Option (aa .fn)):aP:=match x with
 |some x=>.cf [.one (.d (.fn x)),.one (.d (.lit true))]
 |none=>.cf [.one .any,.one (.d (.lit false))]
theorem agq {I:Nat->Prop} {w:World} {x:aa .fn} {v:Value} (h:jk I w .fn x v):v=mq x:=by
 have E:=h.2.1.1 rfl;have G:=h.2.2;rw[E] at G;have G:some v=some (mq x):=G;injection G
theorem Lt {aS:dc} (bm:d6 P aS) {o:Oper} {T kt et:TypeId} {x i:Operand} {c:Nat} (ah:o.op= .lookup T x i true) (cd:P.underlying T=some (.map kt et)) (j3:P.underlying kt=some (.int .i64)) {ti:cb} (gB:aS.find et=some ti) {es:List (aa ak×aa .fn)} (hx:a6 K x= .c (.one (.mp c))) {key:Int} (ab:a6 K i= .c (.one (.d (.int .i64 key))))
  (H:ag B c=some (.aG (Ah es))) {r:Option (aa .fn)} (aF:b0 (aI:=ak) (aK:=.fn) es key=r) (N:Nat):bB P N ids o K B (agp r) ⟨[c],[],[]⟩:=by
 have cI:x∈o.op.operands:=av2
 have dF:i∈o.op.operands:=av2
 subst aF;obtain⟨Cp,d,bu⟩:=bm.at_ gB;obtain⟨aC,aR,my⟩:=bu.zero;refine bB.val fun K' B' g1 g2 C ρ F a w aq au=>?_
 obtain⟨bh,bT,bV,O,az,da⟩:=(CV.holds (.inr rfl)).1 (aq.holds c _ ((g2 c au7).trans H));have ai:=au.mp ((g1 x cI).trans hx);have ao:a.eval i= .int .i64 key:=au.int ((g1 i dF).trans ab);have B8:(zeroValue et).run P w= .ok aC w:=by simp[zeroValue,typeInfo,bu.jE,aR]
 have qr:=fun e=>MapKept.run_checkKey (P:=P) (w:=w) j3 (rV (aI:=ak) (d:=.int .i64) rfl key) e 9999
 rcases A8 (I:=bZ C B' F w) (w:=w) (aI:=ak) (aK:=.fn) (d:=.int .i64) rfl key es bT 0 az with⟨b4,cg,_⟩ |⟨j,y,e,b4,cg,_,_,a5,_⟩
 .have hf:=MapKept.run_findKey (P:=P) (w:=w) j3 b4;refine⟨.tuple #[aC,.bool false],?_,by rw[cg];exact⟨[aC,.bool false],rfl,_,_,rfl,trivial,_,_,rfl,rfl,rfl⟩⟩
  have aF:(Instr.lookup T (.map (some (ρ c).bj)) (.int .i64 key) true).run P w= .ok (.tuple #[aC,.bool false]) w:=by
   simp only[gG] at qr hf;simp[Instr.lookup,run_underlying cd,MapKept.run_getObj_map O,qr,hf,B8,Result.andThen]
  simp only[execOp,ah,Sem.run_bind,ai,ao,aF,Result.andThen_ok,Sem.run_pure]
 .have hf:=MapKept.run_findKey (P:=P) (w:=w) j3 b4;have aB:=agq a5;refine⟨.tuple #[mq y,.bool true],?_,by rw[cg];exact⟨[mq y,.bool true],rfl,_,_,rfl,rfl,_,_,rfl,rfl,rfl⟩⟩
  have aF:(Instr.lookup T (.map (some (ρ c).bj)) (.int .i64 key) true).run P w= .ok (.tuple #[mq y,.bool true]) w:=by
   simp only[gG] at qr hf;simp[Instr.lookup,run_underlying cd,MapKept.run_getObj_map O,qr,hf,Result.andThen,aB]
  simp only[execOp,ah,Sem.run_bind,ai,ao,aF,Result.andThen_ok,Sem.run_pure]
theorem ae.SX (s f hB iB p5 m1 m2 m3 b1 b2 b3:Nat) (ax:dA K s= .c (.one (.d (.fn (f,[b1,b2,b3]))))) (E:ag B m1=some (.cn hB (e6 b1))) (G:ag B m2=some (.cn iB (e6 b2))) (aj:ag B m3=some (.cn p5 (e6 b3))):ae ids K B ((s,.c (.one (.cU f [.p hB 0,.p iB 0,.p p5 0])))::K) B:=by
 rintro N C a w ⟨hn,J,ρ,F,aq,au⟩;refine⟨hn,J,ρ,F,aq,fun t=>?_⟩;rw[ke]
 split
 .rename_i e;subst e;have h:=au s;rw[ax] at h;have h:a.tmps.getD s undef=mq (f,[b1,b2,b3]):=h;have ci:=py (N:=N) (a:=a) aq E;have cN:=py (N:=N) (a:=a) aq G;have ec:=py (N:=N) (a:=a) aq aj;exact⟨_,h,_,_,rfl,by rw[<-ci];rfl,_,_,rfl,by rw[<-cN];rfl,_,_,rfl,by rw[<-ec];rfl,rfl⟩
 .exact au t
end
abbrev CW (k:Nat):aa ak×aa ak:=@Prod.mk Int Int (k:Int) 1
abbrev fZ (l:ay5):List (aa ak×aa ak):=l.map CW
def nj (l:ay5) (k:Nat):ay5:=if k∈l then l else l++[k]
theorem Lu (l:ay5):(fZ l).length=l.length:=aq3 _
theorem CX (a b:Nat):fW ak (a:Int) (b:Int)=decide (a=b):=by
 show decide ((a:Int)=(b:Int))=_
 by_cases h:a=b
 .rw[aq1 h,aq1 au5]
 .rw[ar8 h,ar8 au5]
theorem agr {l:List (aa ak×aa ak)} {p:aa ak×aa ak} {k x:Int} (h:fW ak k p.1=true):dr (aI:=ak) (aK:=ak) (p::l) k x= @Prod.mk Int Int k x::l:=by
 simp only[dr,h];rfl
theorem ags {l:List (aa ak×aa ak)} {p:aa ak×aa ak} {k x:Int} (h:fW ak k p.1=false):dr (aI:=ak) (aK:=ak) (p::l) k x=p::dr (aI:=ak) (aK:=ak) l k x:=by
 simp only[dr,h]
theorem agt {l:List (aa ak×aa ak)} {p:aa ak×aa ak} {k:Int} (h:fW ak k p.1=true):gH (aI:=ak) (aK:=ak) (p::l) k=l:=by
 simp only[gH,h]
theorem agu {l:List (aa ak×aa ak)} {p:aa ak×aa ak} {k:Int} (h:fW ak k p.1=false):gH (aI:=ak) (aK:=ak) (p::l) k=p::gH (aI:=ak) (aK:=ak) l k:=by
 simp only[gH,h]
theorem CY (k:Nat): ∀l:ay5,dr (aI:=ak) (aK:=ak) (fZ l) (k:Int) (1:Int)=fZ (nj l k)
 | []=>rfl
 |x::l=>by
  by_cases h:k=x
  .refine(agr (p:=CW x) (l:=fZ l) ((CX k x).trans (aq1 h))).trans ?_;subst h;unfold nj;rw[if_pos (aq0 ..)];rfl
  .refine(ags (p:=CW x) (l:=fZ l) ((CX k x).trans (ar8 h))).trans ?_;rw[CY k l];unfold nj
   by_cases G:k∈l
   .rw[if_pos G,if_pos (ap2 _ G)];rfl
   .rw[if_neg G,if_neg (fun e=>by rcases ap3.1 e with e |e;exact h e;exact G e)];rfl
theorem Lv (k:Nat): ∀l:ay5,gH (aI:=ak) (aK:=ak) (fZ l) (k:Int)=fZ (l.erase k)
 | []=>rfl
 |x::l=>by
  by_cases h:k=x
  .refine(agt (p:=CW x) (l:=fZ l) ((CX k x).trans (aq1 h))).trans ?_;subst h;rw[List.erase_cons_head]
  .refine(agu (p:=CW x) (l:=fZ l) ((CX k x).trans (ar8 h))).trans ?_;rw[Lv k l,List.erase_cons_tail (by simpa using fun e=>h e.symm)];rfl
theorem SY {l:ay5} {k x:Nat}:x∈nj l k↔x∈l\/x=k:=by
 unfold nj
 split
 .rename_i h;exact⟨.inl,fun h'=>h'.elim id fun e=>e▸h⟩
 .rw[aq8,aq2]
theorem SZ {l:ay5} {k:Nat} (h:l.Nodup):(nj l k).Nodup:=by
 unfold nj
 split
 .exact h
 .rename_i ab;rw[List.nodup_append];refine⟨h,au7,fun a ha b O e=>?_⟩;rw[aq2] at O;subst O e;exact ab ha
theorem uS (l:ay5):gR (fZ l)=l.map fun k:Nat=>(k:Int):=by
 unfold gR fZ;rw[as2];rfl
theorem Lw {l:ay5} (h:l.Nodup):(gR (fZ l)).Nodup:=by
 rw[uS];exact Lo (fun x _ y _ e=>by have e:(x:Int)=(y:Int):=e;omega) h
theorem Lx {l:ay5} (h: ∀k,k∈l->k<=1000000): ∀s∈gR (fZ l),(Lit.int .i64 s).wf=true:=fun s ax=>by
 rw[uS] at ax;obtain⟨k,ab,rfl⟩:=ar2.1 ax;have:=h k ab;show(decide (IntKind.i64.min<=(k:Int))&&decide ((k:Int)<=IntKind.i64.max))=true;rw[aq1 (show(IntKind.i64.min:Int)<=(k:Int) from Int.le_trans (by decide:IntKind.i64.min<=(0:Int)) au5),aq1 (show(k:Int)<=IntKind.i64.max from Int.le_trans (by omega:(k:Int)<=1000000) au6)];rfl
def eP (l:ay5):Nat:=(o3 (l.map fun k:Nat=>(k:Int))).toNat
theorem Gp {l:ay5} (h:l≠[]):o3 (l.map fun k:Nat=>(k:Int))=((eP l:Nat):Int)/\eP l∈l/\ ∀y,y∈l->eP l<=y:=by
 have a2:l.map (fun k:Nat=>(k:Int))≠[]:=av4
 obtain⟨E,G⟩:=Ls a2;obtain⟨k,ab,V⟩:=ar2.1 E;have az:eP l=k:=by unfold eP;rw[<-V];rfl
 refine⟨by rw[az,V],by rw[az];exact ab,fun y aB=>?_⟩;have:=G _ (aq6 aB);rw[az];omega
end
section
section
variable {z U:Nat} {L:List aN} {top base:ay4}
theorem agv {k:Nat} (h:sz L top base=some k):n0 L top base=true/\k < cO L top/\sy L top base k=true/\ ∀j,j < k->sy L top base j=false:=by
 unfold sz at h
 split at h
 .rename_i O;obtain⟨g1,g2,cZ⟩:=List.find?_range_eq_some.1 h;exact⟨O,List.mem_range.1 g2,g1,fun j Z=>by simpa using cZ j Z⟩
 .cases h
theorem agw (h: ∀k,k < cO L top->sy L top base k=false):sz L top base=none:=by
 unfold sz
 split
 .exact List.find?_range_eq_none.2 fun k ab=>by simp[h k ab]
 .rfl
end
end
section
theorem ae.sA {ids:ay5} {K:aY} {B:aw} (c:Nat) {l l':List bC} (H:ag B c=some (.cells l)) (al:Ed l l'):ae ids K B K ((c,.cells l')::B):=by
 rintro N C a w ⟨hn,J,ρ,F,aq,au⟩
 obtain⟨bN,aW⟩:=aq.hP (w':=w) (ch:=.cells l') H (cK.refl _ _) fun I ba=>by
  obtain⟨E,aE,T,G,aj⟩:=aq.holds c _ H;exact⟨E,aE,T,G,Ji al (b'.mono ba _ _ (fun _ _=>rfl) aj)⟩
 exact⟨hn,J,ρ,F,bN,au.mono aW fun _ _ _=>rfl⟩
theorem uT (s:bM):Fn Tryz.prog 15 [ap 1001] (dx s) [] (ac (s.z:Nat)) (dx s):=by
 refine aU [] Tryz.func15 ?_;exact bg
end
end Go.Proofs.YthnboghbhgapcaaGreat
