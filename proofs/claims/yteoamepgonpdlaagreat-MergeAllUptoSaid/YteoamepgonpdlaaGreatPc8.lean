/-
Part 8 of the proof that stands in YteoamepgonpdlaaGreatPcRow, with what it needs from the parts ahead; the parts of this text: Grp, Cd, Gx, Rf, Rg, Ad, Ar.
-/
import Derived.Maps.RangeRun
import Derived.DeepKeys
import Derived.Laws.MakeOwn
import Derived.Laws.StructEq
import Derived.Test.YteoamepgonpdlaaGreatPc7
set_option linter.unusedVariables false
set_option linter.unusedSimpArgs false
set_option maxRecDepth 10000
namespace Go.Proofs.YteoamepgonpdlaaGreat
open Go.RowKit
def nA (c:Nat) (bQ:aG) (I F:Nat→Prop) (w:World) (p:bq):Prop:=
 ∃(ρ:Nat→bq) (G:Nat→Nat→Prop),ρ c=p∧(∀d ch,ax bQ d=some ch→Holds ρ I (G d) w (ρ d) ch)∧
  (∀d d' ch ch' b,ax bQ d=some ch→ax bQ d'=some ch'→d≠d'→G d b→ ¬G d' b)∧ ∀b,F b↔ ∃d ch,ax bQ d=some ch∧G d b
def bN.uQ (c:Nat) (bQ:aG):bN where
 R:=nA c bQ
 cy:=fun I F w I' w' p ⟨ρ,G,aa,af,ay,bu⟩ he hF aS=>⟨ρ,G,aa,fun d ch hd=>Holds.cy he (fun b ag=>hF b ((bu b).2 ⟨d,ch,hd,ag⟩)) aS ch (fun _ _=>rfl) (af d ch hd),ay,bu⟩
def bN.at (o:bN) (b:Nat):bN where
 R:=fun I F w p=>p.bI=b∧o.R I F w p
 cy:=fun I F w I' w' p h he hF aS=>⟨h.1,o.cy I F w I' w' p h.2 he hF aS⟩
def bN.le (o o':bN):Prop:= ∀I F w p,o.R I F w p→o'.R I F w p
def fW (I:Nat→Prop) (w:World):List (Nat×bN)→(Nat→Prop)→Prop
 | [],F=> ∀b,¬F b
 |(a,o)::L,F=> ∃(cH cU:Nat→Prop) (p:bq),(∀b,F b↔cH b∨cU b)∧(∀b,cH b→ ¬cU b)∧p.bI=a∧o.R I cH w p∧fW I w L cU
theorem fW.cy {I I':Nat→Prop} {w w':World} (he:Ext I w I' w') (aS:w.heap.size≤w'.heap.size): ∀{L:List (Nat×bN)} {F:Nat→Prop},(∀b,F b→w'.heap[b]? =w.heap[b]?)→fW I w L F→fW I' w' L F
 | [],_,_,h=>h
 |(a,o)::L,F,hF,⟨cH,cU,p,aa,af,ay,bu,dI⟩=>⟨cH,cU,p,aa,af,ay,o.cy _ _ _ _ _ _ bu he (fun b ag=>hF b ((aa b).2 (.inl ag))) aS,dI.cy he aS (fun b ag=>hF b ((aa b).2 (.inr ag)))⟩
def bN.cM (L:List (Nat×bN)):bN where
 R:=fun I F w _=>fW I w L F
 cy:=fun I F w I' w' p h he hF aS=>h.cy he aS hF
def jr:List (Nat×bN)→Nat→Option bN
 | [],_=>none
 |(a,o)::L,b=>if a=b then some o else jr L b
def jc:List (Nat×bN)→Nat→bN→List (Nat×bN)
 | [],_,_=>[]
 |(a,o)::L,b,o'=>if a=b then(a,o')::L else(a,o)::jc L b o'
theorem fW.out {I:Nat→Prop} {w:World} {b:Nat} {o:bN}: ∀{L:List (Nat×bN)} {F:Nat→Prop},jr L b=some o→fW I w L F→ ∃(cH cU:Nat→Prop) (p:bq),(∀x,F x↔cH x∨cU x)∧(∀x,cH x→ ¬cU x)∧p.bI=b∧o.R I cH w p∧
  ∀(I':Nat→Prop) (w':World) (o':bN) (vX:Nat→Prop) (j9:bq),Ext I w I' w'→w.heap.size≤w'.heap.size→(∀x,cU x→w'.heap[x]? =w.heap[x]?)→j9.bI=b→o'.R I' vX w' j9→(∀x,vX x→ ¬cU x)→fW I' w' (jc L b o') (fun x=>vX x∨cU x)
 | [],F,h,_=>by cases h
 |(a,q)::L,F,h,⟨rq,tD,p,aa,af,ay,bu,dI⟩=>by
  unfold jr at h
  split at h
  ·rename_i e
   injection h with h
   subst h
   refine⟨rq,tD,p,aa,af,ay.trans e,bu,fun I' w' o' vX j9 he aS hf hp az hd=>?_⟩
   unfold jc
   rw[if_pos e]
   exact⟨vX,tD,j9,fun x=>Iff.rfl,hd,hp.trans e.symm,az,dI.cy he aS hf⟩
  ·rename_i e
   obtain⟨cH,cU,dS,g1,g2,bL,gH,uR⟩:=fW.out h dI
   refine⟨cH,fun x=>rq x∨cU x,dS,fun x=>?_,fun x hx=>?_,bL,gH,fun I' w' o' vX j9 he aS hf hp az hd=>?_⟩
   ·rw[aa,g1]
    constructor
    ·rintro(h |h |h)
     ·exact .inr (.inl h)
     ·exact .inl h
     ·exact .inr (.inr h)
    ·rintro(h |h |h)
     ·exact .inr (.inl h)
     ·exact .inl h
     ·exact .inr (.inr h)
   ·rintro(h |h)
    ·exact af x h ((g1 x).2 (.inl hx))
    ·exact g2 x hx h
   ·unfold jc
    rw[if_neg e]
    refine⟨rq,fun x=>vX x∨cU x,p,fun x=>?_,fun x hx=>?_,ay,q.cy _ _ _ _ _ _ bu he (fun x hx=>hf x (.inl hx)) aS,uR I' w' o' vX j9 he aS (fun x hx=>hf x (.inr hx)) hp az (fun x hx h=>hd x hx (.inr h))⟩
    ·constructor
     ·rintro(h |h |h)
      ·exact .inr (.inl h)
      ·exact .inl h
      ·exact .inr (.inr h)
     ·rintro(h |h |h)
      ·exact .inr (.inl h)
      ·exact .inl h
      ·exact .inr (.inr h)
    ·rintro(h |h)
     ·exact hd x h (.inl hx)
     ·exact af x hx ((g1 x).2 (.inr h))
theorem fW.add {I:Nat→Prop} {w:World} {L:List (Nat×bN)} {F cH:Nat→Prop} {o:bN} {p:bq} (h:fW I w L F) (az:o.R I cH w p) (hd: ∀x,cH x→ ¬F x):fW I w ((p.bI,o)::L) (fun x=>cH x∨F x):=
 ⟨cH,F,p,fun _=>Iff.rfl,hd,rfl,az,h⟩
theorem gV.fn {P:Program} {f:FuncId} {args:List aO} {aR:aG} {bA:List Nat} {res:aO} {bl:aG} (h:gV P f args aR bA (fun _:Unit=>res) (fun _=>bl)):Fn P f args aR bA res bl:=
 ⟨h.1,fun ρ F I w bW cj cu a3 a4 a5 g5=>(h.2 ρ F I w bW cj cu a3 a4 a5 g5).mono fun e w' ⟨_,q⟩=>q⟩
theorem gV.cM {P:Program} {f:FuncId} {c q b:Nat} {args:List aO} {aR:aG} {bA:List Nat} {X:Type} {res:X→aO} {bl:X→aG} {o:bN} {o':X→bN} {L:List (Nat×bN)}
  (h:gV P f (.c (.one (.ptr c 0))::args) ((c,.obj o)::aR) bA res (fun g=>(c,.obj (o' g))::bl g)) (cG:jr L b=some o)
  (aa:(args.all fun v=> !v.has c)=true) (af:nk c aR=true∧(ax aR q).isNone=true) (ay:(bA.contains c||bA.contains q)=false) (bu: ∀g,(nk c (bl g)&&(ax (bl g) q).isNone&& !(res g).has c)=true):
  gV P f (.c (.one (.d (.aY (some b))))::args) ((q,.obj (.cM L))::aR) bA res (fun g=>(q,.obj (.cM (jc L b (o' g))))::bl g):=by
 obtain⟨iQ,h⟩:=h
 refine⟨iQ,fun ρ F I w bW bC dW hF fU hlen eu=>?_⟩
 have bp:ax ((q,bw.obj (.cM L))::aR) q=some (.obj (.cM L)):=by rw[cD,if_pos rfl]
 have bh:fW I w L (F q):=dW q _ bp
 obtain⟨cH,cU,p,cz,er,eX,gi,zw⟩:=bh.out cG
 obtain⟨Ul,Um⟩:=Db af.1
 have zx:ax aR q=none:=by simpa using af.2
 have eU: ∀{d ch},ax aR d=some ch→d≠q∧d≠c∧ax ((q,bw.obj (.cM L))::aR) d=some ch:=fun {d ch} hd=>by
  have aj:d≠q:=fun e=>by rw[e,zx] at hd;cases hd
  exact⟨aj,fun e=>(by rw[e,Ul] at hd;cases hd),by rw[cD,if_neg (Ne.symm aj)];exact hd⟩
 have Un: ∀(v:aO),v.has c=false→ ∀d,v.has d=true→dA ρ c p d=ρ d:=fun v hv d hd=>dP _ _ (fun e=>by rw[e,hv] at hd;cases hd)
 match bW,hlen with
 |v0::bW,hlen=>
  have Hf:v0= .pointer (some ⟨b,0,none⟩):=eu 0 _ v0 rfl rfl
  have kB: ∀{d ch},ax ((c,bw.obj o)::aR) d=some ch→(d=c∧ch= .obj o)∨(d≠c∧ax aR d=some ch):=fun {d ch} hd=>by
   rw[cD] at hd
   split at hd
   ·rename_i e;injection hd with hd;exact .inl ⟨e.symm,hd.symm⟩
   ·rename_i e;exact .inr ⟨Ne.symm e,hd⟩
  refine(h (dA ρ c p) (dA F c cH) I w (v0::bW) bC ?_ ?_ ?_ (by simpa using hlen) ?_).mono ?_
  ·intro d ch hd
   rcases kB hd with⟨rfl,rfl⟩ |⟨e,hd⟩
   ·rw[dR,dR];exact gi
   ·rw[dP _ _ e,dP _ _ e]
    exact Holds.cy (Ext.refl _ _) (fun _ _=>rfl) (Nat.le_refl _) ch (fun j au=>dP _ _ (fun e'=>by rw[e',Um d ch hd] at au;cases au)) (dW d ch (eU hd).2.2)
  ·intro d ch hd x hx
   rcases kB hd with⟨rfl,rfl⟩ |⟨e,hd⟩
   ·rw[dR] at hx
    exact hF q _ bp x ((cz x).2 (.inl hx))
   ·rw[dP _ _ e] at hx
    exact hF d ch (eU hd).2.2 x hx
  ·intro d d' ch ch' x hd dO bg hx eF
   rcases kB hd with⟨uD,_⟩ |⟨e,Hg⟩
   ·rcases kB dO with⟨Hh,_⟩ |⟨e',DR⟩
    ·exact bg (uD.trans Hh.symm)
    ·rw[uD,dR] at hx
     rw[dP _ _ e'] at eF
     exact fU q d' _ ch' x bp (eU DR).2.2 (Ne.symm (eU DR).1) ((cz x).2 (.inl hx)) eF
   ·rw[dP _ _ e] at hx
    rcases kB dO with⟨Hh,_⟩ |⟨e',DR⟩
    ·rw[Hh,dR] at eF
     exact fU q d _ ch x bp (eU Hg).2.2 (Ne.symm (eU Hg).1) ((cz x).2 (.inl eF)) hx
    ·rw[dP _ _ e'] at eF
     exact fU d d' ch ch' x (eU Hg).2.2 (eU DR).2.2 bg hx eF
  ·intro i v x hv hx
   match i with
   |0=>
    simp only[List.getElem?_cons_zero,Option.some.injEq] at hv hx
    subst hv hx
    show v0=_
    rw[dR,eX]
    exact Hf
   |i+1=>
    have nt:args[i]? =some v:=by simpa using hv
    have:=List.all_eq_true.1 aa v (List.mem_of_getElem? nt)
    exact b8.mono (Ext.refl _ _) v x (Un v (by simpa using this)) (eu (i+1) v x (by simpa using hv) hx)
  ·rintro e w' ⟨g,x,ρ',F',rfl,cr,dn,I',kX,iI,oW,aV,jQ,xO⟩
   have bk:=bu g
   simp only[Bool.and_eq_true,Bool.not_eq_true'] at bk
   obtain⟨⟨g1,g2⟩,bL⟩:=bk
   obtain⟨m1,m2⟩:=Db g1
   have Bo:ax (bl g) q=none:=by simpa using g2
   simp only[Bool.or_eq_false_iff] at ay
   have nu:c∉bA:=fun bZ=>by have:=List.contains_iff_mem.2 bZ;rw[ay.1] at this;cases this
   have ac2:q∉bA:=fun bZ=>by have:=List.contains_iff_mem.2 bZ;rw[ay.2] at this;cases this
   have mo:ax ((c,bw.obj (o' g))::bl g) c=some (.obj (o' g)):=by rw[cD,if_pos rfl]
   have sr: ∀{d ch},ax (bl g) d=some ch→d≠c∧d≠q∧ax ((c,bw.obj (o' g))::bl g) d=some ch:=fun {d ch} hd=>by
    have aj:d≠c:=fun e=>by rw[e,m1] at hd;cases hd
    exact⟨aj,fun e=>(by rw[e,Bo] at hd;cases hd),by rw[cD,if_neg (Ne.symm aj)];exact hd⟩
   have uS: ∀y,(∃d ch,ax ((c,bw.obj o)::aR) d=some ch∧dA F c cH d y)→ ∃d ch,ax ((q,bw.obj (.cM L))::aR) d=some ch∧F d y:=by
    rintro y ⟨d,ch,hd,aF⟩
    rcases kB hd with⟨rfl,rfl⟩ |⟨e,hd⟩
    ·rw[dR] at aF
     exact⟨q,_,bp,(cz y).2 (.inl aF)⟩
    ·rw[dP _ _ e] at aF
     exact⟨d,ch,(eU hd).2.2,aF⟩
   have lI: ∀y,cU y→ ¬ ∃d ch,ax ((c,bw.obj o)::aR) d=some ch∧dA F c cH d y:=by
    rintro y aF ⟨d,ch,hd,eP⟩
    rcases kB hd with⟨rfl,rfl⟩ |⟨e,hd⟩
    ·rw[dR] at eP
     exact er y eP aF
    ·rw[dP _ _ e] at eP
     exact fU q d _ ch y bp (eU hd).2.2 (Ne.symm (eU hd).1) ((cz y).2 (.inr aF)) eP
   have su: ∀y,cU y→y < w.heap.size∧ ¬I y:=fun y aF=>hF q _ bp y ((cz y).2 (.inr aF))
   have hold: ∀y,cU y→w'.heap[y]? =w.heap[y]? :=fun y aF=>cr.block y (su y aF).1 (lI y aF)
   have tE: ∀d ch y,ax ((c,bw.obj (o' g))::bl g) d=some ch→F' d y→ ¬cU y:=fun d ch y hd aF Bp=>by
    rcases(aV d ch hd y aF).2.2 with h |h
    ·exact lI y Bp h
    ·have:=(su y Bp).1;omega
   have Uo:ρ' c=p:=by rw[dn c nu,dR]
   have kz:=zw I' w' (o' g) (F' c) (ρ' c) kX cr.size hold (by rw[Uo];exact eX) (oW c _ mo) (fun y aF=>tE c _ y mo aF)
   refine⟨g,x,dA ρ' c (ρ c),fun d=>if d=q then(fun y=>F' c y∨cU y) else F' d,rfl,cr.mono fun y _ aF=>uS y aF,fun d hd=>?_,I',kX,fun y aF=>⟨(iI y aF).1,?_⟩,?_,?_,?_,?_⟩
   ·by_cases e:d=c
    ·subst e;rw[dR]
    ·rw[dP _ _ e,dn d hd,dP _ _ e]
   ·rcases(iI y aF).2 with h |h |h
    ·exact .inl h
    ·exact .inr (.inl (uS y h))
    ·exact .inr (.inr h)
   ·intro d ch hd
    rw[cD] at hd
    split at hd
    ·rename_i e
     injection hd with hd
     subst hd e
     simp only[if_true]
     exact kz
    ·rename_i e
     obtain⟨aj,ak,bf⟩:=sr hd
     simp only[if_neg ak]
     rw[dP _ _ aj]
     exact Holds.cy (Ext.refl _ _) (fun _ _=>rfl) (Nat.le_refl _) ch (fun j au=>dP _ _ (fun e'=>by rw[e',m2 d ch hd] at au;cases au)) (oW d ch bf)
   ·intro d ch hd y aF
    rw[cD] at hd
    split at hd
    ·rename_i e
     subst e
     simp only[if_true] at aF
     rcases aF with aF |aF
     ·obtain⟨cj,cu,a3⟩:=aV c _ mo y aF
      exact⟨cj,cu,a3.imp (uS y) id⟩
     ·refine⟨Nat.lt_of_lt_of_le (su y aF).1 cr.size,fun aD=>?_,.inl ⟨q,_,bp,(cz y).2 (.inr aF)⟩⟩
      rcases(iI y aD).2 with h |h |h
      ·exact(su y aF).2 h
      ·exact lI y aF h
      ·have:=(su y aF).1;omega
    ·obtain⟨aj,ak,bf⟩:=sr hd
     simp only[if_neg ak] at aF
     obtain⟨cj,cu,a3⟩:=aV d ch bf y aF
     exact⟨cj,cu,a3.imp (uS y) id⟩
   ·intro d d' ch ch' y hd dO bg aF eP
    rw[cD] at hd dO
    split at hd
    ·rename_i e
     subst e
     rw[if_neg bg] at dO
     obtain⟨aj,ak,bf⟩:=sr dO
     simp only[if_true] at aF
     simp only[if_neg ak] at eP
     rcases aF with aF |aF
     ·exact jQ c d' _ ch' y mo bf (Ne.symm aj) aF eP
     ·exact tE d' ch' y bf eP aF
    ·obtain⟨aj,ak,bf⟩:=sr hd
     simp only[if_neg ak] at aF
     split at dO
     ·rename_i e
      subst e
      simp only[if_true] at eP
      rcases eP with eP |eP
      ·exact jQ d c ch _ y bf mo aj aF eP
      ·exact tE d ch y bf aF eP
     ·obtain⟨r5,qp,MO⟩:=sr dO
      simp only[if_neg qp] at eP
      exact jQ d d' ch ch' y bf MO bg aF eP
   ·exact b8.mono (Ext.refl _ _) (res g) x (fun j au=>dP _ _ (fun e'=>by rw[e',bL] at au;cases au)) xO
theorem mT: ∀(B B':aG) (c:Nat),ax (B++B') c=(match ax B c with
  |some ch=>some ch
  |none=>ax B' c)
 | [],B',c=>rfl
 |(d,ch)::B,B',c=>by
  rw[List.cons_append,cD,cD,mT B B' c]
  split <;>rfl
def Bq (l:List Nat):aG→Bool
 | []=>true
 |(c,ch)::B=> !l.contains c&&(l.all fun d=> !ch.has d)&&Bq l B
theorem Br {l:List Nat}: ∀{B:aG},Bq l B=true→ ∀{c ch},ax B c=some ch→c∉l∧ ∀d,d∈l→ch.has d=false
 |(c,ch)::B,h,d,ch',hd=>by
  simp only[Bq,Bool.and_eq_true,Bool.not_eq_true'] at h
  rw[cD] at hd
  split at hd
  ·rename_i e
   subst e
   injection hd with hd
   subst hd
   refine⟨fun bZ=>?_,fun x hx=>?_⟩
   ·have:=List.contains_iff_mem.2 bZ
    rw[h.1.1] at this
    cases this
   ·have:=List.all_eq_true.1 h.1.2 x hx
    simpa using this
  ·exact Br h.2 hd
def vY (js bA jS:List Nat):List Nat:=js++bA.filter fun d=> !jS.contains d
theorem vZ {l:List Nat} {d:Nat} (h:l.contains d=true):d∈l:=List.contains_iff_mem.1 h
theorem Hi {l:List Nat} {d:Nat} (h:l.contains d=false):d∉l:=fun bZ=>by rw[List.contains_iff_mem.2 bZ] at h;cases h
def Bt (c:Nat) (js:List Nat) (args:List aO) (bQ aR:aG) (bA jS:List Nat):Bool:=
 (cQ bQ).contains c&&(cQ bQ).all (fun d=>(c::js).contains d)&&xB (c::js) bQ&& !bA.contains c&& !js.contains c&&jS.all (fun d=>bA.contains d&& !js.contains d)&&(args.all fun v=>js.all fun d=> !v.has d)&&Bq js aR&&(ax aR c).isNone
def Bu (c:Nat) (hid:List Nat) (res:aO) (jT bl:aG):Bool:=
 (cQ jT).contains c&&(cQ jT).all (fun d=>(c::hid).contains d)&&Bq hid bl&&(ax bl c).isNone&&(hid.all fun d=> !res.has d)
theorem gV.close {P:Program} {f:FuncId} {c:Nat} {args:List aO} {bQ aR:aG} {bA jS:List Nat} {X:Type} {res:X→aO} {jT bl:X→aG} {o:bN} {o':X→bN} (js:List Nat)
  (h:gV P f args (bQ++aR) bA res (fun g=>jT g++bl g)) (dz: ∀I F w p,o.R I F w p→nA c bQ I F w p) (oc: ∀g I F w p,nA c (jT g) I F w p→(o' g).R I F w p)
  (aa:Bt c js args bQ aR bA jS=true) (af: ∀g,Bu c (vY js bA jS) (res g) (jT g) (bl g)=true):
  gV P f args ((c,.obj o)::aR) jS res (fun g=>(c,.obj (o' g))::bl g):=by
 obtain⟨iQ,h⟩:=h
 simp only[Bt,Bool.and_eq_true,Bool.not_eq_true',Option.isNone_iff_eq_none] at aa
 obtain⟨⟨⟨⟨⟨⟨⟨⟨cj,cu⟩,a3⟩,a4⟩,a5⟩,g5⟩,FK⟩,MP⟩,a9⟩:=aa
 have cj:=vZ cj
 have a4:=Hi a4
 have a5:=Hi a5
 have Up: ∀d,d∈cQ bQ→d=c∨d∈js:=fun d hd=>by
  have:=vZ (List.all_eq_true.1 cu d hd)
  exact List.mem_cons.1 this
 have ac3: ∀d,d∈jS→d∈bA∧d∉js:=fun d hd=>by
  have:=List.all_eq_true.1 g5 d hd
  simp only[Bool.and_eq_true,Bool.not_eq_true'] at this
  exact⟨vZ this.1,Hi this.2⟩
 refine⟨iQ,fun ρ F I w bW bC dW hF fU hlen eu=>?_⟩
 have cP:ax ((c,bw.obj o)::aR) c=some (.obj o):=by rw[cD,if_pos rfl]
 obtain⟨ru,G,cC,cR,fo,gU⟩:=dz _ _ _ _ (dW c _ cP)
 have eU: ∀{d ch},ax aR d=some ch→d≠c∧d∉js∧ax ((c,bw.obj o)::aR) d=some ch:=fun {d ch} hd=>by
  have aj:d≠c:=fun e=>by rw[e,a9] at hd;cases hd
  exact⟨aj,(Br MP hd).1,by rw[cD,if_neg (Ne.symm aj)];exact hd⟩
 have kB: ∀{d ch},ax (bQ++aR) d=some ch→(ax bQ d=some ch∧d∈cQ bQ)∨(d∉cQ bQ∧ax aR d=some ch):=fun {d ch} hd=>by
  rw[mT] at hd
  cases e:ax bQ d with
  |some ch'=>
   rw[e] at hd
   exact .inl ⟨hd,gu.2 ⟨ch',e⟩⟩
  |none=>
   rw[e] at hd
   exact .inr ⟨fun aq=>(by obtain⟨ch',aq⟩:=gu.1 aq;rw[e] at aq;cases aq),hd⟩
 let Hj:Nat→bq:=fun d=>if d∈js then ru d else ρ d
 let pT:Nat→Nat→Prop:=fun d=>if d∈cQ bQ then G d else F d
 have Bv: ∀d,d∉js→Hj d=ρ d:=fun d hd=>if_neg hd
 have MQ: ∀d,d∈c::js→Hj d=ru d:=fun d hd=>by
  rcases List.mem_cons.1 hd with rfl |hd
  ·rw[Bv _ a5,cC]
  ·exact if_pos hd
 have uS: ∀y,(∃d ch,ax (bQ++aR) d=some ch∧pT d y)→ ∃d ch,ax ((c,bw.obj o)::aR) d=some ch∧F d y:=by
  rintro y ⟨d,ch,hd,aF⟩
  rcases kB hd with⟨aj,ak⟩ |⟨aj,ak⟩
  ·have aF:G d y:=by simpa only[pT,if_pos ak] using aF
   exact⟨c,_,cP,(gU y).2 ⟨d,ch,aj,aF⟩⟩
  ·have aF:F d y:=by simpa only[pT,if_neg aj] using aF
   exact⟨d,ch,(eU ak).2.2,aF⟩
 refine(h Hj pT I w bW bC ?_ ?_ ?_ hlen ?_).mono ?_
 ·intro d ch hd
  rcases kB hd with⟨aj,ak⟩ |⟨aj,ak⟩
  ·have aq:d∈c::js:=List.mem_cons.2 (Up d ak)
   rw[MQ d aq]
   simp only[pT,if_pos ak]
   exact Holds.cy (Ext.refl _ _) (fun _ _=>rfl) (Nat.le_refl _) ch (fun j au=>MQ j (bw.kQ (zi a3 aj) au)) (cR d ch aj)
  ·rw[Bv d (eU ak).2.1]
   simp only[pT,if_neg aj]
   exact Holds.cy (Ext.refl _ _) (fun _ _=>rfl) (Nat.le_refl _) ch (fun j au=>Bv j (fun mO=>by rw[(Br MP ak).2 j mO] at au;cases au)) (dW d ch (eU ak).2.2)
 ·intro d ch hd x hx
  rcases kB hd with⟨aj,ak⟩ |⟨aj,ak⟩
  ·simp only[pT,if_pos ak] at hx
   exact hF c _ cP x ((gU x).2 ⟨d,ch,aj,hx⟩)
  ·simp only[pT,if_neg aj] at hx
   exact hF d ch (eU ak).2.2 x hx
 ·intro d d' ch ch' x hd dO bg hx eF
  rcases kB hd with⟨aj,ak⟩ |⟨aj,ak⟩
  ·simp only[pT,if_pos ak] at hx
   rcases kB dO with⟨r5,qp⟩ |⟨r5,qp⟩
   ·simp only[pT,if_pos qp] at eF
    exact fo d d' ch ch' x aj r5 bg hx eF
   ·simp only[pT,if_neg r5] at eF
    exact fU c d' _ ch' x cP (eU qp).2.2 (Ne.symm (eU qp).1) ((gU x).2 ⟨d,ch,aj,hx⟩) eF
  ·simp only[pT,if_neg aj] at hx
   rcases kB dO with⟨r5,qp⟩ |⟨r5,qp⟩
   ·simp only[pT,if_pos qp] at eF
    exact fU c d _ ch x cP (eU ak).2.2 (Ne.symm (eU ak).1) ((gU x).2 ⟨d',ch',r5,eF⟩) hx
   ·simp only[pT,if_neg r5] at eF
    exact fU d d' ch ch' x (eU ak).2.2 (eU qp).2.2 bg hx eF
 ·intro i v x hv hx
  have Hl:=List.all_eq_true.1 FK v (List.mem_of_getElem? hv)
  exact b8.mono (Ext.refl _ _) v x (fun j au=>Bv j (fun mO=>by
   have:=List.all_eq_true.1 Hl j mO
   rw[au] at this
   cases this)) (eu i v x hv hx)
 ·rintro e w' ⟨g,x,ρ',F',rfl,cr,dn,I',kX,iI,oW,aV,jQ,xO⟩
  have bk:=af g
  simp only[Bu,Bool.and_eq_true,Option.isNone_iff_eq_none] at bk
  obtain⟨⟨⟨⟨b1,b2⟩,b3⟩,eC⟩,fI⟩:=bk
  have b1:=vZ b1
  have Uq: ∀d,d∉vY js bA jS→d∉js∧(d∈bA→d∈jS):=fun d hd=>by
   refine⟨fun bZ=>hd (List.mem_append.2 (.inl bZ)),fun bZ=>?_⟩
   rcases Decidable.em (d∈jS) with h |h
   ·exact h
   ·exact absurd (List.mem_append.2 (.inr (List.mem_filter.2 ⟨bZ,by simpa using h⟩))) hd
  have Ur:c∉vY js bA jS:=fun bZ=>by
   rcases List.mem_append.1 bZ with h |h
   ·exact a5 h
   ·exact a4 (List.mem_filter.1 h).1
  let uI:Nat→bq:=fun d=>if d∈jS then ρ' d else ρ d
  have rj: ∀d,d∉vY js bA jS→uI d=ρ' d:=fun d hd=>by
   obtain⟨aj,ak⟩:=Uq d hd
   show(if d∈jS then ρ' d else ρ d)=ρ' d
   split
   ·rfl
   ·rename_i hn
    rw[dn d (fun bZ=>hn (ak bZ)),Bv d aj]
  have zy: ∀{d ch},ax (jT g) d=some ch→ax (jT g++bl g) d=some ch:=fun {d ch} hd=>by rw[mT,hd]
  have sr: ∀{d ch},ax (bl g) d=some ch→d≠c∧d∉vY js bA jS∧ax (jT g) d=none∧ax (jT g++bl g) d=some ch:=fun {d ch} hd=>by
   have aj:d≠c:=fun e=>by rw[e,eC] at hd;cases hd
   have ak:=(Br b3 hd).1
   have bf:ax (jT g) d=none:=by
    cases e:ax (jT g) d with
    |none=>rfl
    |some ch'=>
     have:=vZ (List.all_eq_true.1 b2 d (gu.2 ⟨ch',e⟩))
     rcases List.mem_cons.1 this with h |h
     ·exact absurd h aj
     ·exact absurd h ak
   exact⟨aj,ak,bf,by rw[mT,bf];exact hd⟩
  refine⟨g,x,uI,fun d=>if d=c then(fun y=> ∃d' ch',ax (jT g) d'=some ch'∧F' d' y) else F' d,rfl,cr.mono fun y _ aF=>uS y aF,fun d hd=>if_neg hd,I',kX,fun y aF=>⟨(iI y aF).1,?_⟩,?_,?_,?_,?_⟩
  ·rcases(iI y aF).2 with h |h |h
   ·exact .inl h
   ·exact .inr (.inl (uS y h))
   ·exact .inr (.inr h)
  ·intro d ch hd
   rw[cD] at hd
   split at hd
   ·rename_i e
    injection hd with hd
    subst hd e
    simp only[if_true]
    rw[rj _ Ur]
    exact oc g _ _ _ _ ⟨ρ',F',rfl,fun d ch hd=>oW d ch (zy hd),fun d d' ch ch' b hd dO bg=>jQ d d' ch ch' b (zy hd) (zy dO) bg,fun b=>Iff.rfl⟩
   ·obtain⟨aj,ak,bf,cF⟩:=sr hd
    simp only[if_neg aj]
    rw[rj d ak]
    exact Holds.cy (Ext.refl _ _) (fun _ _=>rfl) (Nat.le_refl _) ch (fun j au=>rj j (fun mO=>by rw[(Br b3 hd).2 j mO] at au;cases au)) (oW d ch cF)
  ·intro d ch hd y aF
   rw[cD] at hd
   split at hd
   ·rename_i e
    subst e
    simp only[if_true] at aF
    obtain⟨d',ch',aa,af⟩:=aF
    obtain⟨aW,aX,bT⟩:=aV d' ch' (zy aa) y af
    exact⟨aW,aX,bT.imp (uS y) id⟩
   ·obtain⟨aj,ak,bf,cF⟩:=sr hd
    simp only[if_neg aj] at aF
    obtain⟨aW,aX,bT⟩:=aV d ch cF y aF
    exact⟨aW,aX,bT.imp (uS y) id⟩
  ·intro d d' ch ch' y hd dO bg aF eP
   rw[cD] at hd dO
   split at hd
   ·rename_i e
    subst e
    rw[if_neg bg] at dO
    obtain⟨aj,ak,bf,cF⟩:=sr dO
    simp only[if_true] at aF
    simp only[if_neg aj] at eP
    obtain⟨d1,kM,aa,af⟩:=aF
    exact jQ d1 d' kM ch' y (zy aa) cF (fun e=>by rw[e,bf] at aa;cases aa) af eP
   ·obtain⟨aj,ak,bf,cF⟩:=sr hd
    simp only[if_neg aj] at aF
    split at dO
    ·rename_i e
     subst e
     simp only[if_true] at eP
     obtain⟨d1,kM,aa,af⟩:=eP
     exact jQ d d1 ch kM y cF (zy aa) (fun e=>by rw[←e,bf] at aa;cases aa) aF af
    ·obtain⟨r5,qp,MO,Us⟩:=sr dO
     simp only[if_neg r5] at eP
     exact jQ d d' ch ch' y cF Us bg aF eP
  ·exact b8.mono (Ext.refl _ _) (res g) x (fun j au=>rj j (fun mO=>by
    have:=List.all_eq_true.1 fI j mO
    rw[au] at this
    cases this)) xO
theorem nA.Ut {f g:Nat→Nat} (v7: ∀c,g (f c)=c) (Ho: ∀c,f (g c)=c) {c:Nat} {bQ:aG} {I F:Nat→Prop} {w:World} {p:bq} (h:nA c bQ I F w p):nA (f c) (lM f bQ) I F w p:=by
 obtain⟨ρ,G,aa,af,ay,bu⟩:=h
 have aB: ∀{d ch},ax (lM f bQ) d=some ch→ ∃cm,ax bQ (g d)=some cm∧ch=cm.rn f:=fun {d ch} hd=>by
  rw[←Ho d,Bh v7] at hd
  obtain⟨cm,aj,ak⟩:=Option.map_eq_some_iff.1 hd
  exact⟨cm,aj,ak.symm⟩
 refine⟨fun d=>ρ (g d),fun d=>G (g d),by simp only[v7];exact aa,fun d ch hd=>?_,fun d d' ch ch' b hd dO bg=>?_,fun b=>?_⟩
 ·obtain⟨cm,aj,rfl⟩:=aB hd
  rw[Bg]
  simp only[v7]
  exact af _ _ aj
 ·obtain⟨cm,aj,_⟩:=aB hd
  obtain⟨kM,ak,_⟩:=aB dO
  exact ay _ _ _ _ b aj ak (fun e=>bg (by rw[←Ho d,←Ho d',e]))
 ·rw[bu]
  constructor
  ·rintro⟨d,ch,aj,ak⟩
   exact⟨f d,ch.rn f,by rw[Bh v7,aj];rfl,by simp only[v7];exact ak⟩
  ·rintro⟨d,ch,aj,ak⟩
   obtain⟨cm,bf,_⟩:=aB aj
   exact⟨g d,cm,bf,ak⟩
theorem nA.ren (l:List (Nat×Nat)) {c:Nat} {bQ:aG} {I F:Nat→Prop} {w:World} {p:bq} (h:nA c bQ I F w p):nA (rn (pS l []) c) (lM (rn (pS l [])) bQ) I F w p:=
 h.Ut (g:=zn (pS l [])) (DI _) (DJ _)
theorem nA.sub {c:Nat} {bQ jT:aG} {I F:Nat→Prop} {w:World} {p:bq} (h:nA c bQ I F w p) (aa: ∀d ch,ax bQ d=some ch↔ax jT d=some ch):nA c jT I F w p:=by
 obtain⟨ρ,G,aj,ak,bf,cF⟩:=h
 exact⟨ρ,G,aj,fun d ch hd=>ak d ch ((aa d ch).2 hd),fun d d' ch ch' b hd dO=>bf d d' ch ch' b ((aa d ch).2 hd) ((aa d' ch').2 dO),fun b=>(cF b).trans ⟨fun⟨d,ch,a,b⟩=>⟨d,ch,(aa d ch).1 a,b⟩,fun⟨d,ch,a,b⟩=>⟨d,ch,(aa d ch).2 a,b⟩⟩⟩
section
variable {ids:List Nat} {K:aQ} {B:aG}
theorem gI.name (s c:Nat) {o:bN} (hs:look K s= .c (.one (.ptr c 0))) (hc:ax B c=some (.obj o)):gI ids K B (fun b:Nat=>(s,.c (.one (.d (.aY (some b)))))::K) (fun b=>(c,.obj (o.at b))::B):=by
 rintro N C a w ⟨hn,hd,ρ,F,aA,hS⟩
 obtain⟨bR,bz⟩:=aA.jP (w':=w) (ch:=.obj (o.at (ρ c).bI)) hc (Fr.refl _ _) fun I bC=>⟨rfl,Holds.cy (ρ':=ρ) bC (fun _ _=>rfl) (Nat.le_refl _) (.obj o) (fun _ _=>rfl) (aA.holds c _ hc)⟩
 refine⟨(ρ c).bI,hn,hd,ρ,F,bR,fun t=>?_⟩
 rw[kJ]
 split
 ·rename_i e
  subst e
  have:=hS s
  rw[hs] at this
  exact this
 ·exact hS.mono bz (fun _ _ _=>rfl) t
theorem ah.put (q c:Nat) {o:bN} {b:Nat} {L:List (Nat×bN)} (bg:c≠q) (bp:ax B q=some (.obj (.cM L))) (hc:ax B c=some (.obj (o.at b))):ah ids K B K ((q,.obj (.cM ((b,o)::L)))::ia B c):=by
 rintro N C a w ⟨hn,hd,ρ,F,aA,hS⟩
 have bh:fW _ _ L (F q):=aA.holds q _ bp
 have aV:(ρ c).bI=b∧o.R _ (F c) w (ρ c):=aA.holds c _ hc
 obtain⟨rfl,aV⟩:=aV
 have fU: ∀x,F c x→ ¬F q x:=fun x hx eF=>aA.e8 c q _ _ x hc bp bg hx eF
 obtain⟨bR,bz⟩:=aA.step (B':=(q,.obj (.cM (((ρ c).bI,o)::L)))::ia B c) (ρ':=ρ) (F':=dA F q (fun x=>F c x∨F q x)) (w':=w) (fun d=>d=c∨d=q) (fun _=>False) (Fr.refl _ _)
  (fun d ch hd hm=>by
   rw[cD,if_neg (fun e=>hm (.inr e.symm)),j7,if_neg (fun e=>hm (.inl e.symm))] at hd
   exact hd)
  (fun _ _=>rfl) (fun d hm=>dP _ _ (fun e=>hm (.inr e))) (fun _ _ h=>h) (fun _ h=>h.elim) (fun _ _ _ _ _ _ h=>h)
  (fun d ch hd hm bz=>by
   rw[cD] at hd
   split at hd
   ·rename_i e
    subst e
    injection hd with hd
    subst hd
    rw[dR]
    exact fW.add (bh.cy bz (Nat.le_refl _) (fun _ _=>rfl)) (o.cy _ _ _ _ _ _ aV bz (fun _ _=>rfl) (Nat.le_refl _)) fU
   ·rename_i e
    rcases hm with rfl |rfl
    ·rw[j7,if_pos rfl] at hd;cases hd
    ·exact absurd rfl e)
  (fun d ch hd hm x hx=>by
   rw[cD] at hd
   split at hd
   ·rename_i e
    subst e
    rw[dR] at hx
    rcases hx with hx |hx
    ·exact⟨(aA.own c _ hc x hx).1,.inl ⟨c,_,hc,.inl rfl,hx⟩⟩
    ·exact⟨(aA.own q _ bp x hx).1,.inl ⟨q,_,bp,.inr rfl,hx⟩⟩
   ·rename_i e
    rcases hm with rfl |rfl
    ·rw[j7,if_pos rfl] at hd;cases hd
    ·exact absurd rfl e)
  (fun d d' ch ch' x hd dO hm gB Hp=>by
   have key: ∀d ch,ax ((q,bw.obj (.cM (((ρ c).bI,o)::L)))::ia B c) d=some ch→(d=c∨d=q)→d=q:=fun d ch hd hm=>by
    rcases hm with rfl |rfl
    ·rw[cD,if_neg (Ne.symm bg),j7,if_pos rfl] at hd;cases hd
    ·rfl
   exact absurd ((key d ch hd hm).trans (key d' ch' dO gB).symm) Hp)
 exact⟨hn,hd,ρ,_,bR,hS.mono bz fun _ _ _=>rfl⟩
def sw:List Nat→aG→aG
 | [],B=>B
 |c::l,B=>sw l (ia B c)
theorem Bw: ∀(l:List Nat) (B:aG) (d:Nat),ax (sw l B) d=if d∈l then none else ax B d
 | [],B,d=>by simp[sw]
 |c::l,B,d=>by
  rw[sw,Bw l,j7]
  by_cases h:d∈l
  ·rw[if_pos h,if_pos (List.mem_cons_of_mem _ h)]
  ·rw[if_neg h]
   by_cases e:c=d
   ·subst e;rw[if_pos rfl,if_pos (List.mem_cons_self ..)]
   ·rw[if_neg e,if_neg]
    intro bZ
    rcases List.mem_cons.1 bZ with rfl |bZ
    ·exact e rfl
    ·exact h bZ
theorem ah.close (c:Nat) (bQ:aG) {o:bN} (dy:nT B bQ) (hc:(cQ bQ).contains c=true) (az: ∀I F w p,nA c bQ I F w p→o.R I F w p):ah ids K B K ((c,.obj o)::sw (cQ bQ) B):=by
 rintro N C a w ⟨hn,hd,ρ,F,aA,hS⟩
 have hc:=vZ hc
 have aB: ∀{d ch},ax bQ d=some ch→ax B d=some ch:=fun {d ch} h=>kO dy h
 have Hq: ∀{d ch},ax ((c,bw.obj o)::sw (cQ bQ) B) d=some ch→d∈cQ bQ→d=c∧ch= .obj o:=fun {d ch} hd hm=>by
  rw[cD] at hd
  split at hd
  ·rename_i e;injection hd with hd;exact⟨e.symm,hd.symm⟩
  ·rw[Bw,if_pos hm] at hd;cases hd
 obtain⟨bR,bz⟩:=aA.step (B':=(c,.obj o)::sw (cQ bQ) B) (ρ':=ρ) (F':=fun d=>if d∈cQ bQ then(fun x=> ∃d ch,ax bQ d=some ch∧F d x) else F d) (w':=w) (fun d=>d∈cQ bQ) (fun _=>False) (Fr.refl _ _)
  (fun d ch hd hm=>by
   have bg:c≠d:=fun e=>hm (by rw[←e];exact hc)
   rw[cD,if_neg bg,Bw,if_neg hm] at hd
   exact hd)
  (fun _ _=>rfl) (fun d hm=>if_neg hm) (fun _ _ h=>h) (fun _ h=>h.elim) (fun _ _ _ _ _ _ h=>h)
  (fun d ch hd hm bz=>by
   obtain⟨rfl,rfl⟩:=Hq hd hm
   simp only[if_pos hm]
   exact az _ _ _ _ ⟨ρ,F,rfl,fun d ch h=>Holds.cy bz (fun _ _=>rfl) (Nat.le_refl _) ch (fun _ _=>rfl) (aA.holds d ch (aB h)),fun d d' ch ch' b h h' bg=>aA.e8 d d' ch ch' b (aB h) (aB h') bg,fun b=>Iff.rfl⟩)
  (fun d ch hd hm x hx=>by
   simp only[if_pos hm] at hx
   obtain⟨d',ch',aa,af⟩:=hx
   exact⟨(aA.own d' ch' (aB aa) x af).1,.inl ⟨d',ch',aB aa,gu.2 ⟨ch',aa⟩,af⟩⟩)
  (fun d d' ch ch' x hd dO hm gB bg=>absurd ((Hq hd hm).1.trans (Hq dO gB).1.symm) bg)
 exact⟨hn,hd,ρ,_,bR,hS.mono bz fun _ _ _=>rfl⟩
theorem ah.emp (q:Nat) (hf:gz ids K B q=true):ah ids K B K ((q,.obj (.cM []))::B):=by
 rintro N C a w ⟨hn,hd,ρ,F,aA,hS⟩
 have cr:=lG hf
 obtain⟨bR,bz⟩:=aA.make hf (Below.refl _ w) (ρ q) (fun _=>False) (fun _ h=>h.elim) (ch:=.obj (.cM [])) fun I _ _=>fun b h=>h
 exact⟨hn,hd,_,_,bR,hS.mono bz fun s d hd=>dP _ _ (fun e=>by subst e;rw[cr.1 s] at hd;cases hd)⟩
end
end Go.Proofs.YteoamepgonpdlaaGreat
namespace Go.Proofs.YteoamepgonpdlaaGreat
open Go.RowKit
@[reducible] def bt:U:=.int .i64
@[reducible] def zz:dL:=.one (.raw (.pointer none))
@[reducible] def fh (n:Int):dL:=.one (.d (.int .i64 n))
@[reducible] def ry:aO:=.c6 []
@[reducible] def kC (b:Nat):aO:=.c (.one (.d (.aY (some b))))
theorem eA {α:Type} {L:List α} {n:Nat} (h:n < L.length):eT L n=some L[n]:=List.getElem?_eq_getElem h
theorem MR {α:Type} {L:List α} {n:Nat} (h:n < L.length):eT L n=some L[n]:=List.getElem?_eq_getElem h
theorem Fn.close {P:Program} {f:FuncId} {c:Nat} {args:List aO} {bQ aR:aG} {bA jS:List Nat} {res:aO} {jT bl:aG} {o o':bN} (js:List Nat)
  (h:Fn P f args (bQ++aR) bA res (jT++bl)) (dz: ∀I F w p,o.R I F w p→nA c bQ I F w p) (oc: ∀I F w p,nA c jT I F w p→o'.R I F w p)
  (aa:Bt c js args bQ aR bA jS=true) (af:Bu c (vY js bA jS) res jT bl=true):
  Fn P f args ((c,.obj o)::aR) jS res ((c,.obj o')::bl):=
 (gV.close (bQ:=bQ) (jT:=fun _:Unit=>jT) (bl:=fun _=>bl) (o:=o) (o':=fun _=>o') js h.x dz (fun _=>oc) aa (fun _=>af)).fn
theorem Fn.Hr {P:Program} {f:FuncId} {args:List aO} {c:Nat} {aR:aG} {bA:List Nat} {res:aO} {bl:aG} {o:bN} {Y:Type} {tF:Y→bN} (hc:mN P f=true) (az: ∀I F w p,o.R I F w p→ ∃y,(tF y).R I F w p)
  (h: ∀y,Fn P f args ((c,.obj (tF y))::aR) bA res bl):Fn P f args ((c,.obj o)::aR) bA res bl:=by
 refine⟨hc,fun ρ F I w bW cj cu a3 a4 a5 g5=>?_⟩
 have aB:ax ((c,bw.obj o)::aR) c=some (.obj o):=by rw[cD,if_pos rfl]
 obtain⟨y,aF⟩:=az _ _ _ _ (cu c _ aB)
 have key: ∀d ch,ax ((c,bw.obj (tF y))::aR) d=some ch→(d=c∧ch= .obj (tF y))∨ax ((c,bw.obj o)::aR) d=some ch:=fun d ch hd=>by
  rw[cD] at hd
  split at hd
  ·rename_i e;injection hd with hd;exact .inl ⟨e.symm,hd.symm⟩
  ·rename_i e;exact .inr (by rw[cD,if_neg e];exact hd)
 have uT: ∀d ch,ax ((c,bw.obj (tF y))::aR) d=some ch→ ∃cm,ax ((c,bw.obj o)::aR) d=some cm:=fun d ch hd=>by
  rcases key d ch hd with⟨e,_⟩ |h
  ·rw[e]
   exact⟨_,aB⟩
  ·exact⟨_,h⟩
 have Uu: ∀d ch,ax ((c,bw.obj o)::aR) d=some ch→ ∃cm,ax ((c,bw.obj (tF y))::aR) d=some cm:=fun d ch hd=>by
  rw[cD] at hd⊢
  split at hd
  ·rename_i e;exact⟨_,by rw[if_pos e]⟩
  ·rename_i e;exact⟨ch,by rw[if_neg e];exact hd⟩
 have hF: ∀b,(∃d ch,ax ((c,bw.obj (tF y))::aR) d=some ch∧F d b)↔ ∃d ch,ax ((c,bw.obj o)::aR) d=some ch∧F d b:=fun b=>
  ⟨fun⟨d,ch,aa,af⟩=>let⟨cm,h⟩:=uT d ch aa;⟨d,cm,h,af⟩,fun⟨d,ch,aa,af⟩=>let⟨cm,h⟩:=Uu d ch aa;⟨d,cm,h,af⟩⟩
 refine((h y).2 ρ F I w bW cj (fun d ch hd=>?_) (fun d ch hd b ag=>?_) (fun d d' ch ch' b aa af=>?_) a5 g5).mono ?_
 ·rcases key d ch hd with⟨rfl,rfl⟩ |h
  ·exact aF
  ·exact cu d ch h
 ·obtain⟨cm,h⟩:=uT d ch hd
  exact a3 d cm h b ag
 ·obtain⟨cx,g1⟩:=uT d ch aa
  obtain⟨aW,g2⟩:=uT d' ch' af
  exact a4 d d' cx aW b g1 g2
 ·rintro e w' ⟨x,ρ',F',r1,r2,gv,I',mU,nB,oh,mV,om,pU⟩
  refine⟨x,ρ',F',r1,r2.mono fun b _ ag=>(hF b).1 ag,gv,I',mU,fun b ag=>⟨(nB b ag).1,(nB b ag).2.imp id (Or.imp (hF b).1 id)⟩,oh,fun d ch hd b ag=>?_,om,pU⟩
  obtain⟨g1,g2,bL⟩:=mV d ch hd b ag
  exact⟨g1,g2,bL.imp (hF b).1 id⟩
end Go.Proofs.YteoamepgonpdlaaGreat
namespace Go.Proofs.YteoamepgonpdlaaGreat
open Go.RowKit
theorem gV.G1 {P:Program} {fn:FuncId} {f g:Nat→Nat} (bk: ∀c,g (f c)=c) (hf: ∀c,f (g c)=c) {args:List aO} {aR:aG} {bA:List Nat} {X:Type} {res:X→aO} {bl:X→aG} (h:gV P fn args aR bA res bl):
  gV P fn (xH f args) (lM f aR) (zq f bA) (fun x=>(res x).rn f) (fun x=>lM f (bl x)):=by
 refine⟨h.1,?_⟩
 intro ρ F I w bW bC dW hF fU hlen eu
 have lk: ∀(B:aG) c,ax (lM f B) (f c)=(ax B c).map (·.rn f):=Bh bk
 have fwd: ∀{B:aG} {c ch},ax B c=some ch→ax (lM f B) (f c)=some (ch.rn f):=fun {B c ch} h=>by rw[lk,h];rfl
 have bwd: ∀{B:aG} {c ch},ax (lM f B) c=some ch→ ∃cm,ax B (g c)=some cm∧ch=cm.rn f:=fun {B c ch} h=>by
  have e:=lk B (g c)
  rw[hf,h] at e
  obtain⟨cm,aa,af⟩:=Option.map_eq_some_iff.1 e.symm
  exact⟨cm,aa,af.symm⟩
 rw[GZ] at hlen eu
 have hc:=h.2 (fun c=>ρ (f c)) (fun c=>F (f c)) I w bW bC
  (fun c ch hc=>by rw[←Bg];exact dW _ _ (fwd hc))
  (fun c ch hc=>hF _ _ (fwd hc))
  (fun c bS ch ch' b aa af bg=>fU _ _ _ _ b (fwd aa) (fwd af) fun e=>bg (by rw[←bk c,e,bk]))
  (by simpa using hlen)
  (fun i v x hv hx=>by rw[←DL];exact eu i _ x (by rw[List.getElem?_map,hv];rfl) hx)
 refine hc.mono ?_
 rintro e w' ⟨y,x,ρ',F',rfl,cr,dn,I',kX,iI,oW,aV,jQ,hx⟩
 have xI:(fun c=>ρ' (g (f c)))=ρ':=funext fun c=>by rw[bk]
 refine⟨y,x,fun c=>ρ' (g c),fun c=>F' (g c),rfl,?_,?_,I',kX,?_,?_,?_,?_,?_⟩
 ·exact cr.mono fun b _ ⟨c,ch,aa,af⟩=>⟨f c,_,fwd aa,af⟩
 ·intro c hc
  show ρ' (g c)=ρ c
  rw[dn (g c) (fun hm=>hc (by have:=G0 (f:=f) _ _ hm;rwa[hf] at this)),hf]
 ·intro b ag
  obtain⟨aa,af⟩:=iI b ag
  refine⟨aa,?_⟩
  rcases af with af |⟨c,ch,af,ay⟩ |af
  ·exact .inl af
  ·exact .inr (.inl ⟨f c,_,fwd af,ay⟩)
  ·exact .inr (.inr af)
 ·intro c ch hc
  obtain⟨cm,aa,rfl⟩:=bwd hc
  rw[Bg,xI]
  exact oW _ _ aa
 ·intro c ch hc b ag
  obtain⟨cm,aa,rfl⟩:=bwd hc
  obtain⟨cC,cR,fo⟩:=aV _ _ aa b ag
  refine⟨cC,cR,?_⟩
  rcases fo with⟨cx,cm,fo,gU⟩ |fo
  ·exact .inl ⟨f cx,_,fwd fo,gU⟩
  ·exact .inr fo
 ·intro c bS ch ch' b hc dm bg
  obtain⟨cm,aa,rfl⟩:=bwd hc
  obtain⟨kM,af,rfl⟩:=bwd dm
  exact jQ _ _ _ _ b aa af fun e=>bg (by rw[←hf c,e,hf])
 ·rw[DL,xI]
  exact hx
theorem gV.ren {P:Program} {fn:FuncId} (l:List (Nat×Nat)) {args:List aO} {aR:aG} {bA:List Nat} {X:Type} {res:X→aO} {bl:X→aG} (h:gV P fn args aR bA res bl):
  gV P fn (xH (rn (pS l [])) args) (lM (rn (pS l [])) aR) (zq (rn (pS l [])) bA) (fun x=>(res x).rn (rn (pS l []))) (fun x=>lM (rn (pS l [])) (bl x)):=
 gV.G1 (DI _) (DJ _) h
def bN.uU (o:bN):Prop:= ∀I F w p,o.R I F w p→F p.bI
theorem Hs {I:Nat→Prop} {w:World} {b:Nat}: ∀{L:List (Nat×bN)} {F:Nat→Prop},(∀p∈L,p.2.uU)→fW I w L F→b∈L.map (·.1)→F b
 | [],_,_,_,h=>by cases h
 |p::L,F,ha,⟨cH,cU,q,aa,af,ay,bu,dI⟩,h=>by
  rcases List.mem_cons.1 h with h |h
  ·exact(aa b).2 (.inl (by rw[h];have:=ha p (List.mem_cons_self ..) _ _ _ _ bu;rwa[ay] at this))
  ·exact(aa b).2 (.inr (Hs (fun p hp=>ha p (List.mem_cons_of_mem _ hp)) dI h))
theorem MS {I:Nat→Prop} {w:World}: ∀{L:List (Nat×bN)} {F:Nat→Prop},(∀p∈L,p.2.uU)→fW I w L F→(L.map (·.1)).Nodup
 | [],_,_,_=>List.nodup_nil
 |p::L,F,ha,⟨cH,cU,q,aa,af,ay,bu,dI⟩=>by
  have MT: ∀p∈L,p.2.uU:=fun p hp=>ha p (List.mem_cons_of_mem _ hp)
  rw[List.map_cons]
  refine List.nodup_cons.2 ⟨fun hm=>?_,MS MT dI⟩
  have aj:=ha p (List.mem_cons_self ..) _ _ _ _ bu
  rw[ay] at aj
  exact af _ aj (Hs MT dI hm)
theorem gI.Uv {ids:List Nat} {K:aQ} {B:aG} (q:Nat) {L:List (Nat×bN)} (ha: ∀p∈L,p.2.uU) (bp:ax B q=some (.obj (.cM L))):gI ids K B (X:=PLift ((L.map (·.1)).Nodup)) (fun _=>K) (fun _=>B):=by
 rintro N C a w ⟨hn,hd,ρ,F,aA,hS⟩
 have bh:fW (bO C B F w) w L (F q):=aA.holds q _ bp
 exact⟨⟨MS ha bh⟩,hn,hd,ρ,F,aA,hS⟩
end Go.Proofs.YteoamepgonpdlaaGreat
namespace Go.Proofs.YteoamepgonpdlaaGreat
open Go.RowKit
@[reducible] def tG (fn:FuncId) (tmps:Array Value) (ps:Array Nat) (assign body:Code) (D:Nat) (st:LoopState):Loop:={state:=st,pending:=none,fn:=fn,tmps:=tmps,params:=ps,assign:=assign,body:=body,defers:=D}
def DS (mK:Nat→bq) (g8:List Nat) (kZ:Nat→Prop) (sx:World) (l:Nat) (rec:Loop) (c:Nat) (B:aG) (I F:Nat→Prop) (w:World) (p:bq):Prop:=
 Ext kZ sx I w∧w.heap[l]? =some (.loop rec)∧ ∃(ρ:Nat→bq) (G:Nat→Nat→Prop),ρ c=p∧(∀d,d∈g8→ρ d=mK d)∧(∀d ch,ax B d=some ch→Holds ρ I (G d) w (ρ d) ch)∧
  (∀d d' ch ch' b,ax B d=some ch→ax B d'=some ch'→d≠d'→G d b→ ¬G d' b)∧(∀d ch,ax B d=some ch→ ¬G d l)∧ ∀b,F b↔b=l∨ ∃d ch,ax B d=some ch∧G d b
def bN.nU (mK:Nat→bq) (g8:List Nat) (kZ:Nat→Prop) (sx:World) (l:Nat) (rec:Loop) (c:Nat) (B:aG):bN where
 R:=DS mK g8 kZ sx l rec c B
 cy:=fun I F w I' w' p ⟨aE,aB,ρ,G,aa,td,af,ay,AS,bu⟩ he hF aS=>
  ⟨aE.trans he,(hF l ((bu l).2 (.inl rfl))).trans aB,ρ,G,aa,td,fun d ch hd=>Holds.cy he (fun b ag=>hF b ((bu b).2 (.inr ⟨d,ch,hd,ag⟩))) aS ch (fun _ _=>rfl) (af d ch hd),ay,AS,bu⟩
def xP (l:List Nat):List aO→Bool
 | []=>true
 |v::vs=>v.among l&&xP l vs
theorem Ht {l:List Nat}: ∀{vs:List aO},xP l vs=true→ ∀{i:Nat} {v:aO},vs[i]? =some v→v.among l=true
 | [],_,i,v,h=>by simp at h
 |x::vs,h,i,v,hv=>by
  simp only[xP,Bool.and_eq_true] at h
  match i with
  |0=>
   simp only[List.getElem?_cons_zero,Option.some.injEq] at hv
   exact hv▸h.1
  |i+1=>exact Ht h.2 (i:=i) (by simpa using hv)
def Bx (l:List Nat):aQ→Bool
 | []=>true
 |(_,v)::K=>v.among l&&Bx l K
theorem Hu {l:List Nat}: ∀{K:aQ},Bx l K=true→ ∀s,(look K s).among l=true
 | [],_,s=>rfl
 |(t,v)::K,h,s=>by
  simp only[Bx,Bool.and_eq_true] at h
  rw[kJ]
  split
  ·exact h.1
  ·exact Hu h.2 s
section
variable {P:Program} {tt:cY} {N:Nat} {mK:Nat→bq} {g8:List Nat} {kZ:Nat→Prop} {sx:World} {l:Nat} {rec:Loop} {c:Nat}
theorem oo {c:Nat} {ch:bw}:ax [(c,ch)] c=some ch:=by rw[cD,if_pos rfl]
theorem uV {c d:Nat} {ch ch':bw} (h:ax [(c,ch)] d=some ch'):d=c∧ch'=ch:=by
 rw[cD] at h
 split at h
 ·rename_i e;injection h with h;exact⟨e.symm,h.symm⟩
 ·cases h
theorem Uw {f:FuncId} {args:List aO} {res:aO} {pV oX:aG} (h:Fn P f args pV [] res oX) (ha:xP [c] args=true) (hr:res.among []=true):
  Fn P f args [(c,.obj (bN.nU mK g8 kZ sx l rec c pV))] [] res [(c,.obj (bN.nU mK g8 kZ sx l rec c oX))]:=by
 refine⟨h.1,fun ρ F I w bW bC dW hF fU hlen eu=>?_⟩
 have zA:DS mK g8 kZ sx l rec c pV I (F c) w (ρ c):=dW c _ oo
 obtain⟨aE,aB,ru,G,cC,xQ,cR,fo,zB,gU⟩:=zA
 have pN: ∀b,F c b→b < w.heap.size∧ ¬I b:=fun b ag=>hF c _ oo b ag
 have qx:l < w.heap.size:=pE aB
 have xR: ¬ ∃d ch,ax pV d=some ch∧G d l:=fun⟨d,ch,hd,bk⟩=>zB d ch hd bk
 refine(h.2 ru G I w bW bC cR (fun d ch hd b ag=>pN b ((gU b).2 (.inr ⟨d,ch,hd,ag⟩))) fo hlen ?_).mono ?_
 ·intro i v x hv hx
  refine b8.mono (Ext.refl _ _) v x (fun j au=>?_) (eu i v x hv hx)
  have:=aO.kQ (Ht ha hv) au
  rw[List.mem_singleton] at this
  subst this
  exact cC
 ·rintro e w' ⟨x,ρ',F',rfl,cr,dn,I',kX,iI,oW,aV,jQ,xO⟩
  have gj:w'.heap[l]? =some (.loop rec):=(cr.block l qx xR).trans aB
  have zC: ¬I' l:=fun aD=>by
   rcases(iI l aD).2 with h |h |h
   ·exact(pN l ((gU l).2 (.inl rfl))).2 h
   ·exact xR h
   ·omega
  refine⟨x,ρ,fun d=>if d=c then(fun b=>b=l∨ ∃d ch,ax oX d=some ch∧F' d b) else F d,rfl,cr.mono fun b _ ⟨d,ch,hd,bk⟩=>⟨c,_,oo,(gU b).2 (.inr ⟨d,ch,hd,bk⟩)⟩,fun _ _=>rfl,I',kX,fun b ag=>⟨(iI b ag).1,?_⟩,?_,?_,?_,?_⟩
  ·rcases(iI b ag).2 with h |⟨d,ch,hd,bk⟩ |h
   ·exact .inl h
   ·exact .inr (.inl ⟨c,_,oo,(gU b).2 (.inr ⟨d,ch,hd,bk⟩)⟩)
   ·exact .inr (.inr h)
  ·intro d ch hd
   obtain⟨rfl,rfl⟩:=uV hd
   simp only[if_true]
   refine⟨aE.trans kX,gj,ρ',F',(dn _ (by simp)).trans cC,fun d hd=>(dn d (by simp)).trans (xQ d hd),oW,jQ,fun d ch hd bk=>?_,fun b=>Iff.rfl⟩
   rcases(aV d ch hd l bk).2.2 with h |h
   ·exact xR h
   ·omega
  ·intro d ch hd b ag
   obtain⟨rfl,rfl⟩:=uV hd
   simp only[if_true] at ag
   rcases ag with rfl |⟨d,ch,hd,ag⟩
   ·exact⟨pE gj,zC,.inl ⟨_,_,oo,(gU _).2 (.inl rfl)⟩⟩
   ·obtain⟨r1,r2,gv⟩:=aV d ch hd b ag
    exact⟨r1,r2,gv.imp (fun⟨d,ch,hd,bk⟩=>⟨_,_,oo,(gU b).2 (.inr ⟨d,ch,hd,bk⟩)⟩) id⟩
  ·intro d d' ch ch' b hd dO bg
   exact absurd ((uV hd).1.trans (uV dO).1.symm) bg
  ·exact b8.mono (Ext.refl _ _) res x (fun j au=>by have:=aO.kQ hr au;cases this) xO
def By:List Nat→List aO→aQ→aQ
 | [],_,K=>K
 |p::pl,vs,K=>match vs with
  | []=>K
  |v::vs=>By pl vs ((p,v)::K)
theorem MU {ρ:Nat→bq} {I:Nat→Prop} {w:World}: ∀(pl:List Nat) (vs:List aO) (bW:List Value) (K:aQ) (t:Array Value),bW.length=vs.length→(∀p,p∈pl→p < t.size)→(∀(i:Nat) (v:aO) (x:Value),vs[i]? =some v→bW[i]? =some x→b8 ρ I w v x)→
  (∀s,b8 ρ I w (look K s) (t.getD s undef))→(((pl.zip bW).foldl (fun t (p:Nat×Value)=>t.setIfInBounds p.1 p.2) t).size=t.size∧ ∀s,b8 ρ I w (look (By pl vs K) s) (((pl.zip bW).foldl (fun t (p:Nat×Value)=>t.setIfInBounds p.1 p.2) t).getD s undef))
 | [],vs,bW,K,t,_,_,_,h=>⟨rfl,h⟩
 |p::pl,[],[],K,t,_,_,_,h=>⟨rfl,h⟩
 |p::pl,[],_::_,K,t,aB,_,_,h=>by simp at aB
 |p::pl,_::_,[],K,t,aB,_,_,h=>by simp at aB
 |p::pl,v::vs,x::bW,K,t,aB,hp,hv,h=>by
  have Ux:=hp p (List.mem_cons_self ..)
  obtain⟨g1,g2⟩:=MU pl vs bW ((p,v)::K) (t.setIfInBounds p x) (by simpa using aB) (fun q bp=>by rw[Array.size_setIfInBounds];exact hp q (List.mem_cons_of_mem _ bp)) (fun i u y hu aF=>hv (i+1) u y (by simpa using hu) (by simpa using aF)) (fun s=>by
   rw[kJ]
   by_cases e:p=s
   ·subst e
    rw[if_pos rfl]
    have:(t.setIfInBounds p x).getD p undef=x:=by simp[Ux]
    rw[this]
    exact hv 0 v x rfl rfl
   ·rw[if_neg e]
    have:(t.setIfInBounds p x).getD s undef=t.getD s undef:=by simp[Array.getElem?_setIfInBounds_ne e]
    rw[this]
    exact h s)
  refine⟨?_,g2⟩
  rw[List.zip_cons_cons,List.foldl_cons]
  exact g1.trans (Array.size_setIfInBounds)
theorem Mem.MV {ids:List Nat} {C:Ctx} {B:aG} {ρ:Nat→bq} {F:Nat→Nat→Prop} {w:World} (h:Mem ids C B ρ F w) (hF: ∀b,C.yJ b→ ¬C.qj b):Ext C.yJ C.w0 (bO C B F w) w:=fun b ag=>by
 have aa:=h.marks.2.1 b (.inl ag)
 refine⟨⟨Nat.lt_of_lt_of_le aa h.jo.size,.inl ag,fun c ch hc hf=>?_⟩,h.jo.block b aa (hF b ag)⟩
 rcases(h.own c ch hc b hf).2 with af |af
 ·exact hF b ag af
 ·have:=af.1;omega
set_option maxHeartbeats 1000000 in
theorem Uy (bh:dQ P tt) {fn:FuncId} {tmps:Array Value} {ps:Array Nat} {pl:List Nat} {assign body:Code} {D:Nat} (oa:ps.toList=pl) (gq: ∀p,p∈pl→p < N) (dH:tmps.size=N) (Hv:kP P N assign=true) (Bz:kP P N body=true)
  {nw:aQ} (Hw:Bx g8 nw=true) (hc:c∈g8) (nv: ∀s,b8 mK kZ sx (look nw s) (tmps.getD s undef)) (stops:List Nat) {vs:List aO} (ri:vs.length=pl.length) (Hl:xP [] vs=true) {pV oX:aG}
  (Uz:vc P tt N (0::g8) stops assign (By pl vs nw) pV (fun e K B=>e= .gp∧vc P tt N (0::g8) stops body K B (fun e K B=>e= .gp∧ah (0::g8) K B [] oX))):
  zv P l vs [(c,.obj (bN.nU mK g8 kZ sx l (tG fn tmps ps assign body D .ready) c pV))] (fun _:Unit=>w8 true) (fun _=>[(c,.obj (bN.nU mK g8 kZ sx l (tG fn tmps ps assign body D .ready) c oX))]):=by
 intro ρ F I w bW bC dW hF fU hlen eu
 have zA:DS mK g8 kZ sx l (tG fn tmps ps assign body D .ready) c pV I (F c) w (ρ c):=dW c _ oo
 obtain⟨aE,aB,ru,G,cC,xQ,cR,fo,zB,gU⟩:=zA
 have pN: ∀b,F c b→b < w.heap.size∧ ¬I b:=fun b ag=>hF c _ oo b ag
 have qx:l < w.heap.size:=pE aB
 have xR: ¬ ∃d ch,ax pV d=some ch∧G d l:=fun⟨d,ch,hd,bk⟩=>zB d ch hd bk
 have UA: ¬I l:=(pN l ((gU l).2 (.inl rfl))).2
 have xS: ∀{d ch b},ax pV d=some ch→G d b→F c b:=fun {d ch b} hd bk=>(gU b).2 (.inr ⟨d,ch,hd,bk⟩)
 have aF:=run_yield (P:=P) (args:=bW.toArray) aB (by rw[List.size_toArray,hlen,ri,←oa,Array.length_toList])
 refine⟨fn,_,assign,body,aF,roundIn_of_wpIn (F:=nV none) trivial ?_⟩
 have UB:((ps.zip bW.toArray).foldl (fun tmps (x:Nat×Value)=>tmps.setIfInBounds x.1 x.2) tmps)=(pl.zip bW).foldl (fun t (p:Nat×Value)=>t.setIfInBounds p.1 p.2) tmps:=by
  rw[←oa,←Array.foldl_toList]
  congr 1
  simp
 obtain⟨g1,g2⟩:=MU (ρ:=ru) (I:=I) (w:=w) pl vs bW nw tmps hlen (fun p hp=>by rw[dH];exact gq p hp) (fun i v x hv hx=>b8.mono (Ext.refl _ _) v x (fun j au=>by have:=aO.kQ (Ht Hl hv) au;cases this) (eu i v x hv hx))
  (fun s=>b8.mono aE _ _ (fun j au=>xQ j (aO.kQ (Hu Hw s) au)) (nv s))
 let rz:Ctx:=⟨w,I,fun b=> ∃d ch,ax pV d=some ch∧G d b,ru,[]⟩
 have sk:Ext I w (bO rz pV G w) w:=fun b ag=>⟨⟨bC b ag,.inl ag,fun d ch hd bk=>(pN b (xS hd bk)).2 ag⟩,rfl⟩
 have kA:Mem (0::g8) rz pV ru G w:=⟨Fr.refl _ _,fun d ch hd=>Holds.cy sk (fun _ _=>rfl) (Nat.le_refl _) ch (fun _ _=>rfl) (cR d ch hd),fun d ch hd b ag=>⟨(pN b (xS hd ag)).1,.inl ⟨d,ch,hd,ag⟩⟩,fo,fun _ _=>rfl,List.nodup_nil,
  fun b ag=>ag.elim (bC b) fun⟨d,ch,hd,bk⟩=>(pN b (xS hd bk)).1,fun D cq=>by cases cq⟩
 have lN:Sat N (0::g8) rz (By pl vs nw) pV ⟨(ps.zip bW.toArray).foldl (fun tmps (x:Nat×Value)=>tmps.setIfInBounds x.1 x.2) tmps,[]⟩ w:=by
  rw[UB]
  exact⟨g1.trans dH,rfl,ru,G,kA,fun s=>b8.mono sk _ _ (fun _ _=>rfl) (g2 s)⟩
 refine zg bh (aJ bh) stops assign _ _ _ Hv Uz (some l) (fun h=>by simp[uy] at h) rz _ ?_ _ w lN
 rintro e L6 jx ds gQ ⟨rfl,UC⟩ cj b9 eR
 have gQ:ds=[]:=gQ (by simp[uy])
 subst gQ
 obtain⟨ee,d1,sy,cH,jR,UD⟩:=eR
 have jR:Mem (0::g8) rz jx sy cH b9:=jR
 have rV:b9.heap[l]? =some (.loop (tG fn tmps ps assign body D .ready)):=(jR.jo.block l qx xR).trans aB
 have UE:=pE rV
 have zC: ¬bO rz jx cH b9 l:=fun aD=>by
  rcases aD.2.1 with h |h |h
  ·exact UA h
  ·exact xR h
  ·have h:w.heap.size≤l:=h.1
   omega
 have DT: ∀d ch,ax jx d=some ch→ ¬cH d l:=fun d ch hd hf=>by
  rcases(jR.own d ch hd l hf).2 with h |h
  ·exact xR h
  ·have h:w.heap.size≤l:=h.1
   omega
 refine⟨_,run_beginRound rV rfl,?_⟩
 obtain⟨ck,xU⟩: ∃ck,ck=b9.putObj l (.loop {tG fn tmps ps assign body D .ready with state:=.busy}):=⟨_,rfl⟩
 rw[←xU]
 have BA:ck.heap.size=b9.heap.size:=by rw[xU,World.putObj_size]
 have Hx: ∀b,b≠l→ck.heap[b]? =b9.heap[b]? :=fun b ag=>by rw[xU];exact World.putObj_heap_other ag
 have r6:ck.heap[l]? =some (.loop {tG fn tmps ps assign body D .ready with state:=.busy}):=by rw[xU];exact World.putObj_heap_same UE
 have Hy:ck.os=b9.os∧ck.tape=b9.tape∧ck.output=b9.output:=by rw[xU];exact⟨rfl,rfl,rfl⟩
 let oY:Ctx:=⟨ck,bO rz jx cH b9,fun b=> ∃d ch,ax jx d=some ch∧cH d b,sy,[]⟩
 have oV:Ext (bO rz jx cH b9) b9 (bO oY jx cH ck) ck:=fun b ag=>⟨⟨by rw[BA];exact ag.1,.inl ag,ag.2.2⟩,Hx b (fun e=>zC (e▸ag))⟩
 have UF:Mem (0::g8) oY jx sy cH ck:=⟨Fr.refl _ _,fun d ch hd=>Holds.cy oV (fun b ag=>Hx b (fun e=>DT d ch hd (e▸ag))) (Nat.le_of_eq BA.symm) ch (fun _ _=>rfl) (jR.holds d ch hd),fun d ch hd b ag=>⟨by rw[BA];exact(jR.own d ch hd b ag).1,.inl ⟨d,ch,hd,ag⟩⟩,jR.e8,fun _ _=>rfl,List.nodup_nil,
  fun b ag=>by
   show b < ck.heap.size
   rw[BA]
   exact ag.elim (fun ag=>ag.1) fun⟨d,ch,hd,bk⟩=>(jR.own d ch hd b bk).1,fun D cq=>by cases cq⟩
 refine zg bh (aJ bh) stops body _ _ _ Bz UC (some l) (fun h=>by simp[uy] at h) oY _ ?_ cj ck ⟨ee,d1,sy,cH,UF,UD.mono oV fun _ _ _=>rfl⟩
 rintro e ac4 ac5 ds gQ ⟨rfl,hle⟩ a3 w3 DU
 have gQ:ds=[]:=gQ (by simp[uy])
 subst gQ
 obtain⟨zD,d3,zE,tH,sA,ac6⟩:=hle N (oY.at []) a3 w3 DU
 have sA:Mem (0::g8) oY oX zE tH w3:=sA
 have Hz:w3.heap[l]? =some (.loop {tG fn tmps ps assign body D .ready with state:=.busy}):=(sA.jo.block l (pE r6) (fun⟨d,ch,hd,bk⟩=>DT d ch hd bk)).trans r6
 have MW:=pE Hz
 have MX: ¬bO oY oX tH w3 l:=fun aD=>by
  rcases aD.2.1 with h |h |h
  ·exact zC h
  ·obtain⟨d,ch,hd,bk⟩:=h;exact DT d ch hd bk
  ·have h:ck.heap.size≤l:=h.1
   omega
 have MY: ∀d ch,ax oX d=some ch→ ¬tH d l:=fun d ch hd hf=>by
  rcases(sA.own d ch hd l hf).2 with h |h
  ·obtain⟨d,ch,hd,bk⟩:=h;exact DT d ch hd bk
  ·have h:ck.heap.size≤l:=h.1
   omega
 obtain⟨e7,rA⟩: ∃e7,e7=w3.putObj l (.loop (tG fn tmps ps assign body D .ready)):=⟨_,rfl⟩
 have ep:(Instr.endRound l none).run P w3= .ok (.bool true) e7:=by rw[rA];exact run_endRound none Hz
 refine⟨.bool true,e7,ep,?_⟩
 have sB:e7.heap.size=w3.heap.size:=by rw[rA,World.putObj_size]
 have v8: ∀b,b≠l→e7.heap[b]? =w3.heap[b]? :=fun b ag=>by rw[rA];exact World.putObj_heap_other ag
 have UG:e7.heap[l]? =some (.loop (tG fn tmps ps assign body D .ready)):=by rw[rA];exact World.putObj_heap_same MW
 have xV:e7.os=w3.os∧e7.tape=w3.tape∧e7.output=w3.output:=by rw[rA];exact⟨rfl,rfl,rfl⟩
 have UH:Ext I w (bO rz jx cH b9) b9:=jR.MV fun b ag ⟨d,ch,hd,bk⟩=>(pN b (xS hd bk)).2 ag
 have UI:Ext (bO rz jx cH b9) b9 (bO rz jx cH b9) ck:=fun b ag=>⟨ag,(oV b ag).2⟩
 have UJ:Ext (bO rz jx cH b9) ck (bO oY oX tH w3) w3:=sA.MV fun b ag ⟨d,ch,hd,bk⟩=>ag.2.2 d ch hd bk
 have MZ:Ext (bO oY oX tH w3) w3 (bO oY oX tH w3) e7:=fun b ag=>⟨ag,v8 b (fun e=>MX (e▸ag))⟩
 have M0:Ext I w (bO oY oX tH w3) e7:=UH.trans (UI.trans (UJ.trans MZ))
 have M1:=jR.jo.size
 have M1:w.heap.size≤b9.heap.size:=M1
 have z23:ck.heap.size≤w3.heap.size:=sA.jo.size
 have fJ: ∀{b},(oY.qj b∨oY.w0.heap.size≤b∧b∉oY.ds)→F c b∨w.heap.size≤b:=fun {b} h=>by
  rcases h with⟨d,ch,hd,bk⟩ |h
  ·rcases(jR.own d ch hd b bk).2 with⟨d,ch,hd,bk⟩ |h
   ·exact .inl (xS hd bk)
   ·exact .inr h.1
  ·have h:ck.heap.size≤b:=h.1
   exact .inr (by omega)
 refine⟨(),.bool true,ρ,fun d=>if d=c then(fun b=>b=l∨ ∃d ch,ax oX d=some ch∧tH d b) else F d,rfl,?_,fun _=>rfl,bO oY oX tH w3,M0,fun b ag=>⟨by rw[sB];exact ag.1,?_⟩,?_,?_,?_,rfl⟩
 ·have f1:Fr (fun b=>F c b) w b9:=jR.jo.mono fun b _ ⟨d,ch,hd,bk⟩=>xS hd bk
  have f2:Fr (fun b=>b=l) b9 ck:=⟨Hy.1,Hy.2.1,Hy.2.2,Nat.le_of_eq BA.symm,fun b _ ag=>Hx b ag⟩
  have f3:Fr oY.qj ck w3:=sA.jo
  have f4:Fr (fun b=>b=l) w3 e7:=⟨xV.1,xV.2.1,xV.2.2,Nat.le_of_eq sB.symm,fun b _ ag=>v8 b ag⟩
  have cP:F c l:=(gU l).2 (.inl rfl)
  have f:Fr (fun b=>F c b) w e7:=((f1.trans f2 fun b _ (ag:b=l)=>by rw[ag];exact cP).trans f3 fun b ag hf=>by
   rcases fJ (.inl hf) with h |h
   ·exact h
   ·omega).trans f4 fun b _ (ag:b=l)=>by rw[ag];exact cP
  exact f.mono fun b _ ag=>⟨c,_,oo,ag⟩
 ·rcases ag.2.1 with h |h
  ·rcases h.2.1 with h |⟨d,ch,hd,bk⟩ |h
   ·exact .inl h
   ·exact .inr (.inl ⟨c,_,oo,xS hd bk⟩)
   ·exact .inr (.inr h.1)
  ·exact .inr ((fJ h).imp (fun h=>⟨c,_,oo,h⟩) id)
 ·intro d ch hd
  obtain⟨rfl,rfl⟩:=uV hd
  simp only[if_true]
  have aq: ∀d,d∈g8→zE d=ru d:=fun d hd=>(sA.keep d (List.mem_cons_of_mem _ hd)).trans (jR.keep d (List.mem_cons_of_mem _ hd))
  exact⟨aE.trans M0,UG,zE,tH,(aq _ hc).trans cC,fun d hd=>(aq d hd).trans (xQ d hd),fun d ch hd=>Holds.cy MZ (fun b ag=>v8 b (fun e=>MY d ch hd (e▸ag))) (Nat.le_of_eq sB.symm) ch (fun _ _=>rfl) (sA.holds d ch hd),sA.e8,MY,fun b=>Iff.rfl⟩
 ·intro d ch hd b ag
  obtain⟨rfl,rfl⟩:=uV hd
  simp only[if_true] at ag
  rcases ag with rfl |⟨d,ch,hd,ag⟩
  ·exact⟨by rw[sB];exact MW,MX,.inl ⟨_,_,oo,(gU _).2 (.inl rfl)⟩⟩
  ·obtain⟨r1,r2⟩:=sA.own d ch hd b ag
   exact⟨by rw[sB];exact r1,fun aD=>aD.2.2 d ch hd ag,(fJ r2).imp (fun h=>⟨_,_,oo,h⟩) id⟩
 ·intro d d' ch ch' b hd dO bg
  exact absurd ((uV hd).1.trans (uV dO).1.symm) bg
theorem UK {f:FuncId} {w:World} {cs args:Array Value} (hf:mN P f=true):(invoke (.fn (.func f) cs) args).run P w= .ok (.enter f (args++cs)) w:=by
 unfold mN at hf
 split at hf
 ·rename_i fn kW
  simp only[Bool.not_eq_true',Bool.or_eq_false_iff,beq_eq_false_iff_ne] at hf
  have af: ¬fn.body=none:=fun e=>by rw[e] at hf;simp at hf
  simp[invoke,callFunc,go_sem,kW]
  rw[if_neg hf.1,if_neg af]
 ·cases hf
set_option maxHeartbeats 1000000 in
theorem av.range (bh:dQ P tt) {ids:List Nat} (stops:List Nat) {s:Nat} {ps:Array Nat} {pl:List Nat} {assign body:Code} (oa:ps.toList=pl) (Hv:kP P N assign=true) (Bz:kP P N body=true) (gq:(pl.all fun p=>Nat.blt p N)=true)
  {f:FuncId} {HA:List kH} (hf:mN P f=true) (g8:List Nat) (K nw:aQ) (jU:aG) {X:Type} (ic:X→aG) (c:Nat) (jb BB:X) (Y:X→List aO→X→Prop)
  (HB:look K s= .c (.one (.eM f HA))) (Hw:Ba K nw)
  (aq:(g8.contains c&&Bx g8 nw&&ids.all g8.contains&& !uy ids)=true) (Dy:((cQ (ic jb)).all (fun d=> !(cQ jU).contains d)&& !(cQ jU).contains c)=true)
  (BC: ∀x vs qy,Y x vs qy→vs.length=pl.length∧xP [] vs=true∧vc P tt N (0::g8) stops assign (By pl vs nw) (ic x) (fun e K B=>e= .gp∧vc P tt N (0::g8) stops body K B (fun e K B=>e= .gp∧ah (0::g8) K B [] (ic qy))))
  (UL: ∀(l:Nat) (fD:X→bN),(∀f' args res x qy,Fn P f' args (ic x) [] res (ic qy)→xP [c] args=true→res.among []=true→Fn P f' args [(c,.obj (fD x))] [] res [(c,.obj (fD qy))])→
   (∀x vs qy,Y x vs qy→zv P l vs [(c,.obj (fD x))] (fun _:Unit=>w8 true) (fun _=>[(c,.obj (fD qy))]))→
   Fn P f (.c (.one (.raw (.func (.yield l) #[] #[])))::oP HA) (jU++[(c,.obj (fD jb))]) [] (.c6 []) [(c,.obj (fD BB))])
  {Q:oQ→aQ→aG→Prop} (uN:Q .gp nw (ic BB)):av P N ids (.rangeFunc (.tmp s) ps assign body) K (jU++ic jb) Q:=by
 intro r hr C gP bp a w hs
 simp only[Bool.and_eq_true,Bool.not_eq_true'] at aq Dy
 obtain⟨⟨⟨bP,gx⟩,tI⟩,hid⟩:=aq
 obtain⟨pW,pO⟩:=Dy
 have bP:=vZ bP
 have FH: ∀d,d∈ids→d∈g8:=fun d hd=>vZ (List.all_eq_true.1 tI d hd)
 have M3:ax jU c=none:=by
  cases e:ax jU c with
  |none=>rfl
  |some ch=>have:=List.contains_iff_mem.2 (gu.2 ⟨ch,e⟩);rw[pO] at this;cases this
 have hr:=hr hid
 subst hr
 obtain⟨hn,hd,ρ,F,aA,hS⟩:=hs
 have pX: ∀{d ch},ax (ic jb) d=some ch→ax (jU++ic jb) d=some ch∧ax jU d=none:=fun {d ch} h=>by
  have aq:=List.all_eq_true.1 pW d (gu.2 ⟨ch,h⟩)
  have hn:ax jU d=none:=by
   cases e:ax jU d with
   |none=>rfl
   |some ch'=>rw[List.contains_iff_mem.2 (gu.2 ⟨ch',e⟩)] at aq;cases aq
  exact⟨by rw[mT,hn];exact h,hn⟩
 have rB: ∀{d ch},ax jU d=some ch→ax (jU++ic jb) d=some ch:=fun {d ch} h=>by rw[mT,h]
 refine wpIn_rangeFunc fun fn _=>?_
 obtain⟨rec,lH⟩: ∃rec,rec=tG fn a.tmps ps assign body w.heap.size .ready:=⟨_,rfl⟩
 obtain⟨b9,xW⟩: ∃b9,b9=(w.alloc (.deferred (some []))).alloc (.loop rec):=⟨_,rfl⟩
 have qz:Below w.heap.size w b9:=by rw[xW];exact((Below.refl _ w).alloc (Nat.le_refl _) _).alloc (by simp) _
 have ac7:b9.heap.size=w.heap.size+2:=by rw[xW];simp
 have HC:b9.heap[w.heap.size+1]? =some (.loop rec):=by rw[xW];have:=World.alloc_heap_new (w.alloc (.deferred (some []))) (.loop rec);rwa[World.size_alloc] at this
 have UM:b9.heap[w.heap.size]? =some (.deferred (some [])):=by rw[xW];exact(Below.heap_alloc _ _ _ (by simp)).trans (World.alloc_heap_new w _)
 obtain⟨l,HD⟩: ∃l,l=w.heap.size+1:=⟨_,rfl⟩
 rw[←HD] at HC
 let kZ:=bO C (jU++ic jb) F w
 have mq:Ext kZ w kZ b9:=fun b ag=>⟨ag,qz.block b ag.1⟩
 let fD:=fun x=>bN.nU ρ g8 kZ b9 l rec c (ic x)
 have hv:=hS s
 rw[HB] at hv
 obtain⟨cs,ev,He⟩:=hv
 obtain⟨UN,UO⟩:=gZ.bW HA cs He
 have nv: ∀t,b8 ρ kZ b9 (look nw t) (a.tmps.getD t undef):=fun t=>by
  rcases GO Hw t with h |h
  ·exact b8.mono mq _ _ (fun _ _=>rfl) (xC h (hS t))
  ·rw[h];trivial
 have kW:=UL l fD (fun f' args res x qy h ha hr=>Uw h ha hr) (fun x vs qy aF=>by
  obtain⟨xM,sq,Bj⟩:=BC x vs qy aF
  show zv P l vs [(c,.obj (bN.nU ρ g8 kZ b9 l rec c (ic x)))] (fun _:Unit=>w8 true) (fun _=>[(c,.obj (bN.nU ρ g8 kZ b9 l rec c (ic qy)))])
  rw[lH]
  exact Uy bh oa (fun p hp=>by have:=List.all_eq_true.1 gq p hp;simpa[Nat.blt_eq] using this) hn Hv Bz gx bP nv stops xM sq Bj)
 refine⟨l,[wZ w.heap.size],b9,{target:=.fn (.func f) cs.toArray,args:= #[.func (.yield l) #[] #[]]},b9,f,#[.func (.yield l) #[] #[]]++cs.toArray,b9,?_,?_,fun _ _=>trivial,UK hf,fun h=>absurd h (by simp),LS ?_⟩
 ·rw[xW,HD,lH];exact run_enterLoop_outer _ _ _ _ _
 ·have UP:a.eval (.tmp s)= .func (.func f) #[] cs.toArray:=ev
  simp only[resolve,UP]
  simp[go_sem]
 have UQ: #[Value.func (.yield l) #[] #[]]++cs.toArray=(Value.func (.yield l) #[] #[]::cs).toArray:=by simp
 rw[UQ]
 have M4: ∀b,(∃d ch,ax (ic jb) d=some ch∧F d b)→b < w.heap.size:=fun b ⟨d,ch,hd,ag⟩=>(aA.own d ch (pX hd).1 b ag).1
 let cH:Nat→Nat→Prop:=fun d=>if d=c then(fun b=>b=l∨ ∃d ch,ax (ic jb) d=some ch∧F d b) else F d
 have kB: ∀{d ch},ax (jU++[(c,bw.obj (fD jb))]) d=some ch→(d=c∧ch= .obj (fD jb))∨(d≠c∧ax jU d=some ch):=fun {d ch} h=>by
  rw[mT] at h
  cases e:ax jU d with
  |some ch'=>
   rw[e] at h
   exact .inr ⟨fun HE=>(by rw[HE,M3] at e;cases e),h⟩
  |none=>
   rw[e] at h
   obtain⟨aj,ak⟩:=uV h
   exact .inl ⟨aj,ak⟩
 have cP:ax (jU++[(c,bw.obj (fD jb))]) c=some (.obj (fD jb)):=by rw[mT,M3];exact oo
 have we:cH c=(fun b=>b=l∨ ∃d ch,ax (ic jb) d=some ch∧F d b):=if_pos rfl
 have tJ: ∀{d},d≠c→cH d=F d:=fun {d} h=>if_neg h
 have ac8:w.heap.size≤l:=by omega
 refine(kW.2 ρ cH kZ b9 _ (fun b ag=>by have:=ag.1;omega) ?_ ?_ ?_ (by simp[UN]) ?_).mono ?_
 ·intro d ch hd
  rcases kB hd with⟨rfl,rfl⟩ |⟨e,hd⟩
  ·rw[we]
   exact⟨Ext.refl _ _,HC,ρ,F,rfl,fun _ _=>rfl,fun d ch hd=>Holds.cy mq (fun b ag=>qz.block b (aA.own d ch (pX hd).1 b ag).1) qz.size ch (fun _ _=>rfl) (aA.holds d ch (pX hd).1),fun d d' ch ch' b aa af=>aA.e8 d d' ch ch' b (pX aa).1 (pX af).1,
    fun d ch hd ag=>by have:=(aA.own d ch (pX hd).1 l ag).1;omega,fun b=>Iff.rfl⟩
  ·rw[tJ e]
   exact Holds.cy mq (fun b ag=>qz.block b (aA.own d ch (rB hd) b ag).1) qz.size ch (fun _ _=>rfl) (aA.holds d ch (rB hd))
 ·intro d ch hd b ag
  rcases kB hd with⟨rfl,rfl⟩ |⟨e,hd⟩
  ·rw[we] at ag
   rcases ag with rfl |⟨d,ch,hd,ag⟩
   ·exact⟨pE HC,fun aD=>by have:=aD.1;omega⟩
   ·have:=(aA.own d ch (pX hd).1 b ag).1
    exact⟨by omega,fun aD=>aD.2.2 d ch (pX hd).1 ag⟩
  ·rw[tJ e] at ag
   have:=(aA.own d ch (rB hd) b ag).1
   exact⟨by omega,fun aD=>aD.2.2 d ch (rB hd) ag⟩
 ·intro d d' ch ch' b hd dO bg ag dw
  have key: ∀{d ch b},ax jU d=some ch→F d b→ ¬(b=l∨ ∃d ch,ax (ic jb) d=some ch∧F d b):=fun {aj aW b1} cz er hx=>by
   rcases hx with hx |⟨d2,qo,eX,gi⟩
   ·have:=(aA.own aj aW (rB cz) _ er).1;omega
   ·exact aA.e8 aj d2 aW qo b1 (rB cz) (pX eX).1 (fun e=>by rw[e,(pX eX).2] at cz;cases cz) er gi
  rcases kB hd with⟨e,_⟩ |⟨e,hd⟩ <;>rcases kB dO with⟨e',_⟩ |⟨e',dO⟩
  ·exact bg (e.trans e'.symm)
  ·rw[e,we] at ag
   rw[tJ e'] at dw
   exact key dO dw ag
  ·rw[tJ e] at ag
   rw[e',we] at dw
   exact key hd ag dw
  ·rw[tJ e] at ag
   rw[tJ e'] at dw
   exact aA.e8 d d' ch ch' b (rB hd) (rB dO) bg ag dw
 ·intro i v x hv hx
  match i with
  |0=>
   simp only[List.getElem?_cons_zero,Option.some.injEq] at hv hx
   subst hv hx
   rfl
  |i+1=>exact b8.mono mq v x (fun _ _=>rfl) (UO i v x (by simpa using hv) (by simpa using hx))
 rintro e ck ⟨x,ρ',F',rfl,cr,dn,I',kX,iI,oW,aV,jQ,-⟩
 have zA:DS ρ g8 kZ b9 l rec c (ic BB) I' (F' c) ck (ρ' c):=oW c _ oo
 obtain⟨aE,aB,ru,G,cC,xQ,cR,fo,zB,gU⟩:=zA
 have qx:=pE aB
 obtain⟨e7,rA⟩: ∃e7,e7=ck.putObj l (.loop {rec with state:=.exhausted}):=⟨_,rfl⟩
 have ep:(Instr.endLoop l).run P ck= .ok none e7:=by
  have aa:=run_endLoop (P:=P) aB (by rw[lH];simp)
  have af:rec.pending=none:=by rw[lH]
  rw[rA,aa,af]
 refine⟨none,e7,ep,?_⟩
 show gP .normal {a with defers:=[wZ w.heap.size]++a.defers} e7
 have sB:e7.heap.size=ck.heap.size:=by rw[rA,World.putObj_size]
 have v8: ∀b,b≠l→e7.heap[b]? =ck.heap[b]? :=fun b ag=>by rw[rA];exact World.putObj_heap_other ag
 have xV:e7.os=ck.os∧e7.tape=ck.tape∧e7.output=ck.output:=by rw[rA];exact⟨rfl,rfl,rfl⟩
 have ac9:=cr.size
 have HF: ∀{b},F' c b→b < ck.heap.size∧ ¬I' b∧(b=l∨(∃d ch,ax (jU++ic jb) d=some ch∧F d b)∨b9.heap.size≤b):=fun {b} ag=>by
  obtain⟨r1,r2,gv⟩:=aV c _ oo b ag
  refine⟨r1,r2,?_⟩
  rcases gv with⟨d,ch,hd,hf⟩ |gv
  ·rcases kB hd with⟨rfl,rfl⟩ |⟨e,hd⟩
   ·rw[we] at hf
    exact hf.imp id fun⟨d,ch,hd,hf⟩=>.inl ⟨d,ch,(pX hd).1,hf⟩
   ·rw[tJ e] at hf
    exact .inr (.inl ⟨d,ch,rB hd,hf⟩)
  ·exact .inr (.inr gv)
 have zC: ¬I' l:=(HF ((gU l).2 (.inl rfl))).2.1
 have M5: ∀{b},((∃d ch,ax (jU++ic jb) d=some ch∧F d b)∨b9.heap.size≤b)→(C.qj b∨C.w0.heap.size≤b∧b∉w.heap.size::C.ds):=fun {b} h=>by
  rcases h with⟨d,ch,hd,hf⟩ |h
  ·obtain⟨r1,r2⟩:=aA.own d ch hd b hf
   exact r2.imp id fun x=>⟨x.1,fun hm=>(List.mem_cons.1 hm).elim (fun e=>by omega) x.2⟩
  ·have:=aA.fresh (b:=b) (by omega)
   exact .inr ⟨this.1,fun hm=>(List.mem_cons.1 hm).elim (fun e=>by omega) this.2⟩
 have UR: ∀{b},(kZ b∨(∃d ch,ax (jU++ic jb) d=some ch∧F d b)∨b9.heap.size≤b)→(C.yJ b∨C.qj b∨C.w0.heap.size≤b∧b∉w.heap.size::C.ds):=fun {b} h=>by
  rcases h with h |h
  ·have aa:=h.1
   exact h.2.1.imp id fun x=>x.imp id fun x=>⟨x.1,fun hm=>(List.mem_cons.1 hm).elim (fun e=>by omega) x.2⟩
  ·exact .inr (M5 h)
 have BD:Ext I' ck (bO (C.at (w.heap.size::C.ds)) (ic BB) G e7) e7:=fun b ag=>by
  have bg:b≠l:=fun e=>zC (e▸ag)
  obtain⟨r1,r2⟩:=iI b ag
  refine⟨⟨by rw[sB];exact r1,UR ?_,fun d ch hd bk=>(HF ((gU b).2 (.inr ⟨d,ch,hd,bk⟩))).2.1 ag⟩,v8 b bg⟩
  rcases r2 with r2 |⟨d,ch,hd,hf⟩ |r2
  ·exact .inl r2
  ·rcases kB hd with⟨rfl,rfl⟩ |⟨e,hd⟩
   ·rw[we] at hf
    rcases hf with hf |⟨d,ch,hd,hf⟩
    ·exact absurd hf bg
    ·exact .inr (.inl ⟨d,ch,(pX hd).1,hf⟩)
   ·rw[tJ e] at hf
    exact .inr (.inl ⟨d,ch,rB hd,hf⟩)
  ·exact .inr (.inr r2)
 refine bp .gp nw (ic BB) (w.heap.size::C.ds) (fun h=>by rw[hid] at h;cases h) uN _ _ ⟨hn,?_,ru,G,⟨?_,?_,?_,fo,?_,?_,aA.marks.2.1,?_⟩,?_⟩
 ·show[wZ w.heap.size]++a.defers=List.map wZ (w.heap.size::C.ds)
  rw[hd];rfl
 ·refine(aA.jo.trans (S':=fun b=>b=l∨ ∃d ch,ax (jU++ic jb) d=some ch∧F d b) ?_ fun b ag h=>?_)
  ·have f1:Fr (fun b=>b=l∨ ∃d ch,ax (jU++ic jb) d=some ch∧F d b) w b9:=Fr.qU qz
   have f4:Fr (fun b=>b=l) ck e7:=⟨xV.1,xV.2.1,xV.2.2,Nat.le_of_eq sB.symm,fun b _ ag=>v8 b ag⟩
   refine(f1.trans cr ?_).trans f4 fun b _ ag=>.inl ag
   rintro b _ ⟨d,ch,hd,hf⟩
   rcases kB hd with⟨rfl,rfl⟩ |⟨e,hd⟩
   ·rw[we] at hf
    exact hf.imp id fun⟨d,ch,hd,hf⟩=>⟨d,ch,(pX hd).1,hf⟩
   ·rw[tJ e] at hf
    exact .inr ⟨d,ch,rB hd,hf⟩
  ·have z0:=aA.jo.size
   rcases h with h |⟨d,ch,hd,hf⟩
   ·omega
   ·rcases(aA.own d ch hd b hf).2 with h |h
    ·exact h
    ·have:=h.1;omega
 ·exact fun d ch hd=>Holds.cy BD (fun b ag=>v8 b (fun e=>zB d ch hd (e▸ag))) (Nat.le_of_eq sB.symm) ch (fun _ _=>rfl) (cR d ch hd)
 ·intro d ch hd b ag
  obtain⟨r1,r2,gv⟩:=HF ((gU b).2 (.inr ⟨d,ch,hd,ag⟩))
  have bg:b≠l:=fun e=>zB d ch hd (e▸ag)
  exact⟨by rw[sB];exact r1,M5 (gv.resolve_left bg)⟩
 ·exact fun d hd=>(xQ d (FH d hd)).trans (aA.keep d hd)
 ·exact List.nodup_cons.2 ⟨fun h=>by have:=(aA.marks.2.2 _ h).1;omega,aA.marks.1⟩
 ·intro D cq
  have HG:D≠l∧D < b9.heap.size∧b9.heap[D]? =some (.deferred (some []))∧C.w0.heap.size≤D:=by
   rcases List.mem_cons.1 cq with rfl |cq
   ·exact⟨by omega,by omega,UM,aA.jo.size⟩
   ·obtain⟨r1,r2,gv⟩:=aA.marks.2.2 D cq
    exact⟨by omega,by omega,(qz.block D r1).trans r2,gv⟩
  obtain⟨s1,s2,uB,s8⟩:=HG
  have zF: ¬ ∃d ch,ax (jU++[(c,bw.obj (fD jb))]) d=some ch∧cH d D:=by
   rintro⟨d,ch,hd,hf⟩
   have dI: ∃d ch,ax (jU++ic jb) d=some ch∧F d D:=by
    rcases kB hd with⟨rfl,rfl⟩ |⟨e,hd⟩
    ·rw[we] at hf
     rcases hf with hf |⟨d,ch,hd,hf⟩
     ·exact absurd hf s1
     ·exact⟨d,ch,(pX hd).1,hf⟩
    ·rw[tJ e] at hf
     exact⟨d,ch,rB hd,hf⟩
   obtain⟨d,ch,hd,hf⟩:=dI
   obtain⟨r1,r2⟩:=aA.own d ch hd D hf
   rcases List.mem_cons.1 cq with rfl |cq
   ·omega
   ·rcases r2 with r2 |r2
    ·have:=aA.marks.2.1 D (.inr r2);omega
    ·exact r2.2 cq
  exact⟨by rw[sB];omega,(v8 D s1).trans ((cr.block D s2 zF).trans uB),s8⟩
 ·intro t
  exact b8.mono (kX.trans BD) _ _ (fun j au=>xQ j (aO.kQ (Hu gx t) au)) (nv t)
end
end Go.Proofs.YteoamepgonpdlaaGreat
namespace Go.Proofs.YteoamepgonpdlaaGreat
open Go.RowKit
open Go.ChangeMaps (setBlock map_eraseIdx)
section
variable {P:Program} {ids:List Nat} {K:aQ} {B:aG}
theorem US {o:Oper} {T gG e':TypeId} {x:Operand} {c:Nat} (az:o.op= .binOp .eql T x (.const (.slice none 0 0)) gG) (hx:aU K x= .c (.one (.own c))) {e:TypeId} {u:U} {xs:List (aI u)} (hc:ax B c=some (.row e u xs)) (cn:P.underlying T=some (.slice e')):
  DP P ids o K B (fun v HH=> ∃b:Bool,(b=true→xs=[])∧v= .c (.one (.d (.lit b)))∧HH=⟨[c],[],[]⟩):=by
 rintro N C a w ⟨hn,hd,ρ,F,aA,hS⟩ bF fl Q hK
 obtain⟨hF,pP,cs,dD,lH⟩:=aA.holds c _ hc
 have aj:a.eval x=(ρ c).hdr:=hS.ev hx
 have ep:(execOp a.eval o).run P w= .ok (.value (.bool (ρ c).A.isNone)) w:=by
  simp only[execOp,az,aj,bq.hdr]
  have ak:a.eval (.const (.slice none 0 0))= .slice none 0 0:=rfl
  have h:=Lib.run_eql_slice_nil (P:=P) w T e' (ρ c).A (ρ c).n (ρ c).cap 0 0 cn
  simp[ak,h,Result.andThen,eqGuard]
 unfold Oper.wp
 rw[ep,Oper.upon_value]
 refine hK (.c (.one (.d (.lit (ρ c).A.isNone)))) ⟨[c],[],[]⟩ _ _ ⟨_,fun ag=>?_,rfl,rfl⟩ ⟨lC.trans hn,put_defers.trans hd,ρ,F,aA,hS.lD (fun e he=>by rw[hn];exact bF e he) rfl⟩
 rcases dD.2 with⟨_,h⟩ |⟨g,cap,cur,h,_⟩
 ·exact List.eq_nil_of_length_eq_zero h
 ·have aa:(ρ c).A=some ⟨g,0,none⟩:=by simp only[bq.hdr] at h;injection h
  rw[aa] at ag
  cases ag
end
end Go.Proofs.YteoamepgonpdlaaGreat
namespace Go.Proofs.YteoamepgonpdlaaGreat
open Go.RowKit
def uW (x:D):bN where
 R:=fun I F w p=>Holds (fun _=>p) I F w p (.cells [.d x])
 cy:=fun I F w I' w' p h he hF aS=>Holds.cy he hF aS (.cells [.d x]) (fun _ _=>rfl) h
theorem UT {c:Nat} {x:D}: ∀I F w p,nA c [(c,.cells [.d x])] I F w p→(uW x).R I F w p:=by
 rintro I F w p ⟨ρ,G,aa,af,ay,bu⟩
 have h:=af c _ (by rw[cD,if_pos rfl])
 rw[aa] at h
 have oR:F=G c:=by
  funext b
  refine propext ((bu b).trans ⟨?_,fun g=>⟨c,_,by rw[cD,if_pos rfl],g⟩⟩)
  rintro⟨d,ch,e,g⟩
  rw[cD] at e
  split at e
  ·rename_i ak
   rw[←ak] at g
   exact g
  ·cases e
 rw[oR]
 exact Holds.cy (Ext.refl _ _) (fun _ _=>rfl) (Nat.le_refl _) (.cells [.d x]) (fun d hd=>by cases hd) h
section
variable {P:Program} {ids:List Nat} {K:aQ} {B:aG}
theorem UU {o:Oper} {T gG e':TypeId} {x:Operand} {u:U} {xs:List (aI u)} (az:o.op= .binOp .eql T x (.const (.slice none 0 0)) gG) (hx:aU K x= .c (.one (.d (.cT u xs)))) (cn:P.underlying T=some (.slice e')):
  DP P ids o K B (fun v HH=> ∃b:Bool,(b=true→xs=[])∧v= .c (.one (.d (.lit b)))∧HH=⟨[],[],[]⟩):=by
 rintro N C a w ⟨hn,hd,ρ,F,aA,hS⟩ bF fl Q hK
 obtain⟨A,cap,aj,af,ay,bu⟩:Den (bO C B F w) w (.cT u xs) (a.eval x):=hS.ev hx
 injection aj with aj
 have ep:(execOp a.eval o).run P w= .ok (.value (.bool A.isNone)) w:=by
  simp only[execOp,az,aj]
  have ak:a.eval (.const (.slice none 0 0))= .slice none 0 0:=rfl
  have h:=Lib.run_eql_slice_nil (P:=P) w T e' A (List.length xs) cap 0 0 cn
  simp[ak,h,Result.andThen,eqGuard]
 unfold Oper.wp
 rw[ep,Oper.upon_value]
 refine hK (.c (.one (.d (.lit A.isNone)))) ⟨[],[],[]⟩ _ _ ⟨_,fun ag=>?_,rfl,rfl⟩ ⟨lC.trans hn,put_defers.trans hd,ρ,F,aA,hS.lD (fun e he=>by rw[hn];exact bF e he) rfl⟩
 rcases Nat.eq_zero_or_pos (List.length xs) with h |h
 ·exact List.eq_nil_of_length_eq_zero h
 ·obtain⟨b,q,hA,_⟩:=bu h
  rw[hA] at ag
  cases ag
theorem gI.box (s c q:Nat) {x:D} {L:List (Nat×bN)} (hs:look K s= .c (.one (.ptr c 0))) (hc:ax B c=some (.cells [.d x])) (bg:c≠q) (bp:ax B q=some (.obj (.cM L))):
  gI ids K B (fun b:Nat=>(s,.c (.one (.d (.aY (some b)))))::K) (fun b=>(q,.obj (.cM ((b,uW x)::L)))::ia ((c,.obj ((uW x).at b))::(c,.obj (uW x))::ia B c) c):=by
 intro N C a w h
 have aa:=ah.close (ids:=ids) (K:=K) (B:=B) c [(c,.cells [.d x])] (o:=uW x) ⟨hc,trivial⟩ (by simp[cQ]) UT N C a w h
 obtain⟨b,af⟩:=gI.name (ids:=ids) s c (o:=uW x) hs (by rw[cD,if_pos rfl]) N C a w aa
 refine⟨b,?_⟩
 have UW:ax ((c,bw.obj ((uW x).at b))::(c,.obj (uW x))::sw (cQ [(c,bw.cells [.d x])]) B) q=some (.obj (.cM L)):=by
  rw[cD,if_neg bg,cD,if_neg bg]
  show ax (ia B c) q=_
  rw[j7,if_neg bg]
  exact bp
 exact ah.put (ids:=ids) q c (o:=uW x) (b:=b) (L:=L) bg UW (by rw[cD,if_pos rfl]) N C a w af
end
theorem av.ro {P:Program} {N:Nat} {ids:List Nat} {K:aQ} {B:aG} {c:Code} {Q:AO} (f:Nat) (c4:N≤1000000) (h:av P N ids c ((1000000+f,.undef)::K) B Q):av P N ids c K B Q:=by
 intro r hr C gP bp a w hs
 refine h r hr C gP bp a w ?_
 obtain⟨hn,hd,ρ,F,aA,hS⟩:=hs
 refine⟨hn,hd,ρ,F,aA,fun s=>?_⟩
 rw[kJ]
 split
 ·rename_i e
  subst e
  show a.tmps.getD (1000000+f) undef=undef
  rw[Array.getD_eq_getD_getElem?,Array.getElem?_eq_none (by omega)]
  rfl
 ·exact hS s
theorem xX {P:Program} {ids:List Nat} {K:aQ} {B:aG} {o:Oper} {f:FuncId} {c:Call} {xs:List Operand} {aR:aG} {res:aO} {bl:aG} (az:o.op= .call c) (aa:c.callee= .value (.func f)) (af:c.args.toList=xs) (hf:Fn P f (xs.map (aU K)) aR [] res bl) (ja:nT B aR) (bB:pH aR [] bl=true) (mW: ∀c,ax bl c=ax aR c) (N:Nat):
  bH P N ids o K B res ⟨cQ aR,[],[]⟩:=by
 obtain⟨v,e,⟨rfl,rfl⟩,aV,_⟩:cv P N ids o K B (fun v e=>v=res∧e=⟨cQ aR,[],jO aR bl⟩):=LK az aa af ⟨aR,[],res,bl,hf,ja,by rw[bB];rfl,by rw[uu];exact⟨rfl,rfl⟩⟩
 intro K' B' g1 g2 bL C a w hs bF fl Q hK
 refine aV K' B' g1 g2 bL C a w hs bF fl Q fun a' w' dM=>hK a' w' (dM.congr (fun _=>rfl) fun d=>?_)
 show ax B' d=ax (fe (jO aR bl) B') d
 rw[Dp aR aR [] bl B' bB,mW]
 cases hd:ax aR d with
 |none=>
  simp only
  rw[if_neg fun aq=>by obtain⟨ch,h⟩:=gu.1 aq;rw[hd] at h;cases h]
 |some ch=>exact(g2 d (gu.2 ⟨ch,hd⟩)).trans (kO ja hd)
theorem av.UX {P:Program} {N:Nat} {ids:List Nat} {K:aQ} {B:aG} {c:Code} {Q:AO} (d:Nat) (c4:N≤1000000) (h:av P N ids c ((1000000+(1000000+d),.undef)::K) B Q):av P N ids c K B Q:=av.ro (1000000+d) c4 h
theorem UY {P:Program} {ids:List Nat} {K:aQ} {B:aG} {o:Oper} {T e d:Nat} {x:Operand} {s:List UInt8} {inf:TypeInfo} (az:o.op= .buildSlice T 1 #[(0,x)]) (cn:P.underlying T=some (.slice e)) (aD:P.info? e=some inf) (aS:inf.zero=some (.string ⟨#[]⟩)) (hs:inf.size=1)
  (hx:aU K x= .c (.one (.d (.str s)))) (N:Nat):bH P N ids o K B (.c (.one (.own d))) ⟨[],[d],[(d,some (.row e .str [s]))]⟩:=by
 have m1:x∈o.op.operands:=by rw[az];simp[Op.operands]
 refine bH.make (fun d h=>y7 h) fun K' B' g1 g2 C ρ F a w aA hS hn=>?_
 have aj:a.eval x= .string ⟨List.toArray s⟩:=hS.ev ((g1 x m1).trans hx)
 refine⟨.slice (some ⟨w.heap.size,0,none⟩) 1 1,w.alloc (.cells (List.toArray [.string ⟨List.toArray s⟩]) e),⟨w.heap.size,some ⟨w.heap.size,0,none⟩,1,1⟩,fun b=>b=w.heap.size,?_,uq w _,fun b ag=>(by subst ag;exact⟨Nat.le_refl _,by simp⟩),fun I he ag=>⟨⟨?_,?_,[.string ⟨List.toArray s⟩],?_,fun i y aF=>?_⟩,?_⟩⟩
 ·have ep:=run_buildSlice (P:=P) w T e 1 (#[(0,x)].map fun p=>(p.1,a.eval p.2)) (List.toArray [.string ⟨List.toArray s⟩]) inf (.string ⟨#[]⟩) cn aD aS (by rw[hs];decide)
   (by rw[hs];decide) (by
    rw[hs]
    have ev:(Value.string ⟨List.toArray s⟩).cells= #[.string ⟨List.toArray s⟩]:=rfl
    simp[aj,Instr.fill,ev]
    rw[show Array.range 1= #[0] from rfl]
    simp)
  unfold execOp
  simp only[az,Sem.run_bind,ep,Result.andThen_ok]
  rfl
 ·intro b
  show b=w.heap.size↔some w.heap.size=some b
  rw[Option.some.injEq]
  exact eq_comm
 ·intro b ag
  have ag:some w.heap.size=some b:=ag
  injection ag with ag
  exact ag.symm
 ·exact AY w e 1 1 [.string ⟨List.toArray s⟩] rfl (by decide)
 ·match i with
  |0=>
   have aF:some s=some y:=aF
   injection aF with aF
   subst aF
   rfl
  |i+1=>
   have aF:(none:Option (List UInt8))=some y:=aF
   cases aF
 ·simp only[b8,fZ,dN,dR]
  rfl
end Go.Proofs.YteoamepgonpdlaaGreat
namespace Go.Proofs.YteoamepgonpdlaaGreat
open Go.RowKit
def DV:bD→Value
 | .d (.int k n)=>.int k n
 | .d (.bool b)=>.bool b
 | .d (.lit b)=>.bool b
 | .d (.str s)=>.string ⟨List.toArray s⟩
 |_=>.nilFunc
def xY:bD→Lit
 | .d (.int k n)=>.int k n
 | .d (.bool b)=>.bool b
 | .d (.lit b)=>.bool b
 | .d (.str s)=>.string s
 |_=>.nil
def HI:bD→Bool
 | .d (.int _ _)=>true
 | .d (.bool _)=>true
 | .d (.lit _)=>true
 | .d (.str _)=>true
 |_=>false
def kD:List bD→List Value
 | []=>[]
 |s::l=>DV s::kD l
def g9:List bD→List Lit
 | []=>[]
 |s::l=>xY s::g9 l
def xZ:List bD→Bool
 | []=>true
 |s::l=>HI s&&xZ l
theorem BE {ρ:Nat→bq} {I:Nat→Prop} {w:World}: ∀{l:List bD} {vs:List Value},xZ l=true→bV ρ I w l vs→vs=kD l
 | [],vs,_,h=>h
 |s::l,vs,hp,⟨v,r,e,aa,af⟩=>by
  simp only[xZ,Bool.and_eq_true] at hp
  have ay:=BE hp.2 af
  subst ay e
  have:v=DV s:=by
   cases s with
   |d x=>cases x <;>first |exact aa |(simp[HI] at hp;done)
   |_=>simp[HI] at hp
  rw[this]
  rfl
section
variable {P:Program} {tt:cY} {ids:List Nat} {K:aQ} {B:aG}
theorem HJ {o:Oper} {T gG:TypeId} {x y:Operand} {lx ly:List bD} {m D:Nat} (az:o.op= .binOp .eql T x y gG) (bk:P.eqGuardType P.depth T=false) (aq:P.keyTypeAt m T=true) (hm:m≤10000)
  (hx:aU K x= .c (.agg lx)) (aF:aU K y= .c (.agg ly)) (gq:(xZ lx&&xZ ly)=true) (HK:(Value.agg (List.toArray (kD lx))).formed P T=true) (HL:(Value.agg (List.toArray (kD ly))).formed P T=true)
  (HM:P.keyLits D T (kD lx)=some (g9 lx)) (HN:P.keyLits D T (kD ly)=some (g9 ly)) {r:Bool} (hr:r=true↔g9 lx=g9 ly) (N:Nat):bH P N ids o K B (.c (.one (.d (.bool r)))) ⟨[],[],[]⟩:=by
 have m1:x∈o.op.operands:=by rw[az];simp[Op.operands]
 have m2:y∈o.op.operands:=by rw[az];simp[Op.operands]
 simp only[Bool.and_eq_true] at gq
 refine bH.val fun K' B' g1 g2 C ρ F a w aA hS=>?_
 obtain⟨vs,aj,aa⟩:=hS.ev ((g1 x m1).trans hx)
 obtain⟨us,ak,af⟩:=hS.ev ((g1 y m2).trans aF)
 have aa:=BE gq.1 aa
 have af:=BE gq.2 af
 subst aa af
 obtain⟨q,bp,q2⟩:=run_equalIn_deep (P:=P) (10000 - m) m T aq w D D (.agg (List.toArray (kD lx))) (.agg (List.toArray (kD ly))) (g9 lx) (g9 ly) HK HL (by simpa[Value.cells] using HM) (by simpa[Value.cells] using HN)
 rw[show 10000 - m+m=10000 by omega] at bp
 have HO:q=r:=by
  cases q <;>cases r
  ·rfl
  ·exact absurd (q2.2 (hr.1 rfl)) (by simp)
  ·exact absurd (hr.2 (q2.1 rfl)) (by simp)
  ·rfl
 subst HO
 refine⟨.bool q,?_,rfl⟩
 simp only[execOp,az,aj,ak,Sem.run_bind,run_eqGuard_agg w .eql T x y _ _ bk,Result.andThen_ok,run_eql_struct,bp,Sem.run_pure]
theorem HP {o:Oper} {T:TypeId} {x:Operand} {f:Nat} {l:List bD} {fs:Array Field} {fd:Field} {d:TypeDesc} {s:bD} (az:o.op= .field T x f) (cn:P.underlying T=some (.struct fs)) (pI:fs[f]? =some fd) (hd:P.underlying fd.type=some d) (iZ:d.isRow=false)
  (hx:aU K x= .c (.agg l)) (hs:l[fd.offset]? =some s) (N:Nat):bH P N ids o K B (.c (.one s)) ⟨[],[],[]⟩:=by
 have m1:x∈o.op.operands:=by rw[az];simp[Op.operands]
 refine bH.val fun K' B' g1 g2 C ρ F a w aA hS=>?_
 obtain⟨vs,aj,aa⟩:=hS.ev ((g1 x m1).trans hx)
 obtain⟨v,hv,eu⟩:=bV.get _ _ aa fd.offset s hs
 refine⟨v,?_,eu⟩
 have HQ:(Go.isAgg fd.type).run P w= .ok false w:=by cases d <;>first |(simp[TypeDesc.isRow] at iZ;done) |simp[Go.isAgg,run_underlying hd]
 have nx:(List.toArray vs)[fd.offset]? =some v:=by simpa using hv
 simp only[execOp,az,aj,Instr.field,Sem.run_bind,run_underlying cn,Result.andThen_ok,pI,asAgg,Sem.run_pure,part,HQ,Bool.false_eq_true,if_false,nx]
theorem HR {n:Nat} {u:U} (g:List (aI u)) (i q:Nat) (bp:q < aM u):e4 (.arr n u) g (i*aM u+q)=e4 u (List.getD g i (dflt u)) q:=by
 show e4 u (List.getD g ((i*aM u+q)/aM u) (dflt u)) ((i*aM u+q) % aM u)=_
 rw[show(i*aM u+q)/aM u=i by rw[Nat.mul_comm,Nat.mul_add_div (by omega),Nat.div_eq_of_lt bp,Nat.add_zero],show(i*aM u+q) % aM u=q by rw[Nat.mul_comm,Nat.mul_add_mod,Nat.mod_eq_of_lt bp]]
theorem UZ {o:Oper} {T:TypeId} {x i:Operand} {n e:Nat} {inf:TypeInfo} {d:TypeDesc} {u:U} {g:List (aI u)} {j:Int} (az:o.op= .index T x i) (cn:P.underlying T=some (.array n e)) (he:P.underlying e=some d) (iZ:d.isRow=true) (aD:P.info? e=some inf) (aS:inf.size=aM u)
  (hx:aU K x= .c (.agg (fH (.arr n u) g 0 (n*aM u)))) (au:aU K i= .c (.one (.d (.int .i64 j)))) (aE:0≤j) (aa:j < n) (N:Nat):bH P N ids o K B (.c (.agg (fH u (List.getD g j.toNat (dflt u)) 0 (aM u)))) ⟨[],[],[]⟩:=by
 have m1:x∈o.op.operands:=by rw[az];simp[Op.operands]
 have m2:i∈o.op.operands:=by rw[az];simp[Op.operands]
 refine bH.val fun K' B' g1 g2 C ρ F a w aA hS=>?_
 obtain⟨vs,aj,hd⟩:=hS.ev ((g1 x m1).trans hx)
 have ak:=hS.int ((g1 i m2).trans au)
 have hlen:vs.length=n*aM u:=(bV.length _ _ hd).trans (rZ (.arr n u) g _ _)
 have HQ:(Go.isAgg e).run P w= .ok true w:=by cases d <;>first |(simp[TypeDesc.isRow] at iZ;done) |simp[Go.isAgg,run_underlying he]
 have dH:(sizeOf e).run P w= .ok (aM u) w:=by simp[sizeOf,typeInfo,aD,aS]
 have hle:j.toNat*aM u+aM u≤n*aM u:=by
  have:=Nat.mul_le_mul_right (aM u) (show j.toNat+1≤n by omega)
  rw[Nat.succ_mul] at this
  exact this
 refine⟨.agg ((List.toArray vs).extract (j.toNat*aM u) (j.toNat*aM u+aM u)),?_,(vs.drop (j.toNat*aM u)).take (aM u),by simp[List.extract],?_⟩
 ·simp[execOp,az,aj,ak,Instr.index,asIntOf,run_underlying cn,aE,aa,dH,part,HQ]
 ·have key: ∀(m iJ:Nat),iJ+m≤aM u→bV ρ (bO C B' F w) w (fH u (List.getD g j.toNat (dflt u)) iJ m) ((vs.drop (j.toNat*aM u+iJ)).take m):=fun m=>by
   induction m with
   |zero=>intro iJ _;simp[fH,bV]
   |succ m aZ=>
    intro iJ hm
    have bF:j.toNat*aM u+iJ < n*aM u:=by omega
    obtain⟨v,hv,tr⟩:=bV.get _ _ hd _ _ (y4 (.arr n u) g (n*aM u) 0 (j.toNat*aM u+iJ) bF)
    have HS:vs.drop (j.toNat*aM u+iJ)=v::vs.drop (j.toNat*aM u+(iJ+1)):=by
     obtain⟨aB,nt⟩:=List.getElem?_eq_some_iff.1 hv
     rw[List.drop_eq_getElem_cons aB,nt,Nat.add_assoc]
    rw[HS,List.take_succ_cons]
    refine⟨v,_,rfl,?_,aZ (iJ+1) (by omega)⟩
    have hc:e4 (.arr n u) g (0+(j.toNat*aM u+iJ))=e4 u (List.getD g j.toNat (dflt u)) iJ:=by
     rw[Nat.zero_add]
     exact HR g _ _ (by omega)
    rw[hc] at tr
    exact tr
  exact key (aM u) 0 (by omega)
theorem ah.U0 (c:Nat) {u:U} {x:aI u} (hw:nO u x) (hc:ax B c=some (.cells (fH u x 0 (aM u)))):ah ids K B K ((c,.val u x)::B):=by
 rintro N C a w ⟨hn,hd,ρ,F,aA,hS⟩
 obtain⟨hF,vs,T,ag,eu⟩:=aA.holds c _ hc
 obtain⟨bR,bz⟩:=aA.jP (w':=w) (ch:=.val u x) hc (Fr.refl _ _) fun I bC=>⟨hF,vs,T,ag,by rw[bV.length _ _ eu,rZ],y5 hw (bV.mono (ρ':=ρ) bC _ _ (fun _ _=>rfl) eu)⟩
 exact⟨hn,hd,ρ,F,bR,hS.mono bz fun _ _ _=>rfl⟩
theorem U1 {o:Oper} {T:TypeId} {x i:Operand} {n e c:Nat} {inf:TypeInfo} {s:Nat} {j:Int} (az:o.op= .indexAddr T x i) (cn:P.underlying T=some (.array n e)) (aD:P.info? e=some inf) (aS:inf.size=s)
  (hx:aU K x= .c (.one (.ptr c 0))) (au:aU K i= .c (.one (.d (.int .i64 j)))) (aE:0≤j) (aa:j < n) (N:Nat):bH P N ids o K B (.c (.one (.fk c s j.toNat 0))) ⟨[],[],[]⟩:=by
 have m1:x∈o.op.operands:=by rw[az];simp[Op.operands]
 have m2:i∈o.op.operands:=by rw[az];simp[Op.operands]
 refine bH.val fun K' B' g1 g2 C ρ F a w aA hS=>?_
 have aj:=hS.ptr ((g1 x m1).trans hx)
 have ak:=hS.int ((g1 i m2).trans au)
 have dH:(sizeOf e).run P w= .ok s w:=by simp[sizeOf,typeInfo,aD,aS]
 refine⟨.pointer (some ⟨(ρ c).bI,j.toNat*s,none⟩),?_,rfl⟩
 simp[execOp,az,aj,ak,Instr.indexAt,asIntOf,run_underlying cn,aE,aa,dH,Instr.sureAddr,qV]
theorem U2 {I:Nat→Prop} {w:World} {n:Nat} {u:U} {g:List (aI u)} {c:Nat→Option Value} (hd:b7 I w (.arr n u) g c) {y:aI u} {j:Nat} {cs:List Value} (aB:cs.length=aM u) (aF:b7 I w u y (fun i=>cs[i]?)) (au:j < n):
  b7 I w (.arr n u) (g.set j y) (fun i=>if j*aM u≤i∧i < j*aM u+aM u then cs[i - j*aM u]? else c i):=by
 obtain⟨aa,af⟩:=hd
 refine⟨by rw[List.length_set];exact aa,fun i z aS=>?_⟩
 unfold eT at aS
 rw[List.getElem?_set] at aS
 split at aS
 ·rename_i e
  subst e
  split at aS
  ·injection aS with aS
   subst aS
   refine b7.mono (Ext.refl _ _) u y _ _ (fun q v hv=>?_) aF
   have bp:q < aM u:=by rw[←aB];exact(List.getElem?_eq_some_iff.1 hv).1
   simp only
   rw[if_pos ⟨by omega,by omega⟩,show j*aM u+q - j*aM u=q by omega]
   exact hv
  ·cases aS
 ·rename_i bg
  have BF:=af i z aS
  rcases Nat.eq_zero_or_pos (aM u) with aE |aE
  ·refine b7.mono (Ext.refl _ _) u z _ _ (fun q v hv=>?_) BF
   simp only
   rw[if_neg (by omega)]
   exact hv
  ·refine b7.mk u z _ (b7.wf u z _ BF) fun q bp=>?_
   obtain⟨v,hv,tr⟩:=b7.cell u z _ q BF bp
   refine⟨v,?_,tr⟩
   simp only
   rw[if_neg ?_]
   ·exact hv
   ·rintro⟨cj,cu⟩
    rcases Nat.lt_or_gt_of_ne bg with bF |uC
    ·have:=Nat.mul_le_mul_right (aM u) (show j+1≤i by omega)
     rw[Nat.succ_mul] at this
     omega
    ·have:=Nat.mul_le_mul_right (aM u) (show i+1≤j by omega)
     rw[Nat.succ_mul] at this
     omega
theorem U3 {o:Oper} {T:TypeId} {x v:Operand} {c n j:Nat} {u:U} {g:List (aI u)} {y:aI u} {inf:TypeInfo} (az:o.op= .store T x v) (aD:P.info? T=some inf) (aS:inf.size=aM u) (hx:aU K x= .c (.one (.fk c (aM u) j 0))) (au:j < n)
  (hc:ax B c=some (.val (.arr n u) g)) (hv:aU K v= .c (.agg (fH u y 0 (aM u)))) (hw:nO u y) (N:Nat):bH P N ids o K B .undef ⟨[c],[],[(c,some (.val (.arr n u) (g.set j y)))]⟩:=by
 have m1:x∈o.op.operands:=by rw[az];simp[Op.operands]
 have m2:v∈o.op.operands:=by rw[az];simp[Op.operands]
 refine bH.jP hc fun K' B' g1 C ρ F a w aA hS gj=>?_
 obtain⟨hF,vs,eN,ag,hlen,eu⟩:=aA.holds c _ gj
 have aj:=hS.fk ((g1 x m1).trans hx)
 obtain⟨us,ak,af⟩:=hS.ev ((g1 v m2).trans hv)
 have uX:us.length=aM u:=by rw[bV.length _ _ af,rZ]
 have BG:=y5 hw af
 have nX:j*aM u+us.length≤vs.length:=by
  have:=Nat.mul_le_mul_right (aM u) (show j+1≤n by omega)
  rw[Nat.succ_mul] at this
  rw[hlen,uX]
  exact this
 have rY: ∀z,z∈us→z.oneCell'=true:=fun z aS=>by
  obtain⟨q,bp,rfl⟩:=List.getElem_of_mem aS
  obtain⟨z',mm,qZ⟩:=b7.one u y _ BG q (by omega)
  rw[List.getElem?_eq_getElem bp] at mm
  injection mm with mm
  rw[mm]
  exact qZ
 have ep:=y3 (P:=P) (o:=o) (ev:=a.eval) (w:=w) (us:=us) az (by rw[aj,Nat.add_zero]) (by rw[ak];rfl) aD (aS.trans uX.symm) ag nX rY
 have iY:(w.setRow (ρ c).bI (List.toArray (vs.take (j*aM u)++us++vs.drop (j*aM u+us.length)))).heap[(ρ c).bI]? =some (.cells (List.toArray (vs.take (j*aM u)++us++vs.drop (j*aM u+us.length))) eN (0,0)):=setRow_heap w _ _ _ eN _ ag
 refine⟨_,ep,⟨rfl,rfl,rfl,by simp[World.setRow],fun k _ aq=>setRow_other w _ k _ (fun e=>aq ((hF k).2 e))⟩,fun I bz=>⟨hF,_,eN,iY,?_,?_⟩⟩
 ·rw[List.length_append,List.length_append,List.length_take,List.length_drop]
  omega
 ·refine b7.mk (.arr n u) (g.set j y) _ ?_ ?_
  ·have M6:=b7.wf (.arr n u) g _ eu
   refine⟨by rw[List.length_set];exact M6.1,fun z aS=>?_⟩
   rcases List.mem_or_eq_of_mem_set aS with aS |rfl
   ·exact M6.2 z aS
   ·exact hw
  ·intro q bp
   have kz:=U2 eu (y:=y) (j:=j) uX BG au
   obtain⟨z,aS,yL⟩:=b7.cell (.arr n u) _ _ q kz bp
   refine⟨z,?_,Den.mono bz _ _ yL⟩
   rw[←aS]
   have M7:q < vs.length:=by rw[hlen];exact bp
   split
   ·rename_i dz
    rw[List.append_assoc,List.getElem?_append_right (by rw[List.length_take];omega),List.length_take,List.getElem?_append_left (by omega)]
    congr 1
    omega
   ·rename_i oc
    rcases Nat.lt_or_ge q (j*aM u) with bF |qi
    ·rw[List.append_assoc,List.getElem?_append_left (by rw[List.length_take];omega),List.getElem?_take,if_pos bF]
    ·have:j*aM u+aM u≤q:=by
      rcases Nat.lt_or_ge q (j*aM u+aM u) with h |h
      ·exact absurd ⟨qi,h⟩ oc
      ·exact h
     rw[List.getElem?_append_right (by rw[List.length_append,List.length_take];omega),List.length_append,List.length_take,List.getElem?_drop]
     congr 1
     omega
theorem M8 {o:Oper} {T:TypeId} {x:Operand} {c:Nat} {u:U} {y:aI u} {inf:TypeInfo} {d:TypeDesc} (az:o.op= .load T x) (cn:P.underlying T=some d) (iZ:d.isRow=true) (aD:P.info? T=some inf) (aS:inf.size=aM u) (hx:aU K x= .c (.one (.ptr c 0)))
  (hc:ax B c=some (.val u y)) (N:Nat):bH P N ids o K B (.c (.agg (fH u y 0 (aM u)))) ⟨[c],[],[]⟩:=by
 have m1:x∈o.op.operands:=by rw[az];simp[Op.operands]
 refine bH.val fun K' B' g1 g2 C ρ F a w aA hS=>?_
 obtain⟨hF,vs,eN,ag,hlen,eu⟩:=aA.holds c _ ((g2 c (by simp)).trans hc)
 have aj:=hS.ptr ((g1 x m1).trans hx)
 obtain⟨us,aa,af⟩:=Dd (ρ:=ρ) eu (aM u) 0 (by omega)
 refine⟨_,Gt (cs:=us) az aj cn iZ aD (by rw[bV.length _ _ aa,rZ];exact aS) (fun j v au=>?_),us,rfl,aa⟩
 have:=af j v au
 exact cell_of ag this
theorem U4 {tt:cY} (bh:dQ P tt) {o:Oper} {T n e:Nat} {ti:cB} (az:o.op= .build T #[]) (cc:tt.find T=some ti) (cn:P.underlying T=some (.array n e)) {M9:TypeInfo} (U5:P.info? e=some M9) (iZ:ti.row=true) (N:Nat):bH P N ids o K B (.c (.agg ti.zero)) ⟨[],[],[]⟩:=by
 refine bH.val fun K' B' g1 g2 C ρ F a w aA hS=>?_
 obtain⟨i,d,bB⟩:=bh.at_ cc
 obtain⟨z,aS,pJ⟩:=bB.zero
 obtain⟨fB,n4⟩:=vP (ρ:=ρ) (I:=bO C B' F w) (w:=w) _ _ pJ
 refine⟨.agg z.cells,?_,z.cells.toList,by simp,fB⟩
 simp[execOp,az,Instr.build,zeroValue,typeInfo,bB.info,aS,run_underlying cn,sizeOf,U5,Instr.fill]
theorem U6 {o:Oper} {T e d:Nat} {x y:Operand} {inf:TypeInfo} {n:Int} (az:o.op= .makeSlice T x y) (cn:P.underlying T=some (.slice e)) (aD:P.info? e=some inf) (aS:inf.zero=some (.int .i64 0)) (hs:inf.size=1) (ag:inf.bytes=8)
  (hx:aU K x= .c (.one (.d (.int .i64 n)))) (aF:aU K y= .c (.one (.d (.int .i64 n)))) (aE:0≤n) (aa:n≤1000000) (N:Nat):bH P N ids o K B (.c (.one (.own d))) ⟨[],[d],[(d,some (.row e (.int .i64) (List.replicate n.toNat (0:Int))))]⟩:=by
 have m1:x∈o.op.operands:=by rw[az];simp[Op.operands]
 have m2:y∈o.op.operands:=by rw[az];simp[Op.operands]
 refine bH.make (fun d h=>y7 h) fun K' B' g1 g2 C ρ F a w aA hS hn=>?_
 have eF:=hS.int ((g1 x m1).trans hx)
 have eP:=hS.int ((g1 y m2).trans aF)
 have ep:=run_make (P:=P) w T e inf _ cn aD aS .i64 .i64 n n aE (Int.le_refl _) (by rw[ag];omega) (by omega)
 have wW:madeCells (Value.int .i64 0).cells (n.toNat*inf.size)=(List.replicate n.toNat (Value.int .i64 0)).toArray:=by
  rw[hs]
  simp[madeCells,Value.cells]
  apply Array.ext
  ·simp
  ·intro i aa af
   simp[Nat.mod_one]
 rw[wW] at ep
 refine⟨.slice (some ⟨w.heap.size,0,none⟩) n.toNat n.toNat,w.alloc (.cells (List.replicate n.toNat (.int .i64 0)).toArray e),⟨w.heap.size,some ⟨w.heap.size,0,none⟩,n.toNat,n.toNat⟩,fun b=>b=w.heap.size,?_,uq w _,fun b ag=>?_,fun I bz bC=>⟨⟨?_,?_,List.replicate n.toNat (.int .i64 0),?_,?_⟩,?_⟩⟩
 ·simp only[execOp,az,Sem.run_bind,eF,eP,ep,Result.andThen_ok,Sem.run_pure]
 ·subst ag;simp
 ·intro b
  simp[bq.hdr,Value.ownBlock,eq_comm]
 ·intro b ag
  simp[bq.hdr,Value.ownBlock] at ag
  exact ag.symm
 ·have:=AY w e 1 n.toNat (List.replicate n.toNat (.int .i64 0)) (by simp) (by simp only[maxLen];omega)
  have aj:List.length (α:=aI (.int .i64)) (List.replicate n.toNat (0:Int))=n.toNat:=List.length_replicate
  rw[aj]
  exact this
 ·intro i z aS
  obtain⟨aD,mm⟩:=List.getElem?_eq_some_iff.1 aS
  have q8:z=(0:Int):=by rw[←mm];exact List.getElem_replicate ..
  subst q8
  have aD:i < n.toNat:=by
   have aa:i < List.length (α:=Int) (List.replicate n.toNat (0:Int)):=aD
   rw[List.length_replicate] at aa
   exact aa
  show(List.replicate n.toNat (Value.int .i64 0))[i*1+0]? =some (.int .i64 0)
  simp[aD]
 ·simp only[b8,fZ,dN,dR]
  rfl
theorem Na (w:World) {T:TypeId} {ps rs:Array TypeId} {va:Bool} (cn:P.underlying T=some (.func ps rs va)) (f:Go.Fn) (a b:Array Value):(binOp .eql T (.func f a b) .nilFunc).run P w= .ok (.bool false) w∧(binOp .neq T (.func f a b) .nilFunc).run P w= .ok (.bool true) w:=by
 have aE: ∀d,(Op.equalIn (d+1) T (.func f a b) .nilFunc).run P w= .ok false w:=fun d=>by simp[Op.equalIn,run_underlying cn]
 have h:(Op.equalIn 10000 T (.func f a b) .nilFunc).run P w= .ok false w:=aE 9999
 constructor
 ·simp only[binOp]
  simp[Op.equal,Op.maxDepth,h]
 ·simp only[binOp]
  simp[Op.equal,Op.maxDepth,h]
theorem U7 {o:Oper} {T gG:TypeId} {x:Operand} {op:BinOp} {y:Nat×List Nat} {b:Bool} {ps rs:Array TypeId} {va:Bool} (mR:(op= .eql∧b=false)∨(op= .neq∧b=true)) (az:o.op= .binOp op T x (.const .nilFunc) gG) (cn:P.underlying T=some (.func ps rs va))
  (hx:aU K x= .c (.one (.d (.fn y)))) (N:Nat):bH P N ids o K B (.c (.one (.d (.lit b)))) ⟨[],[],[]⟩:=by
 have m1:x∈o.op.operands:=by rw[az];simp[Op.operands]
 refine bH.val fun K' B' g1 g2 C ρ F a w aA hS=>?_
 have aj:a.eval x=mJ y:=hS.ev ((g1 x m1).trans hx)
 refine⟨.bool b,?_,rfl⟩
 have ak:a.eval (.const .nilFunc)= .nilFunc:=rfl
 rcases mR with⟨rfl,rfl⟩ |⟨rfl,rfl⟩
 ·have h:=(Na (P:=P) w cn (.func y.1) #[] (List.toArray (qX y.2))).1
  simp[execOp,az,aj,ak,eqGuard,mJ,h]
 ·have h:=(Na (P:=P) w cn (.func y.1) #[] (List.toArray (qX y.2))).2
  simp[execOp,az,aj,ak,eqGuard,mJ,h]
theorem Nb (w:World) {T:TypeId} {ps rs:Array TypeId} {va:Bool} (cn:P.underlying T=some (.func ps rs va)):(binOp .eql T .nilFunc .nilFunc).run P w= .ok (.bool true) w∧(binOp .neq T .nilFunc .nilFunc).run P w= .ok (.bool false) w:=by
 have aE: ∀d,(Op.equalIn (d+1) T .nilFunc .nilFunc).run P w= .ok true w:=fun d=>by simp[Op.equalIn,run_underlying cn]
 have h:(Op.equalIn 10000 T .nilFunc .nilFunc).run P w= .ok true w:=aE 9999
 constructor
 ·simp only[binOp]
  simp[Op.equal,Op.maxDepth,h]
 ·simp only[binOp]
  simp[Op.equal,Op.maxDepth,h]
theorem U8 {o:Oper} {T gG:TypeId} {x:Operand} {op:BinOp} {b:Bool} {ps rs:Array TypeId} {va:Bool} (mR:(op= .eql∧b=true)∨(op= .neq∧b=false)) (az:o.op= .binOp op T x (.const .nilFunc) gG) (cn:P.underlying T=some (.func ps rs va))
  (hx:aU K x= .c (.one (.raw .nilFunc))) (N:Nat):bH P N ids o K B (.c (.one (.d (.lit b)))) ⟨[],[],[]⟩:=by
 have m1:x∈o.op.operands:=by rw[az];simp[Op.operands]
 refine bH.val fun K' B' g1 g2 C ρ F a w aA hS=>?_
 have aj:=hS.raw ((g1 x m1).trans hx)
 refine⟨.bool b,?_,rfl⟩
 have ak:a.eval (.const .nilFunc)= .nilFunc:=rfl
 rcases mR with⟨rfl,rfl⟩ |⟨rfl,rfl⟩
 ·have h:=(Nb (P:=P) w cn).1
  simp[execOp,az,aj,ak,eqGuard,h]
 ·have h:=(Nb (P:=P) w cn).2
  simp[execOp,az,aj,ak,eqGuard,h]
end
end Go.Proofs.YteoamepgonpdlaaGreat
