/-
Part 8 of the proof that stands in YteoamepgonpdlaaGreatPbRow, with what it needs from the parts ahead; the parts of this text: Grp, Cd, Gx, Rf, Rg, Ad, Ar.
-/
import Derived.Maps.RangeRun
import Derived.DeepKeys
import Derived.Laws.MakeOwn
import Derived.Laws.StructEq
import Derived.Test.YteoamepgonpdlaaGreatPb7
namespace Go.Proofs.YteoamepgonpdlaaGreat
set_option linter.unusedVariables false
set_option linter.unusedSimpArgs false
open Go.RowKit
def mX (c:Nat) (bR:aG) (I F:Nat→Prop) (w:World) (p:bn):Prop:=
 ∃(ρ:Nat→bn) (G:Nat→Nat→Prop),ρ c=p∧(∀d ch,ax bR d=some ch→Holds ρ I (G d) w (ρ d) ch)∧
  (∀d d' ch bg b,ax bR d=some ch→ax bR d'=some bg→d≠d'→G d b→ ¬G d' b)∧ ∀b,F b↔ ∃d ch,ax bR d=some ch∧G d b
def bK.ud (c:Nat) (bR:aG):bK where
 R:=mX c bR
 cA:=fun I F w I' w' p ⟨ρ,G,aa,af,aA,bE⟩ he hF aS=>⟨ρ,G,aa,fun d ch hd=>Holds.cA he (fun b ag=>hF b ((bE b).2 ⟨d,ch,hd,ag⟩)) aS ch (fun _ _=>rfl) (af d ch hd),aA,bE⟩
def bK.at (o:bK) (b:Nat):bK where
 R:=fun I F w p=>p.bO=b∧o.R I F w p
 cA:=fun I F w I' w' p h he hF aS=>⟨h.1,o.cA I F w I' w' p h.2 he hF aS⟩
def bK.le (o o':bK):Prop:= ∀I F w p,o.R I F w p→o'.R I F w p
def fN (I:Nat→Prop) (w:World):List (Nat×bK)→(Nat→Prop)→Prop
 | [],F=> ∀b,¬F b
 |(a,o)::L,F=> ∃(cG cY:Nat→Prop) (p:bn),(∀b,F b↔cG b∨cY b)∧(∀b,cG b→ ¬cY b)∧p.bO=a∧o.R I cG w p∧fN I w L cY
theorem fN.cA {I I':Nat→Prop} {w w':World} (he:Ext I w I' w') (aS:w.heap.size≤w'.heap.size): ∀{L:List (Nat×bK)} {F:Nat→Prop},(∀b,F b→w'.heap[b]? =w.heap[b]?)→fN I w L F→fN I' w' L F
 | [],_,_,h=>h
 |(a,o)::L,F,hF,⟨cG,cY,p,aa,af,aA,bE,ec⟩=>⟨cG,cY,p,aa,af,aA,o.cA _ _ _ _ _ _ bE he (fun b ag=>hF b ((aa b).2 (.inl ag))) aS,ec.cA he aS (fun b ag=>hF b ((aa b).2 (.inr ag)))⟩
def bK.cO (L:List (Nat×bK)):bK where
 R:=fun I F w _=>fN I w L F
 cA:=fun I F w I' w' p h he hF aS=>h.cA he aS hF
def jd:List (Nat×bK)→Nat→Option bK
 | [],_=>none
 |(a,o)::L,b=>if a=b then some o else jd L b
def iP:List (Nat×bK)→Nat→bK→List (Nat×bK)
 | [],_,_=>[]
 |(a,o)::L,b,o'=>if a=b then(a,o')::L else(a,o)::iP L b o'
theorem fN.out {I:Nat→Prop} {w:World} {b:Nat} {o:bK}: ∀{L:List (Nat×bK)} {F:Nat→Prop},jd L b=some o→fN I w L F→ ∃(cG cY:Nat→Prop) (p:bn),(∀x,F x↔cG x∨cY x)∧(∀x,cG x→ ¬cY x)∧p.bO=b∧o.R I cG w p∧
  ∀(I':Nat→Prop) (w':World) (o':bK) (ve:Nat→Prop) (jW:bn),Ext I w I' w'→w.heap.size≤w'.heap.size→(∀x,cY x→w'.heap[x]? =w.heap[x]?)→jW.bO=b→o'.R I' ve w' jW→(∀x,ve x→ ¬cY x)→fN I' w' (iP L b o') (fun x=>ve x∨cY x)
 | [],F,h,_=>by cases h
 |(a,q)::L,F,h,⟨qD,sK,p,aa,af,aA,bE,ec⟩=>by
  unfold jd at h
  split at h
  ·rename_i e
   injection h with h
   subst h
   refine⟨qD,sK,p,aa,af,aA.trans e,bE,fun I' w' o' ve jW he aS hf hp av hd=>?_⟩
   unfold iP
   rw[if_pos e]
   exact⟨ve,sK,jW,fun x=>Iff.rfl,hd,hp.trans e.symm,av,ec.cA he aS hf⟩
  ·rename_i e
   obtain⟨cG,cY,dO,g1,g2,bL,gU,xb⟩:=fN.out h ec
   refine⟨cG,fun x=>qD x∨cY x,dO,fun x=>?_,fun x hx=>?_,bL,gU,fun I' w' o' ve jW he aS hf hp av hd=>?_⟩
   ·rw[aa,g1]
    constructor
    ·rintro(h |h |h)
     ·exact .inr (.inl h)
     ·exact .inl h
     ·exact .inr (.inr h)
    ·rintro(h |h |h)
     ·exact .inr (.inl h)
     ·exact .inl h
     ·exact .inr (.inr h)
   ·rintro(h |h)
    ·exact af x h ((g1 x).2 (.inl hx))
    ·exact g2 x hx h
   ·unfold iP
    rw[if_neg e]
    refine⟨qD,fun x=>ve x∨cY x,p,fun x=>?_,fun x hx=>?_,aA,q.cA _ _ _ _ _ _ bE he (fun x hx=>hf x (.inl hx)) aS,xb I' w' o' ve jW he aS (fun x hx=>hf x (.inr hx)) hp av (fun x hx h=>hd x hx (.inr h))⟩
    ·constructor
     ·rintro(h |h |h)
      ·exact .inr (.inl h)
      ·exact .inl h
      ·exact .inr (.inr h)
     ·rintro(h |h |h)
      ·exact .inr (.inl h)
      ·exact .inl h
      ·exact .inr (.inr h)
    ·rintro(h |h)
     ·exact hd x h (.inl hx)
     ·exact af x hx ((g1 x).2 (.inr h))
theorem fN.add {I:Nat→Prop} {w:World} {L:List (Nat×bK)} {F cG:Nat→Prop} {o:bK} {p:bn} (h:fN I w L F) (av:o.R I cG w p) (hd: ∀x,cG x→ ¬F x):fN I w ((p.bO,o)::L) (fun x=>cG x∨F x):=
 ⟨cG,F,p,fun _=>Iff.rfl,hd,rfl,av,h⟩
theorem hM.fn {P:Program} {f:FuncId} {args:List aN} {aP:aG} {bu:List Nat} {res:aN} {aZ:aG} (h:hM P f args aP bu (fun _:Unit=>res) (fun _=>aZ)):Fn P f args aP bu res aZ:=
 ⟨h.1,fun ρ F I w b6 ct cB a3 a4 a5 gT=>(h.2 ρ F I w b6 ct cB a3 a4 a5 gT).mono fun e w' ⟨_,q⟩=>q⟩
theorem hM.cO {P:Program} {f:FuncId} {c q b:Nat} {args:List aN} {aP:aG} {bu:List Nat} {X:Type} {res:X→aN} {aZ:X→aG} {o:bK} {o':X→bK} {L:List (Nat×bK)}
  (h:hM P f (.c (.one (.ptr c 0))::args) ((c,.obj o)::aP) bu res (fun g=>(c,.obj (o' g))::aZ g)) (cL:jd L b=some o)
  (aa:(args.all fun v=> !v.has c)=true) (af:mS c aP=true∧(ax aP q).isNone=true) (aA:(bu.contains c||bu.contains q)=false) (bE: ∀g,(mS c (aZ g)&&(ax (aZ g) q).isNone&& !(res g).has c)=true):
  hM P f (.c (.one (.d (.aW (some b))))::args) ((q,.obj (.cO L))::aP) bu res (fun g=>(q,.obj (.cO (iP L b (o' g))))::aZ g):=by
 obtain⟨iH,h⟩:=h
 refine⟨iH,fun ρ F I w b6 bC eo hF fZ hlen ep=>?_⟩
 have bh:ax ((q,bF.obj (.cO L))::aP) q=some (.obj (.cO L)):=by rw[cC,if_pos rfl]
 have aX:fN I w L (F q):=eo q _ bh
 obtain⟨cG,cY,p,cE,ey,fo,fY,yV⟩:=aX.out cL
 obtain⟨Tl,Tm⟩:=CG af.1
 have rF:ax aP q=none:=by simpa using af.2
 have eN: ∀{d ch},ax aP d=some ch→d≠q∧d≠c∧ax ((q,bF.obj (.cO L))::aP) d=some ch:=fun {d ch} hd=>by
  have ai:d≠q:=fun e=>by rw[e,rF] at hd;cases hd
  exact⟨ai,fun e=>(by rw[e,Tl] at hd;cases hd),by rw[cC,if_neg (Ne.symm ai)];exact hd⟩
 have Tn: ∀(v:aN),v.has c=false→ ∀d,v.has d=true→dx ρ c p d=ρ d:=fun v hv d hd=>dL _ _ (fun e=>by rw[e,hv] at hd;cases hd)
 match b6,hlen with
 |v0::b6,hlen=>
  have Gx:v0= .pointer (some ⟨b,0,none⟩):=ep 0 _ v0 rfl rfl
  have ke: ∀{d ch},ax ((c,bF.obj o)::aP) d=some ch→(d=c∧ch= .obj o)∨(d≠c∧ax aP d=some ch):=fun {d ch} hd=>by
   rw[cC] at hd
   split at hd
   ·rename_i e;injection hd with hd;exact .inl ⟨e.symm,hd.symm⟩
   ·rename_i e;exact .inr ⟨Ne.symm e,hd⟩
  refine(h (dx ρ c p) (dx F c cG) I w (v0::b6) bC ?_ ?_ ?_ (by simpa using hlen) ?_).mono ?_
  ·intro d ch hd
   rcases ke hd with⟨rfl,rfl⟩ |⟨e,hd⟩
   ·rw[dN,dN];exact fY
   ·rw[dL _ _ e,dL _ _ e]
    exact Holds.cA (Ext.refl _ _) (fun _ _=>rfl) (Nat.le_refl _) ch (fun j ak=>dL _ _ (fun e'=>by rw[e',Tm d ch hd] at ak;cases ak)) (eo d ch (eN hd).2.2)
  ·intro d ch hd x hx
   rcases ke hd with⟨rfl,rfl⟩ |⟨e,hd⟩
   ·rw[dN] at hx
    exact hF q _ bh x ((cE x).2 (.inl hx))
   ·rw[dL _ _ e] at hx
    exact hF d ch (eN hd).2.2 x hx
  ·intro d d' ch bg x hd dQ bf hx eB
   rcases ke hd with⟨tP,_⟩ |⟨e,Gy⟩
   ·rcases ke dQ with⟨Gz,_⟩ |⟨e',Dm⟩
    ·exact bf (tP.trans Gz.symm)
    ·rw[tP,dN] at hx
     rw[dL _ _ e'] at eB
     exact fZ q d' _ bg x bh (eN Dm).2.2 (Ne.symm (eN Dm).1) ((cE x).2 (.inl hx)) eB
   ·rw[dL _ _ e] at hx
    rcases ke dQ with⟨Gz,_⟩ |⟨e',Dm⟩
    ·rw[Gz,dN] at eB
     exact fZ q d _ ch x bh (eN Gy).2.2 (Ne.symm (eN Gy).1) ((cE x).2 (.inl eB)) hx
    ·rw[dL _ _ e'] at eB
     exact fZ d d' ch bg x (eN Gy).2.2 (eN Dm).2.2 bf hx eB
  ·intro i v x hv hx
   match i with
   |0=>
    simp only[List.getElem?_cons_zero,Option.some.injEq] at hv hx
    subst hv hx
    show v0=_
    rw[dN,fo]
    exact Gx
   |i+1=>
    have mT:args[i]? =some v:=by simpa using hv
    have:=List.all_eq_true.1 aa v (List.mem_of_getElem? mT)
    exact cj.mono (Ext.refl _ _) v x (Tn v (by simpa using this)) (ep (i+1) v x (by simpa using hv) hx)
  ·rintro e w' ⟨g,x,ρ',F',rfl,cv,di,I',kG,iu,ow,aT,jA,xd⟩
   have bl:=bE g
   simp only[Bool.and_eq_true,Bool.not_eq_true'] at bl
   obtain⟨⟨g1,g2⟩,bL⟩:=bl
   obtain⟨bw,bX⟩:=CG g1
   have AS:ax (aZ g) q=none:=by simpa using g2
   simp only[Bool.or_eq_false_iff] at aA
   have mU:c∉bu:=fun bM=>by have:=List.contains_iff_mem.2 bM;rw[aA.1] at this;cases this
   have abe:q∉bu:=fun bM=>by have:=List.contains_iff_mem.2 bM;rw[aA.2] at this;cases this
   have lI:ax ((c,bF.obj (o' g))::aZ g) c=some (.obj (o' g)):=by rw[cC,if_pos rfl]
   have rG: ∀{d ch},ax (aZ g) d=some ch→d≠c∧d≠q∧ax ((c,bF.obj (o' g))::aZ g) d=some ch:=fun {d ch} hd=>by
    have ai:d≠c:=fun e=>by rw[e,bw] at hd;cases hd
    exact⟨ai,fun e=>(by rw[e,AS] at hd;cases hd),by rw[cC,if_neg (Ne.symm ai)];exact hd⟩
   have ue: ∀y,(∃d ch,ax ((c,bF.obj o)::aP) d=some ch∧dx F c cG d y)→ ∃d ch,ax ((q,bF.obj (.cO L))::aP) d=some ch∧F d y:=by
    rintro y ⟨d,ch,hd,aF⟩
    rcases ke hd with⟨rfl,rfl⟩ |⟨e,hd⟩
    ·rw[dN] at aF
     exact⟨q,_,bh,(cE y).2 (.inl aF)⟩
    ·rw[dL _ _ e] at aF
     exact⟨d,ch,(eN hd).2.2,aF⟩
   have kV: ∀y,cY y→ ¬ ∃d ch,ax ((c,bF.obj o)::aP) d=some ch∧dx F c cG d y:=by
    rintro y aF ⟨d,ch,hd,eL⟩
    rcases ke hd with⟨rfl,rfl⟩ |⟨e,hd⟩
    ·rw[dN] at eL
     exact ey y eL aF
    ·rw[dL _ _ e] at eL
     exact fZ q d _ ch y bh (eN hd).2.2 (Ne.symm (eN hd).1) ((cE y).2 (.inr aF)) eL
   have rH: ∀y,cY y→y < w.heap.size∧ ¬I y:=fun y aF=>hF q _ bh y ((cE y).2 (.inr aF))
   have hold: ∀y,cY y→w'.heap[y]? =w.heap[y]? :=fun y aF=>cv.block y (rH y aF).1 (kV y aF)
   have sL: ∀d ch y,ax ((c,bF.obj (o' g))::aZ g) d=some ch→F' d y→ ¬cY y:=fun d ch y hd aF AT=>by
    rcases(aT d ch hd y aF).2.2 with h |h
    ·exact kV y AT h
    ·have:=(rH y AT).1;omega
   have To:ρ' c=p:=by rw[di c mU,dN]
   have j7:=yV I' w' (o' g) (F' c) (ρ' c) kG cv.size hold (by rw[To];exact fo) (ow c _ lI) (fun y aF=>sL c _ y lI aF)
   refine⟨g,x,dx ρ' c (ρ c),fun d=>if d=q then(fun y=>F' c y∨cY y) else F' d,rfl,cv.mono fun y _ aF=>ue y aF,fun d hd=>?_,I',kG,fun y aF=>⟨(iu y aF).1,?_⟩,?_,?_,?_,?_⟩
   ·by_cases e:d=c
    ·subst e;rw[dN]
    ·rw[dL _ _ e,di d hd,dL _ _ e]
   ·rcases(iu y aF).2 with h |h |h
    ·exact .inl h
    ·exact .inr (.inl (ue y h))
    ·exact .inr (.inr h)
   ·intro d ch hd
    rw[cC] at hd
    split at hd
    ·rename_i e
     injection hd with hd
     subst hd e
     simp only[if_true]
     exact j7
    ·rename_i e
     obtain⟨ai,aq,bk⟩:=rG hd
     simp only[if_neg aq]
     rw[dL _ _ ai]
     exact Holds.cA (Ext.refl _ _) (fun _ _=>rfl) (Nat.le_refl _) ch (fun j ak=>dL _ _ (fun e'=>by rw[e',bX d ch hd] at ak;cases ak)) (ow d ch bk)
   ·intro d ch hd y aF
    rw[cC] at hd
    split at hd
    ·rename_i e
     subst e
     simp only[if_true] at aF
     rcases aF with aF |aF
     ·obtain⟨ct,cB,a3⟩:=aT c _ lI y aF
      exact⟨ct,cB,a3.imp (ue y) id⟩
     ·refine⟨Nat.lt_of_lt_of_le (rH y aF).1 cv.size,fun ay=>?_,.inl ⟨q,_,bh,(cE y).2 (.inr aF)⟩⟩
      rcases(iu y ay).2 with h |h |h
      ·exact(rH y aF).2 h
      ·exact kV y aF h
      ·have:=(rH y aF).1;omega
    ·obtain⟨ai,aq,bk⟩:=rG hd
     simp only[if_neg aq] at aF
     obtain⟨ct,cB,a3⟩:=aT d ch bk y aF
     exact⟨ct,cB,a3.imp (ue y) id⟩
   ·intro d d' ch bg y hd dQ bf aF eL
    rw[cC] at hd dQ
    split at hd
    ·rename_i e
     subst e
     rw[if_neg bf] at dQ
     obtain⟨ai,aq,bk⟩:=rG dQ
     simp only[if_true] at aF
     simp only[if_neg aq] at eL
     rcases aF with aF |aF
     ·exact jA c d' _ bg y lI bk (Ne.symm ai) aF eL
     ·exact sL d' bg y bk eL aF
    ·obtain⟨ai,aq,bk⟩:=rG hd
     simp only[if_neg aq] at aF
     split at dQ
     ·rename_i e
      subst e
      simp only[if_true] at eL
      rcases eL with eL |eL
      ·exact jA d c ch _ y bk lI ai aF eL
      ·exact sL d ch y bk aF eL
     ·obtain⟨rj,pQ,LW⟩:=rG dQ
      simp only[if_neg pQ] at eL
      exact jA d d' ch bg y bk LW bf aF eL
   ·exact cj.mono (Ext.refl _ _) (res g) x (fun j ak=>dL _ _ (fun e'=>by rw[e',bL] at ak;cases ak)) xd
theorem mj: ∀(B B':aG) (c:Nat),ax (B++B') c=(match ax B c with
  |some ch=>some ch
  |none=>ax B' c)
 | [],B',c=>rfl
 |(d,ch)::B,B',c=>by
  rw[List.cons_append,cC,cC,mj B B' c]
  split <;>rfl
def AU (l:List Nat):aG→Bool
 | []=>true
 |(c,ch)::B=> !l.contains c&&(l.all fun d=> !ch.has d)&&AU l B
theorem AV {l:List Nat}: ∀{B:aG},AU l B=true→ ∀{c ch},ax B c=some ch→c∉l∧ ∀d,d∈l→ch.has d=false
 |(c,ch)::B,h,d,bg,hd=>by
  simp only[AU,Bool.and_eq_true,Bool.not_eq_true'] at h
  rw[cC] at hd
  split at hd
  ·rename_i e
   subst e
   injection hd with hd
   subst hd
   refine⟨fun bM=>?_,fun x hx=>?_⟩
   ·have:=List.contains_iff_mem.2 bM
    rw[h.1.1] at this
    cases this
   ·have:=List.all_eq_true.1 h.1.2 x hx
    simpa using this
  ·exact AV h.2 hd
def vg (je bu jC:List Nat):List Nat:=je++bu.filter fun d=> !jC.contains d
theorem vh {l:List Nat} {d:Nat} (h:l.contains d=true):d∈l:=List.contains_iff_mem.1 h
theorem GA {l:List Nat} {d:Nat} (h:l.contains d=false):d∉l:=fun bM=>by rw[List.contains_iff_mem.2 bM] at h;cases h
def AW (c:Nat) (je:List Nat) (args:List aN) (bR aP:aG) (bu jC:List Nat):Bool:=
 (cS bR).contains c&&(cS bR).all (fun d=>(c::je).contains d)&&wR (c::je) bR&& !bu.contains c&& !je.contains c&&jC.all (fun d=>bu.contains d&& !je.contains d)&&(args.all fun v=>je.all fun d=> !v.has d)&&AU je aP&&(ax aP c).isNone
def AX (c:Nat) (hid:List Nat) (res:aN) (jD aZ:aG):Bool:=
 (cS jD).contains c&&(cS jD).all (fun d=>(c::hid).contains d)&&AU hid aZ&&(ax aZ c).isNone&&(hid.all fun d=> !res.has d)
theorem hM.close {P:Program} {f:FuncId} {c:Nat} {args:List aN} {bR aP:aG} {bu jC:List Nat} {X:Type} {res:X→aN} {jD aZ:X→aG} {o:bK} {o':X→bK} (je:List Nat)
  (h:hM P f args (bR++aP) bu res (fun g=>jD g++aZ g)) (dU: ∀I F w p,o.R I F w p→mX c bR I F w p) (nK: ∀g I F w p,mX c (jD g) I F w p→(o' g).R I F w p)
  (aa:AW c je args bR aP bu jC=true) (af: ∀g,AX c (vg je bu jC) (res g) (jD g) (aZ g)=true):
  hM P f args ((c,.obj o)::aP) jC res (fun g=>(c,.obj (o' g))::aZ g):=by
 obtain⟨iH,h⟩:=h
 simp only[AW,Bool.and_eq_true,Bool.not_eq_true',Option.isNone_iff_eq_none] at aa
 obtain⟨⟨⟨⟨⟨⟨⟨⟨ct,cB⟩,a3⟩,a4⟩,a5⟩,gT⟩,E1⟩,LX⟩,a9⟩:=aa
 have ct:=vh ct
 have a4:=GA a4
 have a5:=GA a5
 have Tp: ∀d,d∈cS bR→d=c∨d∈je:=fun d hd=>by
  have:=vh (List.all_eq_true.1 cB d hd)
  exact List.mem_cons.1 this
 have abf: ∀d,d∈jC→d∈bu∧d∉je:=fun d hd=>by
  have:=List.all_eq_true.1 gT d hd
  simp only[Bool.and_eq_true,Bool.not_eq_true'] at this
  exact⟨vh this.1,GA this.2⟩
 refine⟨iH,fun ρ F I w b6 bC eo hF fZ hlen ep=>?_⟩
 have cQ:ax ((c,bF.obj o)::aP) c=some (.obj o):=by rw[cC,if_pos rfl]
 obtain⟨qE,G,cK,c5,fU,iw⟩:=dU _ _ _ _ (eo c _ cQ)
 have eN: ∀{d ch},ax aP d=some ch→d≠c∧d∉je∧ax ((c,bF.obj o)::aP) d=some ch:=fun {d ch} hd=>by
  have ai:d≠c:=fun e=>by rw[e,a9] at hd;cases hd
  exact⟨ai,(AV LX hd).1,by rw[cC,if_neg (Ne.symm ai)];exact hd⟩
 have ke: ∀{d ch},ax (bR++aP) d=some ch→(ax bR d=some ch∧d∈cS bR)∨(d∉cS bR∧ax aP d=some ch):=fun {d ch} hd=>by
  rw[mj] at hd
  cases e:ax bR d with
  |some bg=>
   rw[e] at hd
   exact .inl ⟨hd,gi.2 ⟨bg,e⟩⟩
  |none=>
   rw[e] at hd
   exact .inr ⟨fun au=>(by obtain⟨bg,au⟩:=gi.1 au;rw[e] at au;cases au),hd⟩
 let GB:Nat→bn:=fun d=>if d∈je then qE d else ρ d
 let oS:Nat→Nat→Prop:=fun d=>if d∈cS bR then G d else F d
 have AY: ∀d,d∉je→GB d=ρ d:=fun d hd=>if_neg hd
 have LY: ∀d,d∈c::je→GB d=qE d:=fun d hd=>by
  rcases List.mem_cons.1 hd with rfl |hd
  ·rw[AY _ a5,cK]
  ·exact if_pos hd
 have ue: ∀y,(∃d ch,ax (bR++aP) d=some ch∧oS d y)→ ∃d ch,ax ((c,bF.obj o)::aP) d=some ch∧F d y:=by
  rintro y ⟨d,ch,hd,aF⟩
  rcases ke hd with⟨ai,aq⟩ |⟨ai,aq⟩
  ·have aF:G d y:=by simpa only[oS,if_pos aq] using aF
   exact⟨c,_,cQ,(iw y).2 ⟨d,ch,ai,aF⟩⟩
  ·have aF:F d y:=by simpa only[oS,if_neg ai] using aF
   exact⟨d,ch,(eN aq).2.2,aF⟩
 refine(h GB oS I w b6 bC ?_ ?_ ?_ hlen ?_).mono ?_
 ·intro d ch hd
  rcases ke hd with⟨ai,aq⟩ |⟨ai,aq⟩
  ·have au:d∈c::je:=List.mem_cons.2 (Tp d aq)
   rw[LY d au]
   simp only[oS,if_pos aq]
   exact Holds.cA (Ext.refl _ _) (fun _ _=>rfl) (Nat.le_refl _) ch (fun j ak=>LY j (bF.ku (yK a3 ai) ak)) (c5 d ch ai)
  ·rw[AY d (eN aq).2.1]
   simp only[oS,if_neg ai]
   exact Holds.cA (Ext.refl _ _) (fun _ _=>rfl) (Nat.le_refl _) ch (fun j ak=>AY j (fun l8=>by rw[(AV LX aq).2 j l8] at ak;cases ak)) (eo d ch (eN aq).2.2)
 ·intro d ch hd x hx
  rcases ke hd with⟨ai,aq⟩ |⟨ai,aq⟩
  ·simp only[oS,if_pos aq] at hx
   exact hF c _ cQ x ((iw x).2 ⟨d,ch,ai,hx⟩)
  ·simp only[oS,if_neg ai] at hx
   exact hF d ch (eN aq).2.2 x hx
 ·intro d d' ch bg x hd dQ bf hx eB
  rcases ke hd with⟨ai,aq⟩ |⟨ai,aq⟩
  ·simp only[oS,if_pos aq] at hx
   rcases ke dQ with⟨rj,pQ⟩ |⟨rj,pQ⟩
   ·simp only[oS,if_pos pQ] at eB
    exact fU d d' ch bg x ai rj bf hx eB
   ·simp only[oS,if_neg rj] at eB
    exact fZ c d' _ bg x cQ (eN pQ).2.2 (Ne.symm (eN pQ).1) ((iw x).2 ⟨d,ch,ai,hx⟩) eB
  ·simp only[oS,if_neg ai] at hx
   rcases ke dQ with⟨rj,pQ⟩ |⟨rj,pQ⟩
   ·simp only[oS,if_pos pQ] at eB
    exact fZ c d _ ch x cQ (eN aq).2.2 (Ne.symm (eN aq).1) ((iw x).2 ⟨d',bg,rj,eB⟩) hx
   ·simp only[oS,if_neg rj] at eB
    exact fZ d d' ch bg x (eN aq).2.2 (eN pQ).2.2 bf hx eB
 ·intro i v x hv hx
  have GC:=List.all_eq_true.1 E1 v (List.mem_of_getElem? hv)
  exact cj.mono (Ext.refl _ _) v x (fun j ak=>AY j (fun l8=>by
   have:=List.all_eq_true.1 GC j l8
   rw[ak] at this
   cases this)) (ep i v x hv hx)
 ·rintro e w' ⟨g,x,ρ',F',rfl,cv,di,I',kG,iu,ow,aT,jA,xd⟩
  have bl:=af g
  simp only[AX,Bool.and_eq_true,Option.isNone_iff_eq_none] at bl
  obtain⟨⟨⟨⟨bQ,cn⟩,eT⟩,Gq⟩,Tq⟩:=bl
  have bQ:=vh bQ
  have Tr: ∀d,d∉vg je bu jC→d∉je∧(d∈bu→d∈jC):=fun d hd=>by
   refine⟨fun bM=>hd (List.mem_append.2 (.inl bM)),fun bM=>?_⟩
   rcases Decidable.em (d∈jC) with h |h
   ·exact h
   ·exact absurd (List.mem_append.2 (.inr (List.mem_filter.2 ⟨bM,by simpa using h⟩))) hd
  have Ts:c∉vg je bu jC:=fun bM=>by
   rcases List.mem_append.1 bM with h |h
   ·exact a5 h
   ·exact a4 (List.mem_filter.1 h).1
  let tU:Nat→bn:=fun d=>if d∈jC then ρ' d else ρ d
  have qC: ∀d,d∉vg je bu jC→tU d=ρ' d:=fun d hd=>by
   obtain⟨ai,aq⟩:=Tr d hd
   show(if d∈jC then ρ' d else ρ d)=ρ' d
   split
   ·rfl
   ·rename_i hn
    rw[di d (fun bM=>hn (aq bM)),AY d ai]
  have yW: ∀{d ch},ax (jD g) d=some ch→ax (jD g++aZ g) d=some ch:=fun {d ch} hd=>by rw[mj,hd]
  have rG: ∀{d ch},ax (aZ g) d=some ch→d≠c∧d∉vg je bu jC∧ax (jD g) d=none∧ax (jD g++aZ g) d=some ch:=fun {d ch} hd=>by
   have ai:d≠c:=fun e=>by rw[e,Gq] at hd;cases hd
   have aq:=(AV eT hd).1
   have bk:ax (jD g) d=none:=by
    cases e:ax (jD g) d with
    |none=>rfl
    |some bg=>
     have:=vh (List.all_eq_true.1 cn d (gi.2 ⟨bg,e⟩))
     rcases List.mem_cons.1 this with h |h
     ·exact absurd h ai
     ·exact absurd h aq
   exact⟨ai,aq,bk,by rw[mj,bk];exact hd⟩
  refine⟨g,x,tU,fun d=>if d=c then(fun y=> ∃d' bg,ax (jD g) d'=some bg∧F' d' y) else F' d,rfl,cv.mono fun y _ aF=>ue y aF,fun d hd=>if_neg hd,I',kG,fun y aF=>⟨(iu y aF).1,?_⟩,?_,?_,?_,?_⟩
  ·rcases(iu y aF).2 with h |h |h
   ·exact .inl h
   ·exact .inr (.inl (ue y h))
   ·exact .inr (.inr h)
  ·intro d ch hd
   rw[cC] at hd
   split at hd
   ·rename_i e
    injection hd with hd
    subst hd e
    simp only[if_true]
    rw[qC _ Ts]
    exact nK g _ _ _ _ ⟨ρ',F',rfl,fun d ch hd=>ow d ch (yW hd),fun d d' ch bg b hd dQ bf=>jA d d' ch bg b (yW hd) (yW dQ) bf,fun b=>Iff.rfl⟩
   ·obtain⟨ai,aq,bk,cX⟩:=rG hd
    simp only[if_neg ai]
    rw[qC d aq]
    exact Holds.cA (Ext.refl _ _) (fun _ _=>rfl) (Nat.le_refl _) ch (fun j ak=>qC j (fun l8=>by rw[(AV eT hd).2 j l8] at ak;cases ak)) (ow d ch cX)
  ·intro d ch hd y aF
   rw[cC] at hd
   split at hd
   ·rename_i e
    subst e
    simp only[if_true] at aF
    obtain⟨d',bg,aa,af⟩:=aF
    obtain⟨bp,bq,b8⟩:=aT d' bg (yW aa) y af
    exact⟨bp,bq,b8.imp (ue y) id⟩
   ·obtain⟨ai,aq,bk,cX⟩:=rG hd
    simp only[if_neg ai] at aF
    obtain⟨bp,bq,b8⟩:=aT d ch cX y aF
    exact⟨bp,bq,b8.imp (ue y) id⟩
  ·intro d d' ch bg y hd dQ bf aF eL
   rw[cC] at hd dQ
   split at hd
   ·rename_i e
    subst e
    rw[if_neg bf] at dQ
    obtain⟨ai,aq,bk,cX⟩:=rG dQ
    simp only[if_true] at aF
    simp only[if_neg ai] at eL
    obtain⟨d1,ko,aa,af⟩:=aF
    exact jA d1 d' ko bg y (yW aa) cX (fun e=>by rw[e,bk] at aa;cases aa) af eL
   ·obtain⟨ai,aq,bk,cX⟩:=rG hd
    simp only[if_neg ai] at aF
    split at dQ
    ·rename_i e
     subst e
     simp only[if_true] at eL
     obtain⟨d1,ko,aa,af⟩:=eL
     exact jA d d1 ch ko y cX (yW aa) (fun e=>by rw[←e,bk] at aa;cases aa) aF af
    ·obtain⟨rj,pQ,LW,Tt⟩:=rG dQ
     simp only[if_neg rj] at eL
     exact jA d d' ch bg y cX Tt bf aF eL
  ·exact cj.mono (Ext.refl _ _) (res g) x (fun j ak=>qC j (fun l8=>by
    have:=List.all_eq_true.1 Tq j l8
    rw[ak] at this
    cases this)) xd
theorem mX.Tu {f g:Nat→Nat} (vk: ∀c,g (f c)=c) (GD: ∀c,f (g c)=c) {c:Nat} {bR:aG} {I F:Nat→Prop} {w:World} {p:bn} (h:mX c bR I F w p):mX (f c) (kY f bR) I F w p:=by
 obtain⟨ρ,G,aa,af,aA,bE⟩:=h
 have aB: ∀{d ch},ax (kY f bR) d=some ch→ ∃cr,ax bR (g d)=some cr∧ch=cr.rn f:=fun {d ch} hd=>by
  rw[←GD d,AO vk] at hd
  obtain⟨cr,ai,aq⟩:=Option.map_eq_some_iff.1 hd
  exact⟨cr,ai,aq.symm⟩
 refine⟨fun d=>ρ (g d),fun d=>G (g d),by simp only[vk];exact aa,fun d ch hd=>?_,fun d d' ch bg b hd dQ bf=>?_,fun b=>?_⟩
 ·obtain⟨cr,ai,rfl⟩:=aB hd
  rw[AN]
  simp only[vk]
  exact af _ _ ai
 ·obtain⟨cr,ai,_⟩:=aB hd
  obtain⟨ko,aq,_⟩:=aB dQ
  exact aA _ _ _ _ b ai aq (fun e=>bf (by rw[←GD d,←GD d',e]))
 ·rw[bE]
  constructor
  ·rintro⟨d,ch,ai,aq⟩
   exact⟨f d,ch.rn f,by rw[AO vk,ai];rfl,by simp only[vk];exact aq⟩
  ·rintro⟨d,ch,ai,aq⟩
   obtain⟨cr,bk,_⟩:=aB ai
   exact⟨g d,cr,bk,aq⟩
theorem mX.ren (l:List (Nat×Nat)) {c:Nat} {bR:aG} {I F:Nat→Prop} {w:World} {p:bn} (h:mX c bR I F w p):mX (rn (oR l []) c) (kY (rn (oR l [])) bR) I F w p:=
 h.Tu (g:=yQ (oR l [])) (Db _) (Dc _)
theorem mX.sub {c:Nat} {bR jD:aG} {I F:Nat→Prop} {w:World} {p:bn} (h:mX c bR I F w p) (aa: ∀d ch,ax bR d=some ch↔ax jD d=some ch):mX c jD I F w p:=by
 obtain⟨ρ,G,ai,aq,bk,cX⟩:=h
 exact⟨ρ,G,ai,fun d ch hd=>aq d ch ((aa d ch).2 hd),fun d d' ch bg b hd dQ=>bk d d' ch bg b ((aa d ch).2 hd) ((aa d' bg).2 dQ),fun b=>(cX b).trans ⟨fun⟨d,ch,a,b⟩=>⟨d,ch,(aa d ch).1 a,b⟩,fun⟨d,ch,a,b⟩=>⟨d,ch,(aa d ch).2 a,b⟩⟩⟩
section
variable {ids:List Nat} {K:aQ} {B:aG}
theorem j9.name (s c:Nat) {o:bK} (hs:look K s= .c (.one (.ptr c 0))) (hc:ax B c=some (.obj o)):j9 ids K B (fun b:Nat=>(s,.c (.one (.d (.aW (some b)))))::K) (fun b=>(c,.obj (o.at b))::B):=by
 rintro N C a w ⟨hn,hd,ρ,F,az,hS⟩
 obtain⟨bT,bA⟩:=az.jV (w':=w) (ch:=.obj (o.at (ρ c).bO)) hc (Fr.refl _ _) fun I bC=>⟨rfl,Holds.cA (ρ':=ρ) bC (fun _ _=>rfl) (Nat.le_refl _) (.obj o) (fun _ _=>rfl) (az.holds c _ hc)⟩
 refine⟨(ρ c).bO,hn,hd,ρ,F,bT,fun t=>?_⟩
 rw[kF]
 split
 ·rename_i e
  subst e
  have:=hS s
  rw[hs] at this
  exact this
 ·exact hS.mono bA (fun _ _ _=>rfl) t
theorem ah.put (q c:Nat) {o:bK} {b:Nat} {L:List (Nat×bK)} (bf:c≠q) (bh:ax B q=some (.obj (.cO L))) (hc:ax B c=some (.obj (o.at b))):ah ids K B K ((q,.obj (.cO ((b,o)::L)))::g8 B c):=by
 rintro N C a w ⟨hn,hd,ρ,F,az,hS⟩
 have aX:fN _ _ L (F q):=az.holds q _ bh
 have aT:(ρ c).bO=b∧o.R _ (F c) w (ρ c):=az.holds c _ hc
 obtain⟨rfl,aT⟩:=aT
 have fZ: ∀x,F c x→ ¬F q x:=fun x hx eB=>az.e4 c q _ _ x hc bh bf hx eB
 obtain⟨bT,bA⟩:=az.step (B':=(q,.obj (.cO (((ρ c).bO,o)::L)))::g8 B c) (ρ':=ρ) (F':=dx F q (fun x=>F c x∨F q x)) (w':=w) (fun d=>d=c∨d=q) (fun _=>False) (Fr.refl _ _)
  (fun d ch hd hm=>by
   rw[cC,if_neg (fun e=>hm (.inr e.symm)),jR,if_neg (fun e=>hm (.inl e.symm))] at hd
   exact hd)
  (fun _ _=>rfl) (fun d hm=>dL _ _ (fun e=>hm (.inr e))) (fun _ _ h=>h) (fun _ h=>h.elim) (fun _ _ _ _ _ _ h=>h)
  (fun d ch hd hm bA=>by
   rw[cC] at hd
   split at hd
   ·rename_i e
    subst e
    injection hd with hd
    subst hd
    rw[dN]
    exact fN.add (aX.cA bA (Nat.le_refl _) (fun _ _=>rfl)) (o.cA _ _ _ _ _ _ aT bA (fun _ _=>rfl) (Nat.le_refl _)) fZ
   ·rename_i e
    rcases hm with rfl |rfl
    ·rw[jR,if_pos rfl] at hd;cases hd
    ·exact absurd rfl e)
  (fun d ch hd hm x hx=>by
   rw[cC] at hd
   split at hd
   ·rename_i e
    subst e
    rw[dN] at hx
    rcases hx with hx |hx
    ·exact⟨(az.own c _ hc x hx).1,.inl ⟨c,_,hc,.inl rfl,hx⟩⟩
    ·exact⟨(az.own q _ bh x hx).1,.inl ⟨q,_,bh,.inr rfl,hx⟩⟩
   ·rename_i e
    rcases hm with rfl |rfl
    ·rw[jR,if_pos rfl] at hd;cases hd
    ·exact absurd rfl e)
  (fun d d' ch bg x hd dQ hm gL GF=>by
   have key: ∀d ch,ax ((q,bF.obj (.cO (((ρ c).bO,o)::L)))::g8 B c) d=some ch→(d=c∨d=q)→d=q:=fun d ch hd hm=>by
    rcases hm with rfl |rfl
    ·rw[cC,if_neg (Ne.symm bf),jR,if_pos rfl] at hd;cases hd
    ·rfl
   exact absurd ((key d ch hd hm).trans (key d' bg dQ gL).symm) GF)
 exact⟨hn,hd,ρ,_,bT,hS.mono bA fun _ _ _=>rfl⟩
def rI:List Nat→aG→aG
 | [],B=>B
 |c::l,B=>rI l (g8 B c)
theorem AZ: ∀(l:List Nat) (B:aG) (d:Nat),ax (rI l B) d=if d∈l then none else ax B d
 | [],B,d=>by simp[rI]
 |c::l,B,d=>by
  rw[rI,AZ l,jR]
  by_cases h:d∈l
  ·rw[if_pos h,if_pos (List.mem_cons_of_mem _ h)]
  ·rw[if_neg h]
   by_cases e:c=d
   ·subst e;rw[if_pos rfl,if_pos (List.mem_cons_self ..)]
   ·rw[if_neg e,if_neg]
    intro bM
    rcases List.mem_cons.1 bM with rfl |bM
    ·exact e rfl
    ·exact h bM
theorem ah.close (c:Nat) (bR:aG) {o:bK} (eA:nA B bR) (hc:(cS bR).contains c=true) (av: ∀I F w p,mX c bR I F w p→o.R I F w p):ah ids K B K ((c,.obj o)::rI (cS bR) B):=by
 rintro N C a w ⟨hn,hd,ρ,F,az,hS⟩
 have hc:=vh hc
 have aB: ∀{d ch},ax bR d=some ch→ax B d=some ch:=fun {d ch} h=>kq eA h
 have GG: ∀{d ch},ax ((c,bF.obj o)::rI (cS bR) B) d=some ch→d∈cS bR→d=c∧ch= .obj o:=fun {d ch} hd hm=>by
  rw[cC] at hd
  split at hd
  ·rename_i e;injection hd with hd;exact⟨e.symm,hd.symm⟩
  ·rw[AZ,if_pos hm] at hd;cases hd
 obtain⟨bT,bA⟩:=az.step (B':=(c,.obj o)::rI (cS bR) B) (ρ':=ρ) (F':=fun d=>if d∈cS bR then(fun x=> ∃d ch,ax bR d=some ch∧F d x) else F d) (w':=w) (fun d=>d∈cS bR) (fun _=>False) (Fr.refl _ _)
  (fun d ch hd hm=>by
   have bf:c≠d:=fun e=>hm (by rw[←e];exact hc)
   rw[cC,if_neg bf,AZ,if_neg hm] at hd
   exact hd)
  (fun _ _=>rfl) (fun d hm=>if_neg hm) (fun _ _ h=>h) (fun _ h=>h.elim) (fun _ _ _ _ _ _ h=>h)
  (fun d ch hd hm bA=>by
   obtain⟨rfl,rfl⟩:=GG hd hm
   simp only[if_pos hm]
   exact av _ _ _ _ ⟨ρ,F,rfl,fun d ch h=>Holds.cA bA (fun _ _=>rfl) (Nat.le_refl _) ch (fun _ _=>rfl) (az.holds d ch (aB h)),fun d d' ch bg b h h' bf=>az.e4 d d' ch bg b (aB h) (aB h') bf,fun b=>Iff.rfl⟩)
  (fun d ch hd hm x hx=>by
   simp only[if_pos hm] at hx
   obtain⟨d',bg,aa,af⟩:=hx
   exact⟨(az.own d' bg (aB aa) x af).1,.inl ⟨d',bg,aB aa,gi.2 ⟨bg,aa⟩,af⟩⟩)
  (fun d d' ch bg x hd dQ hm gL bf=>absurd ((GG hd hm).1.trans (GG dQ gL).1.symm) bf)
 exact⟨hn,hd,ρ,_,bT,hS.mono bA fun _ _ _=>rfl⟩
theorem ah.emp (q:Nat) (hf:gu ids K B q=true):ah ids K B K ((q,.obj (.cO []))::B):=by
 rintro N C a w ⟨hn,hd,ρ,F,az,hS⟩
 have cv:=kT hf
 obtain⟨bT,bA⟩:=az.make hf (Below.refl _ w) (ρ q) (fun _=>False) (fun _ h=>h.elim) (ch:=.obj (.cO [])) fun I _ _=>fun b h=>h
 exact⟨hn,hd,_,_,bT,hS.mono bA fun s d hd=>dL _ _ (fun e=>by subst e;rw[cv.1 s] at hd;cases hd)⟩
end
end Go.Proofs.YteoamepgonpdlaaGreat
namespace Go.Proofs.YteoamepgonpdlaaGreat
set_option linter.unusedVariables false
set_option linter.unusedSimpArgs false
open Go.RowKit
@[reducible] def c7:U:=.int .i64
@[reducible] def yX:dG:=.one (.raw (.pointer none))
@[reducible] def fO (n:Int):dG:=.one (.d (.int .i64 n))
@[reducible] def sM:aN:=.c8 []
@[reducible] def mY (b:Nat):aN:=.c (.one (.d (.aW (some b))))
theorem eY {α:Type} {L:List α} {n:Nat} (h:n < L.length):ff L n=some L[n]:=List.getElem?_eq_getElem h
theorem LZ {α:Type} {L:List α} {n:Nat} (h:n < L.length):ff L n=some L[n]:=List.getElem?_eq_getElem h
theorem Fn.close {P:Program} {f:FuncId} {c:Nat} {args:List aN} {bR aP:aG} {bu jC:List Nat} {res:aN} {jD aZ:aG} {o o':bK} (je:List Nat)
  (h:Fn P f args (bR++aP) bu res (jD++aZ)) (dU: ∀I F w p,o.R I F w p→mX c bR I F w p) (nK: ∀I F w p,mX c jD I F w p→o'.R I F w p)
  (aa:AW c je args bR aP bu jC=true) (af:AX c (vg je bu jC) res jD aZ=true):
  Fn P f args ((c,.obj o)::aP) jC res ((c,.obj o')::aZ):=
 (hM.close (bR:=bR) (jD:=fun _:Unit=>jD) (aZ:=fun _=>aZ) (o:=o) (o':=fun _=>o') je h.x dU (fun _=>nK) aa (fun _=>af)).fn
theorem Fn.GH {P:Program} {f:FuncId} {args:List aN} {c:Nat} {aP:aG} {bu:List Nat} {res:aN} {aZ:aG} {o:bK} {Y:Type} {sN:Y→bK} (hc:l6 P f=true) (av: ∀I F w p,o.R I F w p→ ∃y,(sN y).R I F w p)
  (h: ∀y,Fn P f args ((c,.obj (sN y))::aP) bu res aZ):Fn P f args ((c,.obj o)::aP) bu res aZ:=by
 refine⟨hc,fun ρ F I w b6 ct cB a3 a4 a5 gT=>?_⟩
 have aB:ax ((c,bF.obj o)::aP) c=some (.obj o):=by rw[cC,if_pos rfl]
 obtain⟨y,aF⟩:=av _ _ _ _ (cB c _ aB)
 have key: ∀d ch,ax ((c,bF.obj (sN y))::aP) d=some ch→(d=c∧ch= .obj (sN y))∨ax ((c,bF.obj o)::aP) d=some ch:=fun d ch hd=>by
  rw[cC] at hd
  split at hd
  ·rename_i e;injection hd with hd;exact .inl ⟨e.symm,hd.symm⟩
  ·rename_i e;exact .inr (by rw[cC,if_neg e];exact hd)
 have uf: ∀d ch,ax ((c,bF.obj (sN y))::aP) d=some ch→ ∃cr,ax ((c,bF.obj o)::aP) d=some cr:=fun d ch hd=>by
  rcases key d ch hd with⟨e,_⟩ |h
  ·rw[e]
   exact⟨_,aB⟩
  ·exact⟨_,h⟩
 have Tv: ∀d ch,ax ((c,bF.obj o)::aP) d=some ch→ ∃cr,ax ((c,bF.obj (sN y))::aP) d=some cr:=fun d ch hd=>by
  rw[cC] at hd⊢
  split at hd
  ·rename_i e;exact⟨_,by rw[if_pos e]⟩
  ·rename_i e;exact⟨ch,by rw[if_neg e];exact hd⟩
 have hF: ∀b,(∃d ch,ax ((c,bF.obj (sN y))::aP) d=some ch∧F d b)↔ ∃d ch,ax ((c,bF.obj o)::aP) d=some ch∧F d b:=fun b=>
  ⟨fun⟨d,ch,aa,af⟩=>let⟨cr,h⟩:=uf d ch aa;⟨d,cr,h,af⟩,fun⟨d,ch,aa,af⟩=>let⟨cr,h⟩:=Tv d ch aa;⟨d,cr,h,af⟩⟩
 refine((h y).2 ρ F I w b6 ct (fun d ch hd=>?_) (fun d ch hd b ag=>?_) (fun d d' ch bg b aa af=>?_) a5 gT).mono ?_
 ·rcases key d ch hd with⟨rfl,rfl⟩ |h
  ·exact aF
  ·exact cB d ch h
 ·obtain⟨cr,h⟩:=uf d ch hd
  exact a3 d cr h b ag
 ·obtain⟨cy,g1⟩:=uf d ch aa
  obtain⟨bp,g2⟩:=uf d' bg af
  exact a4 d d' cy bp b g1 g2
 ·rintro e w' ⟨x,ρ',F',r1,r2,gv,I',mm,mZ,nM,mo,nN,oT⟩
  refine⟨x,ρ',F',r1,r2.mono fun b _ ag=>(hF b).1 ag,gv,I',mm,fun b ag=>⟨(mZ b ag).1,(mZ b ag).2.imp id (Or.imp (hF b).1 id)⟩,nM,fun d ch hd b ag=>?_,nN,oT⟩
  obtain⟨g1,g2,bL⟩:=mo d ch hd b ag
  exact⟨g1,g2,bL.imp (hF b).1 id⟩
end Go.Proofs.YteoamepgonpdlaaGreat
namespace Go.Proofs.YteoamepgonpdlaaGreat
set_option linter.unusedVariables false
set_option linter.unusedSimpArgs false
open Go.RowKit
theorem hM.Gl {P:Program} {fn:FuncId} {f g:Nat→Nat} (bl: ∀c,g (f c)=c) (hf: ∀c,f (g c)=c) {args:List aN} {aP:aG} {bu:List Nat} {X:Type} {res:X→aN} {aZ:X→aG} (h:hM P fn args aP bu res aZ):
  hM P fn (wX f args) (kY f aP) (yS f bu) (fun x=>(res x).rn f) (fun x=>kY f (aZ x)):=by
 refine⟨h.1,?_⟩
 intro ρ F I w b6 bC eo hF fZ hlen ep
 have lk: ∀(B:aG) c,ax (kY f B) (f c)=(ax B c).map (·.rn f):=AO bl
 have fwd: ∀{B:aG} {c ch},ax B c=some ch→ax (kY f B) (f c)=some (ch.rn f):=fun {B c ch} h=>by rw[lk,h];rfl
 have bwd: ∀{B:aG} {c ch},ax (kY f B) c=some ch→ ∃cr,ax B (g c)=some cr∧ch=cr.rn f:=fun {B c ch} h=>by
  have e:=lk B (g c)
  rw[hf,h] at e
  obtain⟨cr,aa,af⟩:=Option.map_eq_some_iff.1 e.symm
  exact⟨cr,aa,af.symm⟩
 rw[Gj] at hlen ep
 have hc:=h.2 (fun c=>ρ (f c)) (fun c=>F (f c)) I w b6 bC
  (fun c ch hc=>by rw[←AN];exact eo _ _ (fwd hc))
  (fun c ch hc=>hF _ _ (fwd hc))
  (fun c bY ch bg b aa af bf=>fZ _ _ _ _ b (fwd aa) (fwd af) fun e=>bf (by rw[←bl c,e,bl]))
  (by simpa using hlen)
  (fun i v x hv hx=>by rw[←De];exact ep i _ x (by rw[List.getElem?_map,hv];rfl) hx)
 refine hc.mono ?_
 rintro e w' ⟨y,x,ρ',F',rfl,cv,di,I',kG,iu,ow,aT,jA,hx⟩
 have wY:(fun c=>ρ' (g (f c)))=ρ':=funext fun c=>by rw[bl]
 refine⟨y,x,fun c=>ρ' (g c),fun c=>F' (g c),rfl,?_,?_,I',kG,?_,?_,?_,?_,?_⟩
 ·exact cv.mono fun b _ ⟨c,ch,aa,af⟩=>⟨f c,_,fwd aa,af⟩
 ·intro c hc
  show ρ' (g c)=ρ c
  rw[di (g c) (fun hm=>hc (by have:=Gk (f:=f) _ _ hm;rwa[hf] at this)),hf]
 ·intro b ag
  obtain⟨aa,af⟩:=iu b ag
  refine⟨aa,?_⟩
  rcases af with af |⟨c,ch,af,aA⟩ |af
  ·exact .inl af
  ·exact .inr (.inl ⟨f c,_,fwd af,aA⟩)
  ·exact .inr (.inr af)
 ·intro c ch hc
  obtain⟨cr,aa,rfl⟩:=bwd hc
  rw[AN,wY]
  exact ow _ _ aa
 ·intro c ch hc b ag
  obtain⟨cr,aa,rfl⟩:=bwd hc
  obtain⟨cK,c5,fU⟩:=aT _ _ aa b ag
  refine⟨cK,c5,?_⟩
  rcases fU with⟨cy,cr,fU,iw⟩ |fU
  ·exact .inl ⟨f cy,_,fwd fU,iw⟩
  ·exact .inr fU
 ·intro c bY ch bg b hc dw bf
  obtain⟨cr,aa,rfl⟩:=bwd hc
  obtain⟨ko,af,rfl⟩:=bwd dw
  exact jA _ _ _ _ b aa af fun e=>bf (by rw[←hf c,e,hf])
 ·rw[De,wY]
  exact hx
theorem hM.ren {P:Program} {fn:FuncId} (l:List (Nat×Nat)) {args:List aN} {aP:aG} {bu:List Nat} {X:Type} {res:X→aN} {aZ:X→aG} (h:hM P fn args aP bu res aZ):
  hM P fn (wX (rn (oR l [])) args) (kY (rn (oR l [])) aP) (yS (rn (oR l [])) bu) (fun x=>(res x).rn (rn (oR l []))) (fun x=>kY (rn (oR l [])) (aZ x)):=
 hM.Gl (Db _) (Dc _) h
def bK.ug (o:bK):Prop:= ∀I F w p,o.R I F w p→F p.bO
theorem GI {I:Nat→Prop} {w:World} {b:Nat}: ∀{L:List (Nat×bK)} {F:Nat→Prop},(∀p∈L,p.2.ug)→fN I w L F→b∈L.map (·.1)→F b
 | [],_,_,_,h=>by cases h
 |p::L,F,ha,⟨cG,cY,q,aa,af,aA,bE,ec⟩,h=>by
  rcases List.mem_cons.1 h with h |h
  ·exact(aa b).2 (.inl (by rw[h];have:=ha p (List.mem_cons_self ..) _ _ _ _ bE;rwa[aA] at this))
  ·exact(aa b).2 (.inr (GI (fun p hp=>ha p (List.mem_cons_of_mem _ hp)) ec h))
theorem L0 {I:Nat→Prop} {w:World}: ∀{L:List (Nat×bK)} {F:Nat→Prop},(∀p∈L,p.2.ug)→fN I w L F→(L.map (·.1)).Nodup
 | [],_,_,_=>List.nodup_nil
 |p::L,F,ha,⟨cG,cY,q,aa,af,aA,bE,ec⟩=>by
  have L1: ∀p∈L,p.2.ug:=fun p hp=>ha p (List.mem_cons_of_mem _ hp)
  rw[List.map_cons]
  refine List.nodup_cons.2 ⟨fun hm=>?_,L0 L1 ec⟩
  have ai:=ha p (List.mem_cons_self ..) _ _ _ _ bE
  rw[aA] at ai
  exact af _ ai (GI L1 ec hm)
theorem j9.Tw {ids:List Nat} {K:aQ} {B:aG} (q:Nat) {L:List (Nat×bK)} (ha: ∀p∈L,p.2.ug) (bh:ax B q=some (.obj (.cO L))):j9 ids K B (X:=PLift ((L.map (·.1)).Nodup)) (fun _=>K) (fun _=>B):=by
 rintro N C a w ⟨hn,hd,ρ,F,az,hS⟩
 have aX:fN (bS C B F w) w L (F q):=az.holds q _ bh
 exact⟨⟨L0 ha aX⟩,hn,hd,ρ,F,az,hS⟩
end Go.Proofs.YteoamepgonpdlaaGreat
namespace Go.Proofs.YteoamepgonpdlaaGreat
set_option linter.unusedVariables false
set_option linter.unusedSimpArgs false
open Go.RowKit
@[reducible] def sO (fn:FuncId) (tmps:Array Value) (ps:Array Nat) (assign body:Code) (D:Nat) (st:LoopState):Loop:={state:=st,pending:=none,fn:=fn,tmps:=tmps,params:=ps,assign:=assign,body:=body,defers:=D}
def Dn (lY:Nat→bn) (gX:List Nat) (kH:Nat→Prop) (rJ:World) (l:Nat) (rec:Loop) (c:Nat) (B:aG) (I F:Nat→Prop) (w:World) (p:bn):Prop:=
 Ext kH rJ I w∧w.heap[l]? =some (.loop rec)∧ ∃(ρ:Nat→bn) (G:Nat→Nat→Prop),ρ c=p∧(∀d,d∈gX→ρ d=lY d)∧(∀d ch,ax B d=some ch→Holds ρ I (G d) w (ρ d) ch)∧
  (∀d d' ch bg b,ax B d=some ch→ax B d'=some bg→d≠d'→G d b→ ¬G d' b)∧(∀d ch,ax B d=some ch→ ¬G d l)∧ ∀b,F b↔b=l∨ ∃d ch,ax B d=some ch∧G d b
def bK.nB (lY:Nat→bn) (gX:List Nat) (kH:Nat→Prop) (rJ:World) (l:Nat) (rec:Loop) (c:Nat) (B:aG):bK where
 R:=Dn lY gX kH rJ l rec c B
 cA:=fun I F w I' w' p ⟨aC,aB,ρ,G,aa,sy,af,aA,Ak,bE⟩ he hF aS=>
  ⟨aC.trans he,(hF l ((bE l).2 (.inl rfl))).trans aB,ρ,G,aa,sy,fun d ch hd=>Holds.cA he (fun b ag=>hF b ((bE b).2 (.inr ⟨d,ch,hd,ag⟩))) aS ch (fun _ _=>rfl) (af d ch hd),aA,Ak,bE⟩
def xe (l:List Nat):List aN→Bool
 | []=>true
 |v::vs=>v.among l&&xe l vs
theorem GJ {l:List Nat}: ∀{vs:List aN},xe l vs=true→ ∀{i:Nat} {v:aN},vs[i]? =some v→v.among l=true
 | [],_,i,v,h=>by simp at h
 |x::vs,h,i,v,hv=>by
  simp only[xe,Bool.and_eq_true] at h
  match i with
  |0=>
   simp only[List.getElem?_cons_zero,Option.some.injEq] at hv
   exact hv▸h.1
  |i+1=>exact GJ h.2 (i:=i) (by simpa using hv)
def A0 (l:List Nat):aQ→Bool
 | []=>true
 |(_,v)::K=>v.among l&&A0 l K
theorem GK {l:List Nat}: ∀{K:aQ},A0 l K=true→ ∀s,(look K s).among l=true
 | [],_,s=>rfl
 |(t,v)::K,h,s=>by
  simp only[A0,Bool.and_eq_true] at h
  rw[kF]
  split
  ·exact h.1
  ·exact GK h.2 s
section
variable {P:Program} {tt:c4} {N:Nat} {lY:Nat→bn} {gX:List Nat} {kH:Nat→Prop} {rJ:World} {l:Nat} {rec:Loop} {c:Nat}
theorem nO {c:Nat} {ch:bF}:ax [(c,ch)] c=some ch:=by rw[cC,if_pos rfl]
theorem uh {c d:Nat} {ch bg:bF} (h:ax [(c,ch)] d=some bg):d=c∧bg=ch:=by
 rw[cC] at h
 split at h
 ·rename_i e;injection h with h;exact⟨e.symm,h.symm⟩
 ·cases h
theorem Tx {f:FuncId} {args:List aN} {res:aN} {oU ox:aG} (h:Fn P f args oU [] res ox) (ha:xe [c] args=true) (hr:res.among []=true):
  Fn P f args [(c,.obj (bK.nB lY gX kH rJ l rec c oU))] [] res [(c,.obj (bK.nB lY gX kH rJ l rec c ox))]:=by
 refine⟨h.1,fun ρ F I w b6 bC eo hF fZ hlen ep=>?_⟩
 have yY:Dn lY gX kH rJ l rec c oU I (F c) w (ρ c):=eo c _ nO
 obtain⟨aC,aB,qE,G,cK,xg,c5,fU,yZ,iw⟩:=yY
 have oO: ∀b,F c b→b < w.heap.size∧ ¬I b:=fun b ag=>hF c _ nO b ag
 have qF:l < w.heap.size:=q3 aB
 have xh: ¬ ∃d ch,ax oU d=some ch∧G d l:=fun⟨d,ch,hd,bl⟩=>yZ d ch hd bl
 refine(h.2 qE G I w b6 bC c5 (fun d ch hd b ag=>oO b ((iw b).2 (.inr ⟨d,ch,hd,ag⟩))) fU hlen ?_).mono ?_
 ·intro i v x hv hx
  refine cj.mono (Ext.refl _ _) v x (fun j ak=>?_) (ep i v x hv hx)
  have:=aN.ku (GJ ha hv) ak
  rw[List.mem_singleton] at this
  subst this
  exact cK
 ·rintro e w' ⟨x,ρ',F',rfl,cv,di,I',kG,iu,ow,aT,jA,xd⟩
  have gC:w'.heap[l]? =some (.loop rec):=(cv.block l qF xh).trans aB
  have y2: ¬I' l:=fun ay=>by
   rcases(iu l ay).2 with h |h |h
   ·exact(oO l ((iw l).2 (.inl rfl))).2 h
   ·exact xh h
   ·omega
  refine⟨x,ρ,fun d=>if d=c then(fun b=>b=l∨ ∃d ch,ax ox d=some ch∧F' d b) else F d,rfl,cv.mono fun b _ ⟨d,ch,hd,bl⟩=>⟨c,_,nO,(iw b).2 (.inr ⟨d,ch,hd,bl⟩)⟩,fun _ _=>rfl,I',kG,fun b ag=>⟨(iu b ag).1,?_⟩,?_,?_,?_,?_⟩
  ·rcases(iu b ag).2 with h |⟨d,ch,hd,bl⟩ |h
   ·exact .inl h
   ·exact .inr (.inl ⟨c,_,nO,(iw b).2 (.inr ⟨d,ch,hd,bl⟩)⟩)
   ·exact .inr (.inr h)
  ·intro d ch hd
   obtain⟨rfl,rfl⟩:=uh hd
   simp only[if_true]
   refine⟨aC.trans kG,gC,ρ',F',(di _ (by simp)).trans cK,fun d hd=>(di d (by simp)).trans (xg d hd),ow,jA,fun d ch hd bl=>?_,fun b=>Iff.rfl⟩
   rcases(aT d ch hd l bl).2.2 with h |h
   ·exact xh h
   ·omega
  ·intro d ch hd b ag
   obtain⟨rfl,rfl⟩:=uh hd
   simp only[if_true] at ag
   rcases ag with rfl |⟨d,ch,hd,ag⟩
   ·exact⟨q3 gC,y2,.inl ⟨_,_,nO,(iw _).2 (.inl rfl)⟩⟩
   ·obtain⟨r1,r2,gv⟩:=aT d ch hd b ag
    exact⟨r1,r2,gv.imp (fun⟨d,ch,hd,bl⟩=>⟨_,_,nO,(iw b).2 (.inr ⟨d,ch,hd,bl⟩)⟩) id⟩
  ·intro d d' ch bg b hd dQ bf
   exact absurd ((uh hd).1.trans (uh dQ).1.symm) bf
  ·exact cj.mono (Ext.refl _ _) res x (fun j ak=>by have:=aN.ku hr ak;cases this) xd
def A1:List Nat→List aN→aQ→aQ
 | [],_,K=>K
 |p::pl,vs,K=>match vs with
  | []=>K
  |v::vs=>A1 pl vs ((p,v)::K)
theorem L2 {ρ:Nat→bn} {I:Nat→Prop} {w:World}: ∀(pl:List Nat) (vs:List aN) (b6:List Value) (K:aQ) (t:Array Value),b6.length=vs.length→(∀p,p∈pl→p < t.size)→(∀(i:Nat) (v:aN) (x:Value),vs[i]? =some v→b6[i]? =some x→cj ρ I w v x)→
  (∀s,cj ρ I w (look K s) (t.getD s undef))→(((pl.zip b6).foldl (fun t (p:Nat×Value)=>t.setIfInBounds p.1 p.2) t).size=t.size∧ ∀s,cj ρ I w (look (A1 pl vs K) s) (((pl.zip b6).foldl (fun t (p:Nat×Value)=>t.setIfInBounds p.1 p.2) t).getD s undef))
 | [],vs,b6,K,t,_,_,_,h=>⟨rfl,h⟩
 |p::pl,[],[],K,t,_,_,_,h=>⟨rfl,h⟩
 |p::pl,[],_::_,K,t,aB,_,_,h=>by simp at aB
 |p::pl,_::_,[],K,t,aB,_,_,h=>by simp at aB
 |p::pl,v::vs,x::b6,K,t,aB,hp,hv,h=>by
  have Ty:=hp p (List.mem_cons_self ..)
  obtain⟨g1,g2⟩:=L2 pl vs b6 ((p,v)::K) (t.setIfInBounds p x) (by simpa using aB) (fun q bh=>by rw[Array.size_setIfInBounds];exact hp q (List.mem_cons_of_mem _ bh)) (fun i u y hu aF=>hv (i+1) u y (by simpa using hu) (by simpa using aF)) (fun s=>by
   rw[kF]
   by_cases e:p=s
   ·subst e
    rw[if_pos rfl]
    have:(t.setIfInBounds p x).getD p undef=x:=by simp[Ty]
    rw[this]
    exact hv 0 v x rfl rfl
   ·rw[if_neg e]
    have:(t.setIfInBounds p x).getD s undef=t.getD s undef:=by simp[Array.getElem?_setIfInBounds_ne e]
    rw[this]
    exact h s)
  refine⟨?_,g2⟩
  rw[List.zip_cons_cons,List.foldl_cons]
  exact g1.trans (Array.size_setIfInBounds)
theorem Mem.L3 {ids:List Nat} {C:Ctx} {B:aG} {ρ:Nat→bn} {F:Nat→Nat→Prop} {w:World} (h:Mem ids C B ρ F w) (hF: ∀b,C.x9 b→ ¬C.pL b):Ext C.x9 C.w0 (bS C B F w) w:=fun b ag=>by
 have aa:=h.marks.2.1 b (.inl ag)
 refine⟨⟨Nat.lt_of_lt_of_le aa h.ja.size,.inl ag,fun c ch hc hf=>?_⟩,h.ja.block b aa (hF b ag)⟩
 rcases(h.own c ch hc b hf).2 with af |af
 ·exact hF b ag af
 ·have:=af.1;omega
set_option maxHeartbeats 1000000 in
theorem Tz (aX:dP P tt) {fn:FuncId} {tmps:Array Value} {ps:Array Nat} {pl:List Nat} {assign body:Code} {D:Nat} (nH:ps.toList=pl) (gh: ∀p,p∈pl→p < N) (ek:tmps.size=N) (GL:kr P N assign=true) (A2:kr P N body=true)
  {mV:aQ} (GM:A0 gX mV=true) (hc:c∈gX) (pS: ∀s,cj lY kH rJ (look mV s) (tmps.getD s undef)) (stops:List Nat) {vs:List aN} (qB:vs.length=pl.length) (GC:xe [] vs=true) {oU ox:aG}
  (TA:vc P tt N (0::gX) stops assign (A1 pl vs mV) oU (fun e K B=>e= .gf∧vc P tt N (0::gX) stops body K B (fun e K B=>e= .gf∧ah (0::gX) K B [] ox))):
  yU P l vs [(c,.obj (bK.nB lY gX kH rJ l (sO fn tmps ps assign body D .ready) c oU))] (fun _:Unit=>Co true) (fun _=>[(c,.obj (bK.nB lY gX kH rJ l (sO fn tmps ps assign body D .ready) c ox))]):=by
 intro ρ F I w b6 bC eo hF fZ hlen ep
 have yY:Dn lY gX kH rJ l (sO fn tmps ps assign body D .ready) c oU I (F c) w (ρ c):=eo c _ nO
 obtain⟨aC,aB,qE,G,cK,xg,c5,fU,yZ,iw⟩:=yY
 have oO: ∀b,F c b→b < w.heap.size∧ ¬I b:=fun b ag=>hF c _ nO b ag
 have qF:l < w.heap.size:=q3 aB
 have xh: ¬ ∃d ch,ax oU d=some ch∧G d l:=fun⟨d,ch,hd,bl⟩=>yZ d ch hd bl
 have TB: ¬I l:=(oO l ((iw l).2 (.inl rfl))).2
 have xj: ∀{d ch b},ax oU d=some ch→G d b→F c b:=fun {d ch b} hd bl=>(iw b).2 (.inr ⟨d,ch,hd,bl⟩)
 have aF:=run_yield (P:=P) (args:=b6.toArray) aB (by rw[List.size_toArray,hlen,qB,←nH,Array.length_toList])
 refine⟨fn,_,assign,body,aF,roundIn_of_wpIn (F:=nC none) trivial ?_⟩
 have TC:((ps.zip b6.toArray).foldl (fun tmps (x:Nat×Value)=>tmps.setIfInBounds x.1 x.2) tmps)=(pl.zip b6).foldl (fun t (p:Nat×Value)=>t.setIfInBounds p.1 p.2) tmps:=by
  rw[←nH,←Array.foldl_toList]
  congr 1
  simp
 obtain⟨g1,g2⟩:=L2 (ρ:=qE) (I:=I) (w:=w) pl vs b6 mV tmps hlen (fun p hp=>by rw[ek];exact gh p hp) (fun i v x hv hx=>cj.mono (Ext.refl _ _) v x (fun j ak=>by have:=aN.ku (GJ GC hv) ak;cases this) (ep i v x hv hx))
  (fun s=>cj.mono aC _ _ (fun j ak=>xg j (aN.ku (GK GM s) ak)) (pS s))
 let qG:Ctx:=⟨w,I,fun b=> ∃d ch,ax oU d=some ch∧G d b,qE,[]⟩
 have rC:Ext I w (bS qG oU G w) w:=fun b ag=>⟨⟨bC b ag,.inl ag,fun d ch hd bl=>(oO b (xj hd bl)).2 ag⟩,rfl⟩
 have j8:Mem (0::gX) qG oU qE G w:=⟨Fr.refl _ _,fun d ch hd=>Holds.cA rC (fun _ _=>rfl) (Nat.le_refl _) ch (fun _ _=>rfl) (c5 d ch hd),fun d ch hd b ag=>⟨(oO b (xj hd ag)).1,.inl ⟨d,ch,hd,ag⟩⟩,fU,fun _ _=>rfl,List.nodup_nil,
  fun b ag=>ag.elim (bC b) fun⟨d,ch,hd,bl⟩=>(oO b (xj hd bl)).1,fun D bW=>by cases bW⟩
 have sP:Sat N (0::gX) qG (A1 pl vs mV) oU ⟨(ps.zip b6.toArray).foldl (fun tmps (x:Nat×Value)=>tmps.setIfInBounds x.1 x.2) tmps,[]⟩ w:=by
  rw[TC]
  exact⟨g1.trans ek,rfl,qE,G,j8,fun s=>cj.mono rC _ _ (fun _ _=>rfl) (g2 s)⟩
 refine yI aX (aK aX) stops assign _ _ _ GL TA (some l) (fun h=>by simp[tL] at h) qG _ ?_ _ w sP
 rintro e Ld jl ds gV ⟨rfl,TD⟩ ct cx e6
 have gV:ds=[]:=gV (by simp[tL])
 subst gV
 obtain⟨eM,d1,rK,cG,jB,TE⟩:=e6
 have jB:Mem (0::gX) qG jl rK cG cx:=jB
 have q4:cx.heap[l]? =some (.loop (sO fn tmps ps assign body D .ready)):=(jB.ja.block l qF xh).trans aB
 have TF:=q3 q4
 have y2: ¬bS qG jl cG cx l:=fun ay=>by
  rcases ay.2.1 with h |h |h
  ·exact TB h
  ·exact xh h
  ·have h:w.heap.size≤l:=h.1
   omega
 have Dp: ∀d ch,ax jl d=some ch→ ¬cG d l:=fun d ch hd hf=>by
  rcases(jB.own d ch hd l hf).2 with h |h
  ·exact xh h
  ·have h:w.heap.size≤l:=h.1
   omega
 refine⟨_,run_beginRound q4 rfl,?_⟩
 obtain⟨cM,A3⟩: ∃cM,cM=cx.putObj l (.loop {sO fn tmps ps assign body D .ready with state:=.busy}):=⟨_,rfl⟩
 rw[←A3]
 have A4:cM.heap.size=cx.heap.size:=by rw[A3,World.putObj_size]
 have GN: ∀b,b≠l→cM.heap[b]? =cx.heap[b]? :=fun b ag=>by rw[A3];exact World.putObj_heap_other ag
 have rq:cM.heap[l]? =some (.loop {sO fn tmps ps assign body D .ready with state:=.busy}):=by rw[A3];exact World.putObj_heap_same TF
 have GO:cM.os=cx.os∧cM.tape=cx.tape∧cM.output=cx.output:=by rw[A3];exact⟨rfl,rfl,rfl⟩
 let oy:Ctx:=⟨cM,bS qG jl cG cx,fun b=> ∃d ch,ax jl d=some ch∧cG d b,rK,[]⟩
 have ov:Ext (bS qG jl cG cx) cx (bS oy jl cG cM) cM:=fun b ag=>⟨⟨by rw[A4];exact ag.1,.inl ag,ag.2.2⟩,GN b (fun e=>y2 (e▸ag))⟩
 have TG:Mem (0::gX) oy jl rK cG cM:=⟨Fr.refl _ _,fun d ch hd=>Holds.cA ov (fun b ag=>GN b (fun e=>Dp d ch hd (e▸ag))) (Nat.le_of_eq A4.symm) ch (fun _ _=>rfl) (jB.holds d ch hd),fun d ch hd b ag=>⟨by rw[A4];exact(jB.own d ch hd b ag).1,.inl ⟨d,ch,hd,ag⟩⟩,jB.e4,fun _ _=>rfl,List.nodup_nil,
  fun b ag=>by
   show b < cM.heap.size
   rw[A4]
   exact ag.elim (fun ag=>ag.1) fun⟨d,ch,hd,bl⟩=>(jB.own d ch hd b bl).1,fun D bW=>by cases bW⟩
 refine yI aX (aK aX) stops body _ _ _ A2 TD (some l) (fun h=>by simp[tL] at h) oy _ ?_ ct cM ⟨eM,d1,rK,cG,TG,TE.mono ov fun _ _ _=>rfl⟩
 rintro e abg abh ds gV ⟨rfl,hle⟩ a3 w3 Dq
 have gV:ds=[]:=gV (by simp[tL])
 subst gV
 obtain⟨L4,d3,y3,sQ,rL,abi⟩:=hle N (oy.at []) a3 w3 Dq
 have rL:Mem (0::gX) oy ox y3 sQ w3:=rL
 have GP:w3.heap[l]? =some (.loop {sO fn tmps ps assign body D .ready with state:=.busy}):=(rL.ja.block l (q3 rq) (fun⟨d,ch,hd,bl⟩=>Dp d ch hd bl)).trans rq
 have L5:=q3 GP
 have L6: ¬bS oy ox sQ w3 l:=fun ay=>by
  rcases ay.2.1 with h |h |h
  ·exact y2 h
  ·obtain⟨d,ch,hd,bl⟩:=h;exact Dp d ch hd bl
  ·have h:cM.heap.size≤l:=h.1
   omega
 have L7: ∀d ch,ax ox d=some ch→ ¬sQ d l:=fun d ch hd hf=>by
  rcases(rL.own d ch hd l hf).2 with h |h
  ·obtain⟨d,ch,hd,bl⟩:=h;exact Dp d ch hd bl
  ·have h:cM.heap.size≤l:=h.1
   omega
 obtain⟨fV,sR⟩: ∃fV,fV=w3.putObj l (.loop (sO fn tmps ps assign body D .ready)):=⟨_,rfl⟩
 have ef:(Instr.endRound l none).run P w3= .ok (.bool true) fV:=by rw[sR];exact run_endRound none GP
 refine⟨.bool true,fV,ef,?_⟩
 have rM:fV.heap.size=w3.heap.size:=by rw[sR,World.putObj_size]
 have vn: ∀b,b≠l→fV.heap[b]? =w3.heap[b]? :=fun b ag=>by rw[sR];exact World.putObj_heap_other ag
 have TH:fV.heap[l]? =some (.loop (sO fn tmps ps assign body D .ready)):=by rw[sR];exact World.putObj_heap_same L5
 have xk:fV.os=w3.os∧fV.tape=w3.tape∧fV.output=w3.output:=by rw[sR];exact⟨rfl,rfl,rfl⟩
 have TI:Ext I w (bS qG jl cG cx) cx:=jB.L3 fun b ag ⟨d,ch,hd,bl⟩=>(oO b (xj hd bl)).2 ag
 have TJ:Ext (bS qG jl cG cx) cx (bS qG jl cG cx) cM:=fun b ag=>⟨ag,(ov b ag).2⟩
 have TK:Ext (bS qG jl cG cx) cM (bS oy ox sQ w3) w3:=rL.L3 fun b ag ⟨d,ch,hd,bl⟩=>ag.2.2 d ch hd bl
 have L8:Ext (bS oy ox sQ w3) w3 (bS oy ox sQ w3) fV:=fun b ag=>⟨ag,vn b (fun e=>L6 (e▸ag))⟩
 have L9:Ext I w (bS oy ox sQ w3) fV:=TI.trans (TJ.trans (TK.trans L8))
 have Ma:=jB.ja.size
 have Ma:w.heap.size≤cx.heap.size:=Ma
 have z23:cM.heap.size≤w3.heap.size:=rL.ja.size
 have fG: ∀{b},(oy.pL b∨oy.w0.heap.size≤b∧b∉oy.ds)→F c b∨w.heap.size≤b:=fun {b} h=>by
  rcases h with⟨d,ch,hd,bl⟩ |h
  ·rcases(jB.own d ch hd b bl).2 with⟨d,ch,hd,bl⟩ |h
   ·exact .inl (xj hd bl)
   ·exact .inr h.1
  ·have h:cM.heap.size≤b:=h.1
   exact .inr (by omega)
 refine⟨(),.bool true,ρ,fun d=>if d=c then(fun b=>b=l∨ ∃d ch,ax ox d=some ch∧sQ d b) else F d,rfl,?_,fun _=>rfl,bS oy ox sQ w3,L9,fun b ag=>⟨by rw[rM];exact ag.1,?_⟩,?_,?_,?_,rfl⟩
 ·have f1:Fr (fun b=>F c b) w cx:=jB.ja.mono fun b _ ⟨d,ch,hd,bl⟩=>xj hd bl
  have f2:Fr (fun b=>b=l) cx cM:=⟨GO.1,GO.2.1,GO.2.2,Nat.le_of_eq A4.symm,fun b _ ag=>GN b ag⟩
  have f3:Fr oy.pL cM w3:=rL.ja
  have f4:Fr (fun b=>b=l) w3 fV:=⟨xk.1,xk.2.1,xk.2.2,Nat.le_of_eq rM.symm,fun b _ ag=>vn b ag⟩
  have cQ:F c l:=(iw l).2 (.inl rfl)
  have f:Fr (fun b=>F c b) w fV:=((f1.trans f2 fun b _ (ag:b=l)=>by rw[ag];exact cQ).trans f3 fun b ag hf=>by
   rcases fG (.inl hf) with h |h
   ·exact h
   ·omega).trans f4 fun b _ (ag:b=l)=>by rw[ag];exact cQ
  exact f.mono fun b _ ag=>⟨c,_,nO,ag⟩
 ·rcases ag.2.1 with h |h
  ·rcases h.2.1 with h |⟨d,ch,hd,bl⟩ |h
   ·exact .inl h
   ·exact .inr (.inl ⟨c,_,nO,xj hd bl⟩)
   ·exact .inr (.inr h.1)
  ·exact .inr ((fG h).imp (fun h=>⟨c,_,nO,h⟩) id)
 ·intro d ch hd
  obtain⟨rfl,rfl⟩:=uh hd
  simp only[if_true]
  have au: ∀d,d∈gX→y3 d=qE d:=fun d hd=>(rL.keep d (List.mem_cons_of_mem _ hd)).trans (jB.keep d (List.mem_cons_of_mem _ hd))
  exact⟨aC.trans L9,TH,y3,sQ,(au _ hc).trans cK,fun d hd=>(au d hd).trans (xg d hd),fun d ch hd=>Holds.cA L8 (fun b ag=>vn b (fun e=>L7 d ch hd (e▸ag))) (Nat.le_of_eq rM.symm) ch (fun _ _=>rfl) (rL.holds d ch hd),rL.e4,L7,fun b=>Iff.rfl⟩
 ·intro d ch hd b ag
  obtain⟨rfl,rfl⟩:=uh hd
  simp only[if_true] at ag
  rcases ag with rfl |⟨d,ch,hd,ag⟩
  ·exact⟨by rw[rM];exact L5,L6,.inl ⟨_,_,nO,(iw _).2 (.inl rfl)⟩⟩
  ·obtain⟨r1,r2⟩:=rL.own d ch hd b ag
   exact⟨by rw[rM];exact r1,fun ay=>ay.2.2 d ch hd ag,(fG r2).imp (fun h=>⟨_,_,nO,h⟩) id⟩
 ·intro d d' ch bg b hd dQ bf
  exact absurd ((uh hd).1.trans (uh dQ).1.symm) bf
theorem TL {f:FuncId} {w:World} {cs args:Array Value} (hf:l6 P f=true):(invoke (.fn (.func f) cs) args).run P w= .ok (.enter f (args++cs)) w:=by
 unfold l6 at hf
 split at hf
 ·rename_i fn nJ
  simp only[Bool.not_eq_true',Bool.or_eq_false_iff,beq_eq_false_iff_ne] at hf
  have af: ¬fn.body=none:=fun e=>by rw[e] at hf;simp at hf
  simp[invoke,callFunc,go_sem,nJ]
  rw[if_neg hf.1,if_neg af]
 ·cases hf
set_option maxHeartbeats 1000000 in
theorem aE.range (aX:dP P tt) {ids:List Nat} (stops:List Nat) {s:Nat} {ps:Array Nat} {pl:List Nat} {assign body:Code} (nH:ps.toList=pl) (GL:kr P N assign=true) (A2:kr P N body=true) (gh:(pl.all fun p=>Nat.blt p N)=true)
  {f:FuncId} {GQ:List ki} (hf:l6 P f=true) (gX:List Nat) (K mV:aQ) (jE:aG) {X:Type} (hG:X→aG) (c:Nat) (iO A5:X) (Y:X→List aN→X→Prop)
  (GR:look K s= .c (.one (.eH f GQ))) (GM:AH K mV)
  (au:(gX.contains c&&A0 gX mV&&ids.all gX.contains&& !tL ids)=true) (C2:((cS (hG iO)).all (fun d=> !(cS jE).contains d)&& !(cS jE).contains c)=true)
  (A6: ∀x vs p0,Y x vs p0→vs.length=pl.length∧xe [] vs=true∧vc P tt N (0::gX) stops assign (A1 pl vs mV) (hG x) (fun e K B=>e= .gf∧vc P tt N (0::gX) stops body K B (fun e K B=>e= .gf∧ah (0::gX) K B [] (hG p0))))
  (TM: ∀(l:Nat) (fu:X→bK),(∀f' args res x p0,Fn P f' args (hG x) [] res (hG p0)→xe [c] args=true→res.among []=true→Fn P f' args [(c,.obj (fu x))] [] res [(c,.obj (fu p0))])→
   (∀x vs p0,Y x vs p0→yU P l vs [(c,.obj (fu x))] (fun _:Unit=>Co true) (fun _=>[(c,.obj (fu p0))]))→
   Fn P f (.c (.one (.raw (.func (.yield l) #[] #[])))::oh GQ) (jE++[(c,.obj (fu iO))]) [] (.c8 []) [(c,.obj (fu A5))])
  {Q:om→aQ→aG→Prop} (tX:Q .gf mV (hG A5)):aE P N ids (.rangeFunc (.tmp s) ps assign body) K (jE++hG iO) Q:=by
 intro r hr C gJ bh a w hs
 simp only[Bool.and_eq_true,Bool.not_eq_true'] at au C2
 obtain⟨⟨⟨bU,e8⟩,lJ⟩,hid⟩:=au
 obtain⟨uj,sC⟩:=C2
 have bU:=vh bU
 have EX: ∀d,d∈ids→d∈gX:=fun d hd=>vh (List.all_eq_true.1 lJ d hd)
 have Mb:ax jE c=none:=by
  cases e:ax jE c with
  |none=>rfl
  |some ch=>have:=List.contains_iff_mem.2 (gi.2 ⟨ch,e⟩);rw[sC] at this;cases this
 have hr:=hr hid
 subst hr
 obtain⟨hn,hd,ρ,F,az,hS⟩:=hs
 have oV: ∀{d ch},ax (hG iO) d=some ch→ax (jE++hG iO) d=some ch∧ax jE d=none:=fun {d ch} h=>by
  have au:=List.all_eq_true.1 uj d (gi.2 ⟨ch,h⟩)
  have hn:ax jE d=none:=by
   cases e:ax jE d with
   |none=>rfl
   |some bg=>rw[List.contains_iff_mem.2 (gi.2 ⟨bg,e⟩)] at au;cases au
  exact⟨by rw[mj,hn];exact h,hn⟩
 have qH: ∀{d ch},ax jE d=some ch→ax (jE++hG iO) d=some ch:=fun {d ch} h=>by rw[mj,h]
 refine wpIn_rangeFunc fun fn _=>?_
 obtain⟨rec,kU⟩: ∃rec,rec=sO fn a.tmps ps assign body w.heap.size .ready:=⟨_,rfl⟩
 obtain⟨cx,A7⟩: ∃cx,cx=(w.alloc (.deferred (some []))).alloc (.loop rec):=⟨_,rfl⟩
 have p4:Below w.heap.size w cx:=by rw[A7];exact((Below.refl _ w).alloc (Nat.le_refl _) _).alloc (by simp) _
 have abj:cx.heap.size=w.heap.size+2:=by rw[A7];simp
 have GS:cx.heap[w.heap.size+1]? =some (.loop rec):=by rw[A7];have:=World.alloc_heap_new (w.alloc (.deferred (some []))) (.loop rec);rwa[World.size_alloc] at this
 have TN:cx.heap[w.heap.size]? =some (.deferred (some [])):=by rw[A7];exact(Below.heap_alloc _ _ _ (by simp)).trans (World.alloc_heap_new w _)
 obtain⟨l,Mc⟩: ∃l,l=w.heap.size+1:=⟨_,rfl⟩
 rw[←Mc] at GS
 let kH:=bS C (jE++hG iO) F w
 have oW:Ext kH w kH cx:=fun b ag=>⟨ag,p4.block b ag.1⟩
 let fu:=fun x=>bK.nB ρ gX kH cx l rec c (hG x)
 have hv:=hS s
 rw[GR] at hv
 obtain⟨cs,ev,Gw⟩:=hv
 obtain⟨TO,TP⟩:=gS.b6 GQ cs Gw
 have pS: ∀t,cj ρ kH cx (look mV t) (a.tmps.getD t undef):=fun t=>by
  rcases F9 GM t with h |h
  ·exact cj.mono oW _ _ (fun _ _=>rfl) (wS h (hS t))
  ·rw[h];trivial
 have nJ:=TM l fu (fun f' args res x p0 h ha hr=>Tx h ha hr) (fun x vs p0 aF=>by
  obtain⟨w8,rE,AP⟩:=A6 x vs p0 aF
  show yU P l vs [(c,.obj (bK.nB ρ gX kH cx l rec c (hG x)))] (fun _:Unit=>Co true) (fun _=>[(c,.obj (bK.nB ρ gX kH cx l rec c (hG p0)))])
  rw[kU]
  exact Tz aX nH (fun p hp=>by have:=List.all_eq_true.1 gh p hp;simpa[Nat.blt_eq] using this) hn GL A2 e8 bU pS stops w8 rE AP)
 refine⟨l,[wq w.heap.size],cx,{target:=.fn (.func f) cs.toArray,args:= #[.func (.yield l) #[] #[]]},cx,f,#[.func (.yield l) #[] #[]]++cs.toArray,cx,?_,?_,fun _ _=>trivial,TL hf,fun h=>absurd h (by simp),K0 ?_⟩
 ·rw[A7,Mc,kU];exact run_enterLoop_outer _ _ _ _ _
 ·have TQ:a.eval (.tmp s)= .func (.func f) #[] cs.toArray:=ev
  simp only[resolve,TQ]
  simp[go_sem]
 have TR: #[Value.func (.yield l) #[] #[]]++cs.toArray=(Value.func (.yield l) #[] #[]::cs).toArray:=by simp
 rw[TR]
 have Md: ∀b,(∃d ch,ax (hG iO) d=some ch∧F d b)→b < w.heap.size:=fun b ⟨d,ch,hd,ag⟩=>(az.own d ch (oV hd).1 b ag).1
 let cG:Nat→Nat→Prop:=fun d=>if d=c then(fun b=>b=l∨ ∃d ch,ax (hG iO) d=some ch∧F d b) else F d
 have ke: ∀{d ch},ax (jE++[(c,bF.obj (fu iO))]) d=some ch→(d=c∧ch= .obj (fu iO))∨(d≠c∧ax jE d=some ch):=fun {d ch} h=>by
  rw[mj] at h
  cases e:ax jE d with
  |some bg=>
   rw[e] at h
   exact .inr ⟨fun GU=>(by rw[GU,Mb] at e;cases e),h⟩
  |none=>
   rw[e] at h
   obtain⟨ai,aq⟩:=uh h
   exact .inl ⟨ai,aq⟩
 have cQ:ax (jE++[(c,bF.obj (fu iO))]) c=some (.obj (fu iO)):=by rw[mj,Mb];exact nO
 have vo:cG c=(fun b=>b=l∨ ∃d ch,ax (hG iO) d=some ch∧F d b):=if_pos rfl
 have sS: ∀{d},d≠c→cG d=F d:=fun {d} h=>if_neg h
 have abk:w.heap.size≤l:=by omega
 refine(nJ.2 ρ cG kH cx _ (fun b ag=>by have:=ag.1;omega) ?_ ?_ ?_ (by simp[TO]) ?_).mono ?_
 ·intro d ch hd
  rcases ke hd with⟨rfl,rfl⟩ |⟨e,hd⟩
  ·rw[vo]
   exact⟨Ext.refl _ _,GS,ρ,F,rfl,fun _ _=>rfl,fun d ch hd=>Holds.cA oW (fun b ag=>p4.block b (az.own d ch (oV hd).1 b ag).1) p4.size ch (fun _ _=>rfl) (az.holds d ch (oV hd).1),fun d d' ch bg b aa af=>az.e4 d d' ch bg b (oV aa).1 (oV af).1,
    fun d ch hd ag=>by have:=(az.own d ch (oV hd).1 l ag).1;omega,fun b=>Iff.rfl⟩
  ·rw[sS e]
   exact Holds.cA oW (fun b ag=>p4.block b (az.own d ch (qH hd) b ag).1) p4.size ch (fun _ _=>rfl) (az.holds d ch (qH hd))
 ·intro d ch hd b ag
  rcases ke hd with⟨rfl,rfl⟩ |⟨e,hd⟩
  ·rw[vo] at ag
   rcases ag with rfl |⟨d,ch,hd,ag⟩
   ·exact⟨q3 GS,fun ay=>by have:=ay.1;omega⟩
   ·have:=(az.own d ch (oV hd).1 b ag).1
    exact⟨by omega,fun ay=>ay.2.2 d ch (oV hd).1 ag⟩
  ·rw[sS e] at ag
   have:=(az.own d ch (qH hd) b ag).1
   exact⟨by omega,fun ay=>ay.2.2 d ch (qH hd) ag⟩
 ·intro d d' ch bg b hd dQ bf ag dm
  have key: ∀{d ch b},ax jE d=some ch→F d b→ ¬(b=l∨ ∃d ch,ax (hG iO) d=some ch∧F d b):=fun {ai bp bQ} cE ey hx=>by
   rcases hx with hx |⟨d2,pO,fo,fY⟩
   ·have:=(az.own ai bp (qH cE) _ ey).1;omega
   ·exact az.e4 ai d2 bp pO bQ (qH cE) (oV fo).1 (fun e=>by rw[e,(oV fo).2] at cE;cases cE) ey fY
  rcases ke hd with⟨e,_⟩ |⟨e,hd⟩ <;>rcases ke dQ with⟨e',_⟩ |⟨e',dQ⟩
  ·exact bf (e.trans e'.symm)
  ·rw[e,vo] at ag
   rw[sS e'] at dm
   exact key dQ dm ag
  ·rw[sS e] at ag
   rw[e',vo] at dm
   exact key hd ag dm
  ·rw[sS e] at ag
   rw[sS e'] at dm
   exact az.e4 d d' ch bg b (qH hd) (qH dQ) bf ag dm
 ·intro i v x hv hx
  match i with
  |0=>
   simp only[List.getElem?_cons_zero,Option.some.injEq] at hv hx
   subst hv hx
   rfl
  |i+1=>exact cj.mono oW v x (fun _ _=>rfl) (TP i v x (by simpa using hv) (by simpa using hx))
 rintro e cM ⟨x,ρ',F',rfl,cv,di,I',kG,iu,ow,aT,jA,-⟩
 have yY:Dn ρ gX kH cx l rec c (hG A5) I' (F' c) cM (ρ' c):=ow c _ nO
 obtain⟨aC,aB,qE,G,cK,xg,c5,fU,yZ,iw⟩:=yY
 have qF:=q3 aB
 obtain⟨fV,sR⟩: ∃fV,fV=cM.putObj l (.loop {rec with state:=.exhausted}):=⟨_,rfl⟩
 have ef:(Instr.endLoop l).run P cM= .ok none fV:=by
  have aa:=run_endLoop (P:=P) aB (by rw[kU];simp)
  have af:rec.pending=none:=by rw[kU]
  rw[sR,aa,af]
 refine⟨none,fV,ef,?_⟩
 show gJ .normal {a with defers:=[wq w.heap.size]++a.defers} fV
 have rM:fV.heap.size=cM.heap.size:=by rw[sR,World.putObj_size]
 have vn: ∀b,b≠l→fV.heap[b]? =cM.heap[b]? :=fun b ag=>by rw[sR];exact World.putObj_heap_other ag
 have xk:fV.os=cM.os∧fV.tape=cM.tape∧fV.output=cM.output:=by rw[sR];exact⟨rfl,rfl,rfl⟩
 have abl:=cv.size
 have GV: ∀{b},F' c b→b < cM.heap.size∧ ¬I' b∧(b=l∨(∃d ch,ax (jE++hG iO) d=some ch∧F d b)∨cx.heap.size≤b):=fun {b} ag=>by
  obtain⟨r1,r2,gv⟩:=aT c _ nO b ag
  refine⟨r1,r2,?_⟩
  rcases gv with⟨d,ch,hd,hf⟩ |gv
  ·rcases ke hd with⟨rfl,rfl⟩ |⟨e,hd⟩
   ·rw[vo] at hf
    exact hf.imp id fun⟨d,ch,hd,hf⟩=>.inl ⟨d,ch,(oV hd).1,hf⟩
   ·rw[sS e] at hf
    exact .inr (.inl ⟨d,ch,qH hd,hf⟩)
  ·exact .inr (.inr gv)
 have y2: ¬I' l:=(GV ((iw l).2 (.inl rfl))).2.1
 have Me: ∀{b},((∃d ch,ax (jE++hG iO) d=some ch∧F d b)∨cx.heap.size≤b)→(C.pL b∨C.w0.heap.size≤b∧b∉w.heap.size::C.ds):=fun {b} h=>by
  rcases h with⟨d,ch,hd,hf⟩ |h
  ·obtain⟨r1,r2⟩:=az.own d ch hd b hf
   exact r2.imp id fun x=>⟨x.1,fun hm=>(List.mem_cons.1 hm).elim (fun e=>by omega) x.2⟩
  ·have:=az.fresh (b:=b) (by omega)
   exact .inr ⟨this.1,fun hm=>(List.mem_cons.1 hm).elim (fun e=>by omega) this.2⟩
 have TS: ∀{b},(kH b∨(∃d ch,ax (jE++hG iO) d=some ch∧F d b)∨cx.heap.size≤b)→(C.x9 b∨C.pL b∨C.w0.heap.size≤b∧b∉w.heap.size::C.ds):=fun {b} h=>by
  rcases h with h |h
  ·have aa:=h.1
   exact h.2.1.imp id fun x=>x.imp id fun x=>⟨x.1,fun hm=>(List.mem_cons.1 hm).elim (fun e=>by omega) x.2⟩
  ·exact .inr (Me h)
 have Mf:Ext I' cM (bS (C.at (w.heap.size::C.ds)) (hG A5) G fV) fV:=fun b ag=>by
  have bf:b≠l:=fun e=>y2 (e▸ag)
  obtain⟨r1,r2⟩:=iu b ag
  refine⟨⟨by rw[rM];exact r1,TS ?_,fun d ch hd bl=>(GV ((iw b).2 (.inr ⟨d,ch,hd,bl⟩))).2.1 ag⟩,vn b bf⟩
  rcases r2 with r2 |⟨d,ch,hd,hf⟩ |r2
  ·exact .inl r2
  ·rcases ke hd with⟨rfl,rfl⟩ |⟨e,hd⟩
   ·rw[vo] at hf
    rcases hf with hf |⟨d,ch,hd,hf⟩
    ·exact absurd hf bf
    ·exact .inr (.inl ⟨d,ch,(oV hd).1,hf⟩)
   ·rw[sS e] at hf
    exact .inr (.inl ⟨d,ch,qH hd,hf⟩)
  ·exact .inr (.inr r2)
 refine bh .gf mV (hG A5) (w.heap.size::C.ds) (fun h=>by rw[hid] at h;cases h) tX _ _ ⟨hn,?_,qE,G,⟨?_,?_,?_,fU,?_,?_,az.marks.2.1,?_⟩,?_⟩
 ·show[wq w.heap.size]++a.defers=List.map wq (w.heap.size::C.ds)
  rw[hd];rfl
 ·refine(az.ja.trans (S':=fun b=>b=l∨ ∃d ch,ax (jE++hG iO) d=some ch∧F d b) ?_ fun b ag h=>?_)
  ·have f1:Fr (fun b=>b=l∨ ∃d ch,ax (jE++hG iO) d=some ch∧F d b) w cx:=Fr.q2 p4
   have f4:Fr (fun b=>b=l) cM fV:=⟨xk.1,xk.2.1,xk.2.2,Nat.le_of_eq rM.symm,fun b _ ag=>vn b ag⟩
   refine(f1.trans cv ?_).trans f4 fun b _ ag=>.inl ag
   rintro b _ ⟨d,ch,hd,hf⟩
   rcases ke hd with⟨rfl,rfl⟩ |⟨e,hd⟩
   ·rw[vo] at hf
    exact hf.imp id fun⟨d,ch,hd,hf⟩=>⟨d,ch,(oV hd).1,hf⟩
   ·rw[sS e] at hf
    exact .inr ⟨d,ch,qH hd,hf⟩
  ·have z0:=az.ja.size
   rcases h with h |⟨d,ch,hd,hf⟩
   ·omega
   ·rcases(az.own d ch hd b hf).2 with h |h
    ·exact h
    ·have:=h.1;omega
 ·exact fun d ch hd=>Holds.cA Mf (fun b ag=>vn b (fun e=>yZ d ch hd (e▸ag))) (Nat.le_of_eq rM.symm) ch (fun _ _=>rfl) (c5 d ch hd)
 ·intro d ch hd b ag
  obtain⟨r1,r2,gv⟩:=GV ((iw b).2 (.inr ⟨d,ch,hd,ag⟩))
  have bf:b≠l:=fun e=>yZ d ch hd (e▸ag)
  exact⟨by rw[rM];exact r1,Me (gv.resolve_left bf)⟩
 ·exact fun d hd=>(xg d (EX d hd)).trans (az.keep d hd)
 ·exact List.nodup_cons.2 ⟨fun h=>by have:=(az.marks.2.2 _ h).1;omega,az.marks.1⟩
 ·intro D bW
  have GW:D≠l∧D < cx.heap.size∧cx.heap[D]? =some (.deferred (some []))∧C.w0.heap.size≤D:=by
   rcases List.mem_cons.1 bW with rfl |bW
   ·exact⟨by omega,by omega,TN,az.ja.size⟩
   ·obtain⟨r1,r2,gv⟩:=az.marks.2.2 D bW
    exact⟨by omega,by omega,(p4.block D r1).trans r2,gv⟩
  obtain⟨s1,s2,uU,yz⟩:=GW
  have y4: ¬ ∃d ch,ax (jE++[(c,bF.obj (fu iO))]) d=some ch∧cG d D:=by
   rintro⟨d,ch,hd,hf⟩
   have ec: ∃d ch,ax (jE++hG iO) d=some ch∧F d D:=by
    rcases ke hd with⟨rfl,rfl⟩ |⟨e,hd⟩
    ·rw[vo] at hf
     rcases hf with hf |⟨d,ch,hd,hf⟩
     ·exact absurd hf s1
     ·exact⟨d,ch,(oV hd).1,hf⟩
    ·rw[sS e] at hf
     exact⟨d,ch,qH hd,hf⟩
   obtain⟨d,ch,hd,hf⟩:=ec
   obtain⟨r1,r2⟩:=az.own d ch hd D hf
   rcases List.mem_cons.1 bW with rfl |bW
   ·omega
   ·rcases r2 with r2 |r2
    ·have:=az.marks.2.1 D (.inr r2);omega
    ·exact r2.2 bW
  exact⟨by rw[rM];omega,(vn D s1).trans ((cv.block D s2 y4).trans uU),yz⟩
 ·intro t
  exact cj.mono (kG.trans Mf) _ _ (fun j ak=>xg j (aN.ku (GK e8 t) ak)) (pS t)
end
end Go.Proofs.YteoamepgonpdlaaGreat
namespace Go.Proofs.YteoamepgonpdlaaGreat
set_option linter.unusedVariables false
set_option linter.unusedSimpArgs false
open Go.RowKit
open Go.ChangeMaps (setBlock map_eraseIdx)
section
variable {P:Program} {ids:List Nat} {K:aQ} {B:aG}
theorem TT {o:Oper} {T gB e':TypeId} {x:Operand} {c:Nat} (av:o.op= .binOp .eql T x (.const (.slice none 0 0)) gB) (hx:aU K x= .c (.one (.own c))) {e:TypeId} {u:U} {xs:List (aJ u)} (hc:ax B c=some (.row e u xs)) (cu:P.underlying T=some (.slice e')):
  Dj P ids o K B (fun v GX=> ∃b:Bool,(b=true→xs=[])∧v= .c (.one (.d (.lit b)))∧GX=⟨[c],[],[]⟩):=by
 rintro N C a w ⟨hn,hd,ρ,F,az,hS⟩ bH fl Q hK
 obtain⟨hF,tQ,cs,dF,kU⟩:=az.holds c _ hc
 have ai:a.eval x=(ρ c).hdr:=hS.ev hx
 have ef:(execOp a.eval o).run P w= .ok (.value (.bool (ρ c).A.isNone)) w:=by
  simp only[execOp,av,ai,bn.hdr]
  have aq:a.eval (.const (.slice none 0 0))= .slice none 0 0:=rfl
  have h:=Lib.run_eql_slice_nil (P:=P) w T e' (ρ c).A (ρ c).n (ρ c).cap 0 0 cu
  simp[aq,h,Result.andThen,eqGuard]
 unfold Oper.wp
 rw[ef,Oper.upon_value]
 refine hK (.c (.one (.d (.lit (ρ c).A.isNone)))) ⟨[c],[],[]⟩ _ _ ⟨_,fun ag=>?_,rfl,rfl⟩ ⟨lz.trans hn,put_defers.trans hd,ρ,F,az,hS.lB (fun e he=>by rw[hn];exact bH e he) rfl⟩
 rcases dF.2 with⟨_,h⟩ |⟨g,cap,cur,h,_⟩
 ·exact List.eq_nil_of_length_eq_zero h
 ·have aa:(ρ c).A=some ⟨g,0,none⟩:=by simp only[bn.hdr] at h;injection h
  rw[aa] at ag
  cases ag
end
end Go.Proofs.YteoamepgonpdlaaGreat
namespace Go.Proofs.YteoamepgonpdlaaGreat
set_option linter.unusedVariables false
set_option linter.unusedSimpArgs false
open Go.RowKit
def uk (x:D):bK where
 R:=fun I F w p=>Holds (fun _=>p) I F w p (.cells [.d x])
 cA:=fun I F w I' w' p h he hF aS=>Holds.cA he hF aS (.cells [.d x]) (fun _ _=>rfl) h
theorem TU {c:Nat} {x:D}: ∀I F w p,mX c [(c,.cells [.d x])] I F w p→(uk x).R I F w p:=by
 rintro I F w p ⟨ρ,G,aa,af,aA,bE⟩
 have h:=af c _ (by rw[cC,if_pos rfl])
 rw[aa] at h
 have oo:F=G c:=by
  funext b
  refine propext ((bE b).trans ⟨?_,fun g=>⟨c,_,by rw[cC,if_pos rfl],g⟩⟩)
  rintro⟨d,ch,e,g⟩
  rw[cC] at e
  split at e
  ·rename_i aq
   rw[←aq] at g
   exact g
  ·cases e
 rw[oo]
 exact Holds.cA (Ext.refl _ _) (fun _ _=>rfl) (Nat.le_refl _) (.cells [.d x]) (fun d hd=>by cases hd) h
section
variable {P:Program} {ids:List Nat} {K:aQ} {B:aG}
theorem TV {o:Oper} {T gB e':TypeId} {x:Operand} {u:U} {xs:List (aJ u)} (av:o.op= .binOp .eql T x (.const (.slice none 0 0)) gB) (hx:aU K x= .c (.one (.d (.cW u xs)))) (cu:P.underlying T=some (.slice e')):
  Dj P ids o K B (fun v GX=> ∃b:Bool,(b=true→xs=[])∧v= .c (.one (.d (.lit b)))∧GX=⟨[],[],[]⟩):=by
 rintro N C a w ⟨hn,hd,ρ,F,az,hS⟩ bH fl Q hK
 obtain⟨A,cap,ai,af,aA,bE⟩:Den (bS C B F w) w (.cW u xs) (a.eval x):=hS.ev hx
 injection ai with ai
 have ef:(execOp a.eval o).run P w= .ok (.value (.bool A.isNone)) w:=by
  simp only[execOp,av,ai]
  have aq:a.eval (.const (.slice none 0 0))= .slice none 0 0:=rfl
  have h:=Lib.run_eql_slice_nil (P:=P) w T e' A (List.length xs) cap 0 0 cu
  simp[aq,h,Result.andThen,eqGuard]
 unfold Oper.wp
 rw[ef,Oper.upon_value]
 refine hK (.c (.one (.d (.lit A.isNone)))) ⟨[],[],[]⟩ _ _ ⟨_,fun ag=>?_,rfl,rfl⟩ ⟨lz.trans hn,put_defers.trans hd,ρ,F,az,hS.lB (fun e he=>by rw[hn];exact bH e he) rfl⟩
 rcases Nat.eq_zero_or_pos (List.length xs) with h |h
 ·exact List.eq_nil_of_length_eq_zero h
 ·obtain⟨b,q,hA,_⟩:=bE h
  rw[hA] at ag
  cases ag
theorem j9.box (s c q:Nat) {x:D} {L:List (Nat×bK)} (hs:look K s= .c (.one (.ptr c 0))) (hc:ax B c=some (.cells [.d x])) (bf:c≠q) (bh:ax B q=some (.obj (.cO L))):
  j9 ids K B (fun b:Nat=>(s,.c (.one (.d (.aW (some b)))))::K) (fun b=>(q,.obj (.cO ((b,uk x)::L)))::g8 ((c,.obj ((uk x).at b))::(c,.obj (uk x))::g8 B c) c):=by
 intro N C a w h
 have aa:=ah.close (ids:=ids) (K:=K) (B:=B) c [(c,.cells [.d x])] (o:=uk x) ⟨hc,trivial⟩ (by simp[cS]) TU N C a w h
 obtain⟨b,af⟩:=j9.name (ids:=ids) s c (o:=uk x) hs (by rw[cC,if_pos rfl]) N C a w aa
 refine⟨b,?_⟩
 have TW:ax ((c,bF.obj ((uk x).at b))::(c,.obj (uk x))::rI (cS [(c,bF.cells [.d x])]) B) q=some (.obj (.cO L)):=by
  rw[cC,if_neg bf,cC,if_neg bf]
  show ax (g8 B c) q=_
  rw[jR,if_neg bf]
  exact bh
 exact ah.put (ids:=ids) q c (o:=uk x) (b:=b) (L:=L) bf TW (by rw[cC,if_pos rfl]) N C a w af
end
theorem aE.ro {P:Program} {N:Nat} {ids:List Nat} {K:aQ} {B:aG} {c:Code} {Q:Ag} (f:Nat) (dn:N≤1000000) (h:aE P N ids c ((1000000+f,.undef)::K) B Q):aE P N ids c K B Q:=by
 intro r hr C gJ bh a w hs
 refine h r hr C gJ bh a w ?_
 obtain⟨hn,hd,ρ,F,az,hS⟩:=hs
 refine⟨hn,hd,ρ,F,az,fun s=>?_⟩
 rw[kF]
 split
 ·rename_i e
  subst e
  show a.tmps.getD (1000000+f) undef=undef
  rw[Array.getD_eq_getD_getElem?,Array.getElem?_eq_none (by omega)]
  rfl
 ·exact hS s
theorem A8 {P:Program} {ids:List Nat} {K:aQ} {B:aG} {o:Oper} {f:FuncId} {c:Call} {xs:List Operand} {aP:aG} {res:aN} {aZ:aG} (av:o.op= .call c) (aa:c.callee= .value (.func f)) (af:c.args.toList=xs) (hf:Fn P f (xs.map (aU K)) aP [] res aZ) (iN:nA B aP) (bD:oI aP [] aZ=true) (mq: ∀c,ax aZ c=ax aP c) (N:Nat):
  bI P N ids o K B res ⟨cS aP,[],[]⟩:=by
 obtain⟨v,e,⟨rfl,rfl⟩,aT,_⟩:cw P N ids o K B (fun v e=>v=res∧e=⟨cS aP,[],jy aP aZ⟩):=KR av aa af ⟨aP,[],res,aZ,hf,iN,by rw[bD];rfl,by rw[tH];exact⟨rfl,rfl⟩⟩
 intro K' B' g1 g2 bL C a w hs bH fl Q hK
 refine aT K' B' g1 g2 bL C a w hs bH fl Q fun a' w' dH=>hK a' w' (dH.congr (fun _=>rfl) fun d=>?_)
 show ax B' d=ax (e5 (jy aP aZ) B') d
 rw[CT aP aP [] aZ B' bD,mq]
 cases hd:ax aP d with
 |none=>
  simp only
  rw[if_neg fun au=>by obtain⟨ch,h⟩:=gi.1 au;rw[hd] at h;cases h]
 |some ch=>exact(g2 d (gi.2 ⟨ch,hd⟩)).trans (kq iN hd)
theorem aE.TX {P:Program} {N:Nat} {ids:List Nat} {K:aQ} {B:aG} {c:Code} {Q:Ag} (d:Nat) (dn:N≤1000000) (h:aE P N ids c ((1000000+(1000000+d),.undef)::K) B Q):aE P N ids c K B Q:=aE.ro (1000000+d) dn h
theorem TY {P:Program} {ids:List Nat} {K:aQ} {B:aG} {o:Oper} {T e d:Nat} {x:Operand} {s:List UInt8} {inf:TypeInfo} (av:o.op= .buildSlice T 1 #[(0,x)]) (cu:P.underlying T=some (.slice e)) (ay:P.info? e=some inf) (aS:inf.zero=some (.string ⟨#[]⟩)) (hs:inf.size=1)
  (hx:aU K x= .c (.one (.d (.str s)))) (N:Nat):bI P N ids o K B (.c (.one (.own d))) ⟨[],[d],[(d,some (.row e .str [s]))]⟩:=by
 have bw:x∈o.op.operands:=by rw[av];simp[Op.operands]
 refine bI.make (fun d h=>yA h) fun K' B' g1 g2 C ρ F a w az hS hn=>?_
 have ai:a.eval x= .string ⟨List.toArray s⟩:=hS.ev ((g1 x bw).trans hx)
 refine⟨.slice (some ⟨w.heap.size,0,none⟩) 1 1,w.alloc (.cells (List.toArray [.string ⟨List.toArray s⟩]) e),⟨w.heap.size,some ⟨w.heap.size,0,none⟩,1,1⟩,fun b=>b=w.heap.size,?_,tE w _,fun b ag=>(by subst ag;exact⟨Nat.le_refl _,by simp⟩),fun I he ag=>⟨⟨?_,?_,[.string ⟨List.toArray s⟩],?_,fun i y aF=>?_⟩,?_⟩⟩
 ·have ef:=run_buildSlice (P:=P) w T e 1 (#[(0,x)].map fun p=>(p.1,a.eval p.2)) (List.toArray [.string ⟨List.toArray s⟩]) inf (.string ⟨#[]⟩) cu ay aS (by rw[hs];decide)
   (by rw[hs];decide) (by
    rw[hs]
    have ev:(Value.string ⟨List.toArray s⟩).cells= #[.string ⟨List.toArray s⟩]:=rfl
    simp[ai,Instr.fill,ev]
    rw[show Array.range 1= #[0] from rfl]
    simp)
  unfold execOp
  simp only[av,Sem.run_bind,ef,Result.andThen_ok]
  rfl
 ·intro b
  show b=w.heap.size↔some w.heap.size=some b
  rw[Option.some.injEq]
  exact eq_comm
 ·intro b ag
  have ag:some w.heap.size=some b:=ag
  injection ag with ag
  exact ag.symm
 ·exact Ar w e 1 1 [.string ⟨List.toArray s⟩] rfl (by decide)
 ·match i with
  |0=>
   have aF:some s=some y:=aF
   injection aF with aF
   subst aF
   rfl
  |i+1=>
   have aF:(none:Option (List UInt8))=some y:=aF
   cases aF
 ·simp only[cj,fS,dI,dN]
  rfl
end Go.Proofs.YteoamepgonpdlaaGreat
namespace Go.Proofs.YteoamepgonpdlaaGreat
set_option linter.unusedVariables false
set_option linter.unusedSimpArgs false
open Go.RowKit
def Dr:bx→Value
 | .d (.int k n)=>.int k n
 | .d (.bool b)=>.bool b
 | .d (.lit b)=>.bool b
 | .d (.str s)=>.string ⟨List.toArray s⟩
 |_=>.nilFunc
def xl:bx→Lit
 | .d (.int k n)=>.int k n
 | .d (.bool b)=>.bool b
 | .d (.lit b)=>.bool b
 | .d (.str s)=>.string s
 |_=>.nil
def GY:bx→Bool
 | .d (.int _ _)=>true
 | .d (.bool _)=>true
 | .d (.lit _)=>true
 | .d (.str _)=>true
 |_=>false
def kf:List bx→List Value
 | []=>[]
 |s::l=>Dr s::kf l
def gY:List bx→List Lit
 | []=>[]
 |s::l=>xl s::gY l
def xm:List bx→Bool
 | []=>true
 |s::l=>GY s&&xm l
theorem A9 {ρ:Nat→bn} {I:Nat→Prop} {w:World}: ∀{l:List bx} {vs:List Value},xm l=true→bZ ρ I w l vs→vs=kf l
 | [],vs,_,h=>h
 |s::l,vs,hp,⟨v,r,e,aa,af⟩=>by
  simp only[xm,Bool.and_eq_true] at hp
  have aA:=A9 hp.2 af
  subst aA e
  have:v=Dr s:=by
   cases s with
   |d x=>cases x <;>first |exact aa |(simp[GY] at hp;done)
   |_=>simp[GY] at hp
  rw[this]
  rfl
section
variable {P:Program} {tt:c4} {ids:List Nat} {K:aQ} {B:aG}
theorem GZ {o:Oper} {T gB:TypeId} {x y:Operand} {lx ly:List bx} {m D:Nat} (av:o.op= .binOp .eql T x y gB) (bl:P.eqGuardType P.depth T=false) (au:P.keyTypeAt m T=true) (hm:m≤10000)
  (hx:aU K x= .c (.agg lx)) (aF:aU K y= .c (.agg ly)) (gh:(xm lx&&xm ly)=true) (G0:(Value.agg (List.toArray (kf lx))).formed P T=true) (G1:(Value.agg (List.toArray (kf ly))).formed P T=true)
  (G2:P.keyLits D T (kf lx)=some (gY lx)) (G3:P.keyLits D T (kf ly)=some (gY ly)) {r:Bool} (hr:r=true↔gY lx=gY ly) (N:Nat):bI P N ids o K B (.c (.one (.d (.bool r)))) ⟨[],[],[]⟩:=by
 have bw:x∈o.op.operands:=by rw[av];simp[Op.operands]
 have bX:y∈o.op.operands:=by rw[av];simp[Op.operands]
 simp only[Bool.and_eq_true] at gh
 refine bI.val fun K' B' g1 g2 C ρ F a w az hS=>?_
 obtain⟨vs,ai,aa⟩:=hS.ev ((g1 x bw).trans hx)
 obtain⟨us,aq,af⟩:=hS.ev ((g1 y bX).trans aF)
 have aa:=A9 gh.1 aa
 have af:=A9 gh.2 af
 subst aa af
 obtain⟨q,bh,qs⟩:=run_equalIn_deep (P:=P) (10000 - m) m T au w D D (.agg (List.toArray (kf lx))) (.agg (List.toArray (kf ly))) (gY lx) (gY ly) G0 G1 (by simpa[Value.cells] using G2) (by simpa[Value.cells] using G3)
 rw[show 10000 - m+m=10000 by omega] at bh
 have G4:q=r:=by
  cases q <;>cases r
  ·rfl
  ·exact absurd (qs.2 (hr.1 rfl)) (by simp)
  ·exact absurd (hr.2 (qs.1 rfl)) (by simp)
  ·rfl
 subst G4
 refine⟨.bool q,?_,rfl⟩
 simp only[execOp,av,ai,aq,Sem.run_bind,run_eqGuard_agg w .eql T x y _ _ bl,Result.andThen_ok,run_eql_struct,bh,Sem.run_pure]
theorem G5 {o:Oper} {T:TypeId} {x:Operand} {f:Nat} {l:List bx} {fs:Array Field} {fd:Field} {d:TypeDesc} {s:bx} (av:o.op= .field T x f) (cu:P.underlying T=some (.struct fs)) (oJ:fs[f]? =some fd) (hd:P.underlying fd.type=some d) (jz:d.isRow=false)
  (hx:aU K x= .c (.agg l)) (hs:l[fd.offset]? =some s) (N:Nat):bI P N ids o K B (.c (.one s)) ⟨[],[],[]⟩:=by
 have bw:x∈o.op.operands:=by rw[av];simp[Op.operands]
 refine bI.val fun K' B' g1 g2 C ρ F a w az hS=>?_
 obtain⟨vs,ai,aa⟩:=hS.ev ((g1 x bw).trans hx)
 obtain⟨v,hv,ep⟩:=bZ.get _ _ aa fd.offset s hs
 refine⟨v,?_,ep⟩
 have G6:(Go.isAgg fd.type).run P w= .ok false w:=by cases d <;>first |(simp[TypeDesc.isRow] at jz;done) |simp[Go.isAgg,run_underlying hd]
 have rD:(List.toArray vs)[fd.offset]? =some v:=by simpa using hv
 simp only[execOp,av,ai,Instr.field,Sem.run_bind,run_underlying cu,Result.andThen_ok,oJ,asAgg,Sem.run_pure,part,G6,Bool.false_eq_true,if_false,rD]
theorem G7 {n:Nat} {u:U} (g:List (aJ u)) (i q:Nat) (bh:q < aM u):eW (.arr n u) g (i*aM u+q)=eW u (List.getD g i (dflt u)) q:=by
 show eW u (List.getD g ((i*aM u+q)/aM u) (dflt u)) ((i*aM u+q) % aM u)=_
 rw[show(i*aM u+q)/aM u=i by rw[Nat.mul_comm,Nat.mul_add_div (by omega),Nat.div_eq_of_lt bh,Nat.add_zero],show(i*aM u+q) % aM u=q by rw[Nat.mul_comm,Nat.mul_add_mod,Nat.mod_eq_of_lt bh]]
theorem TZ {o:Oper} {T:TypeId} {x i:Operand} {n e:Nat} {inf:TypeInfo} {d:TypeDesc} {u:U} {g:List (aJ u)} {j:Int} (av:o.op= .index T x i) (cu:P.underlying T=some (.array n e)) (he:P.underlying e=some d) (jz:d.isRow=true) (ay:P.info? e=some inf) (aS:inf.size=aM u)
  (hx:aU K x= .c (.agg (fE (.arr n u) g 0 (n*aM u)))) (ak:aU K i= .c (.one (.d (.int .i64 j)))) (aC:0≤j) (aa:j < n) (N:Nat):bI P N ids o K B (.c (.agg (fE u (List.getD g j.toNat (dflt u)) 0 (aM u)))) ⟨[],[],[]⟩:=by
 have bw:x∈o.op.operands:=by rw[av];simp[Op.operands]
 have bX:i∈o.op.operands:=by rw[av];simp[Op.operands]
 refine bI.val fun K' B' g1 g2 C ρ F a w az hS=>?_
 obtain⟨vs,ai,hd⟩:=hS.ev ((g1 x bw).trans hx)
 have aq:=hS.int ((g1 i bX).trans ak)
 have hlen:vs.length=n*aM u:=(bZ.length _ _ hd).trans (q8 (.arr n u) g _ _)
 have G6:(Go.isAgg e).run P w= .ok true w:=by cases d <;>first |(simp[TypeDesc.isRow] at jz;done) |simp[Go.isAgg,run_underlying he]
 have ek:(sizeOf e).run P w= .ok (aM u) w:=by simp[sizeOf,typeInfo,ay,aS]
 have hle:j.toNat*aM u+aM u≤n*aM u:=by
  have:=Nat.mul_le_mul_right (aM u) (show j.toNat+1≤n by omega)
  rw[Nat.succ_mul] at this
  exact this
 refine⟨.agg ((List.toArray vs).extract (j.toNat*aM u) (j.toNat*aM u+aM u)),?_,(vs.drop (j.toNat*aM u)).take (aM u),by simp[List.extract],?_⟩
 ·simp[execOp,av,ai,aq,Instr.index,asIntOf,run_underlying cu,aC,aa,ek,part,G6]
 ·have key: ∀(m iy:Nat),iy+m≤aM u→bZ ρ (bS C B' F w) w (fE u (List.getD g j.toNat (dflt u)) iy m) ((vs.drop (j.toNat*aM u+iy)).take m):=fun m=>by
   induction m with
   |zero=>intro iy _;simp[fE,bZ]
   |succ m aY=>
    intro iy hm
    have bH:j.toNat*aM u+iy < n*aM u:=by omega
    obtain⟨v,hv,sD⟩:=bZ.get _ _ hd _ _ (yw (.arr n u) g (n*aM u) 0 (j.toNat*aM u+iy) bH)
    have G8:vs.drop (j.toNat*aM u+iy)=v::vs.drop (j.toNat*aM u+(iy+1)):=by
     obtain⟨aB,mT⟩:=List.getElem?_eq_some_iff.1 hv
     rw[List.drop_eq_getElem_cons aB,mT,Nat.add_assoc]
    rw[G8,List.take_succ_cons]
    refine⟨v,_,rfl,?_,aY (iy+1) (by omega)⟩
    have hc:eW (.arr n u) g (0+(j.toNat*aM u+iy))=eW u (List.getD g j.toNat (dflt u)) iy:=by
     rw[Nat.zero_add]
     exact G7 g _ _ (by omega)
    rw[hc] at sD
    exact sD
  exact key (aM u) 0 (by omega)
theorem ah.T1 (c:Nat) {u:U} {x:aJ u} (hw:nt u x) (hc:ax B c=some (.cells (fE u x 0 (aM u)))):ah ids K B K ((c,.val u x)::B):=by
 rintro N C a w ⟨hn,hd,ρ,F,az,hS⟩
 obtain⟨hF,vs,T,ag,ep⟩:=az.holds c _ hc
 obtain⟨bT,bA⟩:=az.jV (w':=w) (ch:=.val u x) hc (Fr.refl _ _) fun I bC=>⟨hF,vs,T,ag,by rw[bZ.length _ _ ep,q8],yx hw (bZ.mono (ρ':=ρ) bC _ _ (fun _ _=>rfl) ep)⟩
 exact⟨hn,hd,ρ,F,bT,hS.mono bA fun _ _ _=>rfl⟩
theorem T2 {o:Oper} {T:TypeId} {x i:Operand} {n e c:Nat} {inf:TypeInfo} {s:Nat} {j:Int} (av:o.op= .indexAddr T x i) (cu:P.underlying T=some (.array n e)) (ay:P.info? e=some inf) (aS:inf.size=s)
  (hx:aU K x= .c (.one (.ptr c 0))) (ak:aU K i= .c (.one (.d (.int .i64 j)))) (aC:0≤j) (aa:j < n) (N:Nat):bI P N ids o K B (.c (.one (.fh c s j.toNat 0))) ⟨[],[],[]⟩:=by
 have bw:x∈o.op.operands:=by rw[av];simp[Op.operands]
 have bX:i∈o.op.operands:=by rw[av];simp[Op.operands]
 refine bI.val fun K' B' g1 g2 C ρ F a w az hS=>?_
 have ai:=hS.ptr ((g1 x bw).trans hx)
 have aq:=hS.int ((g1 i bX).trans ak)
 have ek:(sizeOf e).run P w= .ok s w:=by simp[sizeOf,typeInfo,ay,aS]
 refine⟨.pointer (some ⟨(ρ c).bO,j.toNat*s,none⟩),?_,rfl⟩
 simp[execOp,av,ai,aq,Instr.indexAt,asIntOf,run_underlying cu,aC,aa,ek,Instr.sureAddr,ql]
theorem T3 {I:Nat→Prop} {w:World} {n:Nat} {u:U} {g:List (aJ u)} {c:Nat→Option Value} (hd:cg I w (.arr n u) g c) {y:aJ u} {j:Nat} {cs:List Value} (aB:cs.length=aM u) (aF:cg I w u y (fun i=>cs[i]?)) (ak:j < n):
  cg I w (.arr n u) (g.set j y) (fun i=>if j*aM u≤i∧i < j*aM u+aM u then cs[i - j*aM u]? else c i):=by
 obtain⟨aa,af⟩:=hd
 refine⟨by rw[List.length_set];exact aa,fun i z aS=>?_⟩
 unfold ff at aS
 rw[List.getElem?_set] at aS
 split at aS
 ·rename_i e
  subst e
  split at aS
  ·injection aS with aS
   subst aS
   refine cg.mono (Ext.refl _ _) u y _ _ (fun q v hv=>?_) aF
   have bh:q < aM u:=by rw[←aB];exact(List.getElem?_eq_some_iff.1 hv).1
   simp only
   rw[if_pos ⟨by omega,by omega⟩,show j*aM u+q - j*aM u=q by omega]
   exact hv
  ·cases aS
 ·rename_i bf
  have Ba:=af i z aS
  rcases Nat.eq_zero_or_pos (aM u) with aC |aC
  ·refine cg.mono (Ext.refl _ _) u z _ _ (fun q v hv=>?_) Ba
   simp only
   rw[if_neg (by omega)]
   exact hv
  ·refine cg.mk u z _ (cg.wf u z _ Ba) fun q bh=>?_
   obtain⟨v,hv,sD⟩:=cg.cell u z _ q Ba bh
   refine⟨v,?_,sD⟩
   simp only
   rw[if_neg ?_]
   ·exact hv
   ·rintro⟨ct,cB⟩
    rcases Nat.lt_or_gt_of_ne bf with bH |tN
    ·have:=Nat.mul_le_mul_right (aM u) (show j+1≤i by omega)
     rw[Nat.succ_mul] at this
     omega
    ·have:=Nat.mul_le_mul_right (aM u) (show i+1≤j by omega)
     rw[Nat.succ_mul] at this
     omega
theorem T4 {o:Oper} {T:TypeId} {x v:Operand} {c n j:Nat} {u:U} {g:List (aJ u)} {y:aJ u} {inf:TypeInfo} (av:o.op= .store T x v) (ay:P.info? T=some inf) (aS:inf.size=aM u) (hx:aU K x= .c (.one (.fh c (aM u) j 0))) (ak:j < n)
  (hc:ax B c=some (.val (.arr n u) g)) (hv:aU K v= .c (.agg (fE u y 0 (aM u)))) (hw:nt u y) (N:Nat):bI P N ids o K B .undef ⟨[c],[],[(c,some (.val (.arr n u) (g.set j y)))]⟩:=by
 have bw:x∈o.op.operands:=by rw[av];simp[Op.operands]
 have bX:v∈o.op.operands:=by rw[av];simp[Op.operands]
 refine bI.jV hc fun K' B' g1 C ρ F a w az hS gC=>?_
 obtain⟨hF,vs,eG,ag,hlen,ep⟩:=az.holds c _ gC
 have ai:=hS.fh ((g1 x bw).trans hx)
 obtain⟨us,aq,af⟩:=hS.ev ((g1 v bX).trans hv)
 have xo:us.length=aM u:=by rw[bZ.length _ _ af,q8]
 have Bb:=yx hw af
 have nE:j*aM u+us.length≤vs.length:=by
  have:=Nat.mul_le_mul_right (aM u) (show j+1≤n by omega)
  rw[Nat.succ_mul] at this
  rw[hlen,xo]
  exact this
 have q7: ∀z,z∈us→z.oneCell'=true:=fun z aS=>by
  obtain⟨q,bh,rfl⟩:=List.getElem_of_mem aS
  obtain⟨z',lH,qq⟩:=cg.one u y _ Bb q (by omega)
  rw[List.getElem?_eq_getElem bh] at lH
  injection lH with lH
  rw[lH]
  exact qq
 have ef:=yu (P:=P) (o:=o) (ev:=a.eval) (w:=w) (us:=us) av (by rw[ai,Nat.add_zero]) (by rw[aq];rfl) ay (aS.trans xo.symm) ag nE q7
 have iM:(w.setRow (ρ c).bO (List.toArray (vs.take (j*aM u)++us++vs.drop (j*aM u+us.length)))).heap[(ρ c).bO]? =some (.cells (List.toArray (vs.take (j*aM u)++us++vs.drop (j*aM u+us.length))) eG (0,0)):=setRow_heap w _ _ _ eG _ ag
 refine⟨_,ef,⟨rfl,rfl,rfl,by simp[World.setRow],fun k _ au=>setRow_other w _ k _ (fun e=>au ((hF k).2 e))⟩,fun I bA=>⟨hF,_,eG,iM,?_,?_⟩⟩
 ·rw[List.length_append,List.length_append,List.length_take,List.length_drop]
  omega
 ·refine cg.mk (.arr n u) (g.set j y) _ ?_ ?_
  ·have Mg:=cg.wf (.arr n u) g _ ep
   refine⟨by rw[List.length_set];exact Mg.1,fun z aS=>?_⟩
   rcases List.mem_or_eq_of_mem_set aS with aS |rfl
   ·exact Mg.2 z aS
   ·exact hw
  ·intro q bh
   have j7:=T3 ep (y:=y) (j:=j) xo Bb ak
   obtain⟨z,aS,ya⟩:=cg.cell (.arr n u) _ _ q j7 bh
   refine⟨z,?_,Den.mono bA _ _ ya⟩
   rw[←aS]
   have Mh:q < vs.length:=by rw[hlen];exact bh
   split
   ·rename_i dU
    rw[List.append_assoc,List.getElem?_append_right (by rw[List.length_take];omega),List.length_take,List.getElem?_append_left (by omega)]
    congr 1
    omega
   ·rename_i nK
    rcases Nat.lt_or_ge q (j*aM u) with bH |uN
    ·rw[List.append_assoc,List.getElem?_append_left (by rw[List.length_take];omega),List.getElem?_take,if_pos bH]
    ·have:j*aM u+aM u≤q:=by
      rcases Nat.lt_or_ge q (j*aM u+aM u) with h |h
      ·exact absurd ⟨uN,h⟩ nK
      ·exact h
     rw[List.getElem?_append_right (by rw[List.length_append,List.length_take];omega),List.length_append,List.length_take,List.getElem?_drop]
     congr 1
     omega
theorem Mi {o:Oper} {T:TypeId} {x:Operand} {c:Nat} {u:U} {y:aJ u} {inf:TypeInfo} {d:TypeDesc} (av:o.op= .load T x) (cu:P.underlying T=some d) (jz:d.isRow=true) (ay:P.info? T=some inf) (aS:inf.size=aM u) (hx:aU K x= .c (.one (.ptr c 0)))
  (hc:ax B c=some (.val u y)) (N:Nat):bI P N ids o K B (.c (.agg (fE u y 0 (aM u)))) ⟨[c],[],[]⟩:=by
 have bw:x∈o.op.operands:=by rw[av];simp[Op.operands]
 refine bI.val fun K' B' g1 g2 C ρ F a w az hS=>?_
 obtain⟨hF,vs,eG,ag,hlen,ep⟩:=az.holds c _ ((g2 c (by simp)).trans hc)
 have ai:=hS.ptr ((g1 x bw).trans hx)
 obtain⟨us,aa,af⟩:=CI (ρ:=ρ) ep (aM u) 0 (by omega)
 refine⟨_,FN (cs:=us) av ai cu jz ay (by rw[bZ.length _ _ aa,q8];exact aS) (fun j v ak=>?_),us,rfl,aa⟩
 have:=af j v ak
 exact cell_of ag this
theorem T5 {tt:c4} (aX:dP P tt) {o:Oper} {T n e:Nat} {ti:cD} (av:o.op= .build T #[]) (cl:tt.find T=some ti) (cu:P.underlying T=some (.array n e)) {T6:TypeInfo} (T7:P.info? e=some T6) (jz:ti.row=true) (N:Nat):bI P N ids o K B (.c (.agg ti.zero)) ⟨[],[],[]⟩:=by
 refine bI.val fun K' B' g1 g2 C ρ F a w az hS=>?_
 obtain⟨i,d,bD⟩:=aX.at_ cl
 obtain⟨z,aS,pP⟩:=bD.zero
 obtain⟨fq,nG⟩:=uV (ρ:=ρ) (I:=bS C B' F w) (w:=w) _ _ pP
 refine⟨.agg z.cells,?_,z.cells.toList,by simp,fq⟩
 simp[execOp,av,Instr.build,zeroValue,typeInfo,bD.info,aS,run_underlying cu,sizeOf,T7,Instr.fill]
theorem T8 {o:Oper} {T e d:Nat} {x y:Operand} {inf:TypeInfo} {n:Int} (av:o.op= .makeSlice T x y) (cu:P.underlying T=some (.slice e)) (ay:P.info? e=some inf) (aS:inf.zero=some (.int .i64 0)) (hs:inf.size=1) (ag:inf.bytes=8)
  (hx:aU K x= .c (.one (.d (.int .i64 n)))) (aF:aU K y= .c (.one (.d (.int .i64 n)))) (aC:0≤n) (aa:n≤1000000) (N:Nat):bI P N ids o K B (.c (.one (.own d))) ⟨[],[d],[(d,some (.row e (.int .i64) (List.replicate n.toNat (0:Int))))]⟩:=by
 have bw:x∈o.op.operands:=by rw[av];simp[Op.operands]
 have bX:y∈o.op.operands:=by rw[av];simp[Op.operands]
 refine bI.make (fun d h=>yA h) fun K' B' g1 g2 C ρ F a w az hS hn=>?_
 have eB:=hS.int ((g1 x bw).trans hx)
 have eL:=hS.int ((g1 y bX).trans aF)
 have ef:=run_make (P:=P) w T e inf _ cu ay aS .i64 .i64 n n aC (Int.le_refl _) (by rw[ag];omega) (by omega)
 have wj:madeCells (Value.int .i64 0).cells (n.toNat*inf.size)=(List.replicate n.toNat (Value.int .i64 0)).toArray:=by
  rw[hs]
  simp[madeCells,Value.cells]
  apply Array.ext
  ·simp
  ·intro i aa af
   simp[Nat.mod_one]
 rw[wj] at ef
 refine⟨.slice (some ⟨w.heap.size,0,none⟩) n.toNat n.toNat,w.alloc (.cells (List.replicate n.toNat (.int .i64 0)).toArray e),⟨w.heap.size,some ⟨w.heap.size,0,none⟩,n.toNat,n.toNat⟩,fun b=>b=w.heap.size,?_,tE w _,fun b ag=>?_,fun I bA bC=>⟨⟨?_,?_,List.replicate n.toNat (.int .i64 0),?_,?_⟩,?_⟩⟩
 ·simp only[execOp,av,Sem.run_bind,eB,eL,ef,Result.andThen_ok,Sem.run_pure]
 ·subst ag;simp
 ·intro b
  simp[bn.hdr,Value.ownBlock,eq_comm]
 ·intro b ag
  simp[bn.hdr,Value.ownBlock] at ag
  exact ag.symm
 ·have:=Ar w e 1 n.toNat (List.replicate n.toNat (.int .i64 0)) (by simp) (by simp only[maxLen];omega)
  have ai:List.length (α:=aJ (.int .i64)) (List.replicate n.toNat (0:Int))=n.toNat:=List.length_replicate
  rw[ai]
  exact this
 ·intro i z aS
  obtain⟨ay,lH⟩:=List.getElem?_eq_some_iff.1 aS
  have qz:z=(0:Int):=by rw[←lH];exact List.getElem_replicate ..
  subst qz
  have ay:i < n.toNat:=by
   have aa:i < List.length (α:=Int) (List.replicate n.toNat (0:Int)):=ay
   rw[List.length_replicate] at aa
   exact aa
  show(List.replicate n.toNat (Value.int .i64 0))[i*1+0]? =some (.int .i64 0)
  simp[ay]
 ·simp only[cj,fS,dI,dN]
  rfl
theorem Mj (w:World) {T:TypeId} {ps rs:Array TypeId} {va:Bool} (cu:P.underlying T=some (.func ps rs va)) (f:Go.Fn) (a b:Array Value):(binOp .eql T (.func f a b) .nilFunc).run P w= .ok (.bool false) w∧(binOp .neq T (.func f a b) .nilFunc).run P w= .ok (.bool true) w:=by
 have aC: ∀d,(Op.equalIn (d+1) T (.func f a b) .nilFunc).run P w= .ok false w:=fun d=>by simp[Op.equalIn,run_underlying cu]
 have h:(Op.equalIn 10000 T (.func f a b) .nilFunc).run P w= .ok false w:=aC 9999
 constructor
 ·simp only[binOp]
  simp[Op.equal,Op.maxDepth,h]
 ·simp only[binOp]
  simp[Op.equal,Op.maxDepth,h]
theorem T9 {o:Oper} {T gB:TypeId} {x:Operand} {op:BinOp} {y:Nat×List Nat} {b:Bool} {ps rs:Array TypeId} {va:Bool} (pW:(op= .eql∧b=false)∨(op= .neq∧b=true)) (av:o.op= .binOp op T x (.const .nilFunc) gB) (cu:P.underlying T=some (.func ps rs va))
  (hx:aU K x= .c (.one (.d (.fn y)))) (N:Nat):bI P N ids o K B (.c (.one (.d (.lit b)))) ⟨[],[],[]⟩:=by
 have bw:x∈o.op.operands:=by rw[av];simp[Op.operands]
 refine bI.val fun K' B' g1 g2 C ρ F a w az hS=>?_
 have ai:a.eval x=tG y:=hS.ev ((g1 x bw).trans hx)
 refine⟨.bool b,?_,rfl⟩
 have aq:a.eval (.const .nilFunc)= .nilFunc:=rfl
 rcases pW with⟨rfl,rfl⟩ |⟨rfl,rfl⟩
 ·have h:=(Mj (P:=P) w cu (.func y.1) #[] (List.toArray (qo y.2))).1
  simp[execOp,av,ai,aq,eqGuard,tG,h]
 ·have h:=(Mj (P:=P) w cu (.func y.1) #[] (List.toArray (qo y.2))).2
  simp[execOp,av,ai,aq,eqGuard,tG,h]
theorem Mk (w:World) {T:TypeId} {ps rs:Array TypeId} {va:Bool} (cu:P.underlying T=some (.func ps rs va)):(binOp .eql T .nilFunc .nilFunc).run P w= .ok (.bool true) w∧(binOp .neq T .nilFunc .nilFunc).run P w= .ok (.bool false) w:=by
 have aC: ∀d,(Op.equalIn (d+1) T .nilFunc .nilFunc).run P w= .ok true w:=fun d=>by simp[Op.equalIn,run_underlying cu]
 have h:(Op.equalIn 10000 T .nilFunc .nilFunc).run P w= .ok true w:=aC 9999
 constructor
 ·simp only[binOp]
  simp[Op.equal,Op.maxDepth,h]
 ·simp only[binOp]
  simp[Op.equal,Op.maxDepth,h]
theorem T' {o:Oper} {T gB:TypeId} {x:Operand} {op:BinOp} {b:Bool} {ps rs:Array TypeId} {va:Bool} (pW:(op= .eql∧b=true)∨(op= .neq∧b=false)) (av:o.op= .binOp op T x (.const .nilFunc) gB) (cu:P.underlying T=some (.func ps rs va))
  (hx:aU K x= .c (.one (.raw .nilFunc))) (N:Nat):bI P N ids o K B (.c (.one (.d (.lit b)))) ⟨[],[],[]⟩:=by
 have bw:x∈o.op.operands:=by rw[av];simp[Op.operands]
 refine bI.val fun K' B' g1 g2 C ρ F a w az hS=>?_
 have ai:=hS.raw ((g1 x bw).trans hx)
 refine⟨.bool b,?_,rfl⟩
 have aq:a.eval (.const .nilFunc)= .nilFunc:=rfl
 rcases pW with⟨rfl,rfl⟩ |⟨rfl,rfl⟩
 ·have h:=(Mk (P:=P) w cu).1
  simp[execOp,av,ai,aq,eqGuard,h]
 ·have h:=(Mk (P:=P) w cu).2
  simp[execOp,av,ai,aq,eqGuard,h]
end
end Go.Proofs.YteoamepgonpdlaaGreat
