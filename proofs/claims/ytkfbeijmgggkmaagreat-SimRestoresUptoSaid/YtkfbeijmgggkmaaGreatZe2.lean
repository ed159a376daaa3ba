/-
A part of the proof of this claim: lemmas, with no condition beyond what each says.
-/
import Derived.Deep.LoopGhost
import Derived.Orders
import Derived.OrdersIn
import Derived.TacticsIn
import Derived.Sort.LoopGhostIn
import Derived.RangeFuncRecord
import Derived.Scope
import Derived.Test.YtkfbeijmgggkmaaGreatRows
import Derived.Test.YtkfbeijmgggkmaaGreatProg
import Derived.Deep.Slices
import Derived.Deep.Fields
import Derived.OpenShut
import Derived.WalkKit
import Derived.ProofKit
import Derived.JoinedCond
import Derived.Below
import Derived.Carry
import Derived.ChangeSame
import Derived.Maps.RangeRun
import Derived.DeepKeys
import Derived.Laws.MakeOwn
import Derived.Laws.StructEq
import Derived.Test.YtkfbeijmgggkmaaGreatZe1
set_option linter.all false
set_option maxRecDepth 100000
set_option maxHeartbeats 0
namespace Go.Proofs.YtkfbeijmgggkmaaGreat
open Go.RowKit Go.Proofs Tryz
section
def t1 (N:Nat):List Oper->Bool
 | []=>true
 |o::l=>(match o.dst with
  |some d=>Nat.blt d N
  |none=>true)&&(match o.op with
  | .defer _=>false
  |_=>true)&&t1 N l
section
variable {P:aH6} {b:Frame} {a:Act} {k:List Item} {cs:List Frame} {w:aH5}
def Am {c:Code}:step P (lone (b.atR a (.code (.scope c)::k)) cs w)= .next (lone (b.atR a (.code c:: .inScope c::k)) cs w):=
 step_lone_go (by simp[stepG,stepG.exec,Frame.atR])
def aa8 {c:Code}:step P (lone (b.atR a (.inScope c::k)) cs w)= .next (lone (b.atR a k) cs w):=
 step_lone_go (by simp[stepG,stepG.exec,Frame.atR])
def aa9 {F:Fence} {n:Nat} {Q:Exit->Act->World->Prop} {c:Code} (h:c.wpIn F n P (Exit.noGoto Q) a w):(Code.scope c).wpIn F n P Q a w:=by
 intro b k cs aa' O ax;have aw:(lone (b.atR a (.code (.scope c)::k)) cs w).fenced P F:=fenced_calm O ax rfl;obtain⟨e,CE,CF,aQ,An⟩:=h b (.inScope c::k) cs aa' O ax
 cases e with
 |normal=>exact⟨.normal,CE,CF,aQ,.head aw Am (StepsIn.trans An (.one (fenced_calm O ax rfl) aa8))⟩
 |exit id=>
  have hx:exitTo id (.inScope c::k)=exitTo id k:=by simp[exitTo]
  exact⟨.exit id,CE,CF,aQ,fun ea Z=>.head aw Am (An.1 ea (by rw[hx];exact Z)),fun Ke Z=>let⟨k₁,E,G⟩:=An.2 Ke (by rw[hx];exact Z);⟨k₁,E,.head aw Am G⟩⟩
 |goto l=>exact aQ.elim
 |ret=>exact⟨_,CE,CF,aQ,.of_steps (.one aw Am) An⟩
 |panic ch=>exact⟨_,CE,CF,aQ,.of_steps (.one aw Am) An⟩
 |outgrown=>exact⟨_,CE,CF,aQ,.of_steps (.one aw Am) An⟩
end
def j0 (P:aH6) (N:Nat):Code->Bool
 | .skip=>true
 | .region _ dn draw=>t1 N dn.toList&&(!draw||P.follows .mixedOrders)
 | .seq a b=>j0 P N a&&j0 P N b
 | .cond _ x y=>j0 P N x&&j0 P N y
 | .block _ b=>j0 P N b
 | .loop b=>j0 P N b
 | .rangeFunc _ _ a b=>j0 P N a&&j0 P N b
 | .scope b=>j0 P N b
 | .label _=>true
 | .exit _=>true
 | .ret=>true
 |_=>false
section
variable {P:aH6} {aV:dt} {N:Nat} {ids:aH0}
def CG {dn:Array Oper} {a:Act} {j s:Nat} (au:(dn[j]?).bind (·.dst)=some s) {v:aI3} (az:a.tmps.getD s undef=v):
  (∀b,v= .bool b->yielded dn a.tmps j=some b)/\((∀b,v≠ .bool b)->yielded dn a.tmps j=none):=by
 unfold yielded;rw[au];simp only[Option.bind_some]
 cases cm:a.tmps[s]? with
 |none=>
  have az:v=undef:=by rw[<-az];simp[cm]
  subst az;exact⟨fun b O=>(by simp[undef] at O),fun _=>rfl⟩
 |some x=>
  have az:v=x:=by rw[<-az];simp[cm]
  subst az;refine⟨fun b O=>by rw[O],fun h=>?_⟩
  cases v <;>first |rfl |exact as3 rfl (h _)
def aba {all:aI6} {j s:Nat} (h:Cn all j=some s):((all.toArray)[j]?).bind (·.dst)=some s:=by
 unfold Cn at h;simp only[List.getElem?_toArray]
 split at h
 .rename_i o ag;rw[ag];exact h
 .cases h
def Ao {all:aI6} {K:aZ} {o:Oper} {t:Bool} (h:uT all K o.guard=some t) {ρ:Nat->bq} {I:Nat->Prop} {a:Act} {w:aH5} (av:eF K ρ I a w):Region.wanted o (yielded all.toArray a.tmps)=t:=by
 unfold uT at h;unfold Region.wanted
 split at h
 .rename_i aU;injection h with h
  simp[aU,h]
 .rename_i j want aU;simp only[aU]
  split at h
  .cases h
  .rename_i s au;have au:=aba au;have az:=av s
   split at h
   .rename_i ak;rw[ak] at az;have:=(CG (a:=a) au (show a.tmps.getD s undef= .bool true from az)).1 true rfl;injection h with h
    rw[this,<-h];rfl
   .rename_i ak;rw[ak] at az;have:=(CG (a:=a) au (show a.tmps.getD s undef= .bool true from az)).1 true rfl;injection h with h
    rw[this,<-h];rfl
   .rename_i ak;rw[ak] at az;have:=(CG (a:=a) au (show a.tmps.getD s undef= .bool false from az)).1 false rfl;injection h with h
    rw[this,<-h];rfl
   .rename_i ak;rw[ak] at az;have:=(CG (a:=a) au (show a.tmps.getD s undef= .bool false from az)).1 false rfl;injection h with h
    rw[this,<-h];rfl
   .rename_i ak;rw[ak] at az;have:=(CG (a:=a) au (show a.tmps.getD s undef=undef from az)).2 (by simp[undef]);injection h with h
    rw[this,<-h];simp
   .cases h
def fe.undef {C:fv} {K:aZ} {B:aA} {a:Act} {w:aH5} (h:fe N ids C K B a w) (d:aI1) (H: ∀e,d=some e->e < N):fe N ids C (mY d .undef K) B (a.put d undef) w:=by obtain⟨E,G,ρ,F,al,av⟩:=h;exact⟨kW.trans E,kX.trans G,ρ,F,al,av.kY (fun e U=>by rw[E];exact H e U) rfl⟩
def fe.lit {C:fv} {K:aZ} {B:aA} {a:Act} {w:aH5} {d:Nat} {b:Bool} (h:fe N ids C ((d,.c (.one (.d (.bool b))))::K) B a w):fe N ids C ((d,.c (.one (.d (.lit b))))::K) B a w:=by
 obtain⟨E,G,ρ,F,al,av⟩:=h;refine⟨E,G,ρ,F,al,fun s=>?_⟩;have:=av s;rw[kV] at this⊢
 split at this
 .rw[vj ‹_›];exact this
 .rw[mu ‹_›];exact this
def QP {n:Nat} {r:aI1} {f:aI5} {args:aJ3} {w:aH5} {bp:Ending->World->Prop} (h:Calls P f args w bp):CallsIn (pb r) n P f args w bp:=(callsIn_wide (n:=n)).2 h
def QQ {n:Nat} {r:aI1} {f:aI5} {args:aJ3} {w:aH5} {bp:Ending->World->Prop} (h:CallsIn (pb r) n P f args w bp):Calls P f args w bp:=(callsIn_wide (n:=n)).1 h
def abb {n:Nat} {r:aI1} {row:String} {args:aJ3} {w:aH5} {bp:Value->World->Prop} (h:Rows P row args w bp):RowsIn (pb r) n P row args w bp:=fun c cs _=>by
 obtain⟨v,w',E,G⟩:=h c cs;exact⟨v,w',E,stepsIn_wide.2 G⟩
def Kf {o:Oper} (h:(match o.op with
 | .defer _=>false
 |_=>true)=true): ∀c,o.op≠ .defer c:=fun c e=>by rw[e] at h;cases h
def CH {r:aI1} {o:Oper} (dD: ∀c,o.op≠ .defer c) {a:Act} {w:aH5} {next:Act->World->Prop} {Q:Exit->Act->World->Prop} (h:o.wp P a w next Q):o.wpIn (pb r) 0 P a w next Q:=by
 refine⟨fun _ _=>trivial,?_⟩;rw[Oper.semAt_eq _ _ _ dD];unfold Oper.wp at h;generalize(execOp a.eval o).run P w=q at*
 cases q with
 |ok x w'=>
  cases x <;>simp only[Oper.upon,Oper.uponIn] at h⊢ <;>
   first
    |exact h
    |exact h.elim
    |exact⟨fun au=>as3 au aD3,QP h⟩
    |exact⟨fun au=>as3 au aD3,abb h⟩
 |halt x w'=>cases x <;>simp only[Oper.upon,Oper.uponIn] at h⊢ <;>exact h
def ya (bl:eq P aV) (all:aI6): ∀(l:aI6) (i:Nat) (K:aZ) (B:aA) (gJ:List lr) (k:aZ->aA->List lr->Prop),t1 N l=true->tP P aV ids all i l K B gJ k-> ∀(C:fv) (a:Act) (w:aH5),fe N ids C K B a w->
  ∀(r:aI1) (Q:Exit->Act->World->Prop),(∀K' B' abc,k K' B' abc-> ∀a' w',fe N ids C K' B' a' w'->Q .normal a' w')->wpListIn (pb r) 0 P all.toArray Q l a w
 | [],i,K,B,gJ,k,_,h,C,a,w,au,r,Q,Z=>wpListIn_nil (Z K B gJ h a w au)
 |o::l,i,K,B,gJ,k,H,h,C,a,w,au,r,Q,Z=>by
  simp only[t1,as1] at H;obtain⟨⟨wH,dD⟩,dz⟩:=H;have dD:=Kf dD;have bv: ∀d,o.dst=some d->d < N:=fun d e=>by rw[e] at wH;simpa[Nat.blt_eq] using wH
  have er:=au;obtain⟨_,_,ρ,F,al,av⟩:=er;rw[PZ] at h;unfold FC at h;simp only[Jk] at h;refine wpListIn_step fun ga CI=>?_
  split at h
  .exact h.elim
  .rename_i hw;rw[mu (by rw[Ao hw av];simp)];refine⟨fun _ _=>trivial,CI _ _ ?_⟩;have a6:=au.undef o.dst bv
   split at h
   .rename_i d e;rw[e] at a6⊢;exact ya bl all l _ _ _ _ k dz h C _ w a6 r Q Z
   .rename_i e;rw[e] at a6⊢;exact ya bl all l _ _ _ _ k dz h C _ w a6 r Q Z
  .rename_i hw;rw[vj (Ao hw av)];obtain⟨v,e,h,aq,hf⟩:=Kd bl h;refine CH dD (aq K B (fun _ _=>rfl) (fun _ _=>rfl) hf C a w au bv ga Q fun a' w' gc=>CI _ _ ?_)
   split at h
   .rename_i ao;rw[ao] at gc;exact ya bl all l _ _ _ _ k dz h C _ w' gc r Q Z
   .rename_i d ao;rw[ao] at gc
    split at h
    .rename_i b aU
     cases b with
     |true=>exact ya bl all l _ _ _ _ k dz (h.1 rfl) C _ w' gc.lit r Q Z
     |false=>exact ya bl all l _ _ _ _ k dz (h.2 rfl) C _ w' gc.lit r Q Z
    .exact ya bl all l _ _ _ _ k dz h C _ w' gc r Q Z
def Ap (P:aH6) (aV:dt) (N:Nat) (ids:aH0):Prop:= ∀(id:Nat) (dn:Array Oper) (K:aZ) (B:aA) (k:aZ->aA->Prop),t1 N dn.toList=true->P.follows .mixedOrders=true->
 tP P aV ids dn.toList 0 dn.toList K B [] (fun K' B' gJ=>wB K B dn.toList gJ=true/\k K' B')-> ∀(C:fv) (a:Act) (w:aH5),fe N ids C K B a w->
 ∀(r:aI1) (Q:Exit->Act->World->Prop),(∀K' B',k K' B'-> ∀a' w',fe N ids C K' B' a' w'->Q .normal a' w')->(Code.region id dn true).wpIn (pb r) 0 P Q a w
def fe.eval {C:fv} {K:aZ} {B:aA} {a:Act} {w:aH5} (h:fe N ids C K B a w) {c:aH8} {b:Bool} (J:a7 K c= .c (.one (.d (.lit b)))\/a7 K c= .c (.one (.d (.bool b)))):a.eval c= .bool b:=by
 obtain⟨_,_,ρ,F,al,av⟩:=h;rcases J with J |J
 .exact av.lit J
 .exact av.bool J
def Aq (bl:eq P aV) (ce:Ap P aV N ids) (stops:aH0): ∀(c:Code) (K:aZ) (B:aA) (Q:o9->aZ->aA->Prop),j0 P N c=true->jV P aV N ids stops c K B Q->bw P N ids c K B Q:=by
 intro c
 induction c with
 |skip=>exact fun K B Q _ h r ax C iY aQ a w au=>wpIn_skip (aQ .hl K B C.ds (fun _=>rfl) h a w au)
 |region id dn draw=>
  intro K B Q J h;rw[Zx] at h;simp only[j0,as1,ay3,au9] at J
  split at h
  .exact h
  .split at h
   .intro r ax C iY aQ a w au;refine wpIn_region_list ?_;have:=ya bl dn.toList dn.toList 0 K B [] _ J.1 h C a w au r iY (fun K' B' _ Z a' w' er=>aQ .hl K' B' C.ds (fun _=>rfl) Z a' w' er);simpa using this
   .intro r ax C iY aQ a w au;exact ce id dn K B (Q .hl) J.1 (J.2.resolve_left aD3) h C a w au r iY (fun K' B' Z a' w' er=>aQ .hl K' B' C.ds (fun _=>rfl) Z a' w' er)
 |seq x y o5 o6=>
  intro K B Q J h r ax C iY aQ a w au;simp only[j0,as1] at J;rw[Zy] at h;refine wpIn_seq (o5 K B _ J.1 h r ax C _ ?_ a w au);intro e K' B' ds h9 U a' w' er
  cases e with
  |hl=>exact o6 K' B' Q J.2 U r ax (C.at ds) iY (fun e K B rE Kg=>aQ e K B rE fun aE=>(Kg aE).trans (h9 aE)) a' w' er
  |ex i=>exact aQ (.ex i) K' B' ds h9 U a' w' er
  |ret=>exact aQ .ret K' B' ds h9 U a' w' er
 |cond c x y o5 o6=>
  intro K B Q J h r ax C iY aQ a w au;simp only[j0,as1] at J;rw[Zz] at h
  split at h
  .rename_i ak;exact wpIn_cond_true (au.eval (.inl ak)) (o5 K B Q J.1 h r ax C iY aQ a w au)
  .rename_i ak;exact wpIn_cond_false (au.eval (.inl ak)) (o6 K B Q J.2 h r ax C iY aQ a w au)
  .rename_i b ak
   cases b with
   |true=>exact wpIn_cond_true (au.eval (.inr ak)) (o5 K B Q J.1 (h.1 rfl) r ax C iY aQ a w au)
   |false=>exact wpIn_cond_false (au.eval (.inr ak)) (o6 K B Q J.2 (h.2 rfl) r ax C iY aQ a w au)
  .exact h.elim
 |block i b bn=>
  intro K B Q J h r ax C iY aQ a w au;rw[ZA] at h;refine wpIn_block (bn K B _ J h r ax C _ ?_ a w au);intro e K' B' ds h9 U a' w' er
  cases e with
  |hl=>exact aQ .hl K' B' ds h9 U a' w' er
  |ret=>exact aQ .ret K' B' ds h9 U a' w' er
  |ex j=>
   simp only[o9.to,Exit.inBlock] at U⊢
   split at U
   .rename_i e;have:=at1 e;subst this;rw[vj rfl];exact aQ .hl K' B' ds h9 U a' w' er
   .rename_i e;rw[mu (fun x=>by subst x;simp at e)];exact aQ (.ex j) K' B' ds h9 U a' w' er
 |loop b bn=>exact fun K B Q J h=>h
 |rangeFunc f bI x b o5 o6=>exact fun K B Q J h=>h
 |scope b bn=>
  intro K B Q J h r ax C iY aQ a w au;rw[ZB] at h;refine aa9 (bn K B _ J h r ax C _ ?_ a w au);intro e K' B' ds h9 U a' w' er
  cases e with
  |hl=>exact aQ .hl K' B' ds h9 U a' w' er
  |ret=>exact aQ .ret K' B' ds h9 U a' w' er
  |ex j=>exact aQ (.ex j) K' B' ds h9 U a' w' er
 |label l=>exact fun K B Q J h r ax C iY aQ a w au=>wpIn_label (aQ .hl K B C.ds (fun _=>rfl) h a w au)
 |exit i=>exact fun K B Q J h r ax C iY aQ a w au=>wpIn_exit (aQ (.ex i) K B C.ds (fun _=>rfl) h a w au)
 |ret=>exact fun K B Q J h r ax C iY aQ a w au=>wpIn_ret (aQ .ret K B C.ds (fun _=>rfl) h a w au)
 |_=>intro K B Q J h;simp[j0] at J
def ac (ids:aH0) (K:aZ) (B:aA) (K':aZ) (B':aA):Prop:= ∀(N:Nat) (C:fv) (a:Act) (w:aH5),fe N ids C K B a w->fe N ids C K' B' a w
def ac.refl (K:aZ) (B:aA):ac ids K B K B:=fun _ _ _ _ h=>h
def ac.trans {K K' QR:aZ} {B B' QS:aA} (h:ac ids K B K' B') (h':ac ids K' B' QR QS):ac ids K B QR QS:=fun N C a w au=>h' N C a w (h N C a w au)
def bw.le {c:Code} {K K':aZ} {B B':aA} {Q:o9->aZ->aA->Prop} (h:ac ids K B K' B') (cm:bw P N ids c K' B' Q):bw P N ids c K B Q:=fun r ax C iY aQ a w au=>cm r ax C iY aQ a w (h N C a w au)
def bw.loop (bl:eq P aV) (ce:Ap P aV N ids) (stops:aH0) {b:Code} (J:j0 P N b=true) {X:Type} (lA:X->aZ) (hm:X->aA) (inv:X->Prop) (u':X->Nat) (ic:X) {K:aZ} {B:aA} {Q:o9->aZ->aA->Prop} (aw:inv ic) (gy:ac ids K B (lA ic) (hm ic))
  (h: ∀x,inv x->jV P aV N ids stops b (lA x) (hm x) (fun e K B=>match e with
   | .hl=> ∃y,inv y/\u' y < u' x/\ac ids K B (lA y) (hm y)
   | .ex i=>Q (.ex i) K B
   | .ret=>Q .ret K B)):bw P N ids (.loop b) K B Q:=by
 intro r ax C iY aQ a w au;refine wpIn_loop_ghost (fun n a w=> ∃x ds,(uU ids=true->ds=C.ds)/\inv x/\u' x=n/\fe N ids (C.at ds) (lA x) (hm x) a w) (u' ic) ⟨ic,C.ds,fun _=>rfl,aw,rfl,gy N C a w au⟩ ?_;rintro n a w ⟨x,ds,h9,hx,rfl,au⟩;refine Aq bl ce stops b _ _ _ J (h x hx) r ax (C.at ds) _ ?_ a w au;intro e K' B' rE Kg U a' w' er;have Kh:uU ids=true->rE=C.ds:=fun aE=>(Kg aE).trans (h9 aE)
 cases e with
 |hl=>
  obtain⟨y,aC,bv,abd⟩:=U;exact⟨u' y,bv,y,rE,Kh,aC,rfl,abd N (C.at rE) a' w' er⟩
 |ex i=>exact aQ (.ex i) K' B' rE Kh U a' w' er
 |ret=>exact aQ .ret K' B' rE Kh U a' w' er
def ph:Nat->List aS->aZ
 |_,[]=>[]
 |i,v::l=>(i,v)::ph (i+1) l
def CJ: ∀(l:List aS) (i s:Nat),dR (ph i l) s=(if i<=s then(l[s - i]?).getD (.c (.one .any)) else .c (.one .any))
 | [],i,s=>by simp[ph,dR]
 |v::l,i,s=>by
  simp only[ph];rw[kV,CJ l (i+1) s]
  by_cases h:i=s
  .subst h;simp
  .rw[mu h]
   by_cases G:i<=s
   .rw[vj aD1,vj G,show s - i=(s - (i+1))+1 by omega];rfl
   .rw[mu aD1,mu G]
def yb (aV:dt) (K:aZ) (B:aA):List ResultVar->Option (List d0)
 | []=>some []
 | .tmp t::l=>match dR K t,yb aV K B l with
  | .c x,some r=>some (x::r)
  |_,_=>none
 | .cell t T::l=>match dR K t,yb aV K B l,aV.find T with
  | .c (.one (.ptr c o)),some r,some ti=>match aj B c with
   |some (.cells m)=>match ti.row with
    |true=>match Nat.ble (o+ti.size) m.length with
     |true=>some (.agg ((m.drop o).take ti.size)::r)
     |false=>none
    |false=>match m[o]? with
     |some s=>some (.one s::r)
     |none=>none
   |_=>none
  |_,_,_=>none
def t2 (tmps:aJ3) (r:ResultVar):Sem Value:=match r with
 | .tmp t=>pure (tmps.getD t undef)
 | .cell ad t=>do loadVar t (<-asAddr (tmps.getD ad undef))
def Ki:List d0->aS
 | [x]=>.c x
 |l=>.cn l
def FX (bl:eq P aV) {ρ:Nat->bq} {F:Nat->Nat->Prop} {C:fv} {K:aZ} {B:aA} {a:Act} {w:aH5} (al:Mem ids C B ρ F w) (av:eF K ρ (b5 C B F w) a w): ∀(l:List ResultVar) (r:List d0),yb aV K B l=some r->
  ∃aF:List Value,(l.mapM (t2 a.tmps)).run P w= .ok aF w/\jb ρ (b5 C B F w) w r aF
 | [],r,h=>by
  simp only[yb,as9] at h;subst h;exact⟨[],aD3,rfl⟩
 | .tmp t::l,r,h=>by
  unfold yb at h
  split at h
  .rename_i x FY hx ax;injection h with h
   subst h;obtain⟨aF,E,G⟩:=FX bl al av l FY ax;have az:=av t;rw[hx] at az;exact⟨_::aF,by simp[List.mapM_cons,E,t2],_,aF,rfl,az,G⟩
  .cases h
 | .cell t T::l,r,h=>by
  unfold yb at h
  split at h
  .rename_i c o FY ti hx ax gT;obtain⟨i,d,bx⟩:=bl.at_ gT;obtain⟨aF,E,G⟩:=FX bl al av l FY ax;have az:=av t;rw[hx] at az;have az:a.tmps.getD t undef= .pointer (some ⟨(ρ c).bm,o,none⟩):=az
   split at h
   .rename_i m ak;obtain⟨bj,us,e8,O,H⟩:=al.holds c _ ak
    split at h
    .rename_i gm
     split at h
     .rename_i gy;have gy:=aA1 gy;injection h with h
      subst h;have lv:=cg.FF ti.size _ _ (cg.ry o _ _ H)
      have d3:=run_loadVar_mid (P:=P) w (ρ c).bm o T ((us.drop o).take ti.size) d (fun j u V=>by
       rw[ax3] at V
       split at V
       .rw[aA7] at V;exact pd O V
       .cases V) bx.om (bx.row.trans gm) (by rw[bx.km,ay7,bx.size,cg.length _ _ lv,at3,ax4];congr 1;omega)
      exact⟨_::aF,by simp[List.mapM_cons,t2,az,asAddr,d3,E],_,aF,rfl,⟨_,rfl,lv⟩,G⟩
     .cases h
    .rename_i gm
     split at h
     .rename_i s au;injection h with h
      subst h;obtain⟨v,va,lv⟩:=cg.get _ _ H o s au;have d3:=Qd (P:=P) (T:=T) bx.om (bx.row.trans gm) (pd O va);exact⟨_::aF,by simp[List.mapM_cons,t2,az,asAddr,d3,E],_,aF,rfl,lv,G⟩
     .cases h
   .cases h
  .cases h
def Ar (l:aH0):List lo->Bool
 | []=>true
 | .p b _::m=>l.contains b&&Ar l m
 | .d _::m=>Ar l m
def Kj {l:aH0} {c:Nat}: ∀{m:List lo},Ar l m=true->mt c m=true->c∈l
 | [],_,J=>by simp[mt] at J
 | .p b o::m,h,J=>by
  simp only[Ar,as1,av4] at h;simp only[mt,ay3] at J;rcases J with J |J
  .have:=at1 J;subst this;exact h.1
  .exact Kj h.2 J
 | .d x::m,h,J=>Kj (m:=m) (by simpa[Ar] using h) (by simpa[mt] using J)
def bE.jp (l:aH0):bE->Bool
 | .ptr b _=>l.contains b
 | .own b=>l.contains b
 | .fW b _ _ _=>l.contains b
 | .os b _ _ _=>l.contains b
 | .mp b=>l.contains b
 | .c3 _ m=>Ar l m
 |_=>true
def CK (l:aH0):List bE->Bool
 | []=>true
 |s::m=>s.jp l&&CK l m
def d0.jp (l:aH0):d0->Bool
 | .one s=>s.jp l
 | .agg m=>CK l m
 | .kE _ _=>true
def FZ (l:aH0):List d0->Bool
 | []=>true
 |s::m=>s.jp l&&FZ l m
def aS.jp (l:aH0):aS->Bool
 | .c x=>x.jp l
 | .cn m=>FZ l m
 | .undef=>true
def ba.jp (l:aH0):ba->Bool
 | .cells m=>CK l m
 | .b7 d _=>l.contains d
 |_=>true
def wI (l:aH0):aA->Bool
 | []=>true
 |(_,ch)::B=>ch.jp l&&wI l B
def bE.k5 {l:aH0} {s:bE} (h:s.jp l=true) {c:Nat} (J:s.has c=true):c∈l:=by
 cases s <;>simp only[bE.jp,bE.has,av4,Bool.false_eq_true] at h J
 all_goals first |exact Kj h J |(have:=at1 J;subst this;exact h)
def Kk {l:aH0} {c:Nat}: ∀{m:List bE},CK l m=true->mW c m=true->c∈l
 | [],_,J=>by simp[mW] at J
 |s::m,h,J=>by
  simp only[CK,as1] at h;simp only[mW,ay3] at J;exact J.elim (bE.k5 h.1) (Kk h.2)
def d0.k5 {l:aH0} {s:d0} (h:s.jp l=true) {c:Nat} (J:s.has c=true):c∈l:=by
 cases s with
 |one s=>exact bE.k5 h J
 |agg m=>exact Kk h J
 |kE u x=>cases J
def QT {l:aH0} {c:Nat}: ∀{m:List d0},FZ l m=true->tM c m=true->c∈l
 | [],_,J=>by simp[tM] at J
 |s::m,h,J=>by
  simp only[FZ,as1] at h;simp only[tM,ay3] at J;exact J.elim (d0.k5 h.1) (QT h.2)
def aS.k5 {l:aH0} {s:aS} (h:s.jp l=true) {c:Nat} (J:s.has c=true):c∈l:=by
 cases s with
 |c s=>exact d0.k5 h J
 |cn m=>exact QT h J
 |undef=>cases J
def ba.k5 {l:aH0} {s:ba} (h:s.jp l=true) {c:Nat} (J:s.has c=true):c∈l:=by
 cases s with
 |cells m=>exact Kk h J
 |row e u xs=>cases J
 |map aI aK es=>cases J
 |val u x=>cases J
 |aH o=>cases J
 |b7 d o=>rw[<-at1 J];exact av4.1 h
def yc {l:aH0}: ∀{B:aA},wI l B=true-> ∀{c ch},aj B c=some ch->ch.jp l=true
 | [],_,c,ch,h=>by cases h
 |(d,x)::B,h,c,ch,J=>by
  simp only[wI,as1] at h;rw[ci] at J
  split at J
  .injection J with J;subst J;exact h.1
  .exact yc h.2 J
section
variable {ρ:Nat->bq} {I:Nat->Prop} {w:aH5}
def abe: ∀{x y:D} {v:aI3},Jm x y->gY I w x v->gY I w y v:=by
 intro x y v h az;unfold Jm at h
 split at h
 .split at h
  .rename_i e;have:=ol e;subst this h;exact az
  .exact h.elim
 .subst h;exact az
 .subst h;exact az
 .subst h;exact az
 .subst h;exact az
 .subst h;exact az
 .subst h;exact az
 .subst h;exact az
 .split at h
  .rename_i e _;subst e;have h:_=_:=h;subst h;exact az
  .exact h.elim
 .exact h.elim
def QU {s t:bE} {v:aI3} (h:Fk s t) (az:d' ρ I w s v):d' ρ I w t v:=by
 unfold Fk at h
 split at h
 .trivial
 .exact abe h az
 .subst h;rw[show v=_ from az];exact⟨none,0,rfl,as2 _,at2 _,fun h=>as3 h (Nat.lt_irrefl 0)⟩
 .subst h;exact az
def Kl: ∀{l m:List bE} {aF:aH4},Fl l m->cg ρ I w l aF->cg ρ I w m aF
 | [],[],_,_,h=>h
 |s::l,t::m,_,⟨E,G⟩,⟨v,r,e,g1,g2⟩=>⟨v,r,e,QU E g1,Kl G g2⟩
 | [],_::_,_,h,_=>h.elim
 |_::_,[],_,h,_=>h.elim
def QV {s t:d0} {v:aI3} (h:Fm s t) (az:gS ρ I w s v):gS ρ I w t v:=by
 unfold Fm at h
 split at h
 .exact QU h az
 .obtain⟨aF,e,az⟩:=az;exact⟨aF,e,Kl h az⟩
 .trivial
 .split at h
  .rename_i a6 _;subst a6;have h:_=_:=h;subst h;exact az
  .exact h.elim
 .trivial
 .exact h.elim
def QW: ∀{l m:List d0} {aF:aH4},Jn l m->jb ρ I w l aF->jb ρ I w m aF
 | [],[],_,_,h=>h
 |s::l,t::m,_,⟨E,G⟩,⟨v,r,e,g1,g2⟩=>⟨v,r,e,QV E g1,QW G g2⟩
 | [],_::_,_,h,_=>h.elim
 |_::_,[],_,h,_=>h.elim
def wJ {s t:aS} {v:aI3} (h:sE s t) (az:cA ρ I w s v):cA ρ I w t v:=by
 unfold sE at h
 split at h
 .exact QV h az
 .obtain⟨aF,e,az⟩:=az;exact⟨aF,e,QW h az⟩
 .exact az
 .trivial
 .exact h.elim
def Km: ∀{l m:List aS},Fo l m->l.length=m.length/\ ∀(i:Nat) (t:aS),m[i]? =some t-> ∃s,l[i]? =some s/\sE s t
 | [],[],_=>⟨rfl,fun i t h=>by simp at h⟩
 |s::l,t::m,⟨E,G⟩=>by
  obtain⟨g1,g2⟩:=Km G;refine⟨by simp[g1],fun i u a6=>?_⟩
  match i with
  |0=>
   simp only[at9,as9] at a6;subst a6;exact⟨s,rfl,E⟩
  |i+1=>exact g2 i u (by simpa using a6)
 | [],_::_,h=>h.elim
 |_::_,[],h=>h.elim
end
def Fn.arg {P:aH6} {f:aI5} {args args':List aS} {aJ:aA} {bb:aH0} {res:aS} {aT:aA} (h:Fn P f args' aJ bb res aT) (ak:Fo args args'):Fn P f args aJ bb res aT:=by obtain⟨E,G⟩:=Km ak;refine⟨h.1,fun ρ F I w bZ b4 cf a3 a4 a5 gR=>h.2 ρ F I w bZ b4 cf a3 a4 (a5.trans E) fun i v x az hx=>?_⟩;obtain⟨s,g1,g2⟩:=G i v az;exact wJ g2 (gR i s x g1 hx)
def abf {C:fv} {ds:aH0} {B:aA} {ρ:Nat->bq} {F:Nat->Nat->Prop} {w w':aH5} (h:Mem ids (C.at ds) B ρ F w) (cJ:cZ (fun D=>D∈ds) w w'):
  Mem ids (C.at []) B ρ F w'/\cp (b5 (C.at ds) B F w) w (b5 (C.at []) B F w') w':=by
 have h9: ∀b,(C.zU b\/C.qw b\/C.gH.heap.size<=b/\b∉ds)->b∉ds:=fun b O H=>by
  have cK:C.gH.heap.size<=b:=(h.lp.2.2 b H).2.2;rcases O with O |O |O
  .have jW:b < C.gH.heap.size:=h.lp.2.1 b (.inl O);omega
  .have jW:b < C.gH.heap.size:=h.lp.2.1 b (.inr O);omega
  .exact O.2 H
 have a2:cp (b5 (C.at ds) B F w) w (b5 (C.at []) B F w') w':=fun b O=>
  ⟨⟨au2 O.1 cJ.size,O.2.1.imp id fun x=>x.imp id fun x=>⟨x.1,aD3⟩,O.2.2⟩,cJ.block b O.1 (h9 b O.2.1)⟩
 have bj: ∀c ch,aj B c=some ch-> ∀b,F c b->w'.heap[b]? =w.heap[b]? :=fun c ch J b O=>by
  obtain⟨cB,cH⟩:=h.own c ch J b O;exact cJ.block b cB (h9 b (.inr cH))
 refine⟨⟨h.fr.trans cJ fun i aE H=>?_,fun c ch J=>Holds.cr a2 (bj c ch J) cJ.size ch (fun _ _=>rfl) (h.holds c ch J),fun c ch J b O=>?_,h.fw,h.eP,ay9,h.lp.2.1,fun D ce=>by cases ce⟩,a2⟩
 .have ah:C.gH.heap.size<=i:=(h.lp.2.2 i H).2.2;have aE:i < C.gH.heap.size:=aE;omega
 .obtain⟨cB,cH⟩:=h.own c ch J b O;exact⟨au2 cB cJ.size,cH.imp id fun x=>⟨x.1,aD3⟩⟩
def QX {F:Fence} {n:Nat} {fn:Func} {tmps:aJ3} {bp:Ending->World->Prop}: ∀(ds:aH0) (w:aH5),ds.Nodup->(∀D,D∈ds->D < w.heap.size/\w.heap[D]? =some (.deferred (some [])))->
  (∀w',cZ (fun D=>D∈ds) w w'->LeavesIn F n P fn tmps bp [] .returning w')->LeavesInM F n P fn tmps bp (ds.map xR) .returning w
 | [],w,_,_,h=>h w (cZ.refl _ w)
 |D::ds,w,hn,H,h=>by
  obtain⟨c0,d5⟩:=av5.1 hn;obtain⟨hA,jd⟩:=H D (at6 ..);have hf:cZ (fun b=>b=D) w (w.putObj D (.deferred none)):=⟨rfl,rfl,rfl,Nat.le_of_eq (World.putObj_size).symm,fun k _ Z=>World.putObj_heap_other Z⟩;refine⟨fun e=>(by cases e),.inl ⟨D,w.putObj D (.deferred none),rfl,run_takeDeferred jd,QX ds _ d5 (fun u4 a2=>?_) fun w' qD=>h w' ?_⟩⟩
  .obtain⟨cB,cH⟩:=H u4 (as6 _ a2);exact⟨by rw[World.putObj_size];exact cB,(World.putObj_heap_other (r:=D) (k:=u4) fun e=>c0 (e▸a2)).trans cH⟩
  .exact(hf.mono fun i _ (aE:i=D)=>by rw[aE];exact at6 ..).trans qD fun i _ aE=>as6 _ aE
def QY {F:Fence} {n:Nat} {fn:Func} {bp:Ending->World->Prop} {C:fv} {ds:aH0} {K:aZ} {B:aA} {a:Act} {w:aH5} (au:fe N ids (C.at ds) K B a w)
  (h: ∀w',fe N ids (C.at []) K B {a with defers:=[]} w'-> ∃v,(results fn a.tmps).run P w'= .ok v w'/\bp (.returned v) w'):LeavesInM F n P fn a.tmps bp a.defers .returning w:=by
 obtain⟨E,G,ρ,cj,al,av⟩:=au;rw[G];refine QX ds w al.lp.1 (fun D ce=>⟨(al.lp.2.2 D ce).1,(al.lp.2.2 D ce).2.1⟩) fun w' qD=>h w' ?_
 obtain⟨bC,a2⟩:=abf al qD;exact⟨E,rfl,ρ,cj,bC,av.mono a2 fun _ _ _=>rfl⟩
def F0 (aV:dt) (ids bb:aH0) (jH:List ResultVar) (res:aS) (aT:aA) (e:o9) (K:aZ) (B:aA):Prop:=match e with
 | .ex _=>False
 |_=> ∃K' B' r,ac ids K B K' B'/\yb aV K' B' jH=some r/\sE (Ki r) res/\lq B' aT/\(res.jp (ids++bb)&&wI (ids++bb) aT&&(ct aT).all (fun c=>(ids++bb).contains c))=true
def Fn.of (bl:eq P aV) {f:aI5} {fn:Func} {c:Code} (stops:aH0) (args:List aS) (aJ:aA) (bb:aH0) (res:aS) (aT:aA) (hf:P.funcs[f]? =some fn) (O:fn.body=some c) (hn:fn.ntmps=N) (gf:jU P f=true) (J:j0 P N c=true) (fM:Nat.ble args.length N=true) (ce:Ap P aV N (ct aJ)) {jH:List ResultVar} (nI:fn.results.toList=jH)
  (h:jV P aV N (ct aJ) stops c (ph 0 args) aJ (F0 aV (ct aJ) bb jH res aT)):Fn P f args aJ bb res aT:=by
 refine⟨gf,?_⟩;intro ρ F I w bZ a1 c4 bj eQ bX dI;have fM:=aA1 fM;refine QQ (r:=none) (n:=0) (callsIn_of_wp_marks hf O trivial ?_)
 let C:fv:=⟨w,I,fun b=> ∃c ch,aj aJ c=some ch/\F c b,ρ,[]⟩
 have sV:cp I w (b5 C aJ F w) w:=fun b O=>⟨⟨a1 b O,.inl O,fun c ch J qE=>(bj c ch J b qE).2 O⟩,rfl⟩
 have al:Mem (ct aJ) C aJ ρ F w:=⟨cZ.refl _ _,fun c ch J=>Holds.cr sV (fun _ _=>rfl) (as2 _) ch (fun _ _=>rfl) (c4 c ch J),fun c ch J b O=>⟨(bj c ch J b O).1,.inl ⟨c,ch,J,O⟩⟩,eQ,fun c _=>rfl,ay9,fun b O=>O.elim (a1 b) fun⟨c,ch,J,CL⟩=>(bj c ch J b CL).1,fun D ce=>by cases ce⟩;refine Aq bl ce stops c _ _ _ J h none (fun _=>rfl) C _ ?_ _ w ⟨by simp[bX,hn];omega,rfl,ρ,F,al,fun s=>?_⟩
 .intro e K' B' ds _ U a' w' er
  cases e with
  |ex i=>exact U.elim
  |_=>
   obtain⟨QZ,j1,r,gy,ax,ae,ib,pV⟩:=U;refine QY er fun w' er=>?_
   obtain⟨hO,lv,ρ',F',bC,CM⟩:=gy N C _ w' er;obtain⟨aF,d3,hP⟩: ∃aF:List Value,(jH.mapM (t2 a'.tmps)).run P w'= .ok aF w'/\jb ρ' (b5 C j1 F' w') w' r aF:=FX bl bC CM jH r ax
   have jI: ∃x,(results fn a'.tmps).run P w'= .ok x w'/\cA ρ' (b5 C j1 F' w') w' (Ki r) x:=by
    have E:fn.results=jH.toArray:=by rw[<-nI]
    have G:(fn.results.mapM (t2 a'.tmps)).run P w'= .ok (List.toArray aF) w':=by
     rw[E,List.mapM_toArray];simp[d3]
    have ah:results fn a'.tmps=(do let aF<-fn.results.mapM (t2 a'.tmps);pure (if h:aF.size=1 then aF[0] else .tuple aF)):=rfl;rw[ah]
    match r,aF,hP,G with
    | [],_,e,G=>rw[show _=[] from e] at G;exact⟨.tuple #[],by simp[G],[],rfl,rfl⟩
    | [x],_,⟨v,s,e,az,au⟩,G=>
     have au:s=[]:=au;subst au e;exact⟨v,by simp[G],az⟩
    |x::y::r,_,⟨v,s,e,az,v2,bF,ao,va,gc⟩,G=>
     subst ao e;exact⟨.tuple (List.toArray (v::v2::bF)),by simp[G],_,rfl,v,_,rfl,az,v2,bF,rfl,va,gc⟩
   obtain⟨x,hx,sS⟩:=jI;have sS:=wJ ae sS;simp only[as1] at pV
   let vb:Nat->bq:=fun c=>if c∈bb then ρ' c else ρ c
   have rF: ∀c,c∈ct aJ++bb->vb c=ρ' c:=fun c J=>by
    show(if c∈bb then ρ' c else ρ c)=ρ' c
    split
    .rfl
    .rename_i hn;rcases au4.1 J with h |h
     .exact(bC.eP c h).symm
     .exact as3 h hn
   refine⟨x,hx,x,vb,F',rfl,bC.fr,fun c J=>mu J,b5 C j1 F' w',?_,fun b O=>⟨O.1,?_⟩,?_,?_,?_,?_⟩
   .intro b O;have wK: ¬C.qw b:=fun⟨c,ch,E,G⟩=>(bj c ch E b G).2 O
    refine⟨⟨au2 (a1 b O) bC.fr.size,.inl O,fun c ch J qE=>?_⟩,bC.fr.block b (a1 b O) wK⟩;rcases(bC.own c ch J b qE).2 with h |h
    .exact wK h
    .have:=a1 b O;exact as3 h.1 (Nat.not_le.2 this)
   .rcases O.2.1 with h |h |h
    .exact .inl h
    .exact .inr (.inl h)
    .exact .inr (.inr h.1)
   .intro c ch J
    have Z:c∈ct aJ++bb:=by
     have:=av3.1 pV.2 c (gL.2 ⟨ch,J⟩);simpa only[av4] using this
    rw[rF c Z];exact Holds.cr (cp.refl _ _) (fun _ _=>rfl) (as2 _) ch (fun d H=>rF d (ba.k5 (yc pV.1.2 J) H)) (bC.holds c ch (k3 ib J))
   .intro c ch J b O;have cW:=k3 ib J;exact⟨(bC.own c ch cW b O).1,fun aE=>aE.2.2 c ch cW O,(bC.own c ch cW b O).2.imp id fun x=>x.1⟩
   .exact fun c ca ch ch' b E G=>bC.fw c ca ch ch' b (k3 ib E) (k3 ib G)
   .exact cA.mono (cp.refl _ _) res x (fun c J=>rF c (aS.k5 pV.1.1 J)) sS
 .rw[CJ];simp only[at2,if_true,Nat.sub_zero]
  cases au:args[s]? with
  |none=>trivial
  |some v=>
   have bv:s < bZ.length:=by rw[bX];exact(at0.1 au).1
   simp only[az1];have hx:bZ[s]? =some bZ[s]:=as0 bv;have:=cA.mono sV v _ (fun _ _=>rfl) (dI s v _ au hx);simpa[Array.getElem?_append,bv,hx] using this
end
end
section
section
variable {ids:aH0} {K:aZ} {B:aA} {C:fv} {ρ:Nat->bq} {F:Nat->Nat->Prop} {w:aH5}
def As (K:aZ):aZ->Prop
 | []=>True
 |(s,v)::l=>sE (dR K s) v/\As K l
def Kn: ∀{K' K:aZ},As K K'-> ∀s,sE (dR K s) (dR K' s)\/dR K' s= .c (.one .any)
 | [],K,h,s=>.inr rfl
 |(t,v)::K',K,h,s=>by
  rw[kV]
  split
  .rename_i e;subst e;exact .inl h.1
  .exact Kn h.2 s
def ac.sub {K':aZ} {B':aA} (cE:As K K') (cQ:lq B B'):ac ids K B K' B':=by
 rintro N C a w ⟨E,G,ρ,F,al,av⟩
 obtain⟨bC,a2⟩:=al.step (B':=B') (ρ':=ρ) (F':=F) (w':=w) (fun c=>aj B' c=none) (fun _=>False) (cZ.refl _ _) (fun c ch J _=>k3 cQ J) (fun _ _=>rfl) (fun _ _=>rfl) (fun _ _ h=>h) (fun _ h=>h.elim) (fun _ _ _ _ _ _ h=>h)
  (fun c ch J hn=>by rw[hn] at J;cases J) (fun c ch J hn=>by rw[hn] at J;cases J) (fun c ca ch ch' b J _ hn=>by rw[hn] at J;cases J)
 refine⟨E,G,ρ,F,bC,fun s=>?_⟩;rcases Kn cE s with h |h
 .exact cA.mono a2 _ _ (fun _ _=>rfl) (wJ h (av s))
 .rw[h];trivial
def bE.eb (c:Nat) (x:D):bE->bE
 | .own b=>match Nat.beq b c with
  |true=>.d x
  |false=>.own b
 |s=>s
def F1 (c:Nat) (x:D):List bE->List bE
 | []=>[]
 |s::l=>s.eb c x::F1 c x l
def d0.eb (c:Nat) (x:D):d0->d0
 | .one s=>.one (s.eb c x)
 | .agg l=>.agg (F1 c x l)
 | .kE u y=>.kE u y
def Ko (c:Nat) (x:D):List d0->List d0
 | []=>[]
 |s::l=>s.eb c x::Ko c x l
def aS.eb (c:Nat) (x:D):aS->aS
 | .c s=>.c (s.eb c x)
 | .cn l=>.cn (Ko c x l)
 | .undef=>.undef
def F2 (c:Nat) (x:D):aZ->aZ
 | []=>[]
 |(s,v)::K=>(s,v.eb c x)::F2 c x K
def ba.eb (c:Nat) (x:D):ba->ba
 | .cells l=>.cells (F1 c x l)
 |ch=>ch
def qF (c:Nat) (x:D):aA->aA
 | []=>[]
 |(b,ch)::B=>match Nat.beq b c with
  |true=>qF c x B
  |false=>(b,ch.eb c x)::qF c x B
def Q0 {c:Nat} {x:D}: ∀(K:aZ) (s:Nat),dR (F2 c x K) s=(dR K s).eb c x
 | [],s=>rfl
 |(t,v)::K,s=>by
  simp only[F2];rw[kV,kV,Q0 K s]
  split <;>rfl
def yd {c:Nat} {x:D}: ∀(B:aA) (d:Nat),aj (qF c x B) d=if c=d then none else(aj B d).map (·.eb c x)
 | [],d=>by simp[qF,aj]
 |(b,ch)::B,d=>by
  unfold qF
  split
  .rename_i e;have:=at1 e;subst this;rw[yd B d,ci]
   split <;>rfl
  .rename_i e;have a8:b≠c:=fun h=>by subst h;simp at e
   rw[ci,ci,yd B d]
   by_cases h:b=d
   .subst h;rw[vj rfl,vj rfl,mu (ay4 a8)];rfl
   .rw[mu h,mu h]
section
variable {I I':Nat->Prop} {c:Nat} {x:D}
def d'.eb (U:cp I w I' w) (hx:gY I' w x (ρ c).eS) (s:bE) (v:aI3) (h:d' ρ I w s v):d' ρ I' w (s.eb c x) v:=by
 cases s with
 |own b=>
  unfold bE.eb;simp only
  split
  .rename_i e;have:=at1 e;subst this;rw[show v=_ from h];exact hx
  .exact h
 |d y=>exact d'.mono (ρ':=ρ) U (.d y) v (fun _ _=>rfl) h
 |el u y o=>exact d'.mono (ρ':=ρ) U (.el u y o) v (fun _ _=>rfl) h
 |c3 f l=>exact d'.mono (ρ':=ρ) U (.c3 f l) v (fun _ _=>rfl) h
 |_=>exact h
def cg.eb (U:cp I w I' w) (hx:gY I' w x (ρ c).eS): ∀(l:List bE) (aF:aH4),cg ρ I w l aF->cg ρ I' w (F1 c x l) aF
 | [],_,h=>h
 |s::l,_,⟨v,r,e,E,G⟩=>⟨v,r,e,d'.eb U hx s v E,cg.eb U hx l r G⟩
def gS.eb (U:cp I w I' w) (hx:gY I' w x (ρ c).eS) (s:d0) (v:aI3) (h:gS ρ I w s v):gS ρ I' w (s.eb c x) v:=by
 cases s with
 |one s=>exact d'.eb U hx s v h
 |agg l=>obtain⟨aF,e,h⟩:=h;exact⟨aF,e,cg.eb U hx l aF h⟩
 |kE u y=>obtain⟨aF,e,E,G⟩:=h;exact⟨aF,e,E,cw.mono U u y _ _ (fun _ _ h=>h) G⟩
def jb.eb (U:cp I w I' w) (hx:gY I' w x (ρ c).eS): ∀(l:List d0) (aF:aH4),jb ρ I w l aF->jb ρ I' w (Ko c x l) aF
 | [],_,h=>h
 |s::l,_,⟨v,r,e,E,G⟩=>⟨v,r,e,gS.eb U hx s v E,jb.eb U hx l r G⟩
def cA.eb (U:cp I w I' w) (hx:gY I' w x (ρ c).eS) (s:aS) (v:aI3) (h:cA ρ I w s v):cA ρ I' w (s.eb c x) v:=by
 cases s with
 |c s=>exact gS.eb U hx s v h
 |cn l=>obtain⟨aF,e,h⟩:=h;exact⟨aF,e,jb.eb U hx l aF h⟩
 |undef=>exact h
end
def Mem.eb (al:Mem ids C B ρ F w) {c:Nat} {e:aI0} {u:bB} {xs:List (aa u)} (J:aj B c=some (.row e u xs)):
  Mem ids C (qF c (.bG u xs) B) ρ F w/\cp (b5 C B F w) w (b5 C (qF c (.bG u xs) B) F w) w/\gY (b5 C (qF c (.bG u xs) B) F w) w (.bG u xs) (ρ c).eS:=by
 have bd:=al.holds c _ J
 have At: ∀b,b5 C B F w b->b5 C (qF c (.bG u xs) B) F w b:=fun b ⟨E,G,ah⟩=>⟨E,G,fun d ch H O=>by
  rw[yd] at H
  split at H
  .cases H
  .obtain⟨ch',dC,_⟩:=aw3.1 H;exact ah d ch' dC O⟩
 have sU: ∀b,F c b->b5 C (qF c (.bG u xs) B) F w b:=fun b O=>by
  obtain⟨E,G⟩:=al.own c _ J b O;refine⟨E,.inr G,fun d ch H dB=>?_⟩;rw[yd] at H
  split at H
  .cases H
  .rename_i a8;obtain⟨ch',dC,_⟩:=aw3.1 H;exact al.fw c d _ ch' b J dC a8 O dB
 have dI:gY (b5 C (qF c (.bG u xs) B) F w) w (.bG u xs) (ρ c).eS:=Cw bd At sU;have a2:cp (b5 C B F w) w (b5 C (qF c (.bG u xs) B) F w) w:=fun b O=>⟨At b O,rfl⟩
 refine⟨⟨al.fr,fun d ch H=>?_,fun d ch H=>?_,fun d da ch ch' b H dC=>?_,al.eP,al.lp⟩,a2,dI⟩
 .rw[yd] at H
  split at H
  .cases H
  .obtain⟨ch',dC,rfl⟩:=aw3.1 H;have:=al.holds d ch' dC
   cases ch' with
   |cells l=>
    obtain⟨E,aF,T,G,ah⟩:=this;exact⟨E,aF,T,G,cg.eb a2 dI l aF ah⟩
   |row e u xs=>exact Holds.cr a2 (fun _ _=>rfl) (as2 _) _ (fun _ _=>rfl) this
   |map aI aK es=>exact Holds.cr a2 (fun _ _=>rfl) (as2 _) _ (fun _ _=>rfl) this
   |val u x=>exact Holds.cr a2 (fun _ _=>rfl) (as2 _) _ (fun _ _=>rfl) this
   |aH o=>exact Holds.cr a2 (fun _ _=>rfl) (as2 _) _ (fun _ _=>rfl) this
   |b7 d o=>exact Holds.cr a2 (fun _ _=>rfl) (as2 _) (.b7 d o) (fun _ _=>rfl) this
 .rw[yd] at H
  split at H
  .cases H
  .obtain⟨ch',dC,_⟩:=aw3.1 H;exact al.own d ch' dC
 .rw[yd] at H dC
  split at H
  .cases H
  .split at dC
   .cases dC
   .obtain⟨cD,E,_⟩:=aw3.1 H;obtain⟨cv,G,_⟩:=aw3.1 dC;exact al.fw d da cD cv b E G
def ac.eb (c:Nat) {e:aI0} {u:bB} {xs:List (aa u)} (J:aj B c=some (.row e u xs)):ac ids K B (F2 c (.bG u xs) K) (qF c (.bG u xs) B):=by rintro N C a w ⟨E,G,ρ,F,al,av⟩;obtain⟨bC,a2,H⟩:=al.eb J;exact⟨E,G,ρ,F,bC,fun s=>by rw[Q0];exact cA.eb a2 H _ _ (av s)⟩
def ac.nil (s c:Nat) (e:aI0) (u:bB) (au:dR K s= .c (.one .dV)) (hf:hk ids K B c=true):ac ids K B ((s,.c (.one (.own c)))::K) ((c,.row e u [])::B):=by
 rintro N C a w ⟨E,G,ρ,F,al,av⟩;have cJ:=ls hf;obtain⟨bC,a2⟩:=al.make (ch:=.row e u []) (w':=w) hf (Below.refl _ _) ⟨0,none,0,0⟩ (fun _=>False) (fun b h=>h.elim) (fun I _ _=>⟨fun b=>by simp[bq.eS,Value.ownBlock],fun b O=>by simp[bq.eS,Value.ownBlock] at O,[],World.ownsRow_nil _ _ _ _,g7.nil u⟩);refine⟨E,G,_,_,bC,fun t=>?_⟩;rw[kV]
 split
 .rename_i e;subst e;have:=av s;rw[au] at this;rw[show a.tmps.getD s undef= .slice none 0 0 from this];simp only[cA,gS,d',dh,bq.eS]
 .exact cA.mono a2 _ _ (fun d H=>du _ _ (fun e=>by subst e;rw[cJ.1 t] at H;cases H)) (av t)
def ac.wL (b j c:Nat) (e:aI0) (u:bB) {l:List bE} (O:aj B b=some (.cells l)) (V:l[j]? =some .dV) (hf:hk ids K B c=true):ac ids K B K ((b,.cells (l.set j (.own c)))::(c,.row e u [])::B):=by
 rintro N C a w ⟨E,G,ρ,F,al,av⟩;have cJ:=ls hf;obtain⟨bC,a2⟩:=al.make (ch:=.row e u []) (w':=w) hf (Below.refl _ _) ⟨0,none,0,0⟩ (fun _=>False) (fun b h=>h.elim) (fun I _ _=>⟨fun b=>by simp[bq.eS,Value.ownBlock],fun b O=>by simp[bq.eS,Value.ownBlock] at O,[],World.ownsRow_nil _ _ _ _,g7.nil u⟩);have F3:c≠b:=fun e=>by subst e;rw[cJ.2.1] at O;cases O
 have dB:aj ((c,ba.row e u [])::B) b=some (.cells l):=by rw[ci,mu F3];exact O
 have bd:=bC.holds b _ dB
 obtain⟨je,vc⟩:=bC.h8 (ch:=.cells (l.set j (.own c))) dB (cZ.refl _ _) (fun I U=>by
  obtain⟨g1,aF,T,g2,cK⟩:=bd;refine⟨g1,aF,T,g2,?_⟩;have cK:=cg.mono (ρ':=dp ρ c ⟨0,none,0,0⟩) U l aF (fun _ _=>rfl) cK
  have key: ∀(l:List bE) (aF:aH4) (j:Nat),l[j]? =some .dV->cg (dp ρ c ⟨0,none,0,0⟩) I w l aF->cg (dp ρ c ⟨0,none,0,0⟩) I w (l.set j (.own c)) aF:=fun l=>by
   induction l with
   |nil=>intro aF j V;simp at V
   |cons s l bn=>
    rintro _ j V ⟨v,r,rfl,cB,cH⟩
    match j with
    |0=>
     simp only[at9,as9] at V;subst V;refine⟨v,r,rfl,?_,cH⟩;rw[show v= .slice none 0 0 from cB];simp only[d',dh,bq.eS]
    |j+1=>exact⟨v,r,rfl,cB,bn r j aF1 cH⟩
  exact key l aF j V cK)
 refine⟨E,G,_,_,je,fun t=>?_⟩;exact cA.mono (a2.trans vc) _ _ (fun d H=>du _ _ (fun e=>by subst e;rw[cJ.1 t] at H;cases H)) (av t)
def F4 (c d:Nat):List lo->List lo
 | []=>[]
 | .p b o::l=>(match Nat.beq b c with
  |true=>.p d o
  |false=>.p b o)::F4 c d l
 | .d x::l=>.d x::F4 c d l
def bE.aX (c d:Nat):bE->bE
 | .ptr b o=>match Nat.beq b c with
  |true=>.ptr d o
  |false=>.ptr b o
 | .own b=>match Nat.beq b c with
  |true=>.own d
  |false=>.own b
 | .fW b s i o=>match Nat.beq b c with
  |true=>.fW d s i o
  |false=>.fW b s i o
 | .os b s o n=>match Nat.beq b c with
  |true=>.os d s o n
  |false=>.os b s o n
 | .mp b=>match Nat.beq b c with
  |true=>.mp d
  |false=>.mp b
 | .c3 f l=>.c3 f (F4 c d l)
 |s=>s
def F5 (c d:Nat):List bE->List bE
 | []=>[]
 |s::l=>s.aX c d::F5 c d l
def d0.aX (c d:Nat):d0->d0
 | .one s=>.one (s.aX c d)
 | .agg l=>.agg (F5 c d l)
 | .kE u x=>.kE u x
def Kp (c d:Nat):List d0->List d0
 | []=>[]
 |s::l=>s.aX c d::Kp c d l
def aS.aX (c d:Nat):aS->aS
 | .c s=>.c (s.aX c d)
 | .cn l=>.cn (Kp c d l)
 | .undef=>.undef
def F6 (c d:Nat):aZ->aZ
 | []=>[]
 |(s,v)::K=>(s,v.aX c d)::F6 c d K
def ba.aX (c d:Nat):ba->ba
 | .cells l=>.cells (F5 c d l)
 | .b7 b o=>match Nat.beq b c with
  |true=>.b7 d o
  |false=>.b7 b o
 |ch=>ch
def wM (c d:Nat):aA->aA
 | []=>[]
 |(b,ch)::B=>match Nat.beq b c with
  |true=>(d,ch.aX c d)::wM c d B
  |false=>(b,ch.aX c d)::wM c d B
def Q1 {c d:Nat}: ∀(K:aZ) (s:Nat),dR (F6 c d K) s=(dR K s).aX c d
 | [],s=>rfl
 |(t,v)::K,s=>by
  simp only[F6];rw[kV,kV,Q1 K s]
  split <;>rfl
def Q2 {c d:Nat}: ∀(B:aA),aj B d=none-> ∀b,aj (wM c d B) b=if b=d then(aj B c).map (·.aX c d) else if b=c then none else(aj B b).map (·.aX c d)
 | [],_,b=>by simp[wM,aj]
 |(t,ch)::B,H,b=>by
  rw[ci] at H;have Q3:t≠d:=fun e=>by rw[vj e] at H;cases H
  rw[mu Q3] at H;have bn:=Q2 (c:=c) B H b;unfold wM
  split
  .rename_i e;have:=at1 e;subst this;rw[ci,ci,vj rfl,bn,ci]
   by_cases E:b=d
   .subst E;simp
   .rw[mu (ay4 E),mu E,mu E]
    by_cases G:b=t
    .rw[vj G,vj G]
    .rw[mu G,mu G,mu (ay4 G)]
  .rename_i e;have a8:t≠c:=fun h=>by subst h;simp at e
   rw[ci,bn,ci,ci,mu a8]
   by_cases E:b=d
   .subst E;rw[mu Q3,vj rfl,vj rfl]
   .rw[mu E,mu E]
    by_cases G:b=c
    .subst G;rw[mu a8,vj rfl,vj rfl]
    .rw[mu G,mu G]
     by_cases ah:t=b
     .rw[vj ah,vj ah];rfl
     .rw[mu ah,mu ah]
section
variable {I:Nat->Prop} {c d:Nat}
def h7.aX: ∀(l:List lo) (aF:aH4),mt d l=false->h7 ρ I w l aF->h7 (dp ρ d (ρ c)) I w (F4 c d l) aF
 | [],_,_,h=>h
 | .p b o::l,_,H,⟨v,r,e,E,G⟩=>by
  simp only[mt,ax0] at H;refine⟨v,r,e,?_,h7.aX l r H.2 G⟩
  split
  .rename_i e;have:=at1 e;subst this;simp only[xQ,dh] at E⊢;exact E
  .simp only[xQ] at E⊢;rw[du _ _ (fun e=>by subst e;simp at H)];exact E
 | .d x::l,_,H,⟨v,r,e,E,G⟩=>⟨v,r,e,E,h7.aX l r (by simpa[mt] using H) G⟩
def d'.aX (s:bE) (v:aI3) (H:s.has d=false) (h:d' ρ I w s v):d' (dp ρ d (ρ c)) I w (s.aX c d) v:=by
 have key: ∀b,Nat.beq b d=false->(match Nat.beq b c with |true=>dp ρ d (ρ c) d=ρ b |false=>dp ρ d (ρ c) b=ρ b):=fun b O=>by
  split
  .rename_i e;rw[dh,at1 e]
  .exact du _ _ (fun e=>by subst e;simp at O)
 cases s with
 |ptr b o=>
  have:=key b H;unfold bE.aX;simp only
  split <;>rename_i e <;>rw[e] at this <;>simp only at this <;>simp only[d'] at h⊢ <;>rw[this] <;>exact h
 |own b=>
  have:=key b H;unfold bE.aX;simp only
  split <;>rename_i e <;>rw[e] at this <;>simp only at this <;>simp only[d'] at h⊢ <;>rw[this] <;>exact h
 |fW b s i o=>
  have:=key b H;unfold bE.aX;simp only
  split <;>rename_i e <;>rw[e] at this <;>simp only at this <;>simp only[d'] at h⊢ <;>rw[this] <;>exact h
 |os b s o n=>
  have:=key b H;unfold bE.aX;simp only
  split <;>rename_i e <;>rw[e] at this <;>simp only at this <;>simp only[d'] at h⊢ <;>rw[this] <;>exact h
 |mp b=>
  have:=key b H;unfold bE.aX;simp only
  split <;>rename_i e <;>rw[e] at this <;>simp only at this <;>simp only[d'] at h⊢ <;>rw[this] <;>exact h
 |d y=>exact h
 |el u y o=>exact h
 |c3 f l=>obtain⟨aF,e,h⟩:=h;exact⟨aF,e,h7.aX l aF H h⟩
 |dV=>exact h
 |bN v=>exact h
 |any=>exact h
def cg.aX: ∀(l:List bE) (aF:aH4),mW d l=false->cg ρ I w l aF->cg (dp ρ d (ρ c)) I w (F5 c d l) aF
 | [],_,_,h=>h
 |s::l,_,H,⟨v,r,e,E,G⟩=>by
  simp only[mW,ax0] at H;exact⟨v,r,e,d'.aX s v H.1 E,cg.aX l r H.2 G⟩
def gS.aX (s:d0) (v:aI3) (H:s.has d=false) (h:gS ρ I w s v):gS (dp ρ d (ρ c)) I w (s.aX c d) v:=by
 cases s with
 |one s=>exact d'.aX s v H h
 |agg l=>obtain⟨aF,e,h⟩:=h;exact⟨aF,e,cg.aX l aF H h⟩
 |kE u x=>exact h
def jb.aX: ∀(l:List d0) (aF:aH4),tM d l=false->jb ρ I w l aF->jb (dp ρ d (ρ c)) I w (Kp c d l) aF
 | [],_,_,h=>h
 |s::l,_,H,⟨v,r,e,E,G⟩=>by
  simp only[tM,ax0] at H;exact⟨v,r,e,gS.aX s v H.1 E,jb.aX l r H.2 G⟩
def cA.aX (s:aS) (v:aI3) (H:s.has d=false) (h:cA ρ I w s v):cA (dp ρ d (ρ c)) I w (s.aX c d) v:=by
 cases s with
 |c s=>exact gS.aX s v H h
 |cn l=>obtain⟨aF,e,h⟩:=h;exact⟨aF,e,jb.aX l aF H h⟩
 |undef=>exact h
end
def ac.aX (c d:Nat) (hf:hk ids K B d=true):ac ids K B (F6 c d K) (wM c d B):=by
 rintro N C a w ⟨E,G,ρ,F,al,av⟩;obtain⟨eW,e9,f3,iZ⟩:=ls hf;have CC:=Q2 (c:=c) (d:=d) B e9
 have back: ∀b ch,aj (wM c d B) b=some ch-> ∃eT cG,aj B eT=some cG/\ch=cG.aX c d/\dp F d (F c) b=F eT/\dp ρ d (ρ c) b=ρ eT/\((b=d/\eT=c)\/(b≠d/\b≠c/\eT=b)):=fun b ch O=>by
  rw[CC] at O
  split at O
  .rename_i e;subst e;obtain⟨cG,h,rfl⟩:=aw3.1 O;exact⟨c,cG,h,rfl,dh _ _ _,dh _ _ _,.inl ⟨rfl,rfl⟩⟩
  .rename_i e
   split at O
   .cases O
   .rename_i ao;obtain⟨cG,h,rfl⟩:=aw3.1 O;exact⟨b,cG,h,rfl,du _ _ e,du _ _ e,.inr ⟨e,ao,rfl⟩⟩
 have a2:cp (b5 C B F w) w (b5 C (wM c d B) (dp F d (F c)) w) w:=fun b ⟨cB,cH,dO⟩=>⟨⟨cB,cH,fun e ch U bj=>by
  obtain⟨eT,cG,g1,_,g2,_⟩:=back e ch U;rw[g2] at bj;exact dO eT cG g1 bj⟩,rfl⟩
 refine⟨E,G,dp ρ d (ρ c),dp F d (F c),⟨al.fr,fun b ch O=>?_,fun b ch O x hx=>?_,fun b ej ch ch' x O dB a8 hx dY=>?_,fun e U=>?_,al.lp⟩,fun s=>?_⟩
 .obtain⟨eT,cG,g1,rfl,g2,cK,_⟩:=back b ch O;rw[g2,cK];have:=al.holds eT cG g1;have gg:=f3 eT cG g1
  cases cG with
  |cells l=>
   obtain⟨b',aF,T,cS,en⟩:=this;exact⟨b',aF,T,cS,cg.mono a2 _ _ (fun _ _=>rfl) (cg.aX l aF gg en)⟩
  |row e u xs=>exact Holds.cr (ρ':=ρ) a2 (fun _ _=>rfl) (as2 _) (.row e u xs) (fun _ _=>rfl) this
  |map aI aK es=>exact Holds.cr (ρ':=ρ) a2 (fun _ _=>rfl) (as2 _) (.map aI aK es) (fun _ _=>rfl) this
  |val u x=>exact Holds.cr (ρ':=ρ) a2 (fun _ _=>rfl) (as2 _) (.val u x) (fun _ _=>rfl) this
  |aH o=>exact Holds.cr (ρ':=ρ) a2 (fun _ _=>rfl) (as2 _) (.aH o) (fun _ _=>rfl) this
  |b7 j o=>
   have G:=Holds.cr (ρ':=ρ) a2 (fun _ _=>rfl) (as2 _) (.b7 j o) (fun _ _=>rfl) this;unfold ba.aX;simp only
   split
   .rename_i e;have:=at1 e;subst this;simp only[Holds,dh] at G⊢;exact G
   .have V:j≠d:=fun e=>by subst e;simp[ba.has] at gg
    simp only[Holds] at G⊢;rw[du _ _ V];exact G
 .obtain⟨eT,cG,g1,_,g2,_⟩:=back b ch O;rw[g2] at hx;exact al.own eT cG g1 x hx
 .obtain⟨eT,cG,g1,_,g2,_,jW⟩:=back b ch O;obtain⟨b1,jm,b',_,cS,_,e0⟩:=back ej ch' dB;rw[g2] at hx;rw[cS] at dY;refine al.fw eT b1 cG jm x g1 b' (fun e=>?_) hx dY;subst e;rcases jW with⟨af,ao⟩ |⟨af,ao,bo⟩ <;>rcases e0 with⟨c7,fY⟩ |⟨c7,fY,ia⟩
  .exact a8 (af.trans c7.symm)
  .exact fY (ia.symm.trans ao)
  .exact ao (bo.symm.trans fY)
  .exact a8 (bo.symm.trans ia)
 .rw[du _ _ (fun b9=>by subst b9;exact iZ U)];exact al.eP e U
 .rw[Q1];exact cA.mono a2 _ _ (fun _ _=>rfl) (cA.aX _ _ (eW s) (av s))
end
def bw.go {P:aH6} {aV:dt} {N:Nat} {ids:aH0} {K K':aZ} {B B':aA} {Q:o9->aZ->aA->Prop} {c:Code} (bl:eq P aV) (ce:Ap P aV N ids) (stops:aH0) (J:j0 P N c=true) (h:ac ids K B K' B') (cm:jV P aV N ids stops c K' B' Q):bw P N ids c K B Q:=
 bw.le h (Aq bl ce stops c K' B' Q J cm)
end
section
section fold
variable {T m' abg:Type} (get:m'->Nat->abg) (j2:T->m'->m') (vd:T->Nat->Prop)
def fZ (m:Nat->Bool):Nat->List T->m'->m'
 |_,[],x=>x
 |i,t::l,x=>fZ m (i+1) l (if m i then j2 t x else x)
variable (E: ∀t x s,¬vd t s->get (j2 t x) s=get x s) (G: ∀t x y s,get x s=get y s->get (j2 t x) s=get (j2 t y) s)
include E G in
def Au (m gN:Nat->Bool) (s:Nat): ∀(l:List T) (i:Nat) (x y:m'),(∀j t,l[j]? =some t->vd t s->m (i+j)=gN (i+j))->get x s=get y s->get (fZ j2 m i l x) s=get (fZ j2 gN i l y) s
 | [],i,x,y,_,U=>U
 |t::l,i,x,y,h,U=>by
  unfold fZ;refine Au m gN s l (i+1) _ _ (fun j u V a6=>by rw[show i+1+j=i+(j+1) by omega];exact h (j+1) u aF1 a6) ?_
  by_cases cm:vd t s
  .have:=h 0 t rfl cm;rw[az5] at this;rw[this]
   split
   .exact G t x y s U
   .exact U
  .have af:get (if m i then j2 t x else x) s=get x s:=by split;exact E t x s cm;rfl
   have ao:get (if gN i then j2 t y else y) s=get y s:=by split;exact E t y s cm;rfl
   rw[af,ao,U]
include E G in
def Kq (m:Nat->Bool) (k:Nat) (s:Nat): ∀(l:List T) (i:Nat) (x:m') (t:T),l[k]? =some t->m (i+k)=false->(∀j u,k < j->l[j]? =some u->m (i+j)=true->vd t s-> ¬vd u s)->
  get (fZ j2 (fun j=>m j||j == i+k) i l x) s=get (j2 t (fZ j2 m i l x)) s
 | [],i,x,t,Z,_,_=>by simp at Z
 |u::l,i,x,t,Z,ay,ak=>by
  unfold fZ
  match k with
  |0=>
   simp only[at9,as9] at Z;subst Z;rw[az5] at ay;simp only[az5,ay,BEq.rfl,Bool.or_true,if_true,Bool.false_eq_true,if_false]
   by_cases cm:vd u s
   .
    have af: ∀y,get (fZ j2 (fun j=>m j||j == i) (i+1) l y) s=get (fZ j2 (fun _=>false) (i+1) l y) s:=fun y=>
     Au get j2 vd E G _ _ s l (i+1) y y (fun j v V az=>by
      have a8:(i+1+j == i)=false:=by rw[beq_eq_false_iff_ne];omega
      rw[a8,Bool.or_false]
      cases ou:m (i+1+j) with
      |false=>rfl
      |true=>exact as3 az (ak (j+1) v aD1 aF1 (by rw[show i+(j+1)=i+1+j by omega];exact ou) cm)) rfl
    have ao: ∀y,get (fZ j2 m (i+1) l y) s=get (fZ j2 (fun _=>false) (i+1) l y) s:=fun y=>
     Au get j2 vd E G _ _ s l (i+1) y y (fun j v V az=>by
      cases ou:m (i+1+j) with
      |false=>rfl
      |true=>exact as3 az (ak (j+1) v aD1 aF1 (by rw[show i+(j+1)=i+1+j by omega];exact ou) cm)) rfl
    have bo: ∀(l:List T) (i:Nat) (y:m'),fZ j2 (fun _=>false) i l y=y:=fun l=>by
     induction l with
     |nil=>exact fun _ _=>rfl
     |cons v l bn=>intro i y;unfold fZ;simp[bn]
    rw[af,bo];exact G u x _ s (by rw[ao,bo])
   .rw[E u _ s cm]
    exact Au get j2 vd E G _ _ s l (i+1) _ _ (fun j v V az=>by
     have a8:(i+1+j == i)=false:=by rw[beq_eq_false_iff_ne];omega
     rw[a8,Bool.or_false]) (E u x s cm)
  |k+1=>
   have a8:(i == i+(k+1))=false:=by rw[beq_eq_false_iff_ne];omega
   simp only[a8,Bool.or_false];have:=Kq m k s l (i+1) (if m i=true then j2 u x else x) t (by simpa using Z) (by rw[show i+1+k=i+(k+1) by omega];exact ay) (fun j v V az abh cm=>ak (j+1) v aD1 aF3 (by rw[show i+(j+1)=i+1+j by omega];exact abh) cm);rw[<-this]
   have e:(fun j=>m j||j == i+1+k)=(fun j=>m j||j == i+(k+1)):=by
    funext j
    rw[show i+1+k=i+(k+1) by omega]
   rw[e]
end fold
section
variable {P:aH6} {aV:dt} {N:Nat} {ids:aH0}
abbrev hW:=Oper×lr
def hX (t:hW) (K:aZ):aZ:=mY t.1.dst t.2.v K
def j3 (t:hW) (B:aA):aA:=hy t.2.e.iV B
def F7 (t:hW) (s:Nat):Prop:=t.1.dst=some s
def Q4 (t:hW) (s:Nat):Prop:=s∈FE t.2.e
def Q5 (t:hW) (K:aZ) (s:Nat) (h: ¬F7 t s):dR (hX t K) s=dR K s:=by
 unfold hX mY;unfold F7 at h
 split
 .rename_i d e;rw[kV,mu (fun x=>h (by rw[e,x]))]
 .rfl
def Q6 (t:hW) (K K':aZ) (s:Nat) (h:dR K s=dR K' s):dR (hX t K) s=dR (hX t K') s:=by
 unfold hX mY
 split
 .rw[kV,kV,h]
 .exact h
def F8: ∀(l:List (Nat×Option ba)) (B B':aA) (s:Nat),aj B s=aj B' s->aj (hy l B) s=aj (hy l B') s
 | [],B,B',s,h=>h
 |(c,none)::l,B,B',s,h=>F8 l _ _ s (by rw[hM,hM,h])
 |(c,some ch)::l,B,B',s,h=>F8 l _ _ s (by rw[ci,ci,h])
def F9: ∀(l:List (Nat×Option ba)) (B:aA) (s:Nat),s∉l.map (·.1)->aj (hy l B) s=aj B s
 | [],B,s,h=>rfl
 |(c,none)::l,B,s,h=>by
  simp only[au1,as8,not_or] at h;unfold hy;rw[F9 l _ s h.2,hM,mu (ay4 h.1)]
 |(c,some ch)::l,B,s,h=>by
  simp only[au1,as8,not_or] at h;unfold hy;rw[F9 l _ s h.2,ci,mu (ay4 h.1)]
def fe.congr {C:fv} {K K':aZ} {B B':aA} {a:Act} {w:aH5} (cE: ∀s,dR K' s=dR K s) (cQ: ∀c,aj B' c=aj B c) (h:fe N ids C K B a w):fe N ids C K' B' a w:=by
 obtain⟨E,G,ρ,F,al,av⟩:=h
 have a1:b5 C B' F w=b5 C B F w:=by
  funext b
  simp only[b5,cQ]
 refine⟨E,G,ρ,F,⟨al.fr,fun c ch J=>?_,fun c ch J=>al.own c ch (by rw[<-cQ];exact J),fun c ca ch ch' b J cW=>al.fw c ca ch ch' b (by rw[<-cQ];exact J) (by rw[<-cQ];exact cW),al.eP,al.lp⟩,fun s=>?_⟩
 .rw[a1];exact al.holds c ch (by rw[<-cQ];exact J)
 .rw[a1,cE];exact av s
def Ga (P:aH6) (N:Nat) (ids:aH0) (all:aI6) (t:hW) (K:aZ) (B:aA):Prop:=
 (uT all K t.1.guard=some false/\t.2.v= .undef/\t.2.e=bK)\/(uT all K t.1.guard=some true/\bD P N ids t.1 K B t.2.v t.2.e/\ ∀c,c∈t.2.e.bb->hk ids K B c=true)
def bD.lit {o:Oper} {K:aZ} {B:aA} {b:Bool} {e:fE} (h:bD P N ids o K B (.c (.one (.d (.bool b)))) e):bD P N ids o K B (.c (.one (.d (.lit b)))) e:=by
 intro K' B' g1 g2 cK C a w au bv ga Q cE;refine h K' B' g1 g2 cK C a w au bv ga Q fun a' w' er=>cE a' w' ?_
 cases H:o.dst with
 |none=>rw[H] at er;exact er
 |some d=>rw[H] at er;exact er.lit
def bD.any {o:Oper} {K:aZ} {B:aA} {v dr:aS} {e:fE} (H:o.dst=none) (h:bD P N ids o K B v e):bD P N ids o K B dr e:=by
 intro K' B' g1 g2 cK C a w au bv ga Q cE;refine h K' B' g1 g2 cK C a w au bv ga Q fun a' w' er=>cE a' w' ?_
 rw[H] at er⊢;exact er
def CN (P:aH6) (N:Nat) (ids:aH0) (all:aI6):List hW->aZ->aA->Prop
 | [],_,_=>True
 |t::l,K,B=>Ga P N ids all t K B/\CN P N ids all l (hX t K) (j3 t B)
def runK:List hW->aZ->aZ
 | [],K=>K
 |t::l,K=>runK l (hX t K)
def Av:List hW->aA->aA
 | [],B=>B
 |t::l,B=>Av l (j3 t B)
def Q7 (bl:eq P aV) (all:aI6): ∀(l:aI6) (i:Nat) (K:aZ) (B:aA) (gJ:List lr) (k:aZ->aA->List lr->Prop),tP P aV ids all i l K B gJ k->
  ∃cx:List hW,cx.map (·.1)=l/\CN P N ids all cx K B/\k (runK cx K) (Av cx B) ((cx.map (·.2)).reverse++gJ)
 | [],i,K,B,gJ,k,h=>⟨[],rfl,trivial,h⟩
 |o::l,i,K,B,gJ,k,h=>by
  have pg: ∀(n:lr),Ga P N ids all (o,n) K B->tP P aV ids all (i+1) l (hX (o,n) K) (j3 (o,n) B) (n::gJ) k-> ∃cx:List hW,cx.map (·.1)=o::l/\CN P N ids all cx K B/\k (runK cx K) (Av cx B) ((cx.map (·.2)).reverse++gJ):=fun n hn az=>by
   obtain⟨cx,E,G,ah⟩:=Q7 bl all l (i+1) _ _ _ k az;exact⟨(o,n)::cx,by simp[E],⟨hn,G⟩,by simpa[runK,Av] using ah⟩
  rw[PZ] at h;unfold FC at h;simp only[Jk] at h
  split at h
  .exact h.elim
  .rename_i hw
   split at h
   .rename_i d e;exact pg ⟨i,.undef,bK⟩ (.inl ⟨hw,rfl,rfl⟩) (by simpa[hX,j3,mY,e,hy] using h)
   .rename_i e;exact pg ⟨i,.undef,bK⟩ (.inl ⟨hw,rfl,rfl⟩) (by simpa[hX,j3,mY,e,hy] using h)
  .rename_i hw;obtain⟨v,e,h,aq,hf⟩:=Kd (N:=N) bl h
   split at h
   .rename_i ao;exact pg ⟨i,.undef,e⟩ (.inr ⟨hw,bD.any ao aq,hf⟩) (by simpa[hX,j3,mY,ao] using h)
   .rename_i d ao
    split at h
    .rename_i b aU
     cases b with
     |true=>exact pg ⟨i,.c (.one (.d (.lit true))),e⟩ (.inr ⟨hw,aq.lit,hf⟩) (by simpa[hX,j3,mY,ao] using h.1 rfl)
     |false=>exact pg ⟨i,.c (.one (.d (.lit false))),e⟩ (.inr ⟨hw,aq.lit,hf⟩) (by simpa[hX,j3,mY,ao] using h.2 rfl)
    .exact pg ⟨i,_,e⟩ (.inr ⟨hw,aq,hf⟩) (by simpa[hX,j3,mY,ao] using h)
def Q8 {all:aI6}: ∀(cx:List hW) (i:Nat) (K:aZ) (B:aA),CN P N ids all cx K B-> ∀(p:Nat) (t:hW),cx[p]? =some t->Ga P N ids all t (fZ hX (fun j=>decide (j < i+p)) i cx K) (fZ j3 (fun j=>decide (j < i+p)) i cx B)
 | [],i,K,B,_,p,t,ae=>by simp at ae
 |u::cx,i,K,B,h,0,t,ae=>by
  simp only[at9,as9] at ae;subst ae
  have bo: ∀{m':Type} (j2:hW->m'->m') (l:List hW) (q:Nat) (y:m'),i<=q->fZ j2 (fun j=>decide (j < i+0)) q l y=y:=fun {m'} j2 l=>by
   induction l with
   |nil=>exact fun _ _ _=>rfl
   |cons v l bn=>
    intro q y aQ;unfold fZ;rw[bn (q+1) _ aD1];simp only[av6];rw[mu aD1]
  rw[bo hX _ i K (as2 _),bo j3 _ i B (as2 _)];exact h.1
 |u::cx,i,K,B,h,p+1,t,ae=>by
  have:=Q8 cx (i+1) _ _ h.2 p t (by simpa using ae);unfold fZ;simp only[av6];rw[vj aD1,vj aD1];rw[show i+(p+1)=i+1+p by omega];exact this
def Q9: ∀(cx:List hW) (i:Nat) (m:Nat->Bool) (K:aZ),(∀j,j < cx.length->m (i+j)=true)->runK cx K=fZ hX m i cx K
 | [],_,_,_,_=>rfl
 |t::cx,i,m,K,h=>by
  unfold runK fZ;rw[vj (by simpa using h 0 aD3)];exact Q9 cx (i+1) m _ fun j V=>by rw[show i+1+j=i+(j+1) by omega];exact h (j+1) aF1
def Ra: ∀(cx:List hW) (i:Nat) (m:Nat->Bool) (B:aA),(∀j,j < cx.length->m (i+j)=true)->Av cx B=fZ j3 m i cx B
 | [],_,_,_,_=>rfl
 |t::cx,i,m,B,h=>by
  unfold Av fZ;rw[vj (by simpa using h 0 aD3)];exact Ra cx (i+1) m _ fun j V=>by rw[show i+1+j=i+(j+1) by omega];exact h (j+1) aF1
def Rb {c:Nat}: ∀(cx:List hW) (i:Nat) (m:Nat->Bool) (K:aZ),uP c K=true->(∀(j:Nat) (t:hW),cx[j]? =some t->m (i+j)=true->named t.2 c=false)->uP c (fZ hX m i cx K)=true
 | [],_,_,_,h,_=>h
 |t::cx,i,m,K,h,ay=>by
  unfold fZ;refine Rb cx (i+1) m _ ?_ fun j u V a6=>ay (j+1) u aF1 (by rw[show i+(j+1)=i+1+j by omega];exact a6)
  split
  .rename_i aE;have:=ay 0 t rfl (by simpa using aE);simp only[named,ax0] at this;unfold hX mY
   split
   .simp[uP,this.1,h]
   .exact h
  .exact h
def Kr {c:Nat}: ∀(B:aA) (d:Nat),kZ c B=true->kZ c (g8 B d)=true
 | [],d,h=>h
 |(t,v)::B,d,h=>by
  simp only[kZ,as1] at h;unfold g8
  split
  .exact Kr B d h.2
  .simp[kZ,h.1,Kr B d h.2]
def Ks {c:Nat}: ∀(l:List (Nat×Option ba)) (B:aA),Ac c l=false->kZ c B=true->kZ c (hy l B)=true
 | [],B,_,h=>h
 |(d,none)::l,B,ak,h=>by
  simp only[Ac,ax0] at ak;exact Ks l _ ak.2 (Kr B d h)
 |(d,some ch)::l,B,ak,h=>by
  simp only[Ac,ax0] at ak;exact Ks l _ ak.2 (by simp[kZ,ak.1.1,ak.1.2,h])
def Rc {c:Nat}: ∀(cx:List hW) (i:Nat) (m:Nat->Bool) (B:aA),kZ c B=true->(∀(j:Nat) (t:hW),cx[j]? =some t->m (i+j)=true->named t.2 c=false)->kZ c (fZ j3 m i cx B)=true
 | [],_,_,_,h,_=>h
 |t::cx,i,m,B,h,ay=>by
  unfold fZ;refine Rc cx (i+1) m _ ?_ fun j u V a6=>ay (j+1) u aF1 (by rw[show i+(j+1)=i+1+j by omega];exact a6)
  split
  .rename_i aE;have:=ay 0 t rfl (by simpa using aE);simp only[named,ax0] at this;exact Ks _ _ this.2 h
  .exact h
def ye (all:aI6) (m:Nat->Bool):Prop:= ∀(j:Nat) (o:Oper),all[j]? =some o->m j=true-> ∀d∈qy o,m d=true
def Rd (all:aI6): ∀(l CO:aI6) (acc:List aH0),all=CO++l->acc.length=CO.length->(∀j a,a∈acc.getD j []-> ∀m,ye all m->m j=true->m a=true)-> ∀j a,a∈(Aa l acc).getD j []-> ∀m,ye all m->m j=true->m a=true
 | [],CO,acc,_,_,h=>h
 |o::l,CO,acc,U,ak,h=>by
  unfold Aa;refine Rd all l (CO++[o]) _ aG6 (by simp[ak]) ?_;intro j a ha m ay V;rw[as7] at ha;rcases Nat.lt_trichotomy j acc.length with bv |sN |u2
  .rw[au7 bv,<-as7] at ha;exact h j a ha m ay V
  .subst sN;rw[au6 (as2 _)] at ha;simp only[Nat.sub_self,at9,az1,au4,List.mem_flatMap] at ha;have ag:all[acc.length]? =some o:=by rw[U,ak];simp
   rcases ha with ha |⟨d,H,ha⟩
   .exact ay _ o ag V a ha
   .exact h d a ha m ay (ay _ o ag V d H)
  .rw[aA5 aE3] at ha;simp at ha
def Kt {all:aI6} {an:List aH0}: ∀(L:List (Oper×lr×Nat)),uV all an L=true-> ∀(i j:Nat) (x y:Oper×lr×Nat),i < j->L[i]? =some x->L[j]? =some y->((an.getD y.2.2 []).contains x.2.2&& !y.2.1.e.bb.any (named x.2.1)||apart all x.1 y.1 x.2.1 y.2.1)=true
 | [],_,i,j,x,y,_,hx,_=>by simp at hx
 |aB::L,h,0,j+1,x,y,_,hx,aC=>by
  simp only[at9,as9] at hx;subst hx;obtain⟨o,n,i⟩:=aB;simp only[uV,as1] at h;have:=av3.1 h.1 y (ax6 (by simpa using aC));obtain⟨p,m,rG⟩:=y;exact this
 |aB::L,h,i+1,j+1,x,y,bv,hx,aC=>by
  obtain⟨o,n,k⟩:=aB;simp only[uV,as1] at h;exact Kt L h.2 i j x y aD1 aG5 (by simpa using aC)
 |aB::L,h,i,0,x,y,bv,hx,aC=>by omega
def Aw {a b:aH0} (h:Ab a b=false) {x:Nat} (E:x∈a) (G:x∈b):False:=by unfold Ab at h;rw[List.any_eq_false] at h;have:=h x E;simp at this;exact this G
def Re {a:aH0} {f:Nat->Bool} (h:a.any f=false) {x:Nat} (E:x∈a):f x=false:=by rw[List.any_eq_false] at h;simpa using h x E
def abi {all:aI6} {l5:aZ} {na:aA} {cx:List hW} (jZ:cx.map (·.1)=all) (dK:CN P N ids all cx l5 na) (dw:wB l5 na all ((cx.map (·.2)).reverse++[])=true) {m:Nat->Bool} (ay:ye all m) {i:Nat} {t:hW} (aE:cx[i]? =some t) (ve:m i=false) (Gb: ∀d∈qy t.1,m d=true):
  Ga P N ids all t (fZ hX m 0 cx l5) (fZ j3 m 0 cx na)/\(∀s,dR (fZ hX (fun j=>m j||j == i) 0 cx l5) s=dR (hX t (fZ hX m 0 cx l5)) s)/\(∀s,aj (fZ j3 (fun j=>m j||j == i) 0 cx na) s=aj (j3 t (fZ j3 m 0 cx na)) s)/\
  (∀d∈qy t.1,d < i):=by
 simp only[wB,av8,List.reverse_reverse,as1] at dw;obtain⟨⟨abj,ov⟩,Rf⟩:=dw;have vf: ∀(j:Nat) (u:hW),cx[j]? =some u->all[j]? =some u.1:=fun j u V=>by rw[<-jZ,au8,V];rfl
 have cO: ∀(j:Nat) (u:hW),cx[j]? =some u->(((all.zip (cx.map (·.2))).zipIdx).map fun((o,n),i)=>(o,n,i))[j]? =some (u.1,u.2,j):=fun j u V=>by
  have aN:(all.zip (cx.map (·.2)))[j]? =some (u.1,u.2):=by
   rw[List.getElem?_zip_eq_some];exact⟨vf j u V,by rw[au8,V];rfl⟩
  rw[au8,List.getElem?_zipIdx,aN];simp
 have abk: ∀d∈qy t.1,d < i:=fun d H=>by
  have lK:(t.1,i)∈all.zipIdx:=by
   rw[List.mem_iff_getElem?];exact⟨i,by rw[List.getElem?_zipIdx,vf i t aE];simp⟩
  have:=av3.1 abj _ lK;have:=av3.1 this d H;simpa[Nat.blt_eq] using this
 have Rg:=Rd all all [] [] aD3 rfl (fun j a ha=>by simp at ha)
 have abl:ye all (fun j=>m j||j == i):=fun j o ag V d H=>by
  simp only[ay3,beq_iff_eq] at V⊢;rcases V with V |rfl
  .exact .inl (ay j o ag V d H)
  .rw[vf j t aE] at ag;injection ag with ag
   subst ag;exact .inl (Gb d H)
 have Ku: ∀(j:Nat) (u:hW),cx[j]? =some u->j < i->(apart all u.1 t.1 u.2 t.2=true\/m j=true)/\t.2.e.bb.any (named u.2)=false:=fun j u V bv=>by
  have:=Kt _ Rf j i _ _ bv (cO j u V) (cO i t aE);simp only[ay3,as1,au9,av4] at this;rcases this with⟨E,G⟩ |h
  .refine⟨.inr ?_,G⟩;have:=Rg i j E _ abl aD3;simp only[ay3,beq_iff_eq] at this;rcases this with h |h
   .exact h
   .omega
  .refine⟨.inl h,?_⟩;simp only[apart,as1,au9] at h;exact h.2
 have CP: ∀(j:Nat) (u:hW),cx[j]? =some u->i < j->apart all t.1 u.1 t.2 u.2=true\/m j=false:=fun j u V bv=>by
  have:=Kt _ Rf i j _ _ bv (cO i t aE) (cO j u V);simp only[ay3,as1,av4] at this;rcases this with⟨E,_⟩ |h
  .right
   cases ou:m j with
   |false=>rfl
   |true=>have:=Rg j i E m ay ou;rw[ve] at this;cases this
  .exact .inl h
 have Rh: ∀s,s∈FD all t.1->dR (fZ hX m 0 cx l5) s=dR (fZ hX (fun j=>decide (j < 0+i)) 0 cx l5) s:=fun s au=>
  Au dR hX F7 Q5 Q6 _ _ s cx 0 l5 l5 (fun j u V a6=>by
   rw[aw9,aw9];have Ri:s∈u.1.dst.toList:=by rw[show u.1.dst=some s from a6];simp
   rcases Nat.lt_trichotomy j i with h |h |h
   .simp only[h,decide_true];refine((Ku j u V h).1).resolve_left fun ha=>?_
    simp only[apart,as1,au9] at ha;exact Aw ha.1.1.1.1.1 Ri (List.mem_append_left _ au)
   .subst h;simp[ve]
   .rw[show decide (j < i)=false by simp;omega];refine(CP j u V h).resolve_left fun ha=>?_
    simp only[apart,as1,au9] at ha;exact Aw ha.1.1.1.1.2 Ri au) rfl
 have abm: ∀c,c∈t.2.e.jE->aj (fZ j3 m 0 cx na) c=aj (fZ j3 (fun j=>decide (j < 0+i)) 0 cx na) c:=fun c J=>
  Au aj j3 Q4 (fun t x s h=>F9 _ _ _ h) (fun t x y s h=>F8 _ _ _ _ h) _ _ c cx 0 na na (fun j u V a6=>by
   rw[aw9,aw9];rcases Nat.lt_trichotomy j i with h |h |h
   .simp only[h,decide_true];refine((Ku j u V h).1).resolve_left fun ha=>?_
    simp only[apart,as1,au9] at ha;exact Aw ha.1.1.1.2 a6 (List.mem_append_left _ J)
   .subst h;simp[ve]
   .rw[show decide (j < i)=false by simp;omega];refine(CP j u V h).resolve_left fun ha=>?_
    simp only[apart,as1,au9] at ha;exact Aw ha.1.1.2 a6 J) rfl
 refine⟨?_,fun s=>?_,fun s=>?_,abk⟩
 .have wN:=Q8 cx 0 l5 na dK i t aE
  have hw:uT all (fZ hX m 0 cx l5) t.1.guard=uT all (fZ hX (fun j=>decide (j < 0+i)) 0 cx l5) t.1.guard:=by
   unfold uT
   cases aU:t.1.guard with
   |none=>rfl
   |some p=>
    obtain⟨j,want⟩:=p;simp only
    cases au:Cn all j with
    |none=>rfl
    |some s=>
     simp only;rw[Rh s (by unfold FD;rw[aU];simp[au])]
  rcases wN with⟨E,G,ah⟩ |⟨E,G,ah⟩
  .exact .inl ⟨hw.trans E,G,ah⟩
  .refine .inr ⟨hw.trans E,?_,fun c J=>?_⟩
   .intro K' B' g1 g2 cK;refine G K' B' (fun x hx=>(g1 x hx).trans ?_) (fun c J=>(g2 c J).trans (abm c J)) cK
    cases x with
    |tmp s=>exact Rh s (List.mem_append_left _ (List.mem_filterMap.2 ⟨.tmp s,by simpa using hx,rfl⟩))
    |_=>rfl
   .have hf:=ah c J;simp only[hk,as1] at hf⊢;have x6:=av3.1 ov t.2 (av0.2 ⟨t,ax6 aE,rfl⟩);have x6:=av3.1 x6 c J;simp only[as1] at x6
    have gg: ∀(j:Nat) (u:hW),cx[j]? =some u->m (0+j)=true->named u.2 c=false:=fun j u V ou=>by
     rw[aw9] at ou;rcases Nat.lt_trichotomy j i with h |h |h
     .exact Re (Ku j u V h).2 J
     .subst h;rw[ve] at ou;cases ou
     .rcases CP j u V h with ha |ha
      .simp only[apart,as1,au9] at ha;exact Re ha.1.2 J
      .rw[ou] at ha;cases ha
    exact⟨⟨Rb cx 0 m l5 x6.1 gg,Rc cx 0 m na x6.2 gg⟩,hf.2⟩
 .have:=Kq dR hX F7 Q5 Q6 m i s cx 0 l5 t aE (by simpa using ve) (fun j u bv V ou E G=>by
   rw[aw9] at ou;rcases CP j u V bv with ha |ha
   .simp only[apart,as1,au9] at ha;exact Aw (x:=s) ha.1.1.1.1.1 (by rw[show t.1.dst=some s from E];simp) (List.mem_append_right _ (by rw[show u.1.dst=some s from G];simp))
   .rw[ou] at ha;cases ha)
  simpa using this
 .have:=Kq aj j3 Q4 (fun t x s h=>F9 _ _ _ h) (fun t x y s h=>F8 _ _ _ _ h) m i s cx 0 na t aE (by simpa using ve) (fun j u bv V ou E G=>by
   rw[aw9] at ou;rcases CP j u V bv with ha |ha
   .simp only[apart,as1,au9] at ha;exact Aw ha.1.1.1.2 E (List.mem_append_right _ G)
   .rw[ou] at ha;cases ha)
  simpa using this
def Ax (bl:eq P aV):Ap P aV N ids:=by
 intro id dn l5 na k H abn h C a w au rd Q nJ;refine wpIn_region_any abn ?_;obtain⟨cx,jZ,dK,dw,Z⟩:=Q7 (N:=N) bl dn.toList dn.toList 0 l5 na [] _ h
 have bX:cx.length=dn.size:=by
  have:=as5 List.length jZ;simpa using this
 have vf: ∀(j:Nat) (u:hW),cx[j]? =some u->dn.toList[j]? =some u.1:=fun j u V=>by rw[<-jZ,au8,V];rfl
 have Rj: ∀(j:Nat) (u:hW),cx[j]? =some u->(∀d,u.1.dst=some d->d < N)/\ ∀c,u.1.op≠ .defer c:=fun j u V=>by
  have key: ∀(l:aI6),t1 N l=true-> ∀o∈l,(∀d,o.dst=some d->d < N)/\ ∀c,o.op≠ .defer c:=fun l=>by
   induction l with
   |nil=>intro _ o ag;cases ag
   |cons x l bn=>
    intro hx o ag;simp only[t1,as1] at hx;rcases as8.1 ag with rfl |ag
    .exact⟨fun d H=>by have hx:=hx.1.1;rw[H] at hx;simpa[Nat.blt_eq] using hx,Kf hx.1.2⟩
    .exact bn hx.2 o ag
  exact key _ H u.1 (ax6 (vf j u V))
 have bv: ∀(j:Nat) (u:hW),cx[j]? =some u-> ∀d,u.1.dst=some d->d < N:=fun j u V=>(Rj j u V).1
 have sL: ∀(fuel:Nat) (gO:Array Bool) (a:Act) (w:aH5),gO.size=dn.size->gO.toList.count false<=fuel->ye dn.toList (fun j=>gO.getD j false)->
   fe N ids C (fZ hX (fun j=>gO.getD j false) 0 cx l5) (fZ j3 (fun j=>gO.getD j false) 0 cx na) a w->wpAnyIn (pb rd) 0 P .any dn Q fuel gO a w:=by
  intro fuel
  have done: ∀(gO:Array Bool) (a:Act) (w:aH5),gO.size=dn.size->(∀j,j < dn.size->gO.getD j false=true)->fe N ids C (fZ hX (fun j=>gO.getD j false) 0 cx l5) (fZ j3 (fun j=>gO.getD j false) 0 cx na) a w->Q .normal a w:=fun gO a w cz wO er=>by
   rw[<-Q9 cx 0 _ l5 (fun j V=>by simpa using wO j aD1),<-Ra cx 0 _ na (fun j V=>by simpa using wO j aD1)] at er;exact nJ _ _ Z a w er
  have abo: ∀(gO:Array Bool),gO.size=dn.size->ye dn.toList (fun j=>gO.getD j false)->Region.ready .any dn gO=[]-> ∀j,j < dn.size->gO.getD j false=true:=fun gO cz dW ax=>by
   intro j
   induction j using Nat.strongRecOn with
   |_ j bn=>
    intro V;obtain⟨u,a6⟩: ∃u,cx[j]? =some u:=⟨_,as0 aD1⟩
    cases wP:gO.getD j false with
    |true=>rfl
    |false=>
     exfalso
     have lK:j∈Region.ready .any dn gO:=by
      unfold Region.ready;rw[aB9];refine⟨List.mem_range.2 V,?_⟩
      have sB:gO.getD j true=false:=by
       rw[az7] at wP⊢;rw[Array.getElem?_eq_getElem aD1] at wP⊢;simpa using wP
      have ag:dn[j]? =some u.1:=by simpa using vf j u a6
      simp only[sB,Bool.not_false,aB4,ag,ay7,az1];rw[Array.all_eq_true_iff_forall_mem];intro e U
      cases O:Region.binds .any e with
      |false=>rfl
      |true=>
       simp only[Bool.not_true,Bool.false_or]
       have eQ:e.on∈qy u.1:=by
        unfold qy;exact av0.2 ⟨e,aB9.2 ⟨by simpa using U,O⟩,rfl⟩
       have Kv:e.on < j:=by
        have ec:=dw;simp only[wB,av8,List.reverse_reverse,as1] at ec
        have lK:(u.1,j)∈dn.toList.zipIdx:=by
         rw[List.mem_iff_getElem?];exact⟨j,by rw[List.getElem?_zipIdx,vf j u a6];simp⟩
        have:=av3.1 ec.1.1 _ lK;have:=av3.1 this _ eQ;simpa[Nat.blt_eq] using this
       exact bn e.on Kv aD1
     rw[ax] at lK
     cases lK
  induction fuel with
  |zero=>
   intro gO a w cz J dW er
   have wO: ∀j,j < dn.size->gO.getD j false=true:=fun j V=>by
    cases wP:gO.getD j false with
    |true=>rfl
    |false=>
     exfalso
     have lK:false∈gO.toList:=by
      rw[az7,Array.getElem?_eq_getElem aD1] at wP;simp only[az1] at wP;rw[<-wP];simp
     have:=List.count_pos_iff.2 lK;omega
   refine⟨?_,done gO a w cz wO er⟩;unfold Region.ready;rw[List.filter_eq_nil_iff];intro j V;have V:=List.mem_range.1 V;have:=wO j V;rw[az7,Array.getElem?_eq_getElem aD1] at this;simp only[az1] at this;simp[Array.getElem?_eq_getElem (show j < gO.size by omega),this]
  |succ fuel bn=>
   intro gO a w cz J dW er;refine⟨fun ax=>done gO a w cz (abo gO cz dW ax) er,fun i aE=>?_⟩;obtain⟨Rk,o,ag,abp⟩:=mem_ready.1 aE;have aro:i < dn.size:=(az9.1 ag).1;obtain⟨t,cm⟩: ∃t,cx[i]? =some t:=⟨_,as0 aD1⟩
   have abq:o=t.1:=by
    have:=vf i t cm;rw[Array.getElem?_toList,ag] at this;injection this
   subst abq
   have Kw:gO.getD i false=false:=by
    rw[az7,Array.getElem?_eq_getElem aD1] at Rk⊢;simpa using Rk
   have Gb: ∀d∈qy t.1,gO.getD d false=true:=fun d H=>by
    unfold qy at H;obtain⟨e,U,rfl⟩:=av0.1 H;obtain⟨jG,gM⟩:=aB9.1 U;exact abp e (by simpa using jG) gM
   obtain⟨wN,abr,abs,_⟩:=abi (m:=fun j=>gO.getD j false) jZ dK dw dW cm Kw Gb
   have hb:(fun j=>(gO.setIfInBounds i true).getD j false)=(fun j=>(gO.getD j false||j == i)):=by
    funext j
    by_cases e:j=i
    .subst e;simp[Array.getElem?_setIfInBounds,show j < gO.size by omega]
    .simp[Array.getElem?_setIfInBounds,ay4 e,e]
   have abt:ye dn.toList (fun j=>(gO.setIfInBounds i true).getD j false):=by
    rw[hb];intro j o' tN V d H;simp only[ay3,beq_iff_eq] at V⊢;rcases V with V |rfl
    .exact .inl (dW j o' tN V d H)
    .rw[vf j t cm] at tN;injection tN with tN
     subst tN;exact .inl (Gb d H)
   have abu:(gO.setIfInBounds i true).toList.count false<=fuel:=by
    rw[Array.toList_setIfInBounds,List.count_set aE3]
    have m4:gO.toList[i]'aE3=false:=by
     rw[az7,Array.getElem?_eq_getElem aD1] at Kw;simpa using Kw
    rw[m4];simp only[BEq.rfl,if_true,show(true == false)=false from rfl,Bool.false_eq_true,if_false];omega
   have next: ∀a' w',fe N ids C (hX t (fZ hX (fun j=>gO.getD j false) 0 cx l5)) (j3 t (fZ j3 (fun j=>gO.getD j false) 0 cx na)) a' w'->wpAnyIn (pb rd) 0 P .any dn Q fuel (gO.setIfInBounds i true) a' w':=fun a' w' gc=>by
    refine bn _ a' w' (by simp[cz]) abu abt ?_;rw[hb];exact gc.congr abr abs
   have abv:=er;obtain⟨_,_,ρ,F,al,av⟩:=abv;unfold wpOpIn;simp only[ag];rcases wN with⟨hw,az,U⟩ |⟨hw,aq,hf⟩
   .have CQ:=Ao hw av;simp only[Array.toArray_toList] at CQ;rw[mu (by rw[CQ];simp)];refine⟨fun _ _=>trivial,next _ _ ?_⟩;have:=er.undef t.1.dst (bv i t cm);unfold hX j3;rw[az,U];exact this
   .have CQ:=Ao hw av;simp only[Array.toArray_toList] at CQ;rw[vj CQ];exact CH (Rj i t cm).2 (aq _ _ (fun _ _=>rfl) (fun _ _=>rfl) hf C a w er (bv i t cm) _ Q fun a' w' gc=>next a' w' gc)
 refine sL dn.size _ a _ aD3 (by simp[List.count_replicate]) (fun j o ag V=>?_) ?_
 .simp only[az7,Array.getElem?_replicate] at V
  split at V <;>simp at V
 .have aN:(fun j=>(Array.replicate dn.size false).getD j false)=fun _=>false:=by
   funext j
   rw[az7];simp only[Array.getElem?_replicate]
   split <;>rfl
  rw[aN]
  have bo: ∀{m':Type} (j2:hW->m'->m') (l:List hW) (q:Nat) (y:m'),fZ j2 (fun _=>false) q l y=y:=fun {m'} j2 l=>by
   induction l with
   |nil=>exact fun _ _=>rfl
   |cons v l bn=>intro q y;unfold fZ;simp[bn]
  rw[bo,bo];obtain⟨E,G,ρ,F,al,av⟩:=au;obtain⟨bC,a2⟩:=al.below (w':={w with drawn:=w.drawn+1}) (Za w);exact⟨E,G,ρ,F,bC,av.mono a2 fun _ _ _=>rfl⟩
end
end
section
def CR (a b c:Nat):Nat:=match Nat.beq c a with
 |true=>b
 |false=>match Nat.beq c b with
  |true=>a
  |false=>c
def Gc {a b:Nat} (h:a≠b):Nat.beq a b=false:=by rw[az6];exact fun e=>h (at1 e)
def Rl (a b c:Nat):CR a b (CR a b c)=c:=by
 unfold CR
 by_cases E:c=a
 .subst E;simp only[Nat.beq_refl]
  by_cases G:b=c
  .subst G;simp
  .simp[Gc G]
 .simp only[Gc E]
  by_cases G:c=b
  .subst G;simp
  .simp[Gc G,Gc E]
def eM:List (Nat×Nat)->Nat->Nat
 | [],c=>c
 |(a,b)::l,c=>eM l (CR a b c)
def Ay:List (Nat×Nat)->Nat->Nat
 | [],c=>c
 |(a,b)::l,c=>CR a b (Ay l c)
def Gd: ∀(l:aJ7) (c:Nat),Ay l (eM l c)=c
 | [],c=>rfl
 |(a,b)::l,c=>by simp only[eM,Ay,Gd l,Rl]
def Ge: ∀(l:aJ7) (c:Nat),eM l (Ay l c)=c
 | [],c=>rfl
 |(a,b)::l,c=>by simp only[eM,Ay,Rl,Ge l]
def lL:List (Nat×Nat)->List (Nat×Nat)->List (Nat×Nat)
 | [],acc=>acc
 |(a,b)::l,acc=>lL l (acc++[(eM acc a,b)])
section
variable (f:Nat->Nat)
def Az:List lo->List lo
 | []=>[]
 | .p c o::l=>.p (f c) o::Az l
 | .d x::l=>.d x::Az l
def bE.eM:bE->bE
 | .ptr c o=>.ptr (f c) o
 | .own c=>.own (f c)
 | .fW c s i o=>.fW (f c) s i o
 | .os c s o n=>.os (f c) s o n
 | .mp c=>.mp (f c)
 | .c3 g l=>.c3 g (Az f l)
 | .d x=>.d x
 | .el u x o=>.el u x o
 | .dV=>.dV
 | .bN v=>.bN v
 | .any=>.any
def AA:List bE->List bE
 | []=>[]
 |s::l=>s.eM f::AA l
def d0.eM:d0->d0
 | .one s=>.one (s.eM f)
 | .agg l=>.agg (AA f l)
 | .kE u x=>.kE u x
def Gf:List d0->List d0
 | []=>[]
 |s::l=>s.eM f::Gf l
def aS.eM:aS->aS
 | .c s=>.c (s.eM f)
 | .cn l=>.cn (Gf f l)
 | .undef=>.undef
def yf:List aS->List aS
 | []=>[]
 |s::l=>s.eM f::yf l
def ba.eM:ba->ba
 | .cells l=>.cells (AA f l)
 | .row e u xs=>.row e u xs
 | .map aI aK es=>.map aI aK es
 | .val u x=>.val u x
 | .aH o=>.aH o
 | .b7 d o=>.b7 (f d) o
def kK:aA->aA
 | []=>[]
 |(c,ch)::B=>(f c,ch.eM f)::kK B
def AB:aH0->aH0
 | []=>[]
 |c::l=>f c::AB l
end
section
variable {f g:Nat->Nat} {ρ:Nat->bq} {I:Nat->Prop} {w:aH5}
def Kx: ∀(l:List lo) (aF:aH4),h7 ρ I w (Az f l) aF=h7 (fun c=>ρ (f c)) I w l aF
 | [],aF=>rfl
 | .p c o::l,aF=>by simp only[Az,h7,xQ,Kx l]
 | .d x::l,aF=>by simp only[Az,h7,xQ,Kx l]
def Rm (s:bE) (v:aI3):d' ρ I w (s.eM f) v=d' (fun c=>ρ (f c)) I w s v:=by
 cases s with
 |c3 g l=>simp only[bE.eM,d',Kx]
 |_=>rfl
def Ky: ∀(l:List bE) (aF:aH4),cg ρ I w (AA f l) aF=cg (fun c=>ρ (f c)) I w l aF
 | [],aF=>rfl
 |s::l,aF=>by simp only[AA,cg,Rm,Ky l]
def Rn (s:d0) (v:aI3):gS ρ I w (s.eM f) v=gS (fun c=>ρ (f c)) I w s v:=by
 cases s with
 |one s=>exact Rm s v
 |agg l=>simp only[d0.eM,gS,Ky]
 |kE u x=>rfl
def Ro: ∀(l:List d0) (aF:aH4),jb ρ I w (Gf f l) aF=jb (fun c=>ρ (f c)) I w l aF
 | [],aF=>rfl
 |s::l,aF=>by simp only[Gf,jb,Rn,Ro l]
def Gg (s:aS) (v:aI3):cA ρ I w (s.eM f) v=cA (fun c=>ρ (f c)) I w s v:=by
 cases s with
 |c s=>exact Rn s v
 |cn l=>simp only[aS.eM,cA,Ro]
 |undef=>rfl
def CS {F:Nat->Prop} {p:bq} (ch:ba):Holds ρ I F w p (ch.eM f)=Holds (fun c=>ρ (f c)) I F w p ch:=by
 cases ch with
 |cells l=>simp only[ba.eM,Holds,Ky]
 |row e u xs=>rfl
 |map aI aK es=>rfl
 |val u x=>rfl
 |aH o=>rfl
 |b7 d o=>rfl
def CT (aU: ∀c,g (f c)=c): ∀(B:aA) (c:Nat),aj (kK f B) (f c)=(aj B c).map (·.eM f)
 | [],c=>rfl
 |(d,ch)::B,c=>by
  simp only[kK];rw[ci,ci,CT aU B c]
  by_cases h:d=c
  .subst h;rw[vj rfl,vj rfl];rfl
  .rw[mu h,mu fun e=>h (by rw[<-aU d,e,aU])]
def Kz: ∀(l:List aS),yf f l=l.map (·.eM f)
 | []=>rfl
 |s::l=>by simp only[yf,au1,Kz l]
def KA: ∀(l:aH0) (c:Nat),c∈l->f c∈AB f l
 | [],c,h=>by cases h
 |d::l,c,h=>by
  rcases as8.1 h with rfl |h
  .exact at6
  .exact as6 _ (KA l c h)
end
def Fn.KB {P:aH6} {fn:aI5} {f g:Nat->Nat} (aU: ∀c,g (f c)=c) (hf: ∀c,f (g c)=c) {args:List aS} {aJ:aA} {bb:aH0} {res:aS} {aT:aA} (h:Fn P fn args aJ bb res aT):
  Fn P fn (yf f args) (kK f aJ) (AB f bb) (res.eM f) (kK f aT):=by
 refine⟨h.1,?_⟩;intro ρ F I w bZ a1 c4 bj eQ bX dI;have mz: ∀(B:aA) c,aj (kK f B) (f c)=(aj B c).map (·.eM f):=CT aU;have pi: ∀{B:aA} {c ch},aj B c=some ch->aj (kK f B) (f c)=some (ch.eM f):=fun {B c ch} h=>by rw[mz,h];rfl
 have vg: ∀{B:aA} {c ch},aj (kK f B) c=some ch-> ∃cG,aj B (g c)=some cG/\ch=cG.eM f:=fun {B c ch} h=>by
  have e:=mz B (g c);rw[hf,h] at e;obtain⟨cG,E,G⟩:=aw3.1 e.symm;exact⟨cG,E,G.symm⟩
 rw[Kz] at bX dI
 have J:=h.2 (fun c=>ρ (f c)) (fun c=>F (f c)) I w bZ a1
  (fun c ch J=>by rw[<-CS];exact c4 _ _ (pi J))
  (fun c ch J=>bj _ _ (pi J))
  (fun c ca ch ch' b E G a8=>eQ _ _ _ _ b (pi E) (pi G) fun e=>a8 (by rw[<-aU c,e,aU]))
  (by simpa using bX)
  (fun i v x az hx=>by rw[<-Gg];exact dI i _ x (by rw[au8,az];rfl) hx)
 refine J.mono ?_;rintro e w' ⟨x,ρ',F',rfl,cJ,dA,I',jG,gM,l6,aq,ix,hx⟩;have yg:(fun c=>ρ' (g (f c)))=ρ':=funext fun c=>by rw[aU]
 refine⟨x,fun c=>ρ' (g c),fun c=>F' (g c),rfl,?_,?_,I',jG,?_,?_,?_,?_,?_⟩
 .exact cJ.mono fun b _ ⟨c,ch,E,G⟩=>⟨f c,_,pi E,G⟩
 .intro c J;show ρ' (g c)=ρ c;rw[dA (g c) (fun ay=>J (by have:=KA (f:=f) _ _ ay;rwa[hf] at this)),hf]
 .intro b O;obtain⟨E,G⟩:=gM b O;refine⟨E,?_⟩;rcases G with G |⟨c,ch,G,ah⟩ |G
  .exact .inl G
  .exact .inr (.inl ⟨f c,_,pi G,ah⟩)
  .exact .inr (.inr G)
 .intro c ch J;obtain⟨cG,E,rfl⟩:=vg J;rw[CS,yg];exact l6 _ _ E
 .intro c ch J b O;obtain⟨cG,E,rfl⟩:=vg J;obtain⟨cB,cH,dO⟩:=aq _ _ E b O;refine⟨cB,cH,?_⟩;rcases dO with⟨g9,cG,dO,fy⟩ |dO
  .exact .inl ⟨f g9,_,pi dO,fy⟩
  .exact .inr dO
 .intro c ca ch ch' b J cW a8;obtain⟨cG,E,rfl⟩:=vg J;obtain⟨jm,G,rfl⟩:=vg cW;exact ix _ _ _ _ b E G fun e=>a8 (by rw[<-hf c,e,hf])
 .rw[Gg,yg];exact hx
def Fn.aX {P:aH6} {fn:aI5} (l:aJ7) {args:List aS} {aJ:aA} {bb:aH0} {res:aS} {aT:aA} (h:Fn P fn args aJ bb res aT):
  Fn P fn (yf (eM (lL l [])) args) (kK (eM (lL l [])) aJ) (AB (eM (lL l [])) bb) (res.eM (eM (lL l []))) (kK (eM (lL l [])) aT):=
 Fn.KB (Gd _) (Ge _) h
end
section
open Go.RowKit Go.ChangeShapes Go.WideShapes Go.Deep Tryz
noncomputable def f0:(u:bB)->aa u->Nat
 | .int _,_=>1
 | .u8,_=>1
 | .bool,_=>1
 | .str,s=>1+List.length s
 | .aM,_=>1
 | .dz,_=>1
 | .fn,_=>1
 | .cc u,xs=>1+(List.map (f0 u) xs).sum
 | .bU u v,p=>f0 u p.1+f0 v p.2
 | .arr _ u,xs=>(List.map (f0 u) xs).sum
def rH:(u:bB)->aa u->Prop
 | .int k,n=>(Lit.int k n).wf=true
 | .cc u,xs=> ∀x,Fa (α:=aa u) x xs->rH u x
 | .bU u v,p=>rH u p.1/\rH v p.2
 | .arr _ u,xs=> ∀x,Fa (α:=aa u) x xs->rH u x
 |_,_=>True
def qG (P:aH6) (ty:bB->TypeId->Bool):bB->List Field->Nat->Bool
 |_,[],_=>false
 |u,[f],off=>Nat.beq f.offset off&&ty u f.type&&Nat.beq (P.cellsOf f.type) (aR u)
 | .bU u v,f::g::fs,off=>Nat.beq f.offset off&&ty u f.type&&Nat.beq (P.cellsOf f.type) (aR u)&&qG P ty v (g::fs) (off+aR u)
 |_,_::_::_,_=>false
def qH (P:aH6):Nat->bB->TypeId->Bool
 |0,_,_=>false
 |n+1,u,t=>match P.underlying t,u with
  |some (.int k),.int ea=>mw k ea
  |some (.int k),.u8=>mw k .u8
  |some .bool,.bool=>true
  |some .string,.str=>true
  |some (.slice e),.cc v=>qH P n v e&&Nat.beq (P.cellsOf e) (aR v)&&Nat.blt 0 (aR v)
  |some (.array m e),.arr gN v=>Nat.beq m gN&&qH P n v e&&Nat.beq (P.cellsOf e) (aR v)
  |some (.struct fs),u=>qG P (qH P n) u fs.toList 0
  |_,_=>false
section
variable {hY:Type} {enc:TypeId×Value->hY} {w:aH5} {base:Nat} {KC:Nat->Bool} {held:Bool} {P:aH6}
def KD (d:DataW hY):1<=Rows.uptoBulk d:=by
 unfold Rows.uptoBulk
 split <;>omega
def Rp (l r:List (DataW hY)):Rows.uptoBulkAll (l++r)=Rows.uptoBulkAll l+Rows.uptoBulkAll r:=by
 induction l with
 |nil=>simp[Rows.uptoBulkAll]
 |cons x l bn=>simp only[List.cons_append,Rows.uptoBulkAll,bn];omega
def Rq (w:aH5) (u:bB) (cs:aH4) (b:Nat):Prop:= ∃a:aa u,cw (fun b=>b < w.heap.size) w u a (fun j=>cs[j]?)/\f0 u a<=b/\rH u a
def yh {I:Nat->Prop} {u:bB} {a:aa u} {c ca:Nat->Option Value} (h:cw I w u a c) (J: ∀j v,c j=some v->ca j=some v):cw I w u a ca:=cw.mono (cp.refl I w) u a c ca J h
def KE {cs:aH4} {o k j:Nat} {v:aI3} (h:((cs.drop o).take k)[j]? =some v):cs[o+j]? =some v:=by
 rw[ax3] at h
 split at h
 .rwa[aA7] at h
 .cases h
def Rr {ty:bB->TypeId->Bool} {n:Nat} (bn: ∀u t,ty u t=true-> ∀cs x,DataW.trod enc P w base KC held n t cs=some x->Rq w u cs (Rows.uptoBulk x.1)):
  ∀(fs:List Field) (u:bB) (off:Nat) (xs:List (DataW hY×List MemPlace)) (cs:aH4),qG P ty u fs off=true->xs.length=fs.length->
   (∀(i:Nat) (f:Field),fs[i]? =some f->DataW.trod enc P w base KC held n f.type ((cs.drop f.offset).take (P.cellsOf f.type))=xs[i]?)->
   ∃a:aa u,cw (fun b=>b < w.heap.size) w u a (fun j=>cs[off+j]?)/\f0 u a<=Rows.uptoBulkAll (xs.map (·.1))/\rH u a
 | [],u,off,xs,cs,h,_,_=>by simp[qG] at h
 | [f],u,off,xs,cs,h,ak,hf=>by
  simp only[qG,as1,Nat.beq_eq] at h;obtain⟨⟨E,G⟩,ah⟩:=h
  match xs,ak with
  | [x],_=>
   obtain⟨a,cB,cH,dO⟩:=bn _ _ G _ _ (hf 0 f rfl);subst E;exact⟨a,yh cB fun j v az=>KE az,by simpa[Rows.uptoBulkAll] using cH,dO⟩
 |f::g::fs,.bU u v,off,xs,cs,h,ak,hf=>by
  simp only[qG,as1,Nat.beq_eq] at h;obtain⟨⟨⟨E,G⟩,ah⟩,aW⟩:=h
  match xs,ak with
  |x::xs,ak=>
   obtain⟨a,cB,cH,dO⟩:=bn _ _ G _ _ (hf 0 f rfl);obtain⟨b,r1,r2,gh⟩:=Rr bn (g::fs) v (off+aR u) xs cs aW aG7 (fun i f aE=>hf (i+1) f aE);subst E;refine⟨(a,b),⟨yh cB fun j v az=>KE az,yh r1 fun j v az=>by simpa only[Nat.add_assoc] using az⟩,?_,dO,gh⟩;simp only[f0,au1,Rows.uptoBulkAll];omega
 |_::_::_,.int _,_,_,_,h,_,_=>by simp[qG] at h
 |_::_::_,.u8,_,_,_,h,_,_=>by simp[qG] at h
 |_::_::_,.bool,_,_,_,h,_,_=>by simp[qG] at h
 |_::_::_,.str,_,_,_,h,_,_=>by simp[qG] at h
 |_::_::_,.aM,_,_,_,h,_,_=>by simp[qG] at h
 |_::_::_,.cc _,_,_,_,h,_,_=>by simp[qG] at h
 |_::_::_,.arr _ _,_,_,_,h,_,_=>by simp[qG] at h
def Rs {α:Type} {l:List α} {y x:α} {i:Nat} (h:fd (l++[y]) i=some x):(i < l.length/\fd l i=some x)\/(i=l.length/\x=y):=by
 unfold fd at*;rcases Nat.lt_trichotomy i l.length with E |E |E
 .rw[au7 E] at h;exact .inl ⟨E,h⟩
 .subst E;simp only[List.getElem?_concat_length,as9] at h;exact .inr ⟨rfl,h.symm⟩
 .rw[aA5 aE3] at h
  cases h
def Gh: ∀(n:Nat) (u:bB) (t:aI0),qH P n u t=true-> ∀(m:Nat) (cs:aH4) (x:DataW hY×List MemPlace),DataW.trod enc P w base KC held m t cs=some x->Rq w u cs (Rows.uptoBulk x.1)
 |0,u,t,h,_,_,_,_=>by simp[qH] at h
 |n+1,u,t,h,m,cs,x,hx=>by
  unfold qH at h
  split at h
  case h_1 k ea a6=>
   obtain rfl:=ol h;obtain⟨i,rfl,rfl,hw⟩:=DataW.trod_int a6 hx;exact⟨i,rfl,KD _,hw⟩
  case h_2 k a6=>
   obtain rfl:=ol h;obtain⟨i,rfl,rfl,hw⟩:=DataW.trod_int a6 hx
   have Z:0<=i/\i < 256:=by
    simp[Lit.wf,IntKind.min,IntKind.max,IntKind.bits,IntKind.signed] at hw;omega
   refine⟨(UInt8.ofNat i.toNat:aJ8),?_,KD _,trivial⟩;show some (Value.int .u8 i)=some (Value.int .u8 _)
   congr 2
   rw[UInt8.toNat_ofNat'];omega
  case h_3 a6=>
   obtain⟨b,rfl,rfl⟩:=DataW.trod_bool a6 hx;exact⟨b,rfl,KD _,trivial⟩
  case h_4 a6=>
   obtain⟨s,rfl,rfl,au⟩:=DataW.trod_string a6 hx;refine⟨(s.data.toList:aG9),rfl,?_,trivial⟩;simp only[f0,Rows.uptoBulk];omega
  case h_5 e v a6=>
   simp only[as1,Nat.beq_eq] at h;obtain⟨⟨E,G⟩,ah⟩:=h;have ah:0 < aR v:=by simpa[Nat.blt_eq] using ah
   rcases open_slice a6 hx with⟨rfl,rfl⟩ |⟨a,len,cap,gN,n',D,bq,rfl,gb,ak,ay,abw,rfl,rI⟩
   .refine⟨([]:List (aa v)),⟨none,0,rfl,as2 _,at2 _,fun h=>as3 h (Nat.lt_irrefl 0)⟩,by simp[f0,Rows.uptoBulk],fun x hx=>by cases hx⟩
   .rw[G] at rI;have k6:len<=gN:=by rw[abw];split <;>omega
    have key: ∀k,k<=len-> ∃l:List (aa v),l.length=k/\(l.map (f0 v)).sum<=Rows.uptoBulkAll ((List.range k).map D)/\(∀x,x∈l->rH v x)/\
      (∀i x,fd l i=some x->cw (fun b=>b < w.heap.size) w v x (fun j=>if j < aR v then w.cell? ((a.add (i*aR v)).add j) else none)):=by
     intro k
     induction k with
     |zero=>exact fun _=>⟨[],rfl,aD3,(fun x h=>by cases h),fun i x h=>by simp[fd] at h⟩
     |succ k abx=>
      intro Z;obtain⟨l,jn,g',pW,vh⟩:=abx aD1;obtain⟨aby,J,abz⟩:=rI k aD1;obtain⟨y,vi,wQ,CU⟩:=Gh n v e E _ _ _ abz;obtain⟨-,dW,ow⟩:=World.cells?_some J;refine⟨l++[y],by simp[jn],?_,?_,?_⟩
      .rw[List.range_succ,aw2,aw2,List.sum_append,Rp];have wQ:f0 v y<=Rows.uptoBulk (D k):=wQ;simp only[Rows.uptoBulkAll,au1,aC3,List.sum_cons,List.sum_nil];omega
      .intro x hx;rcases au4.1 hx with hx |hx
       .exact pW x hx
       .simp at hx;subst hx;exact CU
      .intro i x aE;rcases Rs aE with⟨_,aE⟩ |⟨rfl,rfl⟩
       .exact vh i x aE
       .rw[jn];refine yh vi fun j dr az=>?_
        have V:=(at0.1 az).1;rw[vj aD1,ow j aD1];exact az
    obtain⟨l,jn,g',pW,vh⟩:=key len (as2 _);refine⟨l,⟨some a,cap,by rw[show List.length (α:=aa v) l=len from jn];rfl,by rw[show List.length (α:=aa v) l=len from jn];exact ak,ay,fun aw=>?_⟩,?_,pW⟩
    .have aw:0 < len:=by rw[<-jn];exact aw
     obtain⟨aby,J,_⟩:=rI 0 aD1;obtain⟨-,dW,ow⟩:=World.cells?_some J;have t6:=ow 0 aD1;rw[as0 aD1] at t6;obtain⟨b,o,spot⟩:=a;have abA:spot=none:=by simpa[Addr.add] using World.cell?_spot t6
     subst abA;have gb:=World.block_lt_of_cell? w _ t6;refine⟨b,o,rfl,by simpa[Addr.add] using gb,fun i x aE=>yh (vh i x aE) fun j dr az=>?_⟩
     split at az
     .rwa[add_plain,add_plain,Nat.add_assoc] at az
     .cases az
    .simp only[f0,Rows.uptoBulk];exact(show 1+(l.map (f0 v)).sum<=_ by omega)
  case h_6 k e ea v a6=>
   simp only[as1,Nat.beq_eq] at h;obtain⟨⟨aw,E⟩,G⟩:=h;subst aw;obtain⟨xs,gN,rfl,rfl,ak,tY,hf⟩:=DataW.trod_array a6 hx;rw[G] at hf
   have key: ∀q,q<=k-> ∃l:List (aa v),l.length=q/\(l.map (f0 v)).sum<=Rows.uptoBulkAll ((xs.take q).map (·.1))/\(∀x,x∈l->rH v x)/\
     (∀i x,fd l i=some x->cw (fun b=>b < w.heap.size) w v x (fun j=>cs[i*aR v+j]?)):=by
    intro q
    induction q with
    |zero=>exact fun _=>⟨[],rfl,aD3,(fun x h=>by cases h),fun i x h=>by simp[fd] at h⟩
    |succ q abB=>
     intro aQ;obtain⟨l,jn,g',pW,vh⟩:=abB aD1;have Rt:=hf q aD1;rw[as0 aD1] at Rt;obtain⟨y,vi,wQ,CU⟩:=Gh n v e E _ _ _ Rt;refine⟨l++[y],by simp[jn],?_,?_,?_⟩
     .rw[aB0,as0 aD1,aw2,aw2,List.sum_append,Rp];simp only[Rows.uptoBulkAll,au1,aC3,List.sum_cons,List.sum_nil,Option.toList_some];omega
     .intro x hx;rcases au4.1 hx with hx |hx
      .exact pW x hx
      .simp at hx;subst hx;exact CU
     .intro i x aE;rcases Rs aE with⟨_,aE⟩ |⟨rfl,rfl⟩
      .exact vh i x aE
      .rw[jn];exact yh vi fun j dr az=>KE az
   obtain⟨l,jn,g',pW,vh⟩:=key k (as2 _);refine⟨l,⟨jn,vh⟩,?_,pW⟩;rw[aw0 aD1] at g';simp only[f0,Rows.uptoBulk];exact(show(l.map (f0 v)).sum<=_ by omega)
  case h_7 tO fs a6=>
   obtain⟨xs,gN,rfl,rfl,ak,tY,hf⟩:=DataW.trod_struct a6 hx;obtain⟨a,cB,cH,dO⟩:=Rr (fun u t cm cs x h=>Gh n u t cm _ cs x h) fs.toList _ 0 xs cs h (by simpa using tY) (fun i f aE=>hf i f (by simpa using aE));refine⟨a,yh cB fun j v az=>by rw[aw9] at az;exact az,?_,dO⟩;simp only[Rows.uptoBulk];omega
  case h_8=>cases h
end
end
section
namespace wR
def t3:cd:=⟨.int .i64,1,false,[.d (.int .i64 0)],[],some (.int .i64),8⟩
def t4:cd:=⟨.bool,1,false,[.d (.lit false)],[],some .bool,1⟩
def t5:cd:=⟨.int .u8,1,false,[.d (.int .u8 0)],[],some .u8,1⟩
def t9:cd:=⟨.str,1,false,[.d (.str [])],[],some .str,16⟩
def t20:cd:=⟨.other,1,false,[.bN .nilIface],[],none,16⟩
def abC:cd:=⟨.int .i32,1,false,[.d (.int .i32 0)],[],some (.int .i32),4⟩
def t23:cd:=⟨.st,3,true,[.d (.int .i64 0),.d (.int .i64 0),.d (.int .i64 0)],[(0,1),(1,1),(2,1)],some (.bU (.int .i64) (.bU (.int .i64) (.int .i64))),24⟩
def t24:cd:=⟨.cc 34,1,false,[.dV],[],some (.cc (.bU (.int .i64) (.bU (.int .i64) (.bU (.int .i64) (.bU (.cc .u8) (.bU .str (.bU .str (.cc (.bU .str (.cc (.int .i64))))))))))),24⟩
def t25:cd:=⟨.ptr 82,1,false,[.bN (.pointer none)],[],some .aM,8⟩
def t26:cd:=⟨.int .i64,1,false,[.d (.int .i64 0)],[],some (.int .i64),8⟩
def abD:cd:=⟨.cc 5,1,false,[.dV],[],some (.cc .u8),24⟩
def t32:cd:=⟨.cc 85,1,false,[.dV],[],some (.cc (.bU .str (.cc (.int .i64)))),24⟩
def abE:cd:=⟨.st,7,true,[.d (.int .i64 0),.d (.int .i64 0),.d (.int .i64 0),.dV,.d (.str []),.d (.str []),.dV],[(0,1),(1,1),(2,1),(3,1),(4,1),(5,1),(6,1)],some (.bU (.int .i64) (.bU (.int .i64) (.bU (.int .i64) (.bU (.cc .u8) (.bU .str (.bU .str (.cc (.bU .str (.cc (.int .i64)))))))))),104⟩
def t35:cd:=⟨.other,1,false,[.bN .nilFunc],[],some .fn,8⟩
def t36:cd:=⟨.cc 89,1,false,[.dV],[],some (.cc (.bU .str (.cc (.int .i64)))),24⟩
def abF:cd:=⟨.st,7,true,[.d (.int .i64 0),.d (.int .i64 0),.d (.int .i64 0),.dV,.d (.str []),.d (.str []),.dV],[(0,1),(1,1),(2,1),(3,1),(4,1),(5,1),(6,1)],some (.bU (.int .i64) (.bU (.int .i64) (.bU (.int .i64) (.bU (.cc .u8) (.bU .str (.bU .str (.cc (.bU .str (.cc (.int .i64)))))))))),104⟩
def abG:cd:=⟨.cc 44,1,false,[.dV],[],some (.cc (.bU .str .str)),24⟩
def t44:cd:=⟨.st,2,true,[.d (.str []),.d (.str [])],[(0,1),(1,1)],some (.bU .str .str),32⟩
def abH:cd:=⟨.cc 9,1,false,[.dV],[],some (.cc .str),24⟩
def t46:cd:=⟨.ptr 93,1,false,[.bN (.pointer none)],[],some .aM,8⟩
def abI:cd:=⟨.ptr 44,1,false,[.bN (.pointer none)],[],some .aM,8⟩
def abJ:cd:=⟨.ptr 107,1,false,[.bN (.pointer none)],[],some .aM,8⟩
def abK:cd:=⟨.ptr 161,1,false,[.bN (.pointer none)],[],some .aM,8⟩
def abL:cd:=⟨.st,4,true,[.d (.str []),.d (.lit false),.d (.lit false),.bN (.pointer none)],[(0,1),(1,1),(2,1),(3,1)],some (.bU .str (.bU .bool (.bU .bool .aM))),32⟩
def abM:cd:=⟨.ptr 117,1,false,[.bN (.pointer none)],[],some .aM,8⟩
def abN:cd:=⟨.ptr 125,1,false,[.bN (.pointer none)],[],some .aM,8⟩
def abO:cd:=⟨.other,1,false,[.bN .nilIface],[],none,16⟩
def abP:cd:=⟨.ptr 184,1,false,[.bN (.pointer none)],[],some .aM,8⟩
def abQ:cd:=⟨.ptr 192,1,false,[.bN (.pointer none)],[],some .aM,8⟩
def abR:cd:=⟨.cc 96,1,false,[.dV],[],some (.cc (.bU (.int .i64) (.cc .u8))),24⟩
def abS:cd:=⟨.st,5,true,[.d (.str []),.d (.str []),.d (.int .i64 0),.d (.int .i64 0),.dV],[(0,1),(1,1),(2,1),(3,1),(4,1)],some (.bU .str (.bU .str (.bU (.int .i64) (.bU (.int .i64) (.cc (.bU (.int .i64) (.cc .u8))))))),72⟩
def abT:cd:=⟨.st,7,true,[.d (.str []),.d (.str []),.d (.int .i64 0),.d (.int .i64 0),.dV,.d (.str []),.bN (.pointer none)],[(0,5),(5,1),(6,1)],some (.bU (.bU .str (.bU .str (.bU (.int .i64) (.bU (.int .i64) (.cc (.bU (.int .i64) (.cc .u8))))))) (.bU .str .aM)),96⟩
def abU:cd:=⟨.st,17,true,[.d (.int .i64 0),.d (.str []),.bN (.pointer none),.bN (.pointer none),.bN (.pointer none),.bN (.pointer none),.d (.int .i64 0),.bN .nilIface,.bN (.pointer none),.bN (.pointer none),.d (.str []),.d (.str []),.d (.int .i64 0),.d (.int .i64 0),.dV,.d (.str []),.bN (.pointer none)],[(0,1),(1,1),(2,1),(3,1),(4,1),(5,1),(6,1),(7,1),(8,1),(9,1),(10,7)],none,192⟩
def abV:cd:=⟨.cc 3,1,false,[.dV],[],some (.cc (.int .i64)),24⟩
def abW:cd:=⟨.st,2,true,[.d (.str []),.dV],[(0,1),(1,1)],some (.bU .str (.cc (.int .i64))),40⟩
def abX:cd:=⟨.mp 3 35,1,false,[.bN (.map none)],[],none,8⟩
def abY:cd:=⟨.st,2,true,[.d (.str []),.dV],[(0,1),(1,1)],some (.bU .str (.cc (.int .i64))),40⟩
def abZ:cd:=⟨.cc 78,1,false,[.dV],[],some (.cc (.bU .str (.bU .str (.bU (.int .i64) (.bU (.int .i64) (.cc (.bU (.int .i64) (.cc .u8)))))))),24⟩
def ab0:cd:=⟨.st,1,true,[.dV],[(0,1)],some (.cc (.bU .str (.bU .str (.bU (.int .i64) (.bU (.int .i64) (.cc (.bU (.int .i64) (.cc .u8)))))))),24⟩
def ab1:cd:=⟨.st,2,true,[.d (.int .i64 0),.dV],[(0,1),(1,1)],some (.bU (.int .i64) (.cc .u8)),32⟩
def ab2:cd:=⟨.other,1,false,[.bN .nilFunc],[],some .fn,8⟩
def ab3:cd:=⟨.other,1,false,[.bN .nilFunc],[],some .fn,8⟩
def ab4:cd:=⟨.mp 9 105,1,false,[.bN (.map none)],[],none,8⟩
def ab5:cd:=⟨.ptr 60,1,false,[.bN (.pointer none)],[],some .aM,8⟩
def ab6:cd:=⟨.st,1,true,[.bN (.map none)],[(0,1)],none,8⟩
def ab7:cd:=⟨.other,1,false,[.bN .nilFunc],[],some .fn,8⟩
def ab8:cd:=⟨.ptr 172,1,false,[.bN (.pointer none)],[],some .aM,8⟩
def ab9:cd:=⟨.mp 9 119,1,false,[.bN (.map none)],[],none,8⟩
def ab':cd:=⟨.st,3,true,[.d (.int .i64 0),.d (.int .i64 0),.bN (.map none)],[(0,1),(1,1),(2,1)],none,24⟩
def aca:cd:=⟨.other,1,false,[.bN .nilFunc],[],some .fn,8⟩
def acb:cd:=⟨.ptr 122,1,false,[.bN (.pointer none)],[],some .aM,8⟩
def acd:cd:=⟨.st,2,true,[.bN (.pointer none),.d (.str [])],[(0,1),(1,1)],some (.bU .aM .str),24⟩
def ace:cd:=⟨.mp 9 198,1,false,[.bN (.map none)],[],none,8⟩
def acf:cd:=⟨.st,2,true,[.d (.int .i64 0),.bN (.map none)],[(0,1),(1,1)],none,16⟩
def acg:cd:=⟨.other,1,false,[.bN .nilFunc],[],some .fn,8⟩
def ach:cd:=⟨.ptr 189,1,false,[.bN (.pointer none)],[],some .aM,8⟩
def aci:cd:=⟨.other,1,false,[.bN .nilFunc],[],some .fn,8⟩
def acj:cd:=⟨.other,1,false,[.bN .nilFunc],[],some .fn,8⟩
def ack:cd:=⟨.other,1,false,[.bN .nilFunc],[],some .fn,8⟩
def acl:cd:=⟨.mp 3 3,1,false,[.bN (.map none)],[],none,8⟩
def acm:cd:=⟨.st,3,true,[.d (.int .i64 0),.d (.int .i64 0),.bN (.map none)],[(0,1),(1,1),(2,1)],none,24⟩
def acn:cd:=⟨.ptr 229,1,false,[.bN (.pointer none)],[],some .aM,8⟩
def aco:cd:=⟨.ptr 231,1,false,[.bN (.pointer none)],[],some .aM,8⟩
def acp:cd:=⟨.mp 3 31,1,false,[.bN (.map none)],[],none,8⟩
def acq:cd:=⟨.cc 357,1,false,[.dV],[],some (.cc (.bU .str .aM)),24⟩
def acr:cd:=⟨.st,5,true,[.d (.int .i64 0),.bN (.pointer none),.bN (.pointer none),.bN (.map none),.dV],[(0,1),(1,1),(2,1),(3,1),(4,1)],none,56⟩
def acs:cd:=⟨.other,1,false,[.bN .nilFunc],[],some .fn,8⟩
def acu:cd:=⟨.other,1,false,[.bN .nilFunc],[],some .fn,8⟩
def acv:cd:=⟨.st,5,true,[.bN (.pointer none),.d (.str []),.d (.str []),.bN (.map none),.d (.lit false)],[(0,1),(1,1),(2,1),(3,1),(4,1)],none,56⟩
def acw:cd:=⟨.st,4,true,[.bN (.pointer none),.d (.str []),.d (.str []),.d (.lit false)],[(0,1),(1,1),(2,1),(3,1)],some (.bU .aM (.bU .str (.bU .str .bool))),48⟩
def acx:cd:=⟨.st,9,true,[.bN (.pointer none),.d (.str []),.d (.int .i64 0),.d (.int .i64 0),.d (.int .i64 0),.bN (.map none),.bN (.map none),.d (.lit false),.d (.lit false)],[(0,1),(1,1),(2,1),(3,1),(4,1),(5,1),(6,1),(7,1),(8,1)],none,72⟩
def acy:cd:=⟨.ptr 255,1,false,[.bN (.pointer none)],[],some .aM,8⟩
def acz:cd:=⟨.other,1,false,[.bN .nilFunc],[],some .fn,8⟩
def acA:cd:=⟨.ptr 262,1,false,[.bN (.pointer none)],[],some .aM,8⟩
def acB:cd:=⟨.other,1,false,[.bN .nilFunc],[],some .fn,8⟩
def acC:cd:=⟨.st,4,true,[.d (.int .i64 0),.d (.int .i64 0),.d (.int .i64 0),.d (.int .i64 0)],[(0,1),(1,1),(2,1),(3,1)],some (.bU (.int .i64) (.bU (.int .i64) (.bU (.int .i64) (.int .i64)))),32⟩
def acD:cd:=⟨.int .u64,1,false,[.d (.int .u64 0)],[],some (.int .u64),8⟩
def acE:cd:=⟨.mp 3 290,1,false,[.bN (.map none)],[],none,8⟩
def acF:cd:=⟨.st,2,true,[.d (.int .i64 0),.bN (.map none)],[(0,1),(1,1)],none,16⟩
def acG:cd:=⟨.st,1,true,[.dV],[(0,1)],some (.cc (.int .i64)),24⟩
def acH:cd:=⟨.other,1,false,[.bN .nilFunc],[],some .fn,8⟩
def acI:cd:=⟨.other,1,false,[.bN .nilFunc],[],some .fn,8⟩
def acJ:cd:=⟨.other,1,false,[.bN .nilFunc],[],some .fn,8⟩
def acK:cd:=⟨.other,1,false,[.bN .nilFunc],[],some .fn,8⟩
def acL:cd:=⟨.other,1,false,[.bN .nilFunc],[],some .fn,8⟩
def acM:cd:=⟨.st,3,true,[.d (.int .i64 0),.d (.int .i64 0),.d (.lit false)],[(0,1),(1,1),(2,1)],some (.bU (.int .i64) (.bU (.int .i64) .bool)),24⟩
def acN:cd:=⟨.other,1,false,[.bN .nilFunc],[],some .fn,8⟩
def acO:cd:=⟨.cc 293,1,false,[.dV],[],some (.cc (.bU (.int .i64) (.bU (.int .i64) (.int .i64)))),24⟩
def acP:cd:=⟨.mp 3 257,1,false,[.bN (.map none)],[],none,8⟩
def acQ:cd:=⟨.cc 259,1,false,[.dV],[],some (.cc (.bU (.int .i64) (.arr 16 .u8))),24⟩
def acR:cd:=⟨.st,5,true,[.d (.int .i64 0),.d (.int .i64 0),.bN (.map none),.bN (.map none),.dV],[(0,1),(1,1),(2,1),(3,1),(4,1)],none,56⟩
def acS:cd:=⟨.arr 16 5,16,true,[.d (.int .u8 0),.d (.int .u8 0),.d (.int .u8 0),.d (.int .u8 0),.d (.int .u8 0),.d (.int .u8 0),.d (.int .u8 0),.d (.int .u8 0),.d (.int .u8 0),.d (.int .u8 0),.d (.int .u8 0),.d (.int .u8 0),.d (.int .u8 0),.d (.int .u8 0),.d (.int .u8 0),.d (.int .u8 0)],[],some (.arr 16 .u8),16⟩
def acT:cd:=⟨.st,17,true,[.d (.int .i64 0),.d (.int .u8 0),.d (.int .u8 0),.d (.int .u8 0),.d (.int .u8 0),.d (.int .u8 0),.d (.int .u8 0),.d (.int .u8 0),.d (.int .u8 0),.d (.int .u8 0),.d (.int .u8 0),.d (.int .u8 0),.d (.int .u8 0),.d (.int .u8 0),.d (.int .u8 0),.d (.int .u8 0),.d (.int .u8 0)],[(0,1),(1,16)],some (.bU (.int .i64) (.arr 16 .u8)),24⟩
def acU:cd:=⟨.st,2,true,[.dV,.d (.int .i64 0)],[(0,1),(1,1)],some (.bU (.cc .u8) (.int .i64)),32⟩
def acV:cd:=⟨.int .i64,1,false,[.d (.int .i64 0)],[],some (.int .i64),8⟩
def acW:cd:=⟨.int .u32,1,false,[.d (.int .u32 0)],[],some (.int .u32),4⟩
def acX:cd:=⟨.int .u64,1,false,[.d (.int .u64 0)],[],some (.int .u64),8⟩
def acY:cd:=⟨.arr 16 243,48,true,[.d (.int .i64 0),.d (.int .i64 0),.d (.lit false),.d (.int .i64 0),.d (.int .i64 0),.d (.lit false),.d (.int .i64 0),.d (.int .i64 0),.d (.lit false),.d (.int .i64 0),.d (.int .i64 0),.d (.lit false),.d (.int .i64 0),.d (.int .i64 0),.d (.lit false),.d (.int .i64 0),.d (.int .i64 0),.d (.lit false),.d (.int .i64 0),.d (.int .i64 0),.d (.lit false),.d (.int .i64 0),.d (.int .i64 0),.d (.lit false),.d (.int .i64 0),.d (.int .i64 0),.d (.lit false),.d (.int .i64 0),.d (.int .i64 0),.d (.lit false),.d (.int .i64 0),.d (.int .i64 0),.d (.lit false),.d (.int .i64 0),.d (.int .i64 0),.d (.lit false),.d (.int .i64 0),.d (.int .i64 0),.d (.lit false),.d (.int .i64 0),.d (.int .i64 0),.d (.lit false),.d (.int .i64 0),.d (.int .i64 0),.d (.lit false),.d (.int .i64 0),.d (.int .i64 0),.d (.lit false)],[],some (.arr 16 (.bU (.int .i64) (.bU (.int .i64) .bool))),384⟩
def acZ:cd:=⟨.st,3,true,[.d (.int .i64 0),.d (.int .i64 0),.d (.int .i64 0)],[(0,1),(1,1),(2,1)],some (.bU (.int .i64) (.bU (.int .i64) (.int .i64))),24⟩
def ac0:cd:=⟨.other,1,false,[.bN .nilFunc],[],some .fn,8⟩
def ac1:cd:=⟨.ptr 317,1,false,[.bN (.pointer none)],[],some .aM,8⟩
def ac2:cd:=⟨.int .u64,1,false,[.d (.int .u64 0)],[],some (.int .u64),8⟩
def ac3:cd:=⟨.ptr 3,1,false,[.bN (.pointer none)],[],some .aM,8⟩
def ac4:cd:=⟨.cc 128,1,false,[.dV],[],some (.cc .fn),24⟩
def ac5:cd:=⟨.st,2,true,[.dV,.d (.int .i64 0)],[(0,1),(1,1)],some (.bU (.cc .fn) (.int .i64)),32⟩
def ac6:cd:=⟨.other,1,false,[.bN .nilFunc],[],some .fn,8⟩
def ac7:cd:=⟨.ptr 302,1,false,[.bN (.pointer none)],[],some .aM,8⟩
def ac8:cd:=⟨.cc 31,1,false,[.dV],[],some (.cc (.cc .u8)),24⟩
def ac9:cd:=⟨.other,1,false,[.bN .nilFunc],[],some .fn,8⟩
def ac':cd:=⟨.mp 3 128,1,false,[.bN (.map none)],[],none,8⟩
def ada:cd:=⟨.other,1,false,[.bN .nilFunc],[],some .fn,8⟩
def adb:cd:=⟨.st,2,true,[.d (.str []),.bN (.pointer none)],[(0,1),(1,1)],some (.bU .str .aM),24⟩
def types:dt:=(.node (.node (.node (.node (.node (.node (.node .leaf 3 t3 .leaf) 4 t4 (.node .leaf 5 t5 .leaf)) 9 t9 (.node (.node .leaf 20 t20 .leaf) 21 abC (.node .leaf 23 t23 .leaf))) 24 t24 (.node (.node (.node .leaf 25 t25 .leaf) 26 t26 (.node .leaf 31 abD .leaf)) 32 t32 (.node (.node .leaf 34 abE .leaf) 35 t35 .leaf))) 36 t36 (.node (.node (.node (.node .leaf 38 abF .leaf) 42 abG (.node .leaf 44 t44 .leaf)) 45 abH (.node (.node .leaf 46 t46 .leaf) 50 abI .leaf)) 56 abJ (.node (.node (.node .leaf 58 abK .leaf) 60 abL (.node .leaf 65 abM .leaf)) 69 abN (.node (.node .leaf 73 abO .leaf) 74 abP .leaf)))) 75 abQ (.node (.node (.node (.node (.node .leaf 76 abR .leaf) 78 abS (.node .leaf 80 abT .leaf)) 82 abU (.node (.node .leaf 83 abV .leaf) 85 abW .leaf)) 87 abX (.node (.node (.node .leaf 89 abY .leaf) 91 abZ (.node .leaf 93 ab0 .leaf)) 96 ab1 (.node (.node .leaf 101 ab2 .leaf) 102 ab3 .leaf))) 104 ab4 (.node (.node (.node (.node .leaf 105 ab5 .leaf) 107 ab6 (.node .leaf 110 ab7 .leaf)) 112 ab8 (.node (.node .leaf 115 ab9 .leaf) 117 ab' .leaf)) 118 aca (.node (.node (.node .leaf 119 acb .leaf) 122 acd (.node .leaf 123 ace .leaf)) 125 acf (.node (.node .leaf 128 acg .leaf) 136 ach .leaf))))) 155 aci (.node (.node (.node (.node (.node (.node .leaf 156 acj .leaf) 157 ack (.node .leaf 159 acl .leaf)) 161 acm (.node (.node .leaf 163 acn .leaf) 166 aco .leaf)) 169 acp (.node (.node (.node .leaf 170 acq .leaf) 172 acr (.node .leaf 176 acs .leaf)) 178 acu (.node (.node .leaf 184 acv .leaf) 189 acw .leaf))) 192 acx (.node (.node (.node (.node .leaf 198 acy .leaf) 200 acz (.node .leaf 202 acA .leaf)) 215 acB (.node (.node .leaf 218 acC .leaf) 225 acD .leaf)) 227 acE (.node (.node (.node .leaf 229 acF .leaf) 231 acG (.node .leaf 232 acH .leaf)) 234 acI (.node (.node .leaf 235 acJ .leaf) 238 acK .leaf)))) 239 acL (.node (.node (.node (.node (.node .leaf 243 acM .leaf) 247 acN (.node .leaf 249 acO .leaf)) 252 acP (.node (.node .leaf 253 acQ .leaf) 255 acR .leaf)) 257 acS (.node (.node (.node .leaf 259 acT .leaf) 262 acU (.node .leaf 270 acV .leaf)) 279 acW (.node (.node .leaf 281 acX .leaf) 290 acY .leaf))) 293 acZ (.node (.node (.node (.node .leaf 296 ac0 .leaf) 299 ac1 (.node .leaf 302 ac2 .leaf)) 306 ac3 (.node (.node .leaf 315 ac4 .leaf) 317 ac5 .leaf)) 319 ac6 (.node (.node (.node .leaf 320 ac7 .leaf) 330 ac8 (.node .leaf 331 ac9 .leaf)) 352 ac' (.node (.node .leaf 355 ada .leaf) 357 adb .leaf))))))
end wR
def fa:eq prog wR.types:=eq.of aD4
def mixed:prog.follows .mixedOrders=true:=by kernel_rfl
end
section
open Go.ChangeShapes Go.WideShapes Go.ChangeAt Go.RowKit
section
variable {hY:Type} {enc:TypeId×Value->hY} {P:aH6}
def adc {f:Func} {s:ChangeSpec} {apart fresh handsOn again:Bool} {W nK:aH5} {args:aJ3} {v:aI3} {ds gs:List (DataW hY)} {pj pa pv:List MemPlace}
  (dd:DataW.Whole enc P f.params.toList s.vars apart W args.toList ds gs pj)
  (jI: ∀(b:Nat) (sp:Nat->Bool) (H:Bool),DataW.TrodAll enc P nK b sp H f.resultTypes.toList (v.resultList f.resultTypes.size) (s.fn hY (ds++gs)).results [])
  (fM: ∀sp:Nat->Bool,(∀p∈pj,sp p.block=true)->DataW.TrodAll enc P nK 0 sp true f.params.toList args.toList (s.fn hY (ds++gs)).args pa)
  (CV: ∀sp:Nat->Bool,(∀p∈pj,sp p.block=true)->DataW.TrodVars enc P nK sp s.vars (s.fn hY (ds++gs)).vars pv)
  (l3:pj=pa++pv) (O:Below W.heap.size W nK)
  (bx: ∀(j:Nat) (t:TypeId) (r:Value),f.resultTypes[j]? =some t->(v.resultList f.resultTypes.size)[j]? =some r->Value.okWide P nK .any 0 t r):
  s.post enc P f apart fresh handsOn again W args v nK:=by
 have bv: ∀p∈pj,p.block < W.heap.size:=fun p ae=>dd.lt p ae
 have nb: ∀p∈pj,(fun b=>decide (b < W.heap.size)) p.block=true:=fun p ae=>by simpa using bv p ae
 refine⟨ds,gs,pj,[],pa,pv,dd,jI _ _ _,fM _ nb,CV _ nb,World.keptBut_mono (fun p ae=>⟨ae,?_⟩) (O.frame (· ∈pj)),fun _=>?_⟩
 .rw[l3,au4] at ae;exact Or.inr ae
 .obtain⟨_,_,_,_,_,aN,hn⟩:=dd;refine⟨bx,_,_,([]++pa)++pv,⟨[]++pa,pv,trodAll_append (fM _ (fun _ _=>rfl)) (jI _ _ _),CV _ (fun _ _=>rfl),rfl,?_,?_⟩,?_⟩
  .intro b off ae;have dw:MemPlace.cell b off∈pj:=by rw[l3];simpa using ae
   rw[O.frozen (bv _ dw)];exact aN b off dw
  .intro ha;have:=hn ha;rw[l3] at this;simpa using this
  .intro p ae _;rw[l3];simpa using ae
end
def Ru:(u:bB)->aa u->aS
 | .bU u v,x=>.c (.agg (gI (.bU u v) x 0 (aR (.bU u v))))
 | .arr n u,x=>.c (.agg (gI (.arr n u) x 0 (aR (.arr n u))))
 | .int k,x=>.c (.one (.d (fS (.int k) x 0)))
 | .u8,x=>.c (.one (.d (fS .u8 x 0)))
 | .bool,x=>.c (.one (.d (fS .bool x 0)))
 | .str,x=>.c (.one (.d (fS .str x 0)))
 | .aM,x=>.c (.one (.d (fS .aM x 0)))
 | .dz,x=>.c (.one (.d (fS .dz x 0)))
 | .fn,x=>.c (.one (.d (fS .fn x 0)))
 | .cc u,x=>.c (.one (.d (fS (.cc u) x 0)))
def vk (P:aH6) (t:aI0):Bool:=match P.underlying t with
 |some (.struct _)=>false
 |some (.array _ _)=>false
 |some _=>true
 |none=>false
def Gi (P:aH6) (u:bB) (t:aI0):Bool:=qH P 20 u t&&(nD u == vk P t)&&Nat.beq (P.cellsOf t) (aR u)&&P.readableRec t&&Nat.blt t P.types.size
section
variable {hY:Type} {enc:TypeId×Value->hY} {W:aH5} {P:aH6} {ρ:Nat->bq} {I:Nat->Prop}
def Rv {u:bB} {x:aa u} {cs:aH4} (H:cw I W u x (fun j=>cs[j]?)): ∀(n o:Nat),o+n<=aR u->o+n<=cs.length->cg ρ I W (gI u x o n) ((cs.drop o).take n)
 |0,o,_,_=>by simp[gI,cg]
 |n+1,o,h,ak=>by
  obtain⟨v,az,va⟩:=cw.cell u x _ o H aD1;refine⟨v,(cs.drop (o+1)).take n,?_,va,Rv H n (o+1) aD1 aD1⟩;have:=(at0.1 az).2;rw[ay6 (by omega:o < cs.length),List.take_succ_cons,this]
def ade {t:aI0} {v:aI3} {base:Nat} (E:vk P t=true) (h:Value.okWide P W .any base t v) {fuel:Nat} {sp:Nat->Bool} {u:bB} {n:Nat} {x:DataW hY×List MemPlace} (a6:qH P n u t=true) (G:nD u=true):v.cells.toList=[v]:=by
 cases n with
 |zero=>simp[qH] at a6
 |succ n=>
  unfold qH at a6
  split at a6
  case h_1 k ea cm=>obtain⟨n,rfl⟩:=okWide_int cm h;rfl
  case h_2 k cm=>obtain⟨n,rfl⟩:=okWide_int cm h;rfl
  case h_3 cm=>obtain⟨n,rfl⟩:=okWide_bool cm h;rfl
  case h_4 cm=>obtain⟨n,rfl⟩:=okWide_string cm h;rfl
  case h_5 e v cm=>obtain⟨a,b,c,rfl⟩:=okWide_slice cm h;rfl
  case h_6=>simp[nD] at G
  case h_7 fs u cm=>simp[vk,cm] at E
  case h_8=>cases a6
def adf {t:aI0} {v:aI3} {base:Nat} (E:vk P t=false) (h:Value.okWide P W .any base t v) {n:Nat} {u:bB} (a6:qH P n u t=true): ∃cs,v= .agg cs/\cs.size=P.cellsOf t:=by
 cases n with
 |zero=>simp[qH] at a6
 |succ n=>
  unfold qH at a6;unfold Value.okWide at h
  split at a6
  case h_1 k ea cm=>simp[vk,cm] at E
  case h_2 k cm=>simp[vk,cm] at E
  case h_3 cm=>simp[vk,cm] at E
  case h_4 cm=>simp[vk,cm] at E
  case h_5 e v cm=>simp[vk,cm] at E
  case h_6 k e ea v cm=>rw[cm] at h;obtain⟨cs,E,G,_⟩:=h;exact⟨cs,E,G⟩
  case h_7 fs u cm=>rw[cm] at h;obtain⟨cs,E,G,_⟩:=h;exact⟨cs,E,G⟩
  case h_8=>cases a6
def adg {u:bB} {t:aI0} {v:aI3} {d:DataW hY} {bI:List MemPlace} {base:Nat} {sp:Nat->Bool} (h:Gi P u t=true) (bx:Value.okWide P W .any base t v) (b8:DataW.Trod enc P W 0 sp true t v d bI):
  ∃a:aa u,cA ρ (fun b=>b < W.heap.size) W (Ru u a) v/\f0 u a<=Rows.uptoBulk d/\rH u a:=by
 simp only[Gi,as1,Nat.beq_eq,beq_iff_eq] at h;obtain⟨⟨⟨⟨E,G⟩,ah⟩,_⟩,_⟩:=h;obtain⟨n,hn⟩:=b8;obtain⟨a,cB,cH,dO⟩:=Gh _ _ _ E _ _ _ hn;refine⟨a,?_,cH,dO⟩
 cases ag:nD u with
 |true=>
  rw[ade (x:=(d,bI)) (fuel:=n) (sp:=sp) (by rw[<-G,ag]) bx E ag] at cB;obtain⟨dr,af,ao⟩:=cw.cell u a _ 0 cB (by rcases u with _ |_ |_ |_ |_ |_ |_ <;>simp[aR,nD] at*);simp only[at9,as9] at af;subst af
  cases u <;>first |exact ao |(simp[nD] at ag)
 |false=>
  obtain⟨cs,rfl,cz⟩:=adf (by rw[<-G,ag]) bx E;have ak:cs.toList.length=aR u:=by rw[Array.length_toList];omega
  have:=Rv (ρ:=ρ) cB (aR u) 0 aD1 (by simpa[Value.cells] using(show 0+aR u<=cs.toList.length by omega));rw[List.drop_zero,aw0 (by simp only[Value.cells];omega)] at this
  cases u <;>first |exact⟨_,rfl,this⟩ |(simp[nD] at ag)
def AC:List bB->Type
 | []=>Unit
 |u::us=>aa u×AC us
def wS:(us:List bB)->AC us->List aS
 | [],_=>[]
 |u::us,x=>Ru u x.1::wS us x.2
noncomputable def Gj:(us:List bB)->AC us->Nat
 | [],_=>0
 |u::us,x=>f0 u x.1+Gj us x.2
def KF:(us:List bB)->AC us->Prop
 | [],_=>True
 |u::us,x=>rH u x.1/\KF us x.2
def t7 (P:aH6):List bB->List TypeId->Bool
 | [],[]=>true
 |u::us,t::cx=>Gi P u t&&t7 P us cx
 |_,_=>false
def Rw {base:Nat} {sp:Nat->Bool}: ∀(us:List bB) (cx:List TypeId) (aF:aH4) (ds:List (DataW hY)) (bI:List MemPlace),t7 P us cx=true->(∀(j:Nat) t v,cx[j]? =some t->aF[j]? =some v->Value.okWide P W .any base t v)->
  DataW.TrodAll enc P W 0 sp true cx aF ds bI-> ∃a:AC us,aF.length=(wS us a).length/\(∀(i:Nat) (s:aS) (x:aI3),(wS us a)[i]? =some s->aF[i]? =some x->cA ρ (fun b=>b < W.heap.size) W s x)/\Gj us a<=Rows.uptoBulkAll ds/\KF us a
 | [],[],aF,ds,bI,_,_,b8=>by
  obtain⟨rfl,rfl,rfl⟩:=trodAll_nil b8;exact⟨(),rfl,fun i s x h=>by simp[wS] at h,at2 _,trivial⟩
 | [],_::_,_,_,_,h,_,_=>by simp[t7] at h
 |_::_,[],_,_,_,h,_,_=>by simp[t7] at h
 |u::us,t::cx,aF,ds,bI,h,bx,b8=>by
  simp only[t7,as1] at h;obtain⟨v,aF,d,ds,p,q,rfl,rfl,rfl,aw,ax⟩:=trodAll_cons b8;obtain⟨a,b4,cf,a3⟩:=adg (ρ:=ρ) h.1 (bx 0 t v rfl rfl) aw;obtain⟨b,b1,b2,b3,eG⟩:=Rw us cx aF ds q h.2 (fun j t v E G=>bx (j+1) t v E G) ax;refine⟨(a,b),by simp[wS,b1],fun i s x E G=>?_,by simp only[Gj,Rows.uptoBulkAll];omega,a3,eG⟩
  match i with
  |0=>simp only[wS,at9,as9] at E G;subst E G;exact b4
  |i+1=>exact b2 i s x (by simpa[wS] using E) (by simpa using G)
def Rx (laid:laidOutB P=true) {nK:aH5} {Ry:Nat->Bool}: ∀(us:List bB) (cx:List TypeId) (aF:aH4) (ds:List (DataW hY)) (bI:List MemPlace),t7 P us cx=true->
  DataW.TrodAll enc P W 0 (fun _=>true) true cx aF ds bI->Below W.heap.size W nK->(∀x∈bI,x.block < W.heap.size)->(∀x∈bI,Ry x.block=true)->DataW.TrodAll enc P nK 0 Ry true cx aF ds bI
 | [],[],aF,ds,bI,_,b8,_,_,_=>by
  obtain⟨rfl,rfl,rfl⟩:=trodAll_nil b8;exact trodAll_mk0
 | [],_::_,_,_,_,h,_,_,_,_=>by simp[t7] at h
 |_::_,[],_,_,_,h,_,_,_,_=>by simp[t7] at h
 |u::us,t::cx,aF,ds,bI,h,b8,O,bv,CW=>by
  simp only[t7,as1] at h;obtain⟨v,aF,d,ds,p,q,rfl,rfl,rfl,aw,ax⟩:=trodAll_cons b8;have E:=h.1;simp only[Gi,as1,Nat.blt_eq] at E;exact trodAll_cons_mk (WideElems.Trod_stays laid E.1.2 E.2 aw (fun x hx=>O.same (bv x (by simp[hx]))) (fun x hx=>CW x (by simp[hx]))) (Rx laid us cx aF ds q h.2 ax O (fun x hx=>bv x (by simp[hx])) (fun x hx=>CW x (by simp[hx])))
def Fn.adh {f:aI5} {args:List aS} (bj:Fn P f args [] [] (fX true) []) (bZ:aJ3) (ak:bZ.toList.length=args.length)
  (H: ∀(i:Nat) (s:aS) (x:Value),args[i]? =some s->bZ.toList[i]? =some x->cA ρ (fun b=>b < W.heap.size) W s x):Calls P f bZ W fun e nK=>e= .returned (.bool true)/\Below W.heap.size W nK:=by
 have h:=bj.2 ρ (fun _ _=>False) (fun b=>b < W.heap.size) W bZ.toList (fun b h=>h) (fun c ch J=>by simp[aj] at J) (fun c ch J=>by simp[aj] at J) (fun c ca ch ch' b J=>by simp[aj] at J) ak H;rw[Array.toArray_toList] at h;refine h.mono ?_;rintro e nK ⟨x,ρ',F',rfl,cJ,-,I',-,-,-,-,-,hx⟩;rw[show x= .bool true from hx];exact⟨rfl,cJ.below (as2 _) (by rintro i _ ⟨c,ch,J,_⟩;simp[aj] at J)⟩
end
def adi:ownKnob prog.godebug=none:=by kernel_rfl
def adj:laidOutB prog=true:=by kernel_rfl
def adk {hY:Type} {enc:TypeId×Value->hY} {W:aH5} {args:aJ3} {ds gs:List (DataW hY)} {pj:List MemPlace} {base:Nat} (f:aI5) (fn:Func) (s:ChangeSpec) (us:List bB) (n:Nat)
  (jI:fn.resultTypes= #[4]) (CV:s.vars=[]) (Rz:t7 prog us fn.params.toList=true)
  (jF: ∀ds:List (DataW hY),ds.length=fn.params.toList.length->(s.fn hY ds).results=[.lit (.bool true)]/\(s.fn hY ds).vars=[]/\(s.fn hY ds).args=ds)
  (vl: ∀(j:Nat) t v,fn.params[j]? =some t->args[j]? =some v->Value.okWide prog W .any base t v)
  (dd:DataW.Whole enc prog fn.params.toList s.vars false W args.toList ds gs pj) (Z:Rows.uptoBulkAll (ds++gs)<=n)
  (bj: ∀a:AC us,Gj us a<=n->KF us a->Fn prog f (wS us a) [] [] (fX true) []):
  Calls prog f args W fun e nK=> ∃v,e= .returned v/\s.post enc prog fn false true false false W args v nK:=by
 have RA:=dd;have bv:=dd.lt;obtain⟨p,q,dX,yi,rfl,arp,dD⟩:=dd;rw[CV] at yi;obtain⟨rfl,rfl⟩:=trodVars_none yi;simp only[av8] at RA Z bv;obtain⟨a,b4,cf,a3,a4⟩:=Rw (ρ:=fun _=>⟨0,none,0,0⟩) us fn.params.toList args.toList ds p Rz (fun j t v E G=>vl j t v aG2 (by simpa using G)) dX
 have bX:ds.length=fn.params.toList.length:=by
  have: ∀(cx:List TypeId) (aF:aH4) (ds:List (DataW hY)) (bI:List MemPlace),DataW.TrodAll enc prog W 0 (fun _=>true) true cx aF ds bI->ds.length=cx.length:=fun cx=>by
   induction cx with
   |nil=>intro aF ds bI h;obtain⟨_,rfl,_⟩:=trodAll_nil h;rfl
   |cons t cx bn=>intro aF ds bI h;obtain⟨v,aF,d,ds,p,q,rfl,rfl,rfl,aw,ax⟩:=trodAll_cons h;simp[bn _ _ _ ax]
  exact this _ _ _ _ dX
 obtain⟨r1,r2,gh⟩:=jF ds bX;refine((bj a aD1 a4).adh args b4 cf).mono fun e nK ⟨U,O⟩=>?_
 subst U;refine⟨_,rfl,adc (pa:=p) (pv:=[]) RA ?_ ?_ ?_ aD3 O ?_⟩
 .intro b sp H;rw[av8,r1,jI];exact trodAll_cons_mk (shut_bool underlying4 _) trodAll_mk0
 .intro sp CW;rw[av8,gh];exact Rx adj us _ _ _ _ Rz dX O (fun x hx=>bv x aG5) (fun x hx=>CW x aG5)
 .intro sp CW;rw[av8,r2,CV];rfl
 .exact Go.RowKit.ok_one jI rfl (okWide_bool_mk underlying4 _)
end
section
set_option maxRecDepth 100000
open Go.ChangeShapes Go.WideShapes Go.ChangeAt Go.RowKit
def iI {a b:Bool} (h:a=true) (k:b=true):(a&&b)=true:=by rw[h,k];rfl
def KG:OpenClaim:={program:= "",sum:= "",func:= "",spec:= "" }
def adl:laidOutB prog=true:=by kernel_rfl
def adm:mapsRowed prog=true:=by kernel_rfl
def adn:(KG.plainKeys == prog.plainKeys)=true:=by kernel_rfl
def ado:prog.mayEnter=true:=by kernel_rfl
def adp:(KG.lifted == prog.liftsFinal)=true:=by kernel_rfl
def adq:(prog.make == some KG.make)=true:=by kernel_rfl
end
section
def cC (P:aH6) (f:aI5) (args:List aS) (aJ:aA) (bb:aH0) {X:Type} (res:X->aS) (aT:X->aA):Prop:=
 jU P f=true/\ ∀(ρ:Nat->bq) (F:Nat->Nat->Prop) (I:Nat->Prop) (w:aH5) (bZ:aH4),
  (∀b,I b->b < w.heap.size)->(∀c ch,aj aJ c=some ch->Holds ρ I (F c) w (ρ c) ch)->(∀c ch,aj aJ c=some ch-> ∀b,F c b->b < w.heap.size/\ ¬I b)->
  (∀c ca ch ch' b,aj aJ c=some ch->aj aJ ca=some ch'->c≠ca->F c b-> ¬F ca b)->
  bZ.length=args.length->(∀(i:Nat) (v:aS) (x:aI3),args[i]? =some v->bZ[i]? =some x->cA ρ I w v x)->
  Calls P f bZ.toArray w fun e w'=> ∃(g:X) (x:aI3) (ρ':Nat->bq) (F':Nat->Nat->Prop),e= .returned x/\cZ (fun b=> ∃c ch,aj aJ c=some ch/\F c b) w w'/\(∀c,c∉bb->ρ' c=ρ c)/\
   ∃I':Nat->Prop,cp I w I' w'/\(∀b,I' b->b < w'.heap.size/\(I b\/(∃c ch,aj aJ c=some ch/\F c b)\/w.heap.size<=b))/\
   (∀c ch,aj (aT g) c=some ch->Holds ρ' I' (F' c) w' (ρ' c) ch)/\
   (∀c ch,aj (aT g) c=some ch-> ∀b,F' c b->b < w'.heap.size/\ ¬I' b/\((∃g9 cG,aj aJ g9=some cG/\F g9 b)\/w.heap.size<=b))/\
   (∀c ca ch ch' b,aj (aT g) c=some ch->aj (aT g) ca=some ch'->c≠ca->F' c b-> ¬F' ca b)/\cA ρ' I' w' (res g) x
def Fn.x {P:aH6} {f:aI5} {args:List aS} {aJ:aA} {bb:aH0} {res:aS} {aT:aA} (h:Fn P f args aJ bb res aT):cC P f args aJ bb (fun _:Unit=>res) (fun _=>aT):=
 ⟨h.1,fun ρ F I w bZ b4 cf a3 a4 a5 gR=>(h.2 ρ F I w bZ b4 cf a3 a4 a5 gR).mono fun e w' q=>⟨(),q⟩⟩
section
variable {P:aH6} {aV:dt} {N:Nat} {ids:aH0} {o:Oper} {K:aZ} {B:aA}
def fe.back {aJ:aA} {bb:aH0} {r:aS} {aT:aA} (ib:lq B aJ) (KH:sF ids K B bb=true) (ot:m0 aJ bb aT=true) {C:fv} {a:Act} {w w':aH5} {ρ ρ':Nat->bq} {F F':Nat->Nat->Prop} {I':Nat->Prop} {x:aI3} {dst:aI1}
  (hn:a.tmps.size=N) (H:a.defers=C.ds.map xR) (al:Mem ids C B ρ F w) (av:eF K ρ (b5 C B F w) a w) (bv: ∀d,dst=some d->d < N)
  (cJ:cZ (fun b=> ∃c ch,aj aJ c=some ch/\F c b) w w') (dA: ∀c,c∉bb->ρ' c=ρ c) (gM: ∀b,I' b->b < w'.heap.size/\(b5 C B F w b\/(∃c ch,aj aJ c=some ch/\F c b)\/w.heap.size<=b))
  (c4: ∀c ch,aj aT c=some ch->Holds ρ' I' (F' c) w' (ρ' c) ch) (aq: ∀c ch,aj aT c=some ch-> ∀b,F' c b->b < w'.heap.size/\ ¬I' b/\((∃g9 cG,aj aJ g9=some cG/\F g9 b)\/w.heap.size<=b))
  (ix: ∀c ca ch ch' b,aj aT c=some ch->aj aT ca=some ch'->c≠ca->F' c b-> ¬F' ca b) (dI:cA ρ' I' w' r x):fe N ids C (mY dst r K) (hy (iW aJ aT) B) (a.put dst x) w':=by
 have e': ∀{c ch},aj aJ c=some ch->aj B c=some ch:=fun {c ch} J=>k3 ib J
 have pf: ∀c∈bb,(∀s,(dR K s).has c=false)/\aj B c=none/\(∀d ch,aj B d=some ch->ch.has c=false)/\c∉ids:=fun c J=>ls (FV KH c J)
 have CC: ∀c,aj (hy (iW aJ aT) B) c=(match aj aT c with |some ch=>some ch |none=>if c∈ct aJ then none else aj B c):=FU aJ aJ bb aT B ot
 have pU: ∀c ch,aj (hy (iW aJ aT) B) c=some ch->aj aT c=some ch\/(aj aT c=none/\c∉ct aJ/\aj B c=some ch):=fun c ch J=>by
  rw[CC] at J
  cases O:aj aT c with
  |some ch'=>rw[O] at J;exact .inl J
  |none=>
   rw[O] at J;simp only at J
   split at J
   .cases J
   .rename_i Z;exact .inr ⟨rfl,Z,J⟩
 let cU:Nat->Nat->Prop:=fun c=>if c∈ct aT then F' c else F c
 have kJ: ∀c ch,aj aT c=some ch->cU c=F' c:=fun c ch J=>vj (gL.2 ⟨ch,J⟩)
 have CD: ∀c,aj aT c=none->cU c=F c:=fun c J=>mu (fun Z=>by
  obtain⟨ch,h⟩:=gL.1 Z;rw[J] at h;cases h)
 have k4: ∀c ch,aj aT c=some ch->c∈ct aJ\/c∈bb:=fun c ch J=>Kb ot (gL.2 ⟨ch,J⟩)
 have u7: ∀c ch,aj (hy (iW aJ aT) B) c=some ch->(c∈ct aJ\/c∈bb)->aj aT c=some ch:=fun c ch J bC=>by
  rcases pU c ch J with h |⟨E,G,ah⟩
  .exact h
  .rcases bC with h |h
   .exact as3 h G
   .rw[(pf c h).2.1] at ah;cases ah
 have sU:cp I' w' (b5 C (hy (iW aJ aT) B) cU w') w':=fun b O=>by
  obtain⟨af,ao⟩:=gM b O;refine⟨⟨af,?_,fun c ch J bj=>?_⟩,rfl⟩
  .rcases ao with ao |⟨c,ch,ao,bo⟩ |ao
   .exact ao.2.1
   .exact .inr ((al.own c ch (e' ao) b bo).2)
   .exact .inr (.inr (al.fresh ao))
  .rcases pU c ch J with h |⟨E,G,ah⟩
   .rw[kJ c ch h] at bj;exact(aq c ch h b bj).2.1 O
   .rw[CD c E] at bj;rcases ao with ao |⟨d,ch',ao,bo⟩ |ao
    .exact ao.2.2 c ch ah bj
    .exact al.fw d c ch' ch b (e' ao) ah (fun e=>G (e▸gL.2 ⟨ch',ao⟩)) bo bj
    .have:=(al.own c ch ah b bj).1;omega
 obtain⟨bC,a2⟩:=al.step (B':=hy (iW aJ aT) B) (ρ':=ρ') (F':=cU) (w':=w') (fun c=>c∈ct aJ\/c∈bb) (fun c=>c∈bb)
  (cJ.mono fun b _ ⟨c,ch,E,G⟩=>⟨c,ch,e' E,.inl (gL.2 ⟨ch,E⟩),G⟩)
  (fun c ch J hn=>by
   rcases pU c ch J with h |⟨_,_,ah⟩
   .exact as3 (k4 c ch h) hn
   .exact ah)
  dA
  (fun c hn=>by
   cases O:aj aT c with
   |none=>exact CD c O
   |some ch=>exact as3 (k4 c ch O) hn)
  (fun c J hn=>(pf c hn).2.2.2 J) (fun c h=>.inr h)
  (fun c ch J _ d H hn=>by rw[(pf d hn).2.2.1 c ch J] at H;cases H)
  (fun c ch J bC _=>by
   have O:=u7 c ch J bC;rw[kJ c ch O];exact Holds.cr sU (fun _ _=>rfl) (as2 _) ch (fun _ _=>rfl) (c4 c ch O))
  (fun c ch J bC b O=>by
   have x9:=u7 c ch J bC;rw[kJ c ch x9] at O;obtain⟨af,_,bo⟩:=aq c ch x9 b O;refine⟨af,bo.imp (fun⟨g9,cG,E,G⟩=>⟨g9,cG,e' E,.inl (gL.2 ⟨cG,E⟩),G⟩) id⟩)
  (fun c ca ch ch' b J cW k4 je a8 O dB=>by
   have E:=u7 c ch J k4;have G:=u7 ca ch' cW je;rw[kJ c ch E] at O;rw[kJ ca ch' G] at dB;exact ix c ca ch ch' b E G a8 O dB)
 refine⟨kW.trans hn,kX.trans H,ρ',cU,bC,(av.mono a2 fun s d H=>dA d fun hn=>by rw[(pf d hn).1 s] at H;cases H).kY (fun e U=>by rw[hn];exact bv e U) (cA.mono sU _ _ (fun _ _=>rfl) dI)⟩
def adr {f:aI5} {args:List aS}
  (u3: ∀(ρ:Nat->bq) (I:Nat->Prop) (a:Act) (w:aH5),eF K ρ I a w-> ∃bZ:List Value,(jU P f=true->(execOp a.eval o).run P w= .ok (.enter f bZ.toArray) w)/\bZ.length=args.length/\ ∀(i:Nat) (v:aS) (x:aI3),args[i]? =some v->bZ[i]? =some x->cA ρ I w v x)
  {X:Type} {aJ:aA} {bb:aH0} {res:X->aS} {aT:X->aA} (ads:cC P f args aJ bb res aT) (ib:lq B aJ) (KH:sF ids K B bb=true) (bx: ∀g,(sF ids K B bb&&m0 aJ bb (aT g))=true)
  {C:fv} {a:Act} {w:aH5} (au:fe N ids C K B a w) (bv: ∀d,o.dst=some d->d < N) {ga:Act->World->Prop} {Q:Exit->Act->World->Prop} (cE: ∀g a' w',fe N ids C (mY o.dst (res g) K) (hy (iW aJ (aT g)) B) a' w'->ga a' w'):o.wp P a w ga Q:=by
 obtain⟨gf,jF⟩:=ads;obtain⟨hn,H,ρ,F,al,av⟩:=au;have e': ∀{c ch},aj aJ c=some ch->aj B c=some ch:=fun {c ch} J=>k3 ib J
 obtain⟨bZ,d3,rD,tZ⟩:=u3 ρ _ a w av
 have J:=jF ρ F (b5 C B F w) w bZ (fun b O=>O.1) (fun c ch J=>al.holds c ch (e' J)) (fun c ch J b O=>⟨(al.own c ch (e' J) b O).1,fun a1=>a1.2.2 c ch (e' J) O⟩)
  (fun c ca ch ch' b E G=>al.fw c ca ch ch' b (e' E) (e' G)) rD tZ
 unfold Oper.wp;rw[d3 gf,Oper.upon_enter];refine J.mono ?_;rintro e w' ⟨g,x,ρ',F',rfl,cJ,dA,I',jG,gM,c4,aq,ix,dI⟩;exact cE g _ _ (fe.back ib KH (as1 _ _▸bx g).2 hn H al av bv cJ dA gM c4 aq ix dI)
def cC.of (bl:eq P aV) {f:aI5} {fn:Func} {c:Code} (stops:aH0) (args:List aS) (aJ:aA) (bb:aH0) {X:Type} (res:X->aS) (aT:X->aA) (hf:P.funcs[f]? =some fn) (O:fn.body=some c) (hn:fn.ntmps=N) (gf:jU P f=true) (J:j0 P N c=true) (fM:Nat.ble args.length N=true) (ce:Ap P aV N (ct aJ)) {jH:List ResultVar} (nI:fn.results.toList=jH)
  (h:jV P aV N (ct aJ) stops c (ph 0 args) aJ (fun e K B=> ∃g,F0 aV (ct aJ) bb jH (res g) (aT g) e K B)):cC P f args aJ bb res aT:=by
 refine⟨gf,?_⟩;intro ρ F I w bZ a1 c4 bj eQ bX dI;have fM:=aA1 fM;refine QQ (r:=none) (n:=0) (callsIn_of_wp_marks hf O trivial ?_)
 let C:fv:=⟨w,I,fun b=> ∃c ch,aj aJ c=some ch/\F c b,ρ,[]⟩
 have sV:cp I w (b5 C aJ F w) w:=fun b O=>⟨⟨a1 b O,.inl O,fun c ch J qE=>(bj c ch J b qE).2 O⟩,rfl⟩
 have al:Mem (ct aJ) C aJ ρ F w:=⟨cZ.refl _ _,fun c ch J=>Holds.cr sV (fun _ _=>rfl) (as2 _) ch (fun _ _=>rfl) (c4 c ch J),fun c ch J b O=>⟨(bj c ch J b O).1,.inl ⟨c,ch,J,O⟩⟩,eQ,fun c _=>rfl,ay9,fun b O=>O.elim (a1 b) fun⟨c,ch,J,CL⟩=>(bj c ch J b CL).1,fun D ce=>by cases ce⟩;refine Aq bl ce stops c _ _ _ J h none (fun _=>rfl) C _ ?_ _ w ⟨by simp[bX,hn];omega,rfl,ρ,F,al,fun s=>?_⟩
 .intro e K' B' ds _ U a' w' er;obtain⟨g,U⟩:=U
  cases e with
  |ex i=>exact U.elim
  |_=>
   obtain⟨QZ,j1,r,gy,ax,ae,ib,pV⟩:=U;refine QY er fun w' er=>?_
   obtain⟨hO,lv,ρ',F',bC,CM⟩:=gy N C _ w' er;obtain⟨aF,d3,hP⟩: ∃aF:List Value,(jH.mapM (t2 a'.tmps)).run P w'= .ok aF w'/\jb ρ' (b5 C j1 F' w') w' r aF:=FX bl bC CM jH r ax
   have jI: ∃x,(results fn a'.tmps).run P w'= .ok x w'/\cA ρ' (b5 C j1 F' w') w' (Ki r) x:=by
    have E:fn.results=jH.toArray:=by rw[<-nI]
    have G:(fn.results.mapM (t2 a'.tmps)).run P w'= .ok (List.toArray aF) w':=by
     rw[E,List.mapM_toArray];simp[d3]
    have ah:results fn a'.tmps=(do let aF<-fn.results.mapM (t2 a'.tmps);pure (if h:aF.size=1 then aF[0] else .tuple aF)):=rfl;rw[ah]
    match r,aF,hP,G with
    | [],_,e,G=>rw[show _=[] from e] at G;exact⟨.tuple #[],by simp[G],[],rfl,rfl⟩
    | [x],_,⟨v,s,e,az,au⟩,G=>
     have au:s=[]:=au;subst au e;exact⟨v,by simp[G],az⟩
    |x::y::r,_,⟨v,s,e,az,v2,bF,ao,va,gc⟩,G=>
     subst ao e;exact⟨.tuple (List.toArray (v::v2::bF)),by simp[G],_,rfl,v,_,rfl,az,v2,bF,rfl,va,gc⟩
   obtain⟨x,hx,sS⟩:=jI;have sS:=wJ ae sS;simp only[as1] at pV
   let vb:Nat->bq:=fun c=>if c∈bb then ρ' c else ρ c
   have rF: ∀c,c∈ct aJ++bb->vb c=ρ' c:=fun c J=>by
    show(if c∈bb then ρ' c else ρ c)=ρ' c
    split
    .rfl
    .rename_i hn;rcases au4.1 J with h |h
     .exact(bC.eP c h).symm
     .exact as3 h hn
   refine⟨x,hx,g,x,vb,F',rfl,bC.fr,fun c J=>mu J,b5 C j1 F' w',?_,fun b O=>⟨O.1,?_⟩,?_,?_,?_,?_⟩
   .intro b O;have wK: ¬C.qw b:=fun⟨c,ch,E,G⟩=>(bj c ch E b G).2 O
    refine⟨⟨au2 (a1 b O) bC.fr.size,.inl O,fun c ch J qE=>?_⟩,bC.fr.block b (a1 b O) wK⟩;rcases(bC.own c ch J b qE).2 with h |h
    .exact wK h
    .have:=a1 b O;exact as3 h.1 (Nat.not_le.2 this)
   .rcases O.2.1 with h |h |h
    .exact .inl h
    .exact .inr (.inl h)
    .exact .inr (.inr h.1)
   .intro c ch J
    have Z:c∈ct aJ++bb:=by
     have:=av3.1 pV.2 c (gL.2 ⟨ch,J⟩);simpa only[av4] using this
    rw[rF c Z];exact Holds.cr (cp.refl _ _) (fun _ _=>rfl) (as2 _) ch (fun d H=>rF d (ba.k5 (yc pV.1.2 J) H)) (bC.holds c ch (k3 ib J))
   .intro c ch J b O;have cW:=k3 ib J;exact⟨(bC.own c ch cW b O).1,fun aE=>aE.2.2 c ch cW O,(bC.own c ch cW b O).2.imp id fun x=>x.1⟩
   .exact fun c ca ch ch' b E G=>bC.fw c ca ch ch' b (k3 ib E) (k3 ib G)
   .exact cA.mono (cp.refl _ _) (res g) x (fun c J=>rF c (aS.k5 pV.1.1 J)) sS
 .rw[CJ];simp only[at2,if_true,Nat.sub_zero]
  cases au:args[s]? with
  |none=>trivial
  |some v=>
   have bv:s < bZ.length:=by rw[bX];exact(at0.1 au).1
   simp only[az1];have hx:bZ[s]? =some bZ[s]:=as0 bv;have:=cA.mono sV v _ (fun _ _=>rfl) (dI s v _ au hx);simpa[Array.getElem?_append,bv,hx] using this
def RB {ev:Operand->Value} {f:aI5} {c:Call} {x:aH8} {xs:aJ4} {p:aI3} {w:aH5} (hf:jU P f=true) (ag:o.op= .call c) (E:c.callee= .value x) (G:c.args.toList=xs) (u6:ev x= .func (.func f) #[p] #[]):(execOp ev o).run P w= .ok (.enter f (p::xs.map ev).toArray) w:=by
 have fM:c.args=xs.toArray:=by rw[<-G]
 obtain⟨sO,args,cx⟩:=c;simp only at E fM;subst E fM;unfold jU at hf
 split at hf
 .rename_i fn jF;simp only[au9,ax0,beq_eq_false_iff_ne] at hf;have G: ¬fn.body=none:=fun e=>by rw[e] at hf;simp at hf
  simp[execOp,ag,resolve,invoke,u6,Deferred.ofValue,callFunc,go_sem,jF];rw[mu hf.1,mu G]
 .cases hf
def KI (K:aZ) (o:Oper):Option (FuncId×List aS):=match o.op with
 | .call c=>match c.callee with
  | .value (.func f)=>some (f,c.args.toList.map (a7 K))
  | .value (.tmp t)=>match dR K t with
   | .c (.one (.c3 f l))=>some (f,c.args.toList.map (a7 K)++o8 l)
   | .c (.one (.bN (.func (.func f) bs cs)))=>match bs.toList,cs.toList with
    | [.pointer (some ⟨b,0,none⟩)],[]=>some (f,.c (.one (.d (.aM (some b))))::c.args.toList.map (a7 K))
    |_,_=>none
   |_=>none
  |_=>none
 |_=>none
def adt (P:aH6) (f:aI5) (args:List aS) (ids:aH0) (K:aZ) (B:aA) (k:aS->fE->Prop):Prop:=
 ∃(X:Type) (aJ:aA) (bb:aH0) (res:X->aS) (aT:X->aA),cC P f args aJ bb res aT/\lq B aJ/\sF ids K B bb=true/\(∀g,(sF ids K B bb&&m0 aJ bb (aT g))=true)/\ ∀g,o7 (res g) fun r=>k r ⟨ct aJ,bb,iW aJ (aT g)⟩
def CX (P:aH6) (ids:aH0) (o:Oper) (K:aZ) (B:aA) (S:aS->fE->Prop):Prop:=
 ∀(N:Nat) (C:fv) (a:Act) (w:aH5),fe N ids C K B a w->(∀d,o.dst=some d->d < N)-> ∀(ga:Act->World->Prop) (Q:Exit->Act->World->Prop),(∀v e a' w',S v e->fe N ids C (mY o.dst v K) (hy e.iV B) a' w'->ga a' w')->o.wp P a w ga Q
def adu (o:Oper):Bool:=match o.op with
 | .next _ _=>true
 | .binOp .eql _ _ (.const (.slice none 0 0)) _=>true
 | .call c=>match c.callee with
  | .builtin .delete=>true
  |_=>false
 |_=>false
def yj (P:aH6) (l:Nat) (args:List aS) (aJ:aA) {X:Type} (res:X->aS) (aT:X->aA):Prop:=
 ∀(ρ:Nat->bq) (F:Nat->Nat->Prop) (I:Nat->Prop) (w:aH5) (bZ:aH4),
  (∀b,I b->b < w.heap.size)->(∀c ch,aj aJ c=some ch->Holds ρ I (F c) w (ρ c) ch)->(∀c ch,aj aJ c=some ch-> ∀b,F c b->b < w.heap.size/\ ¬I b)->
  (∀c ca ch ch' b,aj aJ c=some ch->aj aJ ca=some ch'->c≠ca->F c b-> ¬F ca b)->
  bZ.length=args.length->(∀(i:Nat) (v:aS) (x:aI3),args[i]? =some v->bZ[i]? =some x->cA ρ I w v x)->
  ∃f tmps assign body,(Instr.yield l bZ.toArray).run P w= .ok (.round l f tmps assign body) w/\RoundIn (pb none) 0 P l f tmps assign body w fun e w'=> ∃(g:X) (x:aI3) (ρ':Nat->bq) (F':Nat->Nat->Prop),e= .returned x/\cZ (fun b=> ∃c ch,aj aJ c=some ch/\F c b) w w'/\(∀c,ρ' c=ρ c)/\
   ∃I':Nat->Prop,cp I w I' w'/\(∀b,I' b->b < w'.heap.size/\(I b\/(∃c ch,aj aJ c=some ch/\F c b)\/w.heap.size<=b))/\
   (∀c ch,aj (aT g) c=some ch->Holds ρ' I' (F' c) w' (ρ' c) ch)/\
   (∀c ch,aj (aT g) c=some ch-> ∀b,F' c b->b < w'.heap.size/\ ¬I' b/\((∃g9 cG,aj aJ g9=some cG/\F g9 b)\/w.heap.size<=b))/\
   (∀c ca ch ch' b,aj (aT g) c=some ch->aj (aT g) ca=some ch'->c≠ca->F' c b-> ¬F' ca b)/\cA ρ' I' w' (res g) x
def Gk (K:aZ) (o:Oper):Option (Nat×List aS):=match o.op with
 | .call c=>match c.callee with
  | .value (.tmp t)=>match dR K t with
   | .c (.one (.bN (.func (.yield l) fs cs)))=>match fs.toList,cs.toList with
    | [],[]=>some (l,c.args.toList.map (a7 K))
    |_,_=>none
   |_=>none
  |_=>none
 |_=>none
def adv (P:aH6) (l:Nat) (args:List aS) (B:aA) (k:aS->fE->Prop):Prop:=
 ∃(X:Type) (aJ:aA) (res:X->aS) (aT:X->aA),yj P l args aJ res aT/\lq B aJ/\(∀g,m0 aJ [] (aT g)=true)/\ ∀g,o7 (res g) fun r=>k r ⟨ct aJ,[],iW aJ (aT g)⟩
def adw {ev:Operand->Value} {l:Nat} {c:Call} {x:aH8} {xs:aJ4} {w:aH5} (ag:o.op= .call c) (E:c.callee= .value x) (G:c.args.toList=xs) (u6:ev x= .func (.yield l) #[] #[]):(execOp ev o).run P w=(Instr.yield l (xs.map ev).toArray).run P w:=by
 have fM:c.args=xs.toArray:=by rw[<-G]
 obtain⟨sO,args,cx⟩:=c;simp only at E fM;subst E fM;simp[execOp,ag,resolve,invoke,u6,Deferred.ofValue]
def adx {l:Nat} {xs:List aS} (h:Gk K o=some (l,xs)) {ρ:Nat->bq} {I:Nat->Prop} {a:Act} {w:aH5} (av:eF K ρ I a w): ∃bZ:List Value,(execOp a.eval o).run P w=(Instr.yield l bZ.toArray).run P w/\(∀c,o.op≠ .defer c)/\bZ.length=xs.length/\ ∀(i:Nat) (v:aS) (x:aI3),xs[i]? =some v->bZ[i]? =some x->cA ρ I w v x:=by
 unfold Gk at h
 split at h
 .rename_i c ag
  split at h
  .rename_i t J
   split at h
   .rename_i l' fs cs ak
    split at h
    .rename_i wG fG;injection h with h
     injection h with E G
     subst E G;have wG:fs= #[]:=by rw[<-ay1];exact wG
     have fG:cs= #[]:=by rw[<-ay1];exact fG
     subst wG fG;have az:a.eval (.tmp t)= .func (.yield l') #[] #[]:=av.ev (x:=.tmp t) (s:=.c (.one (.bN (.func (.yield l') #[] #[])))) ak;have dD: ∀d,o.op≠ .defer d:=fun d e=>by rw[ag] at e;cases e
     refine⟨c.args.toList.map a.eval,?_,dD,aD3,fun i v x az hx=>?_⟩
     .exact adw ag J rfl az
     .rw[au8] at az hx;obtain⟨aB,aN,rfl⟩:=aw3.1 az;rw[aN] at hx;simp only[ay7,as9] at hx;subst hx;exact av.get aB
    .cases h
   .cases h
  .cases h
 .cases h
def ady {l:Nat} {args:List aS} (ag:Gk K o=some (l,args)) {X:Type} {aJ:aA} {res:X->aS} {aT:X->aA} (aC:yj P l args aJ res aT) (ib:lq B aJ) (bx: ∀g,m0 aJ [] (aT g)=true)
  {C:fv} {a:Act} {w:aH5} (au:fe N ids C K B a w) (bv: ∀d,o.dst=some d->d < N) {r:aI1} {ga:Act->World->Prop} {Q:Exit->Act->World->Prop} (cE: ∀g a' w',fe N ids C (mY o.dst (res g) K) (hy (iW aJ (aT g)) B) a' w'->ga a' w'):o.wpIn (pb r) 0 P a w ga Q:=by
 obtain⟨hn,H,ρ,F,al,av⟩:=au;have e': ∀{c ch},aj aJ c=some ch->aj B c=some ch:=fun {c ch} J=>k3 ib J
 obtain⟨bZ,d3,dD,rD,tZ⟩:=adx (P:=P) (w:=w) ag av
 obtain⟨f,tmps,assign,body,KJ,RC⟩:=aC ρ F (b5 C B F w) w bZ (fun b O=>O.1) (fun c ch J=>al.holds c ch (e' J)) (fun c ch J b O=>⟨(al.own c ch (e' J) b O).1,fun a1=>a1.2.2 c ch (e' J) O⟩)
  (fun c ca ch ch' b E G=>al.fw c ca ch ch' b (e' E) (e' G)) rD tZ
 refine⟨fun _ _=>trivial,?_⟩;rw[Oper.semAt_eq _ _ _ dD,d3,KJ,Oper.uponIn_round];refine⟨fun au=>as3 au aD3,RoundIn.mono (F:=pb r) (n:=0 - 1) RC ?_⟩;rintro e w' ⟨g,x,ρ',F',rfl,cJ,dA,I',jG,gM,c4,aq,ix,dI⟩;exact cE g _ _ (fe.back ib rfl (bx g) hn H al av bv cJ (fun c _=>dA c) gM c4 aq ix dI)
def adz (K:aZ) (o:Oper):Bool:=match o.op with
 | .mapUpdate _ _ _ v=>match a7 K v with
  | .c (.one (.ptr _ 0))=>true
  |_=>false
 |_=>false
def KK (P:aH6) (aV:dt) (ids:aH0) (o:Oper) (K:aZ) (B:aA) (k:aS->fE->Prop):Prop:=match KI K o with
 |some (f,xs)=>adt P f xs ids K B k
 |none=>match Gk K o with
  |some (l,xs)=>adv P l xs B k
  |none=>match adu o||adz K o with
   |true=> ∃S:aS->fE->Prop,CX P ids o K B S/\ ∀v e,S v e->o7 v fun v=>k v e
   |false=>FA P aV ids o K B k
noncomputable def KL (P:aH6) (aV:dt) (ids:aH0) (all:aI6) (o:Oper) (l:aI6) (bn:aZ->aA->Prop) (K:aZ) (B:aA):Prop:=
 match uT all K o.guard with
 |none=>False
 |some false=>match o.dst with
  |some d=>bn ((d,.undef)::K) B
  |none=>bn K B
 |some true=>KK P aV ids o K B fun v e=>match o.dst with
  |none=>xT e.iV B fun B=>bn K B
  |some d=>match FB (all.length - l.length - 1) l,v with
   |true,.c (.one (.d (.bool b)))=>xT e.iV B fun B=>(b=true->bn ((d,.c (.one (.d (.lit true))))::K) B)/\(b=false->bn ((d,.c (.one (.d (.lit false))))::K) B)
   |_,v=>xT e.iV B fun B=>bn ((d,v)::K) B
noncomputable def Gl (P:aH6) (aV:dt) (ids:aH0) (all l:aI6) (K:aZ) (B:aA) (k:aZ->aA->Prop):Prop:=
 List.rec (motive:=fun _=>aZ->aA->Prop) k (fun o l bn K B=>KL P aV ids all o l bn K B) l K B
def adA {all l:aI6} {k:aZ->aA->Prop}:Gl P aV ids all (o::l) K B k=KL P aV ids all o l (fun K B=>Gl P aV ids all l K B k) K B:=rfl
def adB {f:aI5} {xs:List aS} (h:KI K o=some (f,xs)) (ρ:Nat->bq) (I:Nat->Prop) (a:Act) (w:aH5) (av:eF K ρ I a w): ∃bZ:List Value,(jU P f=true->(execOp a.eval o).run P w= .ok (.enter f bZ.toArray) w)/\bZ.length=xs.length/\ ∀(i:Nat) (v:aS) (x:aI3),xs[i]? =some v->bZ[i]? =some x->cA ρ I w v x:=by
 unfold KI at h
 split at h
 .rename_i c ag
  split at h
  .rename_i t8 J;injection h with h
   injection h with E G
   subst E G;refine⟨c.args.toList.map a.eval,fun gf=>QG gf ag J rfl rfl,aD3,fun i v x az hx=>?_⟩;rw[au8] at az hx;obtain⟨aB,aN,rfl⟩:=aw3.1 az;rw[aN] at hx;simp only[ay7,as9] at hx;subst hx;exact av.get aB
  .rename_i t J
   split at h
   .rename_i t8 l ak;injection h with h
    injection h with E G
    subst E G;have az:=av t;rw[ak] at az;obtain⟨aF,e,t'⟩:=az;obtain⟨cB,cH⟩:=h7.bZ l aF t';refine⟨c.args.toList.map a.eval++aF,fun gf=>Kc gf ag J rfl e,by simp[cB],fun i v x az hx=>?_⟩
    by_cases aE:i < c.args.toList.length
    .rw[au7 (by simpa using aE)] at az hx;rw[au8] at az hx;obtain⟨aB,aN,rfl⟩:=aw3.1 az;rw[aN] at hx;simp only[ay7,as9] at hx;subst hx;exact av.get aB
    .rw[au6 (by simpa using aE)] at az hx;simp only[at8] at az hx;exact cH _ v x az hx
   .rename_i t8 bs cs ak
    split at h
    .rename_i b O ee;injection h with h
     injection h with E G
     subst E G
     have az:a.eval (.tmp t)= .func (.func t8) bs cs:=by
      have aw:=av t;rw[ak] at aw;exact aw
     have af:bs= #[.pointer (some ⟨b,0,none⟩)]:=ay1.1 O;have ao:cs= #[]:=ay1.1 ee;subst af ao;refine⟨.pointer (some ⟨b,0,none⟩)::c.args.toList.map a.eval,fun gf=>RB gf ag J rfl az,aD3,fun i v x az hx=>?_⟩
     cases i with
     |zero=>
      simp only[at9,as9] at az hx;subst az hx;rfl
     |succ i=>
      rw[aC5,au8] at az hx;obtain⟨aB,aN,rfl⟩:=aw3.1 az;rw[aN] at hx;simp only[ay7,as9] at hx;subst hx;exact av.get aB
    .cases h
   .cases h
  .cases h
 .cases h
def adC (bl:eq P aV) (dD: ∀c,o.op≠ .defer c) (r:aI1) {k:aS->fE->Prop} (h:KK P aV ids o K B k) {C:fv} {a:Act} {w:aH5} (au:fe N ids C K B a w) (bv: ∀d,o.dst=some d->d < N) {ga:Act->World->Prop} {Q:Exit->Act->World->Prop} (cE: ∀v e a' w',k v e->fe N ids C (mY o.dst v K) (hy e.iV B) a' w'->ga a' w'):o.wpIn (pb r) 0 P a w ga Q:=by
 unfold KK at h
 split at h
 .rename_i f xs J;obtain⟨X,aJ,bb,res,aT,E,G,ah,aW,bM⟩:=h;refine CH dD (adr (adB J) E G ah aW au bv fun g a' w' er=>?_);have bM:=bM g;rw[sD] at bM;exact cE _ _ _ _ bM er
 .split at h
  .rename_i l xs J;obtain⟨X,aJ,res,aT,E,G,ah,aW⟩:=h;refine ady J E G ah au bv fun g a' w' er=>?_
   have aW:=aW g;rw[sD] at aW;exact cE _ _ _ _ aW er
  .split at h
   .obtain⟨S,av,h⟩:=h;refine CH dD (av N C a w au bv ga Q fun v e a' w' az er=>?_);have h:=h v e az;rw[sD] at h;exact cE _ _ _ _ h er
   .obtain⟨v,e,h,aq,hf⟩:=Kd bl h;exact CH dD (aq K B (fun _ _=>rfl) (fun _ _=>rfl) hf C a w au bv ga Q fun a' w' gc=>cE _ _ _ _ h gc)
def yk (bl:eq P aV) (all:aI6): ∀(l:aI6) (K:aZ) (B:aA) (k:aZ->aA->Prop),t1 N l=true->Gl P aV ids all l K B k-> ∀(C:fv) (a:Act) (w:aH5),fe N ids C K B a w->
  ∀(r:aI1) (Q:Exit->Act->World->Prop),(∀K' B',k K' B'-> ∀a' w',fe N ids C K' B' a' w'->Q .normal a' w')->wpListIn (pb r) 0 P all.toArray Q l a w
 | [],K,B,k,_,h,C,a,w,au,r,Q,Z=>wpListIn_nil (Z K B h a w au)
 |o::l,K,B,k,H,h,C,a,w,au,r,Q,Z=>by
  simp only[t1,as1] at H;obtain⟨⟨wH,dD⟩,dz⟩:=H;have dD:=Kf dD;have bv: ∀d,o.dst=some d->d < N:=fun d e=>by rw[e] at wH;simpa[Nat.blt_eq] using wH
  have er:=au;obtain⟨_,_,ρ,F,al,av⟩:=er;rw[adA] at h;unfold KL at h;simp only[Jk] at h;refine wpListIn_step fun ga CI=>?_
  split at h
  .exact h.elim
  .rename_i hw;rw[mu (by rw[Ao hw av];simp)];refine⟨fun _ _=>trivial,CI _ _ ?_⟩;have a6:=au.undef o.dst bv
   split at h
   .rename_i d e;rw[e] at a6⊢;exact yk bl all l _ _ k dz h C _ w a6 r Q Z
   .rename_i e;rw[e] at a6⊢;exact yk bl all l _ _ k dz h C _ w a6 r Q Z
  .rename_i hw;rw[vj (Ao hw av)];refine adC bl dD r h au bv fun v e a' w' h gc=>CI _ _ ?_
   split at h
   .rename_i ao;rw[ao] at gc;exact yk bl all l _ _ k dz h C _ w' gc r Q Z
   .rename_i d ao;rw[ao] at gc
    split at h
    .rename_i b aU
     cases b with
     |true=>exact yk bl all l _ _ k dz (h.1 rfl) C _ w' gc.lit r Q Z
     |false=>exact yk bl all l _ _ k dz (h.2 rfl) C _ w' gc.lit r Q Z
    .exact yk bl all l _ _ k dz h C _ w' gc r Q Z
def bw.iJ (bl:eq P aV) {id:Nat} {dn:Array Oper} {Q:o9->aZ->aA->Prop} (H:t1 N dn.toList=true) (h:Gl P aV ids dn.toList dn.toList K B (fun K B=>Q .hl K B)):bw P N ids (.region id dn false) K B Q:=by intro r ax C iY aQ a w au;refine wpIn_region_list ?_;have:=yk bl dn.toList dn.toList K B _ H h C a w au r iY (fun K' B' Z a' w' er=>aQ .hl K' B' C.ds (fun _=>rfl) Z a' w' er);simpa using this
def dv (ids:aH0) (K:aZ) (B:aA) {X:Type} (K':X->aZ) (B':X->aA):Prop:= ∀(N:Nat) (C:fv) (a:Act) (w:aH5),fe N ids C K B a w-> ∃x,fe N ids C (K' x) (B' x) a w
def bw.ff {c:Code} {X:Type} {K':X->aZ} {B':X->aA} {Q:o9->aZ->aA->Prop} (h:dv ids K B K' B') (cm: ∀x,bw P N ids c (K' x) (B' x) Q):bw P N ids c K B Q:=fun r ax C iY aQ a w au=>by
 obtain⟨x,hx⟩:=h N C a w au;exact cm x r ax C iY aQ a w hx
end
end
section
def jJ (c:Nat) (br:aA) (I F:Nat->Prop) (w:aH5) (p:bq):Prop:=
 ∃(ρ:Nat->bq) (cj:Nat->Nat->Prop),ρ c=p/\(∀d ch,aj br d=some ch->Holds ρ I (cj d) w (ρ d) ch)/\
  (∀d da ch ch' b,aj br d=some ch->aj br da=some ch'->d≠da->cj d b-> ¬cj da b)/\ ∀b,F b↔ ∃d ch,aj br d=some ch/\cj d b
def bg.jq (c:Nat) (br:aA):bg where
 bp:=jJ c br
 cr:=fun I F w I' w' p ⟨ρ,cj,E,G,ah,aW⟩ U bj aN=>⟨ρ,cj,E,fun d ch H=>Holds.cr U (fun b O=>bj b ((aW b).2 ⟨d,ch,H,O⟩)) aN ch (fun _ _=>rfl) (G d ch H),ah,aW⟩
def bg.at (o:bg) (b:Nat):bg where
 bp:=fun I F w p=>p.bm=b/\o.bp I F w p
 cr:=fun I F w I' w' p h U bj aN=>⟨h.1,o.cr I F w I' w' p h.2 U bj aN⟩
def f1 (I:Nat->Prop) (w:aH5):List (Nat×bg)->(Nat->Prop)->Prop
 | [],F=> ∀b,¬F b
 |(a,o)::L,F=> ∃(cL cU:Nat->Prop) (p:bq),(∀b,F b↔cL b\/cU b)/\(∀b,cL b-> ¬cU b)/\p.bm=a/\o.bp I cL w p/\f1 I w L cU
def f1.cr {I I':Nat->Prop} {w w':aH5} (U:cp I w I' w') (aN:w.heap.size<=w'.heap.size): ∀{L:List (Nat×bg)} {F:Nat->Prop},(∀b,F b->w'.heap[b]? =w.heap[b]?)->f1 I w L F->f1 I' w' L F
 | [],_,_,h=>h
 |(a,o)::L,F,bj,⟨cL,cU,p,E,G,ah,aW,bM⟩=>⟨cL,cU,p,E,G,ah,o.cr _ _ _ _ _ _ aW U (fun b O=>bj b ((E b).2 (.inl O))) aN,bM.cr U aN (fun b O=>bj b ((E b).2 (.inr O)))⟩
def bg.bA (L:List (Nat×bg)):bg where
 bp:=fun I F w _=>f1 I w L F
 cr:=fun I F w I' w' p h U bj aN=>h.cr U aN bj
def eH:List (Nat×bg)->Nat->Option bg
 | [],_=>none
 |(a,o)::L,b=>if a=b then some o else eH L b
def fl:List (Nat×bg)->Nat->bg->List (Nat×bg)
 | [],_,_=>[]
 |(a,o)::L,b,o'=>if a=b then(a,o')::L else(a,o)::fl L b o'
def f1.out {I:Nat->Prop} {w:aH5} {b:Nat} {o:bg}: ∀{L:List (Nat×bg)} {F:Nat->Prop},eH L b=some o->f1 I w L F-> ∃(cL cU:Nat->Prop) (p:bq),(∀x,F x↔cL x\/cU x)/\(∀x,cL x-> ¬cU x)/\p.bm=b/\o.bp I cL w p/\
  ∀(I':Nat->Prop) (w':aH5) (o':bg) (wT:Nat->Prop) (kH:bq),cp I w I' w'->w.heap.size<=w'.heap.size->(∀x,cU x->w'.heap[x]? =w.heap[x]?)->kH.bm=b->o'.bp I' wT w' kH->(∀x,wT x-> ¬cU x)->f1 I' w' (fl L b o') (fun x=>wT x\/cU x)
 | [],F,h,_=>by cases h
 |(a,q)::L,F,h,⟨rJ,ua,p,E,G,ah,aW,bM⟩=>by
  unfold eH at h
  split at h
  .rename_i e;injection h with h
   subst h;refine⟨rJ,ua,p,E,G,ah.trans e,aW,fun I' w' o' wT kH U aN hf ae ag H=>?_⟩;unfold fl;rw[vj e];exact⟨wT,ua,kH,fun x=>Iff.rfl,H,ae.trans e.symm,ag,bM.cr U aN hf⟩
  .rename_i e;obtain⟨cL,cU,c1,g1,g2,cK,jW,CY⟩:=f1.out h bM;refine⟨cL,fun x=>rJ x\/cU x,c1,fun x=>?_,fun x hx=>?_,cK,jW,fun I' w' o' wT kH U aN hf ae ag H=>?_⟩
   .rw[E,g1];constructor
    .rintro(h |h |h)
     .exact .inr (.inl h)
     .exact .inl h
     .exact .inr (.inr h)
    .rintro(h |h |h)
     .exact .inr (.inl h)
     .exact .inl h
     .exact .inr (.inr h)
   .rintro(h |h)
    .exact G x h ((g1 x).2 (.inl hx))
    .exact g2 x hx h
   .unfold fl;rw[mu e];refine⟨rJ,fun x=>wT x\/cU x,p,fun x=>?_,fun x hx=>?_,ah,q.cr _ _ _ _ _ _ aW U (fun x hx=>hf x (.inl hx)) aN,CY I' w' o' wT kH U aN (fun x hx=>hf x (.inr hx)) ae ag (fun x hx h=>H x hx (.inr h))⟩
    .constructor
     .rintro(h |h |h)
      .exact .inr (.inl h)
      .exact .inl h
      .exact .inr (.inr h)
     .rintro(h |h |h)
      .exact .inr (.inl h)
      .exact .inl h
      .exact .inr (.inr h)
    .rintro(h |h)
     .exact H x h (.inl hx)
     .exact G x hx ((g1 x).2 (.inr h))
def f1.add {I:Nat->Prop} {w:aH5} {L:List (Nat×bg)} {F cL:Nat->Prop} {o:bg} {p:bq} (h:f1 I w L F) (ag:o.bp I cL w p) (H: ∀x,cL x-> ¬F x):f1 I w ((p.bm,o)::L) (fun x=>cL x\/F x):=
 ⟨cL,F,p,fun _=>Iff.rfl,H,rfl,ag,h⟩
def cC.fn {P:aH6} {f:aI5} {args:List aS} {aJ:aA} {bb:aH0} {res:aS} {aT:aA} (h:cC P f args aJ bb (fun _:Unit=>res) (fun _=>aT)):Fn P f args aJ bb res aT:=
 ⟨h.1,fun ρ F I w bZ b4 cf a3 a4 a5 gR=>(h.2 ρ F I w bZ b4 cf a3 a4 a5 gR).mono fun e w' ⟨_,q⟩=>q⟩
def cC.bA {P:aH6} {f:aI5} {c q b:Nat} {args:List aS} {aJ:aA} {bb:aH0} {X:Type} {res:X->aS} {aT:X->aA} {o:bg} {o':X->bg} {L:List (Nat×bg)}
  (h:cC P f (.c (.one (.ptr c 0))::args) ((c,.aH o)::aJ) bb res (fun g=>(c,.aH (o' g))::aT g)) (cO:eH L b=some o)
  (E:(args.all fun v=> !v.has c)=true) (G:kZ c aJ=true/\(aj aJ q).isNone=true) (ah:(bb.contains c||bb.contains q)=false) (aW: ∀g,(kZ c (aT g)&&(aj (aT g) q).isNone&& !(res g).has c)=true):
  cC P f (.c (.one (.d (.aM (some b))))::args) ((q,.aH (.bA L))::aJ) bb res (fun g=>(q,.aH (.bA (fl L b (o' g))))::aT g):=by
 obtain⟨gf,h⟩:=h;refine⟨gf,fun ρ F I w bZ a1 c4 bj eQ bX dI=>?_⟩;have aQ:aj ((q,ba.aH (.bA L))::aJ) q=some (.aH (.bA L)):=aF2
 have bl:f1 I w L (F q):=c4 q _ aQ;obtain⟨cL,cU,p,b',cS,en,e0,vm⟩:=bl.out cO;obtain⟨adD,adE⟩:=uY G.1;have vn:aj aJ q=none:=by simpa using G.2
 have e': ∀{d ch},aj aJ d=some ch->d≠q/\d≠c/\aj ((q,ba.aH (.bA L))::aJ) d=some ch:=fun {d ch} H=>by
  have af:d≠q:=fun e=>by rw[e,vn] at H;cases H
  exact⟨af,fun e=>(by rw[e,adD] at H;cases H),by rw[ci,mu (ay4 af)];exact H⟩
 have adF: ∀(v:aS),v.has c=false-> ∀d,v.has d=true->dp ρ c p d=ρ d:=fun v az d H=>du _ _ (fun e=>by rw[e,az] at H;cases H)
 match bZ,bX with
 |v0::bZ,bX=>
  have yl:v0= .pointer (some ⟨b,0,none⟩):=dI 0 _ v0 rfl rfl
  have i0: ∀{d ch},aj ((c,ba.aH o)::aJ) d=some ch->(d=c/\ch= .aH o)\/(d≠c/\aj aJ d=some ch):=fun {d ch} H=>by
   rw[ci] at H
   split at H
   .rename_i e;injection H with H;exact .inl ⟨e.symm,H.symm⟩
   .rename_i e;exact .inr ⟨ay4 e,H⟩
  refine(h (dp ρ c p) (dp F c cL) I w (v0::bZ) a1 ?_ ?_ ?_ (by simpa using bX) ?_).mono ?_
  .intro d ch H;rcases i0 H with⟨rfl,rfl⟩ |⟨e,H⟩
   .rw[dh,dh];exact e0
   .rw[du _ _ e,du _ _ e];exact Holds.cr (cp.refl _ _) (fun _ _=>rfl) (as2 _) ch (fun j V=>du _ _ (fun b9=>by rw[b9,adE d ch H] at V;cases V)) (c4 d ch (e' H).2.2)
  .intro d ch H x hx;rcases i0 H with⟨rfl,rfl⟩ |⟨e,H⟩
   .rw[dh] at hx;exact bj q _ aQ x ((b' x).2 (.inl hx))
   .rw[du _ _ e] at hx;exact bj d ch (e' H).2.2 x hx
  .intro d da ch ch' x H dC a8 hx dY;rcases i0 H with⟨J7,_⟩ |⟨e,CZ⟩
   .rcases i0 dC with⟨KM,_⟩ |⟨b9,Gm⟩
    .exact a8 (J7.trans KM.symm)
    .rw[J7,dh] at hx;rw[du _ _ b9] at dY;exact eQ q da _ ch' x aQ (e' Gm).2.2 (ay4 (e' Gm).1) ((b' x).2 (.inl hx)) dY
   .rw[du _ _ e] at hx;rcases i0 dC with⟨KM,_⟩ |⟨b9,Gm⟩
    .rw[KM,dh] at dY;exact eQ q d _ ch x aQ (e' CZ).2.2 (ay4 (e' CZ).1) ((b' x).2 (.inl dY)) hx
    .rw[du _ _ b9] at dY;exact eQ d da ch ch' x (e' CZ).2.2 (e' Gm).2.2 a8 hx dY
  .intro i v x az hx
   match i with
   |0=>
    simp only[at9,as9] at az hx;subst az hx;show v0=_;rw[dh,en];exact yl
   |i+1=>
    have pe:args[i]? =some v:=aF3
    have:=av3.1 E v (ax6 pe);exact cA.mono (cp.refl _ _) v x (adF v (by simpa using this)) (dI (i+1) v x aF3 hx)
  .rintro e w' ⟨g,x,ρ',F',rfl,cJ,dA,I',jG,gM,l6,aq,ix,sW⟩;have aU:=aW g;simp only[as1,au9] at aU;obtain⟨⟨g1,g2⟩,cK⟩:=aU;obtain⟨m1,m2⟩:=uY g1;have bc:aj (aT g) q=none:=by simpa using g2
   simp only[ax0] at ah;have kq:c∉bb:=fun bd=>by have:=av4.2 bd;rw[ah.1] at this;cases this
   have arq:q∉bb:=fun bd=>by have:=av4.2 bd;rw[ah.2] at this;cases this
   have ow:aj ((c,ba.aH (o' g))::aT g) c=some (.aH (o' g)):=aF2
   have nL: ∀{d ch},aj (aT g) d=some ch->d≠c/\d≠q/\aj ((c,ba.aH (o' g))::aT g) d=some ch:=fun {d ch} H=>by
    have af:d≠c:=fun e=>by rw[e,m1] at H;cases H
    exact⟨af,fun e=>(by rw[e,bc] at H;cases H),by rw[ci,mu (ay4 af)];exact H⟩
   have nc: ∀y,(∃d ch,aj ((c,ba.aH o)::aJ) d=some ch/\dp F c cL d y)-> ∃d ch,aj ((q,ba.aH (.bA L))::aJ) d=some ch/\F d y:=by
    rintro y ⟨d,ch,H,aC⟩;rcases i0 H with⟨rfl,rfl⟩ |⟨e,H⟩
    .rw[dh] at aC;exact⟨q,_,aQ,(b' y).2 (.inl aC)⟩
    .rw[du _ _ e] at aC;exact⟨d,ch,(e' H).2.2,aC⟩
   have kJ: ∀y,cU y-> ¬ ∃d ch,aj ((c,ba.aH o)::aJ) d=some ch/\dp F c cL d y:=by
    rintro y aC ⟨d,ch,H,eo⟩;rcases i0 H with⟨rfl,rfl⟩ |⟨e,H⟩
    .rw[dh] at eo;exact cS y eo aC
    .rw[du _ _ e] at eo;exact eQ q d _ ch y aQ (e' H).2.2 (ay4 (e' H).1) ((b' y).2 (.inr aC)) eo
   have sX: ∀y,cU y->y < w.heap.size/\ ¬I y:=fun y aC=>bj q _ aQ y ((b' y).2 (.inr aC))
   have nb: ∀y,cU y->w'.heap[y]? =w.heap[y]? :=fun y aC=>cJ.block y (sX y aC).1 (kJ y aC)
   have wU: ∀d ch y,aj ((c,ba.aH (o' g))::aT g) d=some ch->F' d y-> ¬cU y:=fun d ch y H aC C0=>by
    rcases(aq d ch H y aC).2.2 with h |h
    .exact kJ y C0 h
    .have:=(sX y C0).1;omega
   have adG:ρ' c=p:=by rw[dA c kq,dh]
   have m5:=vm I' w' (o' g) (F' c) (ρ' c) jG cJ.size nb (by rw[adG];exact en) (l6 c _ ow) (fun y aC=>wU c _ y ow aC);refine⟨g,x,dp ρ' c (ρ c),fun d=>if d=q then(fun y=>F' c y\/cU y) else F' d,rfl,cJ.mono fun y _ aC=>nc y aC,fun d H=>?_,I',jG,fun y aC=>⟨(gM y aC).1,?_⟩,?_,?_,?_,?_⟩
   .by_cases e:d=c
    .subst e;rw[dh]
    .rw[du _ _ e,dA d H,du _ _ e]
   .rcases(gM y aC).2 with h |h |h
    .exact .inl h
    .exact .inr (.inl (nc y h))
    .exact .inr (.inr h)
   .intro d ch H;rw[ci] at H
    split at H
    .rename_i e;injection H with H
     subst H e;simp only[if_true];exact m5
    .rename_i e;obtain⟨af,ao,bo⟩:=nL H;simp only[mu ao];rw[du _ _ af];exact Holds.cr (cp.refl _ _) (fun _ _=>rfl) (as2 _) ch (fun j V=>du _ _ (fun b9=>by rw[b9,m2 d ch H] at V;cases V)) (l6 d ch bo)
   .intro d ch H y aC;rw[ci] at H
    split at H
    .rename_i e;subst e;simp only[if_true] at aC;rcases aC with aC |aC
     .obtain⟨b4,cf,a3⟩:=aq c _ ow y aC;exact⟨b4,cf,a3.imp (nc y) id⟩
     .refine⟨au2 (sX y aC).1 cJ.size,fun aE=>?_,.inl ⟨q,_,aQ,(b' y).2 (.inr aC)⟩⟩;rcases(gM y aE).2 with h |h |h
      .exact(sX y aC).2 h
      .exact kJ y aC h
      .have:=(sX y aC).1;omega
    .obtain⟨af,ao,bo⟩:=nL H;simp only[mu ao] at aC;obtain⟨b4,cf,a3⟩:=aq d ch bo y aC;exact⟨b4,cf,a3.imp (nc y) id⟩
   .intro d da ch ch' y H dC a8 aC eo;rw[ci] at H dC
    split at H
    .rename_i e;subst e;rw[mu a8] at dC;obtain⟨af,ao,bo⟩:=nL dC;simp only[if_true] at aC;simp only[mu ao] at eo;rcases aC with aC |aC
     .exact ix c da _ ch' y ow bo (ay4 af) aC eo
     .exact wU da ch' y bo eo aC
    .obtain⟨af,ao,bo⟩:=nL H;simp only[mu ao] at aC
     split at dC
     .rename_i e;subst e;simp only[if_true] at eo;rcases eo with eo |eo
      .exact ix d c ch _ y bo ow af aC eo
      .exact wU d ch y bo aC eo
     .obtain⟨lJ,jY,AD⟩:=nL dC;simp only[mu jY] at eo;exact ix d da ch ch' y bo AD a8 aC eo
   .exact cA.mono (cp.refl _ _) (res g) x (fun j V=>du _ _ (fun b9=>by rw[b9,cK] at V;cases V)) sW
def i1: ∀(B B':aA) (c:Nat),aj (B++B') c=(match aj B c with
  |some ch=>some ch
  |none=>aj B' c)
 | [],B',c=>rfl
 |(d,ch)::B,B',c=>by
  rw[List.cons_append,ci,ci,i1 B B' c]
  split <;>rfl
def C1 (l:aH0):aA->Bool
 | []=>true
 |(c,ch)::B=> !l.contains c&&(l.all fun d=> !ch.has d)&&C1 l B
def C2 {l:aH0}: ∀{B:aA},C1 l B=true-> ∀{c ch},aj B c=some ch->c∉l/\ ∀d,d∈l->ch.has d=false
 |(c,ch)::B,h,d,ch',H=>by
  simp only[C1,as1,au9] at h;rw[ci] at H
  split at H
  .rename_i e;subst e;injection H with H
   subst H;refine⟨fun bd=>?_,fun x hx=>?_⟩
   .have:=av4.2 bd;rw[h.1.1] at this
    cases this
   .have:=av3.1 h.1.2 x hx;simpa using this
  .exact C2 h.2 H
def nd (gi bb jK:aH0):aH0:=gi++bb.filter fun d=> !jK.contains d
def ub {l:aH0} {d:Nat} (h:l.contains d=true):d∈l:=av4.1 h
def wV {l:aH0} {d:Nat} (h:l.contains d=false):d∉l:=fun bd=>by rw[av4.2 bd] at h;cases h
def ox (c:Nat) (gi:aH0) (args:List aS) (br aJ:aA) (bb jK:aH0):Bool:=
 (ct br).contains c&&(ct br).all (fun d=>(c::gi).contains d)&&wI (c::gi) br&& !bb.contains c&& !gi.contains c&&jK.all (fun d=>bb.contains d&& !gi.contains d)&&(args.all fun v=>gi.all fun d=> !v.has d)&&C1 gi aJ&&(aj aJ c).isNone
def oy (c:Nat) (hid:aH0) (res:aS) (dP aT:aA):Bool:=
 (ct dP).contains c&&(ct dP).all (fun d=>(c::hid).contains d)&&C1 hid aT&&(aj aT c).isNone&&(hid.all fun d=> !res.has d)
def cC.close {P:aH6} {f:aI5} {c:Nat} {args:List aS} {br aJ:aA} {bb jK:aH0} {X:Type} {res:X->aS} {dP aT:X->aA} {o:bg} {o':X->bg} (gi:aH0)
  (h:cC P f args (br++aJ) bb res (fun g=>dP g++aT g)) (dw: ∀I F w p,o.bp I F w p->jJ c br I F w p) (ot: ∀g I F w p,jJ c (dP g) I F w p->(o' g).bp I F w p)
  (E:ox c gi args br aJ bb jK=true) (G: ∀g,oy c (nd gi bb jK) (res g) (dP g) (aT g)=true):
  cC P f args ((c,.aH o)::aJ) jK res (fun g=>(c,.aH (o' g))::aT g):=by
 obtain⟨gf,h⟩:=h;simp only[ox,as1,au9,aC4] at E;obtain⟨⟨⟨⟨⟨⟨⟨⟨b4,cf⟩,a3⟩,a4⟩,a5⟩,gR⟩,zX⟩,Gn⟩,a9⟩:=E;have b4:=ub b4;have a4:=wV a4;have a5:=wV a5
 have RD: ∀d,d∈ct br->d=c\/d∈gi:=fun d H=>by
  have:=ub (av3.1 cf d H);exact as8.1 this
 have ars: ∀d,d∈jK->d∈bb/\d∉gi:=fun d H=>by
  have:=av3.1 gR d H;simp only[as1,au9] at this;exact⟨ub this.1,wV this.2⟩
 refine⟨gf,fun ρ F I w bZ a1 c4 bj eQ bX dI=>?_⟩;have dW:aj ((c,ba.aH o)::aJ) c=some (.aH o):=aF2
 obtain⟨pk,cj,cB,cH,dO,fy⟩:=dw _ _ _ _ (c4 c _ dW)
 have e': ∀{d ch},aj aJ d=some ch->d≠c/\d∉gi/\aj ((c,ba.aH o)::aJ) d=some ch:=fun {d ch} H=>by
  have af:d≠c:=fun e=>by rw[e,a9] at H;cases H
  exact⟨af,(C2 Gn H).1,by rw[ci,mu (ay4 af)];exact H⟩
 have i0: ∀{d ch},aj (br++aJ) d=some ch->(aj br d=some ch/\d∈ct br)\/(d∉ct br/\aj aJ d=some ch):=fun {d ch} H=>by
  rw[i1] at H
  cases e:aj br d with
  |some ch'=>
   rw[e] at H;exact .inl ⟨H,gL.2 ⟨ch',e⟩⟩
  |none=>
   rw[e] at H;exact .inr ⟨fun Z=>(by obtain⟨ch',Z⟩:=gL.1 Z;rw[e] at Z;cases Z),H⟩
 let vo:Nat->bq:=fun d=>if d∈gi then pk d else ρ d
 let jf:Nat->Nat->Prop:=fun d=>if d∈ct br then cj d else F d
 have C3: ∀d,d∉gi->vo d=ρ d:=fun d H=>mu H
 have ym: ∀d,d∈c::gi->vo d=pk d:=fun d H=>by
  rcases as8.1 H with rfl |H
  .rw[C3 _ a5,cB]
  .exact vj H
 have nc: ∀y,(∃d ch,aj (br++aJ) d=some ch/\jf d y)-> ∃d ch,aj ((c,ba.aH o)::aJ) d=some ch/\F d y:=by
  rintro y ⟨d,ch,H,aC⟩;rcases i0 H with⟨af,ao⟩ |⟨af,ao⟩
  .have aC:cj d y:=by simpa only[jf,vj ao] using aC
   exact⟨c,_,dW,(fy y).2 ⟨d,ch,af,aC⟩⟩
  .have aC:F d y:=by simpa only[jf,mu af] using aC
   exact⟨d,ch,(e' ao).2.2,aC⟩
 refine(h vo jf I w bZ a1 ?_ ?_ ?_ bX ?_).mono ?_
 .intro d ch H;rcases i0 H with⟨af,ao⟩ |⟨af,ao⟩
  .have Z:d∈c::gi:=as8.2 (RD d ao);rw[ym d Z];simp only[jf,vj ao];exact Holds.cr (cp.refl _ _) (fun _ _=>rfl) (as2 _) ch (fun j V=>ym j (ba.k5 (yc a3 af) V)) (cH d ch af)
  .rw[C3 d (e' ao).2.1];simp only[jf,mu af];exact Holds.cr (cp.refl _ _) (fun _ _=>rfl) (as2 _) ch (fun j V=>C3 j (fun lw=>by rw[(C2 Gn ao).2 j lw] at V;cases V)) (c4 d ch (e' ao).2.2)
 .intro d ch H x hx;rcases i0 H with⟨af,ao⟩ |⟨af,ao⟩
  .simp only[jf,vj ao] at hx;exact bj c _ dW x ((fy x).2 ⟨d,ch,af,hx⟩)
  .simp only[jf,mu af] at hx;exact bj d ch (e' ao).2.2 x hx
 .intro d da ch ch' x H dC a8 hx dY;rcases i0 H with⟨af,ao⟩ |⟨af,ao⟩
  .simp only[jf,vj ao] at hx;rcases i0 dC with⟨lJ,jY⟩ |⟨lJ,jY⟩
   .simp only[jf,vj jY] at dY;exact dO d da ch ch' x af lJ a8 hx dY
   .simp only[jf,mu lJ] at dY;exact eQ c da _ ch' x dW (e' jY).2.2 (ay4 (e' jY).1) ((fy x).2 ⟨d,ch,af,hx⟩) dY
  .simp only[jf,mu af] at hx;rcases i0 dC with⟨lJ,jY⟩ |⟨lJ,jY⟩
   .simp only[jf,vj jY] at dY;exact eQ c d _ ch x dW (e' ao).2.2 (ay4 (e' ao).1) ((fy x).2 ⟨da,ch',lJ,dY⟩) hx
   .simp only[jf,mu lJ] at dY;exact eQ d da ch ch' x (e' ao).2.2 (e' jY).2.2 a8 hx dY
 .intro i v x az hx;have KN:=av3.1 zX v (ax6 az)
  exact cA.mono (cp.refl _ _) v x (fun j V=>C3 j (fun lw=>by
   have:=av3.1 KN j lw;rw[V] at this
   cases this)) (dI i v x az hx)
 .rintro e w' ⟨g,x,ρ',F',rfl,cJ,dA,I',jG,gM,l6,aq,ix,sW⟩;have aU:=G g;simp only[oy,as1,aC4] at aU;obtain⟨⟨⟨⟨b1,b2⟩,b3⟩,eG⟩,fz⟩:=aU;have b1:=ub b1
  have adH: ∀d,d∉nd gi bb jK->d∉gi/\(d∈bb->d∈jK):=fun d H=>by
   refine⟨fun bd=>H (au4.2 (.inl bd)),fun bd=>?_⟩;rcases Decidable.em (d∈jK) with h |h
   .exact h
   .exact as3 (au4.2 (.inr (aB9.2 ⟨bd,by simpa using h⟩))) H
  have AE:c∉nd gi bb jK:=fun bd=>by
   rcases au4.1 bd with h |h
   .exact a5 h
   .exact a4 (aB9.1 h).1
  let vb:Nat->bq:=fun d=>if d∈jK then ρ' d else ρ d
  have rF: ∀d,d∉nd gi bb jK->vb d=ρ' d:=fun d H=>by
   obtain⟨af,ao⟩:=adH d H;show(if d∈jK then ρ' d else ρ d)=ρ' d
   split
   .rfl
   .rename_i hn;rw[dA d (fun bd=>hn (ao bd)),C3 d af]
  have pm: ∀{d ch},aj (dP g) d=some ch->aj (dP g++aT g) d=some ch:=fun {d ch} H=>by rw[i1,H]
  have nL: ∀{d ch},aj (aT g) d=some ch->d≠c/\d∉nd gi bb jK/\aj (dP g) d=none/\aj (dP g++aT g) d=some ch:=fun {d ch} H=>by
   have af:d≠c:=fun e=>by rw[e,eG] at H;cases H
   have ao:=(C2 b3 H).1
   have bo:aj (dP g) d=none:=by
    cases e:aj (dP g) d with
    |none=>rfl
    |some ch'=>
     have:=ub (av3.1 b2 d (gL.2 ⟨ch',e⟩));rcases as8.1 this with h |h
     .exact as3 h af
     .exact as3 h ao
   exact⟨af,ao,bo,by rw[i1,bo];exact H⟩
  refine⟨g,x,vb,fun d=>if d=c then(fun y=> ∃da ch',aj (dP g) da=some ch'/\F' da y) else F' d,rfl,cJ.mono fun y _ aC=>nc y aC,fun d H=>mu H,I',jG,fun y aC=>⟨(gM y aC).1,?_⟩,?_,?_,?_,?_⟩
  .rcases(gM y aC).2 with h |h |h
   .exact .inl h
   .exact .inr (.inl (nc y h))
   .exact .inr (.inr h)
  .intro d ch H;rw[ci] at H
   split at H
   .rename_i e;injection H with H
    subst H e;simp only[if_true];rw[rF _ AE];exact ot g _ _ _ _ ⟨ρ',F',rfl,fun d ch H=>l6 d ch (pm H),fun d da ch ch' b H dC a8=>ix d da ch ch' b (pm H) (pm dC) a8,fun b=>Iff.rfl⟩
   .obtain⟨af,ao,bo,c7⟩:=nL H;simp only[mu af];rw[rF d ao];exact Holds.cr (cp.refl _ _) (fun _ _=>rfl) (as2 _) ch (fun j V=>rF j (fun lw=>by rw[(C2 b3 H).2 j lw] at V;cases V)) (l6 d ch c7)
  .intro d ch H y aC;rw[ci] at H
   split at H
   .rename_i e;subst e;simp only[if_true] at aC;obtain⟨da,ch',E,G⟩:=aC;obtain⟨cD,cv,hQ⟩:=aq da ch' (pm E) y G;exact⟨cD,cv,hQ.imp (nc y) id⟩
   .obtain⟨af,ao,bo,c7⟩:=nL H;simp only[mu af] at aC;obtain⟨cD,cv,hQ⟩:=aq d ch c7 y aC;exact⟨cD,cv,hQ.imp (nc y) id⟩
  .intro d da ch ch' y H dC a8 aC eo;rw[ci] at H dC
   split at H
   .rename_i e;subst e;rw[mu a8] at dC;obtain⟨af,ao,bo,c7⟩:=nL dC;simp only[if_true] at aC;simp only[mu af] at eo;obtain⟨hA,jm,E,G⟩:=aC;exact ix hA da jm ch' y (pm E) c7 (fun e=>by rw[e,bo] at E;cases E) G eo
   .obtain⟨af,ao,bo,c7⟩:=nL H;simp only[mu af] at aC
    split at dC
    .rename_i e;subst e;simp only[if_true] at eo;obtain⟨hA,jm,E,G⟩:=eo;exact ix d hA ch jm y c7 (pm E) (fun e=>by rw[<-e,bo] at E;cases E) aC G
    .obtain⟨lJ,jY,AD,adI⟩:=nL dC;simp only[mu lJ] at eo;exact ix d da ch ch' y c7 adI a8 aC eo
  .exact cA.mono (cp.refl _ _) (res g) x (fun j V=>rF j (fun lw=>by
    have:=av3.1 fz j lw;rw[V] at this
    cases this)) sW
def jJ.adJ {f g:Nat->Nat} (C4: ∀c,g (f c)=c) (KO: ∀c,f (g c)=c) {c:Nat} {br:aA} {I F:Nat->Prop} {w:aH5} {p:bq} (h:jJ c br I F w p):jJ (f c) (kK f br) I F w p:=by
 obtain⟨ρ,cj,E,G,ah,aW⟩:=h
 have ak: ∀{d ch},aj (kK f br) d=some ch-> ∃cG,aj br (g d)=some cG/\ch=cG.eM f:=fun {d ch} H=>by
  rw[<-KO d,CT C4] at H;obtain⟨cG,af,ao⟩:=aw3.1 H;exact⟨cG,af,ao.symm⟩
 refine⟨fun d=>ρ (g d),fun d=>cj (g d),by simp only[C4];exact E,fun d ch H=>?_,fun d da ch ch' b H dC a8=>?_,fun b=>?_⟩
 .obtain⟨cG,af,rfl⟩:=ak H;rw[CS];simp only[C4];exact G _ _ af
 .obtain⟨cG,af,_⟩:=ak H;obtain⟨jm,ao,_⟩:=ak dC;exact ah _ _ _ _ b af ao (fun e=>a8 (by rw[<-KO d,<-KO da,e]))
 .rw[aW];constructor
  .rintro⟨d,ch,af,ao⟩;exact⟨f d,ch.eM f,by rw[CT C4,af];rfl,by simp only[C4];exact ao⟩
  .rintro⟨d,ch,af,ao⟩;obtain⟨cG,bo,_⟩:=ak af;exact⟨g d,cG,bo,ao⟩
def jJ.aX (l:aJ7) {c:Nat} {br:aA} {I F:Nat->Prop} {w:aH5} {p:bq} (h:jJ c br I F w p):jJ (eM (lL l []) c) (kK (eM (lL l [])) br) I F w p:=
 h.adJ (g:=Ay (lL l [])) (Gd _) (Ge _)
section
variable {ids:aH0} {K:aZ} {B:aA}
def dv.name (s c:Nat) {o:bg} (au:dR K s= .c (.one (.ptr c 0))) (J:aj B c=some (.aH o)):dv ids K B (fun b:Nat=>(s,.c (.one (.d (.aM (some b)))))::K) (fun b=>(c,.aH (o.at b))::B):=by
 rintro N C a w ⟨hn,H,ρ,F,al,av⟩;obtain⟨bC,a2⟩:=al.h8 (w':=w) (ch:=.aH (o.at (ρ c).bm)) J (cZ.refl _ _) fun I a1=>⟨rfl,Holds.cr (ρ':=ρ) a1 (fun _ _=>rfl) (as2 _) (.aH o) (fun _ _=>rfl) (al.holds c _ J)⟩
 refine⟨(ρ c).bm,hn,H,ρ,F,bC,fun t=>?_⟩;rw[kV]
 split
 .rename_i e;subst e;have:=av s;rw[au] at this;exact this
 .exact av.mono a2 (fun _ _ _=>rfl) t
def ac.put (q c:Nat) {o:bg} {b:Nat} {L:List (Nat×bg)} (a8:c≠q) (aQ:aj B q=some (.aH (.bA L))) (J:aj B c=some (.aH (o.at b))):ac ids K B K ((q,.aH (.bA ((b,o)::L)))::g8 B c):=by
 rintro N C a w ⟨hn,H,ρ,F,al,av⟩;have bl:f1 _ _ L (F q):=al.holds q _ aQ;have aq:(ρ c).bm=b/\o.bp _ (F c) w (ρ c):=al.holds c _ J;obtain⟨rfl,aq⟩:=aq;have eQ: ∀x,F c x-> ¬F q x:=fun x hx dY=>al.fw c q _ _ x J aQ a8 hx dY
 obtain⟨bC,a2⟩:=al.step (B':=(q,.aH (.bA (((ρ c).bm,o)::L)))::g8 B c) (ρ':=ρ) (F':=dp F q (fun x=>F c x\/F q x)) (w':=w) (fun d=>d=c\/d=q) (fun _=>False) (cZ.refl _ _)
  (fun d ch H ay=>by
   rw[ci,mu (fun e=>ay (.inr e.symm)),hM,mu (fun e=>ay (.inl e.symm))] at H;exact H)
  (fun _ _=>rfl) (fun d ay=>du _ _ (fun e=>ay (.inr e))) (fun _ _ h=>h) (fun _ h=>h.elim) (fun _ _ _ _ _ _ h=>h)
  (fun d ch H ay a2=>by
   rw[ci] at H
   split at H
   .rename_i e;subst e;injection H with H
    subst H;rw[dh];exact f1.add (bl.cr a2 (as2 _) (fun _ _=>rfl)) (o.cr _ _ _ _ _ _ aq a2 (fun _ _=>rfl) (as2 _)) eQ
   .rename_i e;rcases ay with rfl |rfl
    .rw[hM,vj rfl] at H;cases H
    .exact as3 rfl e)
  (fun d ch H ay x hx=>by
   rw[ci] at H
   split at H
   .rename_i e;subst e;rw[dh] at hx;rcases hx with hx |hx
    .exact⟨(al.own c _ J x hx).1,.inl ⟨c,_,J,.inl rfl,hx⟩⟩
    .exact⟨(al.own q _ aQ x hx).1,.inl ⟨q,_,aQ,.inr rfl,hx⟩⟩
   .rename_i e;rcases ay with rfl |rfl
    .rw[hM,vj rfl] at H;cases H
    .exact as3 rfl e)
  (fun d da ch ch' x H dC ay gK KP=>by
   have key: ∀d ch,aj ((q,ba.aH (.bA (((ρ c).bm,o)::L)))::g8 B c) d=some ch->(d=c\/d=q)->d=q:=fun d ch H ay=>by
    rcases ay with rfl |rfl
    .rw[ci,mu (ay4 a8),hM,vj rfl] at H;cases H
    .rfl
   exact as3 ((key d ch H ay).trans (key da ch' dC gK).symm) KP)
 exact⟨hn,H,ρ,_,bC,av.mono a2 fun _ _ _=>rfl⟩
def pX:aH0->aA->aA
 | [],B=>B
 |c::l,B=>pX l (g8 B c)
def yn: ∀(l:aH0) (B:aA) (d:Nat),aj (pX l B) d=if d∈l then none else aj B d
 | [],B,d=>by simp[pX]
 |c::l,B,d=>by
  rw[pX,yn l,hM]
  by_cases h:d∈l
  .rw[vj h,vj (as6 _ h)]
  .rw[mu h]
   by_cases e:c=d
   .subst e;rw[vj rfl,vj (at6 ..)]
   .rw[mu e,mu];intro bd;rcases as8.1 bd with rfl |bd
    .exact e rfl
    .exact h bd
def ac.close (c:Nat) (br:aA) {o:bg} (cQ:lq B br) (J:(ct br).contains c=true) (ag: ∀I F w p,jJ c br I F w p->o.bp I F w p):ac ids K B K ((c,.aH o)::pX (ct br) B):=by
 rintro N C a w ⟨hn,H,ρ,F,al,av⟩;have J:=ub J;have ak: ∀{d ch},aj br d=some ch->aj B d=some ch:=fun {d ch} h=>k3 cQ h
 have wW: ∀{d ch},aj ((c,ba.aH o)::pX (ct br) B) d=some ch->d∈ct br->d=c/\ch= .aH o:=fun {d ch} H ay=>by
  rw[ci] at H
  split at H
  .rename_i e;injection H with H;exact⟨e.symm,H.symm⟩
  .rw[yn,vj ay] at H;cases H
 obtain⟨bC,a2⟩:=al.step (B':=(c,.aH o)::pX (ct br) B) (ρ':=ρ) (F':=fun d=>if d∈ct br then(fun x=> ∃d ch,aj br d=some ch/\F d x) else F d) (w':=w) (fun d=>d∈ct br) (fun _=>False) (cZ.refl _ _)
  (fun d ch H ay=>by
   have a8:c≠d:=fun e=>ay (by rw[<-e];exact J)
   rw[ci,mu a8,yn,mu ay] at H;exact H)
  (fun _ _=>rfl) (fun d ay=>mu ay) (fun _ _ h=>h) (fun _ h=>h.elim) (fun _ _ _ _ _ _ h=>h)
  (fun d ch H ay a2=>by
   obtain⟨rfl,rfl⟩:=wW H ay;simp only[vj ay];exact ag _ _ _ _ ⟨ρ,F,rfl,fun d ch h=>Holds.cr a2 (fun _ _=>rfl) (as2 _) ch (fun _ _=>rfl) (al.holds d ch (ak h)),fun d da ch ch' b h h' a8=>al.fw d da ch ch' b (ak h) (ak h') a8,fun b=>Iff.rfl⟩)
  (fun d ch H ay x hx=>by
   simp only[vj ay] at hx;obtain⟨da,ch',E,G⟩:=hx;exact⟨(al.own da ch' (ak E) x G).1,.inl ⟨da,ch',ak E,gL.2 ⟨ch',E⟩,G⟩⟩)
  (fun d da ch ch' x H dC ay gK a8=>as3 ((wW H ay).1.trans (wW dC gK).1.symm) a8)
 exact⟨hn,H,ρ,_,bC,av.mono a2 fun _ _ _=>rfl⟩
def ac.rK (q:Nat) (hf:hk ids K B q=true):ac ids K B K ((q,.aH (.bA []))::B):=by
 rintro N C a w ⟨hn,H,ρ,F,al,av⟩;have cJ:=ls hf;obtain⟨bC,a2⟩:=al.make hf (Below.refl _ w) (ρ q) (fun _=>False) (fun _ h=>h.elim) (ch:=.aH (.bA [])) fun I _ _=>fun b h=>h
 exact⟨hn,H,_,_,bC,av.mono a2 fun s d H=>du _ _ (fun e=>by subst e;rw[cJ.1 s] at H;cases H)⟩
end
end
section
open Go.ChangeMaps (setBlock map_eraseIdx)
def Gp:(u:bB)->aa u->d0
 | .int k,n=>.one (.d (.int k n))
 | .str,s=>.one (.d (.str s))
 |_,_=>.one .any
def C5 (b:Nat) (aI aK:bB) (l:List (Nat×(aa aI×aa aK))) (bY:Nat) (I F:Nat->Prop) (w:aH5) (p:bq):Prop:=
 p.bm=b/\(∀x,F x↔x=p.bm)/\ ∃bV,w.heap[p.bm]? =some (.map (List.toArray bV) bY)/\iG I w aI aK (l.map (·.2)) bV/\bV.map (·.born)=l.map (·.1)/\ms bV bY
def bg.wX (b:Nat) (aI aK:bB) (l:List (Nat×(aa aI×aa aK))) (bY:Nat):bg where
 bp:=C5 b aI aK l bY
 cr:=fun I F w I' w' p ⟨E,G,bV,ah,aW,bM,fU⟩ U bj aN=>⟨E,G,bV,(bj _ ((G _).2 rfl)).trans ah,aW.mono U,bM,fU⟩
def KQ (b k7:Nat) (bO:aH0) (at_:Nat) (I F:Nat->Prop) (w:aH5) (p:bq):Prop:=(∀x,F x↔x=p.bm)/\w.heap[p.bm]? =some (.mapIter (some b) k7 (List.toArray bO) at_)
def bg.wY (b k7:Nat) (bO:aH0) (at_:Nat):bg where
 bp:=KQ b k7 bO at_
 cr:=fun I F w I' w' p ⟨E,G⟩ U bj aN=>⟨E,(bj _ ((E _).2 rfl)).trans G⟩
section
variable {P:aH6} {ids:aH0} {K:aZ} {B:aA}
def adK {bV:aI7} {bY:Nat} (h:ms bV bY):(bV.map (·.born)).Pairwise (· < ·)/\ ∀x∈bV.map (·.born),x < bY:=⟨h.1,fun x hx=>by
 obtain⟨e,U,rfl⟩:=av0.1 hx;exact h.2 e U⟩
def RE {α l7:Type}: ∀{l:List α} {m:List l7},l.length=m.length->(l.zip m).map (·.1)=l/\(l.zip m).map (·.2)=m
 | [],[],_=>⟨rfl,rfl⟩
 |a::l,b::m,h=>by
  obtain⟨E,G⟩:=RE (l:=l) (m:=m) aE0;simp[E,G]
structure RF (aI aK:bB) (es:List (aa aI×aa aK)) where
 b:Nat
 l:List (Nat×(aa aI×aa aK))
 bY:Nat
 snd:l.map (·.2)=es
 art:(l.map (·.1)).Pairwise (· < ·)
 lt: ∀x∈l.map (·.1),x < bY
def dv.RG (c:Nat) {aI aK:bB} {es:List (aa aI×aa aK)} (J:aj B c=some (.map aI aK es)):dv ids K B (X:=RF aI aK es) (fun _=>K) (fun x=>(c,.aH (.wX x.b aI aK x.l x.bY))::B):=by
 rintro N C a w ⟨hn,H,ρ,F,al,av⟩;obtain⟨bj,bV,bY,O,ay,cQ⟩:=al.holds c _ J;have bX:(bV.map (·.born)).length=es.length:=by rw[at8,Ch ay]
 obtain⟨k2,rA⟩:=RE bX;obtain⟨r1,r2⟩:=adK cQ
 let x:RF aI aK es:=⟨(ρ c).bm,(bV.map (·.born)).zip es,bY,rA,by rw[k2];exact r1,by rw[k2];exact r2⟩
 obtain⟨bC,a2⟩:=al.h8 (w':=w) (ch:=.aH (.wX x.b aI aK x.l x.bY)) J (cZ.refl _ _) fun I a1=>⟨rfl,bj,bV,O,by
  show iG I w aI aK (((bV.map (·.born)).zip es).map (·.2)) bV;rw[rA];exact ay.mono a1,k2.symm,cQ⟩
 exact⟨x,hn,H,ρ,F,bC,av.mono a2 fun _ _ _=>rfl⟩
def ac.RH (c:Nat) {b:Nat} {aI aK:bB} {l:List (Nat×(aa aI×aa aK))} {bY:Nat} (J:aj B c=some (.aH (.wX b aI aK l bY))):ac ids K B K ((c,.map aI aK (l.map (·.2)))::B):=by
 rintro N C a w ⟨hn,H,ρ,F,al,av⟩;obtain⟨O,bj,bV,ah,aW,bM,fU⟩:C5 b aI aK l bY _ (F c) w (ρ c):=al.holds c _ J;obtain⟨bC,a2⟩:=al.h8 (w':=w) (ch:=.map aI aK (l.map (·.2))) J (cZ.refl _ _) fun I a1=>⟨bj,bV,bY,ah,aW.mono a1,fU⟩
 exact⟨hn,H,ρ,F,bC,av.mono a2 fun _ _ _=>rfl⟩
def RI {o:Oper} {T kt et:aI0} {x:aH8} {c d:Nat} (ag:o.op= .range T x) (b8:P.underlying T=some (.map kt et)) (hx:a7 K x= .c (.one (.mp c))) {b:Nat} {aI aK:bB} {l:List (Nat×(aa aI×aa aK))} {bY:Nat}
  (J:aj B c=some (.aH (.wX b aI aK l bY))) (N:Nat):bD P N ids o K B (.c (.one (.ptr d 0))) ⟨[c],[d],[(d,some (.aH (.wY b bY [] bY)))]⟩:=by
 have ay:x∈o.op.operands:=aD8
 refine bD.make (fun e U=>(at1 U).symm) fun K' B' g1 g2 C ρ F a w al av _=>?_
 have cW:=(g2 c aD3).trans J;obtain⟨O,bj,bV,ah,aW,bM,fU⟩:C5 b aI aK l bY _ (F c) w (ρ c):=al.holds c _ cW;have af:=av.mp ((g1 x ay).trans hx);refine⟨.pointer (some ⟨w.heap.size,0,none⟩),w.alloc (.mapIter (some (ρ c).bm) bY #[] bY),⟨w.heap.size,none,0,0⟩,fun y=>y=w.heap.size,?_,(Below.refl _ _).alloc (as2 _) _,fun y aC=>?_,fun I a2 a1=>⟨⟨fun y=>Iff.rfl,?_⟩,?_⟩⟩
 .simp[execOp,ag,af,run_range_map w T kt et (ρ c).bm _ bY b8 ah,Result.andThen]
 .subst aC;simp
 .rw[<-O];exact heap_alloc_new w _
 .show _=Value.pointer (some ⟨(dp ρ d _ d).bm,0,none⟩);rw[dh]
def KR {I:Nat->Prop} {w:aH5} {aI aK:bB}: ∀{l:List (aa aI×aa aK)} {es:aI7},iG I w aI aK l es-> ∀{j:Nat} {e:MapEntry},es[j]? =some e-> ∃p,l[j]? =some p/\e.key=gZ aI p.1/\jT I w aK p.2 e.val
 | [],_,h,j,e,U=>by rw[show _=[] from h] at U;simp at U
 |p::l,_,⟨b9,r,h,E,G,ah⟩,0,e,U=>by
  rw[h] at U;simp only[at9,as9] at U;subst U;exact⟨p,rfl,E,G⟩
 |p::l,_,⟨b9,r,h,E,G,ah⟩,j+1,e,U=>by
  rw[h] at U;simp only[aC5] at U⊢;exact KR ah U
def RJ {b:Nat} {aI aK:bB} {l:List (Nat×(aa aI×aa aK))} {I:Nat->Prop} {w:aH5} {bV:aI7} (ay:iG I w aI aK (l.map (·.2)) bV) (O:bV.map (·.born)=l.map (·.1)) {e:MapEntry} (U:e∈bV): ∃p∈l,p.1=e.born/\e.key=gZ aI p.2.1/\jT I w aK p.2.2 e.val:=by
 obtain⟨j,V,rfl⟩:=ay5 U;have k1:bV[j]? =some bV[j]:=as0 V;obtain⟨q,aQ,E,G⟩:=KR ay k1;rw[au8] at aQ;obtain⟨p,ae,rfl⟩:=aw3.1 aQ;have C6:(bV.map (·.born))[j]? =(l.map (·.1))[j]? :=by rw[O]
 rw[au8,au8,k1,ae] at C6;exact⟨p,ax6 ae,by simpa using C6.symm,E,G⟩
def RK {aI aK:bB} {l:List (Nat×(aa aI×aa aK))} {I:Nat->Prop} {w:aH5} {bV:aI7} (ay:iG I w aI aK (l.map (·.2)) bV) (O:bV.map (·.born)=l.map (·.1)) {p:Nat×(aa aI×aa aK)} (ae:p∈l): ∃e∈bV,e.born=p.1/\e.key=gZ aI p.2.1/\jT I w aK p.2.2 e.val:=by
 obtain⟨j,V,rfl⟩:=ay5 ae;have k1:l[j]? =some l[j]:=as0 V;have bX:bV.length=l.length:=by have:=as5 List.length O;simpa using this
 have U:bV[j]? =some (bV[j]'aD1):=as0 aD1;obtain⟨q,aQ,E,G⟩:=KR ay U;rw[au8,k1] at aQ;simp only[ay7,as9] at aQ;subst aQ;have C6:(bV.map (·.born))[j]? =(l.map (·.1))[j]? :=by rw[O]
 rw[au8,au8,k1,U] at C6;exact⟨_,av2 _,by simpa using C6,E,G⟩
def RL {ρ:Nat->bq} {I:Nat->Prop} {w:aH5}: ∀(u:bB) (x:aa u),gS ρ I w (Gp u x) (gZ u x)
 | .int _,_=>rfl
 | .str,_=>rfl
 | .u8,_=>trivial
 | .bool,_=>trivial
 | .aM,_=>trivial
 | .dz,_=>trivial
 | .fn,_=>trivial
 | .cc _,_=>trivial
 | .bU _ _,_=>trivial
 | .arr _ _,_=>trivial
def adL (r b k7:Nat) (bO:aH0) (aI aK:bB) (l:List (Nat×(aa aI×aa aK))) (bY c:Nat) (v:aS) (e:fE):Prop:=
 (∃p∈l,p.1∉bO/\v= .cn [.one (.d (.lit true)),Gp aI p.2.1,z8 aK p.2.2]/\e=⟨[c,r],[],[(r,some (.aH (.wY b k7 (bO++[p.1]) bY)))]⟩)\/
 ((∀p∈l,p.1∈bO)/\v= .cn [.one (.d (.lit false))]/\e=bK)
def RM {o:Oper} {it:aH8} {c r:Nat} (ag:o.op= .next it false) (hx:a7 K it= .c (.one (.ptr r 0))) {b k7:Nat} {bO:aH0} {at_:Nat} {aI aK:bB} {l:List (Nat×(aa aI×aa aK))} {bY:Nat}
  (ax:aj B r=some (.aH (.wY b k7 bO at_))) (J:aj B c=some (.aH (.wX b aI aK l bY))) (nb: ∀p∈l,p.1 < k7) (adM:k7<=at_):CX P ids o K B (adL r b k7 bO aI aK l bY c):=by
 rintro N C a w au bv ga Q cE;have aru:=au;obtain⟨hn,H,ρ,F,al,av⟩:=au;obtain⟨O,bj,bV,ah,aW,bM,fU⟩:C5 b aI aK l bY _ (F c) w (ρ c):=al.holds c _ J;obtain⟨kJ,iw⟩:KQ b k7 bO at_ (b5 C B F w) (F r) w (ρ r):=al.holds r _ ax;have af:a.eval it= .pointer (some ⟨(ρ r).bm,0,none⟩):=av.ev hx
 have adN: ∀x∈(List.toArray bV).toList,x.born < k7:=fun x hx=>by
  obtain⟨p,ae,h,_⟩:=RJ (b:=b) aW bM (e:=x) aG5;rw[<-h];exact nb p ae
 rw[O] at ah;rcases run_next_at (P:=P) w o.type (ρ r).bm b k7 at_ (List.toArray bO) (List.toArray bV) bY iw ah adN adM with⟨aN,d3⟩ |⟨e,U,d9,yo,d3⟩
 .unfold Oper.wp;have hx:(execOp a.eval o).run P w= .ok (.value (.tuple #[.bool false])) w:=by simp[execOp,ag,af,d3,Result.andThen]
  rw[hx,Oper.upon_value];refine cE (.cn [.one (.d (.lit false))]) bK _ _ (.inr ⟨fun p ae=>?_,rfl,rfl⟩) ⟨kW.trans hn,kX.trans H,ρ,F,al,av.kY (fun e U=>by rw[hn];exact bv e U) ⟨[.bool false],rfl,_,_,rfl,rfl,rfl⟩⟩;obtain⟨e,U,E,_⟩:=RK aW bM ae;rw[<-E];have KS:leftOf (List.toArray bV) (List.toArray bO)= #[]:=Array.eq_empty_of_size_eq_zero aN;unfold leftOf at KS;rw[Array.filter_eq_empty_iff] at KS;have:=KS e (by simpa using U);simpa using this
 .obtain⟨KT,qI⟩:=mem_left U;have KT:e∈bV:=by simpa using KT
  have qI:e.born∉bO:=by
   intro bd;have:(List.toArray bO).contains e.born=true:=by simpa using bd
   rw[this] at qI;cases qI
  obtain⟨p,ae,cB,cH,dO⟩:=RJ (b:=b) aW bM KT;unfold Oper.wp;have hx:(execOp a.eval o).run P w= .ok (.value (.tuple #[.bool true,e.key,e.val])) (setBlock d9 (ρ r).bm (.mapIter (some b) k7 ((List.toArray bO).push e.born) bY)):=by simp[execOp,ag,af,d3,Result.andThen]
  rw[hx,Oper.upon_value];have rL:(ρ r).bm < w.heap.size:=mr iw
  have AF:d9.heap=w.heap/\d9.os=w.os/\d9.tape=w.tape/\d9.output=w.output:=by
   rcases yo with rfl |rfl <;>exact⟨rfl,rfl,rfl,rfl⟩
  have cJ:cZ (F r) w (setBlock d9 (ρ r).bm (.mapIter (some b) k7 ((List.toArray bO).push e.born) bY)):=by
   refine⟨AF.2.1,AF.2.2.1,AF.2.2.2,by simp[setBlock,AF.1],fun k Z AG=>?_⟩;have a8:k≠(ρ r).bm:=fun h=>AG ((kJ k).2 h)
   simp[setBlock,AF.1,az2 (ay4 a8)]
  obtain⟨bC,a2⟩:=al.h8 (w':=setBlock d9 (ρ r).bm (.mapIter (some b) k7 ((List.toArray bO).push e.born) bY)) (ch:=.aH (.wY b k7 (bO++[p.1]) bY)) ax cJ fun I a1=>⟨kJ,by
   simp[setBlock,AF.1,rL,cB]⟩
  refine cE (.cn [.one (.d (.lit true)),Gp aI p.2.1,z8 aK p.2.2]) ⟨[c,r],[],[(r,some (.aH (.wY b k7 (bO++[p.1]) bY)))]⟩ _ _ (.inl ⟨p,ae,by rw[cB];exact qI,rfl,rfl⟩)
   ⟨kW.trans hn,kX.trans H,ρ,F,bC,(av.mono a2 fun _ _ _=>rfl).kY (fun e U=>by rw[hn];exact bv e U) ⟨[.bool true,e.key,e.val],rfl,_,_,rfl,rfl,_,_,rfl,?_,_,_,rfl,fSz (dO.mono a2),rfl⟩⟩
  rw[cH];exact RL aI _
def RN {o:Oper} {it:aH8} {c r:Nat} (ag:o.op= .entry it) (hx:a7 K it= .c (.one (.ptr r 0))) {b k7:Nat} {bO:aH0} {aI aK:bB} {l:List (Nat×(aa aI×aa aK))} {bY:Nat} {p:Nat×(aa aI×aa aK)}
  (ax:aj B r=some (.aH (.wY b k7 (bO++[p.1]) bY))) (J:aj B c=some (.aH (.wX b aI aK l bY))) (ae:p∈l) (N:Nat):bD P N ids o K B (.cn [Gp aI p.2.1,z8 aK p.2.2]) ⟨[c,r],[],[]⟩:=by
 have ay:it∈o.op.operands:=aD8
 refine bD.val fun K' B' g1 g2 C ρ F a w al av=>?_
 have cW:=(g2 c aD3).trans J;have Ke:=(g2 r aD3).trans ax;obtain⟨O,bj,bV,ah,aW,bM,fU⟩:C5 b aI aK l bY _ (F c) w (ρ c):=al.holds c _ cW;obtain⟨kJ,iw⟩:KQ b k7 (bO++[p.1]) bY (b5 C B' F w) (F r) w (ρ r):=al.holds r _ Ke;have af:a.eval it= .pointer (some ⟨(ρ r).bm,0,none⟩):=av.ev ((g1 it ay).trans hx);obtain⟨e,U,cB,cH,dO⟩:=RK aW bM ae;rw[O] at ah
 have dD:((List.toArray bV).toList.map (·.born)).Nodup:=by
  show(bV.map (·.born)).Nodup;exact fU.1.imp fun h=>by omega
 have adO:w.heap[(ρ r).bm]? =some (.mapIter (some b) k7 ((List.toArray bO).push e.born) bY):=by rw[iw,cB];simp
 have d3:=run_entry_at (P:=P) w (ρ r).bm b k7 (List.toArray bO) (List.toArray bV) bY e adO ah (by simpa using U) dD;refine⟨_,by simp[execOp,ag,af,d3,Result.andThen],[e.key,e.val],rfl,_,_,rfl,?_,_,_,rfl,fSz dO,rfl⟩;rw[cH];exact RL aI _
def adP {o:Oper} {T fF b9:aI0} {x:aH8} {c:Nat} (ag:o.op= .binOp .eql T x (.const (.slice none 0 0)) fF) (hx:a7 K x= .c (.one (.own c))) {e:aI0} {u:bB} {xs:List (aa u)} (J:aj B c=some (.row e u xs)) (b8:P.underlying T=some (.slice b9)):
  CX P ids o K B (fun v KU=> ∃b:Bool,(b=true->xs=[])/\v= .c (.one (.d (.lit b)))/\KU=⟨[c],[],[]⟩):=by
 rintro N C a w ⟨hn,H,ρ,F,al,av⟩ bv ga Q cE;obtain⟨bj,jo,cs,dN,kp⟩:=al.holds c _ J;have af:a.eval x=(ρ c).eS:=av.ev hx
 have d3:(execOp a.eval o).run P w= .ok (.value (.bool (ρ c).A.isNone)) w:=by
  simp only[execOp,ag,af,bq.eS];have ao:a.eval (.const (.slice none 0 0))= .slice none 0 0:=rfl;have h:=Lib.run_eql_slice_nil (P:=P) w T b9 (ρ c).A (ρ c).n (ρ c).cap 0 0 b8;simp[ao,h,Result.andThen,eqGuard]
 unfold Oper.wp;rw[d3,Oper.upon_value];refine cE (.c (.one (.d (.lit (ρ c).A.isNone)))) ⟨[c],[],[]⟩ _ _ ⟨_,fun O=>?_,rfl,rfl⟩ ⟨kW.trans hn,kX.trans H,ρ,F,al,av.kY (fun e U=>by rw[hn];exact bv e U) rfl⟩;rcases dN.2 with⟨_,h⟩ |⟨g,cap,dm,h,_⟩
 .exact aw8 h
 .have E:(ρ c).A=some ⟨g,0,none⟩:=by simp only[bq.eS] at h;injection h
  rw[E] at O
  cases O
end
end
section
def hB (x:D):bg where
 bp:=fun I F w p=>Holds (fun _=>p) I F w p (.cells [.d x])
 cr:=fun I F w I' w' p h U bj aN=>Holds.cr U bj aN (.cells [.d x]) (fun _ _=>rfl) h
def adQ {c:Nat} {x:D}: ∀I F w p,jJ c [(c,.cells [.d x])] I F w p->(hB x).bp I F w p:=by
 rintro I F w p ⟨ρ,cj,E,G,ah,aW⟩;have h:=G c _ aF2;rw[E] at h
 have lu:F=cj c:=by
  funext b
  refine propext ((aW b).trans ⟨?_,fun g=>⟨c,_,by rw[ci,vj rfl],g⟩⟩);rintro⟨d,ch,e,g⟩;rw[ci] at e
  split at e
  .rename_i ao;rw[<-ao] at g;exact g
  .cases e
 rw[lu];exact Holds.cr (cp.refl _ _) (fun _ _=>rfl) (as2 _) (.cells [.d x]) (fun d H=>by cases H) h
section
variable {P:aH6} {ids:aH0} {K:aZ} {B:aA}
def C7 {o:Oper} {T:aI0} {x:aH8} {q b:Nat} {y:D} {L:List (Nat×bg)} {d:aJ1} (ag:o.op= .load T x) (b8:P.underlying T=some d) (H:d.isRow=false) (hx:a7 K x= .c (.one (.d (.aM (some b)))))
  (aQ:aj B q=some (.aH (.bA L))) (cO:eH L b=some (hB y)) (N:Nat):bD P N ids o K B (.c (.one (.d y))) ⟨[q],[],[]⟩:=by
 have ay:x∈o.op.operands:=aD8
 refine bD.val fun K' B' g1 g2 C ρ F a w al av=>?_
 have Gq:=(g2 q aD3).trans aQ;have bl:f1 (b5 C B' F w) w L (F q):=al.holds q _ Gq;obtain⟨cL,cU,p,b',cS,en,e0,vm⟩:=bl.out cO;have az:a.eval x= .pointer (some ⟨b,0,none⟩):=av.ev ((g1 x ay).trans hx);obtain⟨E,aF,e8,G,ah⟩:=e0;obtain⟨v,r,e,aW,bM⟩:=ah;have bM:r=[]:=bM;subst bM e;rw[en] at G;exact⟨v,FG ag az b8 H (pd G rfl),aW⟩
def RO {o:Oper} {T fF b9:aI0} {x:aH8} {u:bB} {xs:List (aa u)} (ag:o.op= .binOp .eql T x (.const (.slice none 0 0)) fF) (hx:a7 K x= .c (.one (.d (.bG u xs)))) (b8:P.underlying T=some (.slice b9)):
  CX P ids o K B (fun v KU=> ∃b:Bool,(b=true->xs=[])/\v= .c (.one (.d (.lit b)))/\KU=⟨[],[],[]⟩):=by
 rintro N C a w ⟨hn,H,ρ,F,al,av⟩ bv ga Q cE;obtain⟨A,cap,af,G,ah,aW⟩:gY (b5 C B F w) w (.bG u xs) (a.eval x):=av.ev hx;injection af with af
 have d3:(execOp a.eval o).run P w= .ok (.value (.bool A.isNone)) w:=by
  simp only[execOp,ag,af];have ao:a.eval (.const (.slice none 0 0))= .slice none 0 0:=rfl;have h:=Lib.run_eql_slice_nil (P:=P) w T b9 A (List.length xs) cap 0 0 b8;simp[ao,h,Result.andThen,eqGuard]
 unfold Oper.wp;rw[d3,Oper.upon_value];refine cE (.c (.one (.d (.lit A.isNone)))) ⟨[],[],[]⟩ _ _ ⟨_,fun O=>?_,rfl,rfl⟩ ⟨kW.trans hn,kX.trans H,ρ,F,al,av.kY (fun e U=>by rw[hn];exact bv e U) rfl⟩;rcases aB3 (List.length xs) with h |h
 .exact aw8 h
 .obtain⟨b,q,dX,_⟩:=aW h;rw[dX] at O
  cases O
def adR {aV:dt} (bl:eq P aV) {o:Oper} {T et:aI0} {te:cd} {x y aB:aH8} {u:bB} {xs:List (aa u)} {n:Int} (ag:o.op= .slice T x none (some y) (some aB)) (U:elemOf aV T=some (et,te)) (aN:te.size=aR u)
  (hx:a7 K x= .c (.one (.d (.bG u xs)))) (aC:a7 K y= .c (.one (.d (.int .i64 n)))) (qC:a7 K aB= .c (.one (.d (.int .i64 n)))) (aw:0<=n) (E:n<=List.length xs) (N:Nat):
  bD P N ids o K B (.c (.one (.d (.bG u (xs.take n.toNat))))) ⟨[],[],[]⟩:=by
 have m1:x∈o.op.operands:=aD8
 have m2:y∈o.op.operands:=aD8
 have m3:aB∈o.op.operands:=aD8
 refine bD.val fun K' B' g1 g2 C ρ F a w al av=>?_
 obtain⟨A,cap,bo,c7,fY,ia⟩:=av.bG ((g1 x m1).trans hx);injection bo with bo
 have af:=av.int ((g1 y m2).trans aC);have ao:=av.int ((g1 aB m3).trans qC);obtain⟨b8,di,ds,bx⟩:=pS bl U;have cz:(sizeOf et).run P w= .ok (aR u) w:=by simp[sizeOf,typeInfo,bx.km,bx.size,aN]
 have q:n<=(cap:Int):=aD9
 have O:(Instr.sliceBounds true (List.length xs) cap none (some (a.eval y)) (some (a.eval aB))).run P w= .ok (0,n.toNat,n.toNat) w:=by
  simp[Instr.sliceBounds,Instr.sliceBound,asIntOf,af,ao,aw,q];intro bv;omega
 have bX:List.length (xs.take n.toNat)=n.toNat:=aE8
 refine⟨.slice (if n.toNat=0 then A else A.map (·.add (0*aR u))) (n.toNat - 0) (n.toNat - 0),?_,?_⟩
 .simp only[execOp,ag,aw5,Instr.sliceAt,Instr.slice,run_underlying b8,au5,bo,Option.map_none,ay7,O,cz,ax2]
 .refine⟨_,n.toNat,by rw[bX];rfl,by rw[bX];exact as2 _,aD1,fun lz=>?_⟩;rw[bX] at lz;obtain⟨b,cH,rfl,a1,H⟩:=ia aD1;refine⟨b,cH,by rw[mu aD1,Nat.zero_mul];rfl,a1,fun i x m6=>?_⟩
  have J5:fd (α:=aa u) xs i=some x:=by
   unfold fd at m6⊢;rw[ax3] at m6
   split at m6
   .exact m6
   .cases m6
  exact H i x J5
def dv.box (s c q:Nat) {x:D} {L:List (Nat×bg)} (au:dR K s= .c (.one (.ptr c 0))) (J:aj B c=some (.cells [.d x])) (a8:c≠q) (aQ:aj B q=some (.aH (.bA L))):
  dv ids K B (fun b:Nat=>(s,.c (.one (.d (.aM (some b)))))::K) (fun b=>(q,.aH (.bA ((b,hB x)::L)))::g8 ((c,.aH ((hB x).at b))::(c,.aH (hB x))::g8 B c) c):=by
 intro N C a w h;have E:=ac.close (ids:=ids) (K:=K) (B:=B) c [(c,.cells [.d x])] (o:=hB x) ⟨J,trivial⟩ (by simp[ct]) adQ N C a w h;obtain⟨b,G⟩:=dv.name (ids:=ids) s c (o:=hB x) au aF2 N C a w E;refine⟨b,?_⟩
 have KV:aj ((c,ba.aH ((hB x).at b))::(c,.aH (hB x))::pX (ct [(c,ba.cells [.d x])]) B) q=some (.aH (.bA L)):=by
  rw[ci,mu a8,ci,mu a8];show aj (g8 B c) q=_;rw[hM,mu a8];exact aQ
 exact ac.put (ids:=ids) q c (o:=hB x) (b:=b) (L:=L) a8 KV aF2 N C a w G
end
def bw.mA {P:aH6} {N:Nat} {ids:aH0} {K:aZ} {B:aA} {c:Code} {Q:Co} (f:Nat) (e5:N<=1000000) (h:bw P N ids c ((1000000+f,.undef)::K) B Q):bw P N ids c K B Q:=by
 intro r ax C iY aQ a w au;refine h r ax C iY aQ a w ?_;obtain⟨hn,H,ρ,F,al,av⟩:=au;refine⟨hn,H,ρ,F,al,fun s=>?_⟩;rw[kV]
 split
 .rename_i e;subst e;show a.tmps.getD (1000000+f) undef=undef;rw[az7,Array.getElem?_eq_none aD1];rfl
 .exact av s
def adS {P:aH6} {ids:aH0} {K:aZ} {B:aA} {o:Oper} {f:aI5} {c:Call} {xs:aJ4} {aJ:aA} {res:aS} {aT:aA} (ag:o.op= .call c) (E:c.callee= .value (.func f)) (G:c.args.toList=xs) (hf:Fn P f (xs.map (a7 K)) aJ [] res aT) (ib:lq B aJ) (bx:m0 aJ [] aT=true) (l8: ∀c,aj aT c=aj aJ c) (N:Nat):
  bD P N ids o K B res ⟨ct aJ,[],[]⟩:=by
 obtain⟨v,e,⟨rfl,rfl⟩,aq,_⟩:cN P N ids o K B (fun v e=>v=res/\e=⟨ct aJ,[],iW aJ aT⟩):=QH ag E G ⟨aJ,[],res,aT,hf,ib,by rw[bx];rfl,by rw[sD];exact⟨rfl,rfl⟩⟩;intro K' B' g1 g2 cK C a w au bv ga Q cE;refine aq K' B' g1 g2 cK C a w au bv ga Q fun a' w' er=>cE a' w' (er.congr (fun _=>rfl) fun d=>?_)
 show aj B' d=aj (hy (iW aJ aT) B') d;rw[FU aJ aJ [] aT B' bx,l8]
 cases H:aj aJ d with
 |none=>
  simp only;rw[mu fun Z=>by obtain⟨ch,h⟩:=gL.1 Z;rw[H] at h;cases h]
 |some ch=>exact(g2 d (gL.2 ⟨ch,H⟩)).trans (k3 ib H)
def bw.adT {P:aH6} {N:Nat} {ids:aH0} {K:aZ} {B:aA} {c:Code} {Q:Co} (d:Nat) (e5:N<=1000000) (h:bw P N ids c ((1000000+(1000000+d),.undef)::K) B Q):bw P N ids c K B Q:=bw.mA (1000000+d) e5 h
def adU {P:aH6} {ids:aH0} {K:aZ} {B:aA} {o:Oper} {T e d:Nat} {x:aH8} {s:aG9} {di:aI9} (ag:o.op= .buildSlice T 1 #[(0,x)]) (b8:P.underlying T=some (.slice e)) (aE:P.info? e=some di) (aN:di.zero=some (.string ⟨#[]⟩)) (au:di.size=1)
  (hx:a7 K x= .c (.one (.d (.str s)))) (N:Nat):bD P N ids o K B (.c (.one (.own d))) ⟨[],[d],[(d,some (.row e .str [s]))]⟩:=by
 have m1:x∈o.op.operands:=aD8
 refine bD.make (fun d h=>Cx h) fun K' B' g1 g2 C ρ F a w al av hn=>?_
 have af:a.eval x= .string ⟨List.toArray s⟩:=av.ev ((g1 x m1).trans hx);refine⟨.slice (some ⟨w.heap.size,0,none⟩) 1 1,w.alloc (.cells (List.toArray [.string ⟨List.toArray s⟩]) e),⟨w.heap.size,some ⟨w.heap.size,0,none⟩,1,1⟩,fun b=>b=w.heap.size,?_,tL w _,fun b O=>(by subst O;exact⟨as2 _,aD3⟩),fun I U O=>⟨⟨?_,?_,[.string ⟨List.toArray s⟩],?_,fun i y aC=>?_⟩,?_⟩⟩
 .have d3:=run_buildSlice (P:=P) w T e 1 (#[(0,x)].map fun p=>(p.1,a.eval p.2)) (List.toArray [.string ⟨List.toArray s⟩]) di (.string ⟨#[]⟩) b8 aE aN (by rw[au];decide)
   (by rw[au];decide) (by
    rw[au];have ev:(Value.string ⟨List.toArray s⟩).cells= #[.string ⟨List.toArray s⟩]:=rfl;simp[af,Instr.fill,ev];rw[show Array.range 1= #[0] from rfl];simp)
  unfold execOp;simp only[ag,aw5,d3,au5];rfl
 .intro b;show b=w.heap.size↔some w.heap.size=some b;rw[as9];exact eq_comm
 .intro b O;have O:some w.heap.size=some b:=O;injection O with O
  exact O.symm
 .exact FO w e 1 1 [.string ⟨List.toArray s⟩] rfl aD2
 .match i with
  |0=>
   have aC:some s=some y:=aC;injection aC with aC
   subst aC;rfl
  |i+1=>
   have aC:(none:Option aG9)=some y:=aC
   cases aC
 .simp only[cA,gS,d',dh];rfl
end
section
abbrev c8 (n:Int):Prop:= -9223372036854775808<=n/\n<=9223372036854775807
def aD {P:Prop} (h:P:=by repeat' (first |exact trivial |exact rfl |refine⟨?_,?_⟩)):P:=h
def ar {p:aA->aH0->aS->aA->Prop} {q:aA->Prop} {r:aA->aH0->aA->Prop} {k:aA->aH0->aS->aA->Prop} {a:aA} {b:aH0} {c:aS} {d:aA} (s:p a b c d) (ah:k a b c d) (E:q a:=by repeat' (first |exact trivial |exact rfl |refine⟨?_,?_⟩)) (G:r a b d:=by rfl): ∃a b c d,p a b c d/\q a/\r a b d/\k a b c d:=⟨_,_,_,_,s,E,G,ah⟩
def lM {p: ∀(X:Type),aA->aH0->(X->aS)->(X->aA)->Prop} {q:aA->Prop} {r:aH0->Prop} {s: ∀(X:Type),aA->aH0->(X->aA)->X->Prop} {k: ∀(X:Type),aA->aH0->(X->aS)->(X->aA)->X->Prop} {X:Type} {a:aA} {b:aH0} {c:X->aS} {d:X->aA} (h:p X a b c d) (aW: ∀g,k X a b c d g)
 (E:q a:=by repeat' (first |exact trivial |exact rfl |refine⟨?_,?_⟩)) (G:r b:=by rfl) (ah: ∀g,s X a b d g:=by exact fun _=>rfl): ∃(X:Type) (a:aA) (b:aH0) (c:X->aS) (d:X->aA),p X a b c d/\q a/\r b/\(∀g,s X a b d g)/\ ∀g,k X a b c d g:=⟨_,_,_,_,_,h,E,G,ah,aW⟩
def wZ {P:aH6} {ids:aH0} {K:aZ} {B:aA} {o:Oper} {f:aI5} {c:Call} {xs:aJ4} {aJ:aA} {res:aS} {aT:aA} {q:fE->Prop} {k:aS->fE->Prop} (ag:o.op= .call c) (E:c.callee= .value (.func f)) (G:c.args.toList=xs) (hf:Fn P f (xs.map (a7 K)) aJ [] res aT) (Z:k res ⟨ct aJ,[],[]⟩)
 (ib:lq B aJ:=by repeat' (first |exact trivial |exact rfl |refine⟨?_,?_⟩)) (bx:m0 aJ [] aT=true:=by rfl) (l8: ∀c,aj aT c=aj aJ c:=by exact fun _=>rfl) (aQ:q ⟨ct aJ,[],[]⟩:=by rfl): ∃v e,(∀N,bD P N ids o K B v e)/\q e/\k v e:=⟨_,_,fun N=>adS ag E G hf ib bx l8 N,aQ,Z⟩
def bc {p:aS->fE->Prop} {q:fE->Prop} {k:aS->fE->Prop} {v:aS} {e:fE} (h:p v e) (G:k v e) (E:q e:=by rfl): ∃v e,p v e/\q e/\k v e:=⟨v,e,h,E,G⟩
def aY (stops:aH0) {N:Nat} {f:aI5} {fn:Func} {c:Code} {args:List aS} {aJ:aA} {bb:aH0} {res:aS} {aT:aA} {jH:List ResultVar} (hf:prog.funcs[f]? =some fn) (h:jV prog wR.types N (ct aJ) stops c (ph 0 args) aJ (F0 wR.types (ct aJ) bb jH res aT))
 (O:fn.body=some c:=by exact rfl) (hn:fn.ntmps=N:=by exact rfl) (fM:Nat.ble args.length N=true:=by exact rfl) (nI:fn.results.toList=jH:=by exact rfl) (gf:jU prog f=true:=by kernel_rfl) (J:j0 prog N c=true:=by kernel_rfl):Fn prog f args aJ bb res aT:=Fn.of fa stops args aJ bb res aT hf O hn gf J fM (Ax fa) nI h
def hZ (stops:aH0) {N:Nat} {f:aI5} {fn:Func} {c:Code} {args:List aS} {aJ:aA} {bb:aH0} {X:Type} {res:X->aS} {aT:X->aA} {jH:List ResultVar} (hf:prog.funcs[f]? =some fn) (h:jV prog wR.types N (ct aJ) stops c (ph 0 args) aJ (fun e K B=> ∃g,F0 wR.types (ct aJ) bb jH (res g) (aT g) e K B))
 (O:fn.body=some c:=by exact rfl) (hn:fn.ntmps=N:=by exact rfl) (fM:Nat.ble args.length N=true:=by exact rfl) (nI:fn.results.toList=jH:=by exact rfl) (gf:jU prog f=true:=by kernel_rfl) (J:j0 prog N c=true:=by kernel_rfl):cC prog f args aJ bb res aT:=cC.of fa stops args aJ bb res aT hf O hn gf J fM (Ax fa) nI h
def bz (stops:aH0) {N:Nat} {ids:aH0} {K K':aZ} {B B':aA} {Q:o9->aZ->aA->Prop} {c:Code} (h:ac ids K B K' B') (cm:jV prog wR.types N ids stops c K' B' Q) (J:j0 prog N c=true:=by kernel_rfl):bw prog N ids c K B Q:=bw.go fa (Ax fa) stops J h cm
def d1 (stops:aH0) {N:Nat} {ids:aH0} {b:Code} {X:Type} (lA:X->aZ) (hm:X->aA) (inv:X->Prop) (u':X->Nat) (ic:X) {K:aZ} {B:aA} {Q:o9->aZ->aA->Prop} (aw:inv ic) (gy:ac ids K B (lA ic) (hm ic))
 (h: ∀x,inv x->jV prog wR.types N ids stops b (lA x) (hm x) (fun e K B=>match e with
  | .hl=> ∃y,inv y/\u' y < u' x/\ac ids K B (lA y) (hm y)
  | .ex i=>Q (.ex i) K B
  | .ret=>Q .ret K B)) (J:j0 prog N b=true:=by kernel_rfl):bw prog N ids (.loop b) K B Q:=bw.loop fa (Ax fa) stops J lA hm inv u' ic aw gy h
def cM {ids:aH0} {K:aZ} {B:aA} (K':aZ) (B':aA) (E:As K K':=by repeat' (first |exact trivial |exact rfl |refine⟨?_,?_⟩)) (G:lq B B':=by repeat' (first |exact trivial |exact rfl |refine⟨?_,?_⟩)):ac ids K B K' B':=ac.sub E G
def bt {ids:aH0} {K:aZ} {B:aA}:ac ids K B K B:=ac.refl _ _
def sY {p:aZ->aA->Prop} {bp:Type} {q:aZ->aA->bp->Prop} {s:bp->Prop} {t:aA->Prop} {u:Prop} {K:aZ} {B:aA} {r:bp} (E:p K B) (G:q K B r) (ah:s r) (aW:t B) (bM:u): ∃K B r,p K B/\q K B r/\s r/\t B/\u:=⟨K,B,r,E,G,ah,aW,bM⟩
def eN {p:aZ->aA->Prop} {bp:Type} {q:aZ->aA->bp->Prop} {s:bp->Prop} {t:aA->Prop} {u:Prop} {K:aZ} {B:aA} {r:bp} (E:p K B) (G:q K B r) (ah:s r) (aW:t B:=by repeat' (first |exact trivial |exact rfl |refine⟨?_,?_⟩)) (bM:u:=by exact rfl): ∃K B r,p K B/\q K B r/\s r/\t B/\u:=⟨K,B,r,E,G,ah,aW,bM⟩
def bh {p:aZ->aA->Prop} {bp:Type} {q:aZ->aA->bp->Prop} {s:bp->Prop} {t:aA->Prop} {u:Prop} {K:aZ} {B:aA} {r:bp} (E:p K B:=by exact ac.refl _ _) (G:q K B r:=by exact rfl) (ah:s r:=by repeat' (first |exact trivial |exact rfl |refine⟨?_,?_⟩)) (aW:t B:=by repeat' (first |exact trivial |exact rfl |refine⟨?_,?_⟩)) (bM:u:=by exact rfl): ∃K B r,p K B/\q K B r/\s r/\t B/\u:=⟨K,B,r,E,G,ah,aW,bM⟩
def dE {p q A B:Prop} (k:B) (h: ¬p:=by decide):(p->A)/\(q->B):=⟨fun x=>as3 x h,fun _=>k⟩
def fm {p q A B:Prop} (k:A) (h: ¬q:=by decide):(p->A)/\(q->B):=⟨fun _=>k,fun x=>as3 x h⟩
end
section
abbrev ai:bB:=.int .i64
abbrev aH1:=List (aa ai×aa ai)
abbrev nf:d0:=.one (.bN (.pointer none))
abbrev dJ (n:Int):d0:=.one (.d (.int .i64 n))
abbrev g4:aS:=.cn []
abbrev dy (b:Nat):aS:=.c (.one (.d (.aM (some b))))
abbrev RP (x:aI1):d0:=.one (.d (.aM x))
def j4 {α:Type} {L:List α} {n:Nat} (h:n < L.length):fd L n=some L[n]:=as0 h
def Fn.close {P:aH6} {f:aI5} {c:Nat} {args:List aS} {br aJ:aA} {bb jK:aH0} {res:aS} {dP aT:aA} {o o':bg} (gi:aH0)
  (h:Fn P f args (br++aJ) bb res (dP++aT)) (dw: ∀I F w p,o.bp I F w p->jJ c br I F w p) (ot: ∀I F w p,jJ c dP I F w p->o'.bp I F w p)
  (E:ox c gi args br aJ bb jK=true) (G:oy c (nd gi bb jK) res dP aT=true):
  Fn P f args ((c,.aH o)::aJ) jK res ((c,.aH o')::aT):=
 (cC.close (br:=br) (dP:=fun _:Unit=>dP) (aT:=fun _=>aT) (o:=o) (o':=fun _=>o') gi h.x dw (fun _=>ot) E (fun _=>G)).fn
def Fn.Gr {P:aH6} {f:aI5} {args:List aS} {c:Nat} {aJ:aA} {bb:aH0} {res:aS} {aT:aA} {o:bg} {Y:Type} {sZ:Y->bg} (J:jU P f=true) (ag: ∀I F w p,o.bp I F w p-> ∃y,(sZ y).bp I F w p)
  (h: ∀y,Fn P f args ((c,.aH (sZ y))::aJ) bb res aT):Fn P f args ((c,.aH o)::aJ) bb res aT:=by
 refine⟨J,fun ρ F I w bZ b4 cf a3 a4 a5 gR=>?_⟩;have ak:aj ((c,ba.aH o)::aJ) c=some (.aH o):=aF2
 obtain⟨y,aC⟩:=ag _ _ _ _ (cf c _ ak)
 have key: ∀d ch,aj ((c,ba.aH (sZ y))::aJ) d=some ch->(d=c/\ch= .aH (sZ y))\/aj ((c,ba.aH o)::aJ) d=some ch:=fun d ch H=>by
  rw[ci] at H
  split at H
  .rename_i e;injection H with H;exact .inl ⟨e.symm,H.symm⟩
  .rename_i e;exact .inr (by rw[ci,mu e];exact H)
 have vp: ∀d ch,aj ((c,ba.aH (sZ y))::aJ) d=some ch-> ∃cG,aj ((c,ba.aH o)::aJ) d=some cG:=fun d ch H=>by
  rcases key d ch H with⟨e,_⟩ |h
  .rw[e];exact⟨_,ak⟩
  .exact⟨_,h⟩
 have adV: ∀d ch,aj ((c,ba.aH o)::aJ) d=some ch-> ∃cG,aj ((c,ba.aH (sZ y))::aJ) d=some cG:=fun d ch H=>by
  rw[ci] at H⊢
  split at H
  .rename_i e;exact⟨_,by rw[vj e]⟩
  .rename_i e;exact⟨ch,by rw[mu e];exact H⟩
 have bj: ∀b,(∃d ch,aj ((c,ba.aH (sZ y))::aJ) d=some ch/\F d b)↔ ∃d ch,aj ((c,ba.aH o)::aJ) d=some ch/\F d b:=fun b=>
  ⟨fun⟨d,ch,E,G⟩=>let⟨cG,h⟩:=vp d ch E;⟨d,cG,h,G⟩,fun⟨d,ch,E,G⟩=>let⟨cG,h⟩:=adV d ch E;⟨d,cG,h,G⟩⟩
 refine((h y).2 ρ F I w bZ b4 (fun d ch H=>?_) (fun d ch H b O=>?_) (fun d da ch ch' b E G=>?_) a5 gR).mono ?_
 .rcases key d ch H with⟨rfl,rfl⟩ |h
  .exact aC
  .exact cf d ch h
 .obtain⟨cG,h⟩:=vp d ch H;exact a3 d cG h b O
 .obtain⟨g9,g1⟩:=vp d ch E;obtain⟨cD,g2⟩:=vp da ch' G;exact a4 d da g9 cD b g1 g2
 .rintro e w' ⟨x,ρ',F',r1,r2,gh,I',kr,l9,mB,ma,ng,oz⟩;refine⟨x,ρ',F',r1,r2.mono fun b _ O=>(bj b).1 O,gh,I',kr,fun b O=>⟨(l9 b O).1,(l9 b O).2.imp id (Or.imp (bj b).1 id)⟩,mB,fun d ch H b O=>?_,ng,oz⟩;obtain⟨g1,g2,cK⟩:=ma d ch H b O;exact⟨g1,g2,cK.imp (bj b).1 id⟩
end
section
def cC.KB {P:aH6} {fn:aI5} {f g:Nat->Nat} (aU: ∀c,g (f c)=c) (hf: ∀c,f (g c)=c) {args:List aS} {aJ:aA} {bb:aH0} {X:Type} {res:X->aS} {aT:X->aA} (h:cC P fn args aJ bb res aT):
  cC P fn (yf f args) (kK f aJ) (AB f bb) (fun x=>(res x).eM f) (fun x=>kK f (aT x)):=by
 refine⟨h.1,?_⟩;intro ρ F I w bZ a1 c4 bj eQ bX dI;have mz: ∀(B:aA) c,aj (kK f B) (f c)=(aj B c).map (·.eM f):=CT aU;have pi: ∀{B:aA} {c ch},aj B c=some ch->aj (kK f B) (f c)=some (ch.eM f):=fun {B c ch} h=>by rw[mz,h];rfl
 have vg: ∀{B:aA} {c ch},aj (kK f B) c=some ch-> ∃cG,aj B (g c)=some cG/\ch=cG.eM f:=fun {B c ch} h=>by
  have e:=mz B (g c);rw[hf,h] at e;obtain⟨cG,E,G⟩:=aw3.1 e.symm;exact⟨cG,E,G.symm⟩
 rw[Kz] at bX dI
 have J:=h.2 (fun c=>ρ (f c)) (fun c=>F (f c)) I w bZ a1
  (fun c ch J=>by rw[<-CS];exact c4 _ _ (pi J))
  (fun c ch J=>bj _ _ (pi J))
  (fun c ca ch ch' b E G a8=>eQ _ _ _ _ b (pi E) (pi G) fun e=>a8 (by rw[<-aU c,e,aU]))
  (by simpa using bX)
  (fun i v x az hx=>by rw[<-Gg];exact dI i _ x (by rw[au8,az];rfl) hx)
 refine J.mono ?_;rintro e w' ⟨y,x,ρ',F',rfl,cJ,dA,I',jG,gM,l6,aq,ix,hx⟩;have yg:(fun c=>ρ' (g (f c)))=ρ':=funext fun c=>by rw[aU]
 refine⟨y,x,fun c=>ρ' (g c),fun c=>F' (g c),rfl,?_,?_,I',jG,?_,?_,?_,?_,?_⟩
 .exact cJ.mono fun b _ ⟨c,ch,E,G⟩=>⟨f c,_,pi E,G⟩
 .intro c J;show ρ' (g c)=ρ c;rw[dA (g c) (fun ay=>J (by have:=KA (f:=f) _ _ ay;rwa[hf] at this)),hf]
 .intro b O;obtain⟨E,G⟩:=gM b O;refine⟨E,?_⟩;rcases G with G |⟨c,ch,G,ah⟩ |G
  .exact .inl G
  .exact .inr (.inl ⟨f c,_,pi G,ah⟩)
  .exact .inr (.inr G)
 .intro c ch J;obtain⟨cG,E,rfl⟩:=vg J;rw[CS,yg];exact l6 _ _ E
 .intro c ch J b O;obtain⟨cG,E,rfl⟩:=vg J;obtain⟨cB,cH,dO⟩:=aq _ _ E b O;refine⟨cB,cH,?_⟩;rcases dO with⟨g9,cG,dO,fy⟩ |dO
  .exact .inl ⟨f g9,_,pi dO,fy⟩
  .exact .inr dO
 .intro c ca ch ch' b J cW a8;obtain⟨cG,E,rfl⟩:=vg J;obtain⟨jm,G,rfl⟩:=vg cW;exact ix _ _ _ _ b E G fun e=>a8 (by rw[<-hf c,e,hf])
 .rw[Gg,yg];exact hx
def cC.aX {P:aH6} {fn:aI5} (l:aJ7) {args:List aS} {aJ:aA} {bb:aH0} {X:Type} {res:X->aS} {aT:X->aA} (h:cC P fn args aJ bb res aT):
  cC P fn (yf (eM (lL l [])) args) (kK (eM (lL l [])) aJ) (AB (eM (lL l [])) bb) (fun x=>(res x).eM (eM (lL l []))) (fun x=>kK (eM (lL l [])) (aT x)):=
 cC.KB (Gd _) (Ge _) h
def cC.arg {P:aH6} {f:aI5} {args args':List aS} {aJ:aA} {bb:aH0} {X:Type} {res:X->aS} {aT:X->aA} (h:cC P f args' aJ bb res aT) (ak:Fo args args'):cC P f args aJ bb res aT:=by obtain⟨E,G⟩:=Km ak;refine⟨h.1,fun ρ F I w bZ b4 cf a3 a4 a5 gR=>h.2 ρ F I w bZ b4 cf a3 a4 (a5.trans E) fun i v x az hx=>?_⟩;obtain⟨s,g1,g2⟩:=G i v az;exact wJ g2 (gR i s x g1 hx)
def bg.pn (o:bg):Prop:= ∀I F w p,o.bp I F w p->F p.bm
def KW {I:Nat->Prop} {w:aH5} {b:Nat}: ∀{L:List (Nat×bg)} {F:Nat->Prop},(∀p∈L,p.2.pn)->f1 I w L F->b∈L.map (·.1)->F b
 | [],_,_,_,h=>by cases h
 |p::L,F,ha,⟨cL,cU,q,E,G,ah,aW,bM⟩,h=>by
  rcases as8.1 h with h |h
  .exact(E b).2 (.inl (by rw[h];have:=ha p (at6 ..) _ _ _ _ aW;rwa[ah] at this))
  .exact(E b).2 (.inr (KW (fun p ae=>ha p (as6 _ ae)) bM h))
def RQ {I:Nat->Prop} {w:aH5}: ∀{L:List (Nat×bg)} {F:Nat->Prop},(∀p∈L,p.2.pn)->f1 I w L F->(L.map (·.1)).Nodup
 | [],_,_,_=>ay9
 |p::L,F,ha,⟨cL,cU,q,E,G,ah,aW,bM⟩=>by
  have RR: ∀p∈L,p.2.pn:=fun p ae=>ha p (as6 _ ae)
  rw[au1];refine av5.2 ⟨fun ay=>?_,RQ RR bM⟩;have af:=ha p (at6 ..) _ _ _ _ aW;rw[ah] at af;exact G _ af (KW RR bM ay)
def dv.C8 {ids:aH0} {K:aZ} {B:aA} (q:Nat) {L:List (Nat×bg)} (ha: ∀p∈L,p.2.pn) (aQ:aj B q=some (.aH (.bA L))):dv ids K B (X:=PLift ((L.map (·.1)).Nodup)) (fun _=>K) (fun _=>B):=by rintro N C a w ⟨hn,H,ρ,F,al,av⟩;have bl:f1 (b5 C B F w) w L (F q):=al.holds q _ aQ;exact⟨⟨RQ ha bl⟩,hn,H,ρ,F,al,av⟩
end
section
abbrev uc (fn:aI5) (tmps:aJ3) (bI:Array Nat) (assign body:Code) (D:Nat) (st:LoopState):Loop:={state:=st,pending:=none,fn:=fn,tmps:=tmps,params:=bI,assign:=assign,body:=body,defers:=D}
def Gs (mX:Nat->bq) (ie:aH0) (lN:Nat->Prop) (s0:aH5) (l:Nat) (rec:Loop) (c:Nat) (B:aA) (I F:Nat->Prop) (w:aH5) (p:bq):Prop:=
 cp lN s0 I w/\w.heap[l]? =some (.loop rec)/\ ∃(ρ:Nat->bq) (cj:Nat->Nat->Prop),ρ c=p/\(∀d,d∈ie->ρ d=mX d)/\(∀d ch,aj B d=some ch->Holds ρ I (cj d) w (ρ d) ch)/\
  (∀d da ch ch' b,aj B d=some ch->aj B da=some ch'->d≠da->cj d b-> ¬cj da b)/\(∀d ch,aj B d=some ch-> ¬cj d l)/\ ∀b,F b↔b=l\/ ∃d ch,aj B d=some ch/\cj d b
def bg.oi (mX:Nat->bq) (ie:aH0) (lN:Nat->Prop) (s0:aH5) (l:Nat) (rec:Loop) (c:Nat) (B:aA):bg where
 bp:=Gs mX ie lN s0 l rec c B
 cr:=fun I F w I' w' p ⟨aw,ak,ρ,cj,E,tW,G,ah,Cv,aW⟩ U bj aN=>
  ⟨aw.trans U,(bj l ((aW l).2 (.inl rfl))).trans ak,ρ,cj,E,tW,fun d ch H=>Holds.cr U (fun b O=>bj b ((aW b).2 (.inr ⟨d,ch,H,O⟩))) aN ch (fun _ _=>rfl) (G d ch H),ah,Cv,aW⟩
def yp (l:aH0):List aS->Bool
 | []=>true
 |v::aF=>v.jp l&&yp l aF
def KX {l:aH0}: ∀{aF:List aS},yp l aF=true-> ∀{i:Nat} {v:aS},aF[i]? =some v->v.jp l=true
 | [],_,i,v,h=>by simp at h
 |x::aF,h,i,v,az=>by
  simp only[yp,as1] at h
  match i with
  |0=>
   simp only[at9,as9] at az;exact az▸h.1
  |i+1=>exact KX h.2 (i:=i) aF3
def C9 (l:aH0):aZ->Bool
 | []=>true
 |(_,v)::K=>v.jp l&&C9 l K
def KY {l:aH0}: ∀{K:aZ},C9 l K=true-> ∀s,(dR K s).jp l=true
 | [],_,s=>rfl
 |(t,v)::K,h,s=>by
  simp only[C9,as1] at h;rw[kV]
  split
  .exact h.1
  .exact KY h.2 s
section
variable {P:aH6} {aV:dt} {N:Nat} {mX:Nat->bq} {ie:aH0} {lN:Nat->Prop} {s0:aH5} {l:Nat} {rec:Loop} {c:Nat}
def oA {c:Nat} {ch:ba}:aj [(c,ch)] c=some ch:=aF2
def vq {c d:Nat} {ch ch':ba} (h:aj [(c,ch)] d=some ch'):d=c/\ch'=ch:=by
 rw[ci] at h
 split at h
 .rename_i e;injection h with h;exact⟨e.symm,h.symm⟩
 .cases h
def adW {f:aI5} {args:List aS} {res:aS} {pY po:aA} (h:Fn P f args pY [] res po) (ha:yp [c] args=true) (ax:res.jp []=true):
  Fn P f args [(c,.aH (bg.oi mX ie lN s0 l rec c pY))] [] res [(c,.aH (bg.oi mX ie lN s0 l rec c po))]:=by
 refine⟨h.1,fun ρ F I w bZ a1 c4 bj eQ bX dI=>?_⟩;have f2:Gs mX ie lN s0 l rec c pY I (F c) w (ρ c):=c4 c _ oA;obtain⟨aw,ak,pk,cj,cB,yq,cH,dO,AH,fy⟩:=f2;have m9: ∀b,F c b->b < w.heap.size/\ ¬I b:=fun b O=>bj c _ oA b O
 have nh:l < w.heap.size:=mr ak;have yr: ¬ ∃d ch,aj pY d=some ch/\cj d l:=fun⟨d,ch,H,aU⟩=>AH d ch H aU
 refine(h.2 pk cj I w bZ a1 cH (fun d ch H b O=>m9 b ((fy b).2 (.inr ⟨d,ch,H,O⟩))) dO bX ?_).mono ?_
 .intro i v x az hx;refine cA.mono (cp.refl _ _) v x (fun j V=>?_) (dI i v x az hx);have:=aS.k5 (KX ha az) V;rw[at7] at this;subst this;exact cB
 .rintro e w' ⟨x,ρ',F',rfl,cJ,dA,I',jG,gM,l6,aq,ix,sW⟩;have gz:w'.heap[l]? =some (.loop rec):=(cJ.block l nh yr).trans ak
  have AI: ¬I' l:=fun aE=>by
   rcases(gM l aE).2 with h |h |h
   .exact(m9 l ((fy l).2 (.inl rfl))).2 h
   .exact yr h
   .omega
  refine⟨x,ρ,fun d=>if d=c then(fun b=>b=l\/ ∃d ch,aj po d=some ch/\F' d b) else F d,rfl,cJ.mono fun b _ ⟨d,ch,H,aU⟩=>⟨c,_,oA,(fy b).2 (.inr ⟨d,ch,H,aU⟩)⟩,fun _ _=>rfl,I',jG,fun b O=>⟨(gM b O).1,?_⟩,?_,?_,?_,?_⟩
  .rcases(gM b O).2 with h |⟨d,ch,H,aU⟩ |h
   .exact .inl h
   .exact .inr (.inl ⟨c,_,oA,(fy b).2 (.inr ⟨d,ch,H,aU⟩)⟩)
   .exact .inr (.inr h)
  .intro d ch H;obtain⟨rfl,rfl⟩:=vq H;simp only[if_true];refine⟨aw.trans jG,gz,ρ',F',(dA _ aD3).trans cB,fun d H=>(dA d aD3).trans (yq d H),l6,ix,fun d ch H aU=>?_,fun b=>Iff.rfl⟩;rcases(aq d ch H l aU).2.2 with h |h
   .exact yr h
   .omega
  .intro d ch H b O;obtain⟨rfl,rfl⟩:=vq H;simp only[if_true] at O;rcases O with rfl |⟨d,ch,H,O⟩
   .exact⟨mr gz,AI,.inl ⟨_,_,oA,(fy _).2 (.inl rfl)⟩⟩
   .obtain⟨r1,r2,gh⟩:=aq d ch H b O;exact⟨r1,r2,gh.imp (fun⟨d,ch,H,aU⟩=>⟨_,_,oA,(fy b).2 (.inr ⟨d,ch,H,aU⟩)⟩) id⟩
  .intro d da ch ch' b H dC a8;exact as3 ((vq H).1.trans (vq dC).1.symm) a8
  .exact cA.mono (cp.refl _ _) res x (fun j V=>by have:=aS.k5 ax V;cases this) sW
def C':aH0->List aS->aZ->aZ
 | [],_,K=>K
 |p::pl,aF,K=>match aF with
  | []=>K
  |v::aF=>C' pl aF ((p,v)::K)
def RS {ρ:Nat->bq} {I:Nat->Prop} {w:aH5}: ∀(pl:aH0) (aF:List aS) (bZ:aH4) (K:aZ) (t:aJ3),bZ.length=aF.length->(∀p,p∈pl->p < t.size)->(∀(i:Nat) (v:aS) (x:aI3),aF[i]? =some v->bZ[i]? =some x->cA ρ I w v x)->
  (∀s,cA ρ I w (dR K s) (t.getD s undef))->(((pl.zip bZ).foldl (fun t (p:Nat×Value)=>t.setIfInBounds p.1 p.2) t).size=t.size/\ ∀s,cA ρ I w (dR (C' pl aF K) s) (((pl.zip bZ).foldl (fun t (p:Nat×Value)=>t.setIfInBounds p.1 p.2) t).getD s undef))
 | [],aF,bZ,K,t,_,_,_,h=>⟨rfl,h⟩
 |p::pl,[],[],K,t,_,_,_,h=>⟨rfl,h⟩
 |p::pl,[],_::_,K,t,ak,_,_,h=>by simp at ak
 |p::pl,_::_,[],K,t,ak,_,_,h=>by simp at ak
 |p::pl,v::aF,x::bZ,K,t,ak,ae,az,h=>by
  have adX:=ae p (at6 ..)
  obtain⟨g1,g2⟩:=RS pl aF bZ ((p,v)::K) (t.setIfInBounds p x) aG7 (fun q aQ=>by rw[Array.size_setIfInBounds];exact ae q (as6 _ aQ)) (fun i u y a6 aC=>az (i+1) u y (by simpa using a6) (by simpa using aC)) (fun s=>by
   rw[kV]
   by_cases e:p=s
   .subst e;rw[vj rfl];have:(t.setIfInBounds p x).getD p undef=x:=by simp[adX]
    rw[this];exact az 0 v x rfl rfl
   .rw[mu e];have:(t.setIfInBounds p x).getD s undef=t.getD s undef:=by simp[az2 e]
    rw[this];exact h s)
  refine⟨?_,g2⟩;rw[List.zip_cons_cons,List.foldl_cons];exact g1.trans (Array.size_setIfInBounds)
def Mem.RT {ids:aH0} {C:fv} {B:aA} {ρ:Nat->bq} {F:Nat->Nat->Prop} {w:aH5} (h:Mem ids C B ρ F w) (bj: ∀b,C.zU b-> ¬C.qw b):cp C.zU C.gH (b5 C B F w) w:=fun b O=>by
 have E:=h.lp.2.1 b (.inl O);refine⟨⟨au2 E h.fr.size,.inl O,fun c ch J hf=>?_⟩,h.fr.block b E (bj b O)⟩;rcases(h.own c ch J b hf).2 with G |G
 .exact bj b O G
 .have:=G.1;omega
def adY (bl:eq P aV) {fn:aI5} {tmps:aJ3} {bI:Array Nat} {pl:aH0} {assign body:Code} {D:Nat} (l3:bI.toList=pl) (hz: ∀p,p∈pl->p < N) (cz:tmps.size=N) (KZ:j0 P N assign=true) (Da:j0 P N body=true)
  {lA:aZ} (K0:C9 ie lA=true) (J:c∈ie) (hN: ∀s,cA mX lN s0 (dR lA s) (tmps.getD s undef)) (stops:aH0) {aF:List aS} (rD:aF.length=pl.length) (KN:yp [] aF=true) {pY po:aA}
  (adZ:jV P aV N (0::ie) stops assign (C' pl aF lA) pY (fun e K B=>e= .hl/\jV P aV N (0::ie) stops body K B (fun e K B=>e= .hl/\ac (0::ie) K B [] po))):
  yj P l aF [(c,.aH (bg.oi mX ie lN s0 l (uc fn tmps bI assign body D .ready) c pY))] (fun _:Unit=>qx true) (fun _=>[(c,.aH (bg.oi mX ie lN s0 l (uc fn tmps bI assign body D .ready) c po))]):=by
 intro ρ F I w bZ a1 c4 bj eQ bX dI;have f2:Gs mX ie lN s0 l (uc fn tmps bI assign body D .ready) c pY I (F c) w (ρ c):=c4 c _ oA;obtain⟨aw,ak,pk,cj,cB,yq,cH,dO,AH,fy⟩:=f2;have m9: ∀b,F c b->b < w.heap.size/\ ¬I b:=fun b O=>bj c _ oA b O
 have nh:l < w.heap.size:=mr ak;have yr: ¬ ∃d ch,aj pY d=some ch/\cj d l:=fun⟨d,ch,H,aU⟩=>AH d ch H aU
 have ad0: ¬I l:=(m9 l ((fy l).2 (.inl rfl))).2;have yt: ∀{d ch b},aj pY d=some ch->cj d b->F c b:=fun {d ch b} H aU=>(fy b).2 (.inr ⟨d,ch,H,aU⟩)
 have aC:=run_yield (P:=P) (args:=bZ.toArray) ak (by rw[List.size_toArray,bX,rD,<-l3,Array.length_toList]);refine⟨fn,_,assign,body,aC,roundIn_of_wpIn (F:=pb none) trivial ?_⟩
 have ad1:((bI.zip bZ.toArray).foldl (fun tmps (x:Nat×Value)=>tmps.setIfInBounds x.1 x.2) tmps)=(pl.zip bZ).foldl (fun t (p:Nat×Value)=>t.setIfInBounds p.1 p.2) tmps:=by
  rw[<-l3,<-Array.foldl_toList]
  congr 1
  simp
 obtain⟨g1,g2⟩:=RS (ρ:=pk) (I:=I) (w:=w) pl aF bZ lA tmps bX (fun p ae=>by rw[cz];exact hz p ae) (fun i v x az hx=>cA.mono (cp.refl _ _) v x (fun j V=>by have:=aS.k5 (KX KN az) V;cases this) (dI i v x az hx))
  (fun s=>cA.mono aw _ _ (fun j V=>yq j (aS.k5 (KY K0 s) V)) (hN s))
 let rM:fv:=⟨w,I,fun b=> ∃d ch,aj pY d=some ch/\cj d b,pk,[]⟩
 have sV:cp I w (b5 rM pY cj w) w:=fun b O=>⟨⟨a1 b O,.inl O,fun d ch H aU=>(m9 b (yt H aU)).2 O⟩,rfl⟩
 have k4:Mem (0::ie) rM pY pk cj w:=⟨cZ.refl _ _,fun d ch H=>Holds.cr sV (fun _ _=>rfl) (as2 _) ch (fun _ _=>rfl) (cH d ch H),fun d ch H b O=>⟨(m9 b (yt H O)).1,.inl ⟨d,ch,H,O⟩⟩,dO,fun _ _=>rfl,ay9,
  fun b O=>O.elim (a1 b) fun⟨d,ch,H,aU⟩=>(m9 b (yt H aU)).1,fun D ce=>by cases ce⟩
 have ig:fe N (0::ie) rM (C' pl aF lA) pY ⟨(bI.zip bZ.toArray).foldl (fun tmps (x:Nat×Value)=>tmps.setIfInBounds x.1 x.2) tmps,[]⟩ w:=by
  rw[ad1];exact⟨g1.trans cz,rfl,pk,cj,k4,fun s=>cA.mono sV _ _ (fun _ _=>rfl) (g2 s)⟩
 refine Aq bl (Ax bl) stops assign _ _ _ KZ adZ (some l) (fun h=>by simp[uU] at h) rM _ ?_ _ w ig;rintro e QZ j1 ds h9 ⟨rfl,ad2⟩ b4 d9 gc;have h9:ds=[]:=h9 (by simp[uU]);subst h9;obtain⟨c0,hA,s1,cL,je,ad3⟩:=gc;have je:Mem (0::ie) rM j1 s1 cL d9:=je;have qv:d9.heap[l]? =some (.loop (uc fn tmps bI assign body D .ready)):=(je.fr.block l nh yr).trans ak;have ad4:=mr qv
 have AI: ¬b5 rM j1 cL d9 l:=fun aE=>by
  rcases aE.2.1 with h |h |h
  .exact ad0 h
  .exact yr h
  .have h:w.heap.size<=l:=h.1;omega
 have Gt: ∀d ch,aj j1 d=some ch-> ¬cL d l:=fun d ch H hf=>by
  rcases(je.own d ch H l hf).2 with h |h
  .exact yr h
  .have h:w.heap.size<=l:=h.1;omega
 refine⟨_,run_beginRound qv rfl,?_⟩;obtain⟨fb,Db⟩: ∃fb,fb=d9.putObj l (.loop {uc fn tmps bI assign body D .ready with state:=.busy}):=⟨_,rfl⟩;rw[<-Db];have Dc:fb.heap.size=d9.heap.size:=by rw[Db,World.putObj_size]
 have K1: ∀b,b≠l->fb.heap[b]? =d9.heap[b]? :=fun b O=>by rw[Db];exact World.putObj_heap_other O
 have qA:fb.heap[l]? =some (.loop {uc fn tmps bI assign body D .ready with state:=.busy}):=by rw[Db];exact World.putObj_heap_same ad4
 have K2:fb.os=d9.os/\fb.tape=d9.tape/\fb.output=d9.output:=by rw[Db];exact⟨rfl,rfl,rfl⟩
 let pp:fv:=⟨fb,b5 rM j1 cL d9,fun b=> ∃d ch,aj j1 d=some ch/\cL d b,s1,[]⟩
 have sU:cp (b5 rM j1 cL d9) d9 (b5 pp j1 cL fb) fb:=fun b O=>⟨⟨by rw[Dc];exact O.1,.inl O,O.2.2⟩,K1 b (fun e=>AI (e▸O))⟩
 have ad5:Mem (0::ie) pp j1 s1 cL fb:=⟨cZ.refl _ _,fun d ch H=>Holds.cr sU (fun b O=>K1 b (fun e=>Gt d ch H (e▸O))) (Nat.le_of_eq Dc.symm) ch (fun _ _=>rfl) (je.holds d ch H),fun d ch H b O=>⟨by rw[Dc];exact(je.own d ch H b O).1,.inl ⟨d,ch,H,O⟩⟩,je.fw,fun _ _=>rfl,ay9,
  fun b O=>by
   show b < fb.heap.size;rw[Dc];exact O.elim (fun O=>O.1) fun⟨d,ch,H,aU⟩=>(je.own d ch H b aU).1,fun D ce=>by cases ce⟩
 refine Aq bl (Ax bl) stops body _ _ _ Da ad2 (some l) (fun h=>by simp[uU] at h) pp _ ?_ b4 fb ⟨c0,hA,s1,cL,ad5,ad3.mono sU fun _ _ _=>rfl⟩;rintro e arv arw ds h9 ⟨rfl,gy⟩ a3 iK ad6;have h9:ds=[]:=h9 (by simp[uU]);subst h9;obtain⟨lO,qz,AJ,ud,s2,arx⟩:=gy N (pp.at []) a3 iK ad6;have s2:Mem (0::ie) pp po AJ ud iK:=s2;have RU:iK.heap[l]? =some (.loop {uc fn tmps bI assign body D .ready with state:=.busy}):=(s2.fr.block l (mr qA) (fun⟨d,ch,H,aU⟩=>Gt d ch H aU)).trans qA;have RV:=mr RU
 have RW: ¬b5 pp po ud iK l:=fun aE=>by
  rcases aE.2.1 with h |h |h
  .exact AI h
  .obtain⟨d,ch,H,aU⟩:=h;exact Gt d ch H aU
  .have h:fb.heap.size<=l:=h.1;omega
 have RX: ∀d ch,aj po d=some ch-> ¬ud d l:=fun d ch H hf=>by
  rcases(s2.own d ch H l hf).2 with h |h
  .obtain⟨d,ch,H,aU⟩:=h;exact Gt d ch H aU
  .have h:fb.heap.size<=l:=h.1;omega
 obtain⟨ih,nM⟩: ∃ih,ih=iK.putObj l (.loop (uc fn tmps bI assign body D .ready)):=⟨_,rfl⟩;have d3:(Instr.endRound l none).run P iK= .ok (.bool true) ih:=by rw[nM];exact run_endRound none RU
 refine⟨.bool true,ih,d3,?_⟩;have s3:ih.heap.size=iK.heap.size:=by rw[nM,World.putObj_size]
 have w0: ∀b,b≠l->ih.heap[b]? =iK.heap[b]? :=fun b O=>by rw[nM];exact World.putObj_heap_other O
 have ad7:ih.heap[l]? =some (.loop (uc fn tmps bI assign body D .ready)):=by rw[nM];exact World.putObj_heap_same RV
 have yu:ih.os=iK.os/\ih.tape=iK.tape/\ih.output=iK.output:=by rw[nM];exact⟨rfl,rfl,rfl⟩
 have ad8:cp I w (b5 rM j1 cL d9) d9:=je.RT fun b O ⟨d,ch,H,aU⟩=>(m9 b (yt H aU)).2 O
 have ad9:cp (b5 rM j1 cL d9) d9 (b5 rM j1 cL d9) fb:=fun b O=>⟨O,(sU b O).2⟩
 have ad':cp (b5 rM j1 cL d9) fb (b5 pp po ud iK) iK:=s2.RT fun b O ⟨d,ch,H,aU⟩=>O.2.2 d ch H aU
 have RY:cp (b5 pp po ud iK) iK (b5 pp po ud iK) ih:=fun b O=>⟨O,w0 b (fun e=>RW (e▸O))⟩
 have RZ:cp I w (b5 pp po ud iK) ih:=ad8.trans (ad9.trans (ad'.trans RY));have R0:=je.fr.size;have R0:w.heap.size<=d9.heap.size:=R0;have z23:fb.heap.size<=iK.heap.size:=s2.fr.size
 have fH: ∀{b},(pp.qw b\/pp.gH.heap.size<=b/\b∉pp.ds)->F c b\/w.heap.size<=b:=fun {b} h=>by
  rcases h with⟨d,ch,H,aU⟩ |h
  .rcases(je.own d ch H b aU).2 with⟨d,ch,H,aU⟩ |h
   .exact .inl (yt H aU)
   .exact .inr h.1
  .have h:fb.heap.size<=b:=h.1;exact .inr aD1
 refine⟨(),.bool true,ρ,fun d=>if d=c then(fun b=>b=l\/ ∃d ch,aj po d=some ch/\ud d b) else F d,rfl,?_,fun _=>rfl,b5 pp po ud iK,RZ,fun b O=>⟨by rw[s3];exact O.1,?_⟩,?_,?_,?_,rfl⟩
 .have eW:cZ (fun b=>F c b) w d9:=je.fr.mono fun b _ ⟨d,ch,H,aU⟩=>yt H aU
  have e9:cZ (fun b=>b=l) d9 fb:=⟨K2.1,K2.2.1,K2.2.2,Nat.le_of_eq Dc.symm,fun b _ O=>K1 b O⟩;have f3:cZ pp.qw fb iK:=s2.fr;have iZ:cZ (fun b=>b=l) iK ih:=⟨yu.1,yu.2.1,yu.2.2,Nat.le_of_eq s3.symm,fun b _ O=>w0 b O⟩;have dW:F c l:=(fy l).2 (.inl rfl)
  have f:cZ (fun b=>F c b) w ih:=((eW.trans e9 fun b _ (O:b=l)=>by rw[O];exact dW).trans f3 fun b O hf=>by
   rcases fH (.inl hf) with h |h
   .exact h
   .omega).trans iZ fun b _ (O:b=l)=>by rw[O];exact dW
  exact f.mono fun b _ O=>⟨c,_,oA,O⟩
 .rcases O.2.1 with h |h
  .rcases h.2.1 with h |⟨d,ch,H,aU⟩ |h
   .exact .inl h
   .exact .inr (.inl ⟨c,_,oA,yt H aU⟩)
   .exact .inr (.inr h.1)
  .exact .inr ((fH h).imp (fun h=>⟨c,_,oA,h⟩) id)
 .intro d ch H;obtain⟨rfl,rfl⟩:=vq H;simp only[if_true];have Z: ∀d,d∈ie->AJ d=pk d:=fun d H=>(s2.eP d (as6 _ H)).trans (je.eP d (as6 _ H))
  exact⟨aw.trans RZ,ad7,AJ,ud,(Z _ J).trans cB,fun d H=>(Z d H).trans (yq d H),fun d ch H=>Holds.cr RY (fun b O=>w0 b (fun e=>RX d ch H (e▸O))) (Nat.le_of_eq s3.symm) ch (fun _ _=>rfl) (s2.holds d ch H),s2.fw,RX,fun b=>Iff.rfl⟩
 .intro d ch H b O;obtain⟨rfl,rfl⟩:=vq H;simp only[if_true] at O;rcases O with rfl |⟨d,ch,H,O⟩
  .exact⟨by rw[s3];exact RV,RW,.inl ⟨_,_,oA,(fy _).2 (.inl rfl)⟩⟩
  .obtain⟨r1,r2⟩:=s2.own d ch H b O;exact⟨by rw[s3];exact r1,fun aE=>aE.2.2 d ch H O,(fH r2).imp (fun h=>⟨_,_,oA,h⟩) id⟩
 .intro d da ch ch' b H dC a8;exact as3 ((vq H).1.trans (vq dC).1.symm) a8
def aea {f:aI5} {w:aH5} {cs args:aJ3} (hf:jU P f=true):(invoke (.fn (.func f) cs) args).run P w= .ok (.enter f (args++cs)) w:=by
 unfold jU at hf
 split at hf
 .rename_i fn jF;simp only[au9,ax0,beq_eq_false_iff_ne] at hf;have G: ¬fn.body=none:=fun e=>by rw[e] at hf;simp at hf
  simp[invoke,callFunc,go_sem,jF];rw[mu hf.1,mu G]
 .cases hf
def bw.range (bl:eq P aV) {ids:aH0} (stops:aH0) {s:Nat} {bI:Array Nat} {pl:aH0} {assign body:Code} (l3:bI.toList=pl) (KZ:j0 P N assign=true) (Da:j0 P N body=true) (hz:(pl.all fun p=>Nat.blt p N)=true)
  {f:aI5} {K3:List lo} (hf:jU P f=true) (ie:aH0) (K lA:aZ) (ku:aA) {X:Type} (hm:X->aA) (c:Nat) (ic Dd:X) (Y:X->List aS->X->Prop)
  (aeb:dR K s= .c (.one (.c3 f K3))) (K0:As K lA)
  (Z:(ie.contains c&&C9 ie lA&&ids.all ie.contains&& !uU ids)=true) (F3:((ct (hm ic)).all (fun d=> !(ct ku).contains d)&& !(ct ku).contains c)=true)
  (aec: ∀x aF rN,Y x aF rN->aF.length=pl.length/\yp [] aF=true/\jV P aV N (0::ie) stops assign (C' pl aF lA) (hm x) (fun e K B=>e= .hl/\jV P aV N (0::ie) stops body K B (fun e K B=>e= .hl/\ac (0::ie) K B [] (hm rN))))
  (aed: ∀(l:Nat) (gj:X->bg),(∀t8 args res x rN,Fn P t8 args (hm x) [] res (hm rN)->yp [c] args=true->res.jp []=true->Fn P t8 args [(c,.aH (gj x))] [] res [(c,.aH (gj rN))])->
   (∀x aF rN,Y x aF rN->yj P l aF [(c,.aH (gj x))] (fun _:Unit=>qx true) (fun _=>[(c,.aH (gj rN))]))->
   Fn P f (.c (.one (.bN (.func (.yield l) #[] #[])))::o8 K3) (ku++[(c,.aH (gj ic))]) [] (.cn []) [(c,.aH (gj Dd))])
  {Q:o9->aZ->aA->Prop} (nJ:Q .hl lA (hm Dd)):bw P N ids (.rangeFunc (.tmp s) bI assign body) K (ku++hm ic) Q:=by
 intro r ax C iY aQ a w au;simp only[as1,au9] at Z F3;obtain⟨⟨⟨cu,eX⟩,aee⟩,hid⟩:=Z;obtain⟨hd,fk⟩:=F3;have cu:=ub cu;have Je: ∀d,d∈ids->d∈ie:=fun d H=>ub (av3.1 aee d H)
 have R1:aj ku c=none:=by
  cases e:aj ku c with
  |none=>rfl
  |some ch=>have:=av4.2 (gL.2 ⟨ch,e⟩);rw[fk] at this;cases this
 have ax:=ax hid;subst ax;obtain⟨hn,H,ρ,F,al,av⟩:=au
 have pZ: ∀{d ch},aj (hm ic) d=some ch->aj (ku++hm ic) d=some ch/\aj ku d=none:=fun {d ch} h=>by
  have Z:=av3.1 hd d (gL.2 ⟨ch,h⟩)
  have hn:aj ku d=none:=by
   cases e:aj ku d with
   |none=>rfl
   |some ch'=>rw[av4.2 (gL.2 ⟨ch',e⟩)] at Z;cases Z
  exact⟨by rw[i1,hn];exact h,hn⟩
 have rO: ∀{d ch},aj ku d=some ch->aj (ku++hm ic) d=some ch:=fun {d ch} h=>by rw[i1,h]
 refine wpIn_rangeFunc fun fn _=>?_
 obtain⟨rec,kp⟩: ∃rec,rec=uc fn a.tmps bI assign body w.heap.size .ready:=⟨_,rfl⟩;obtain⟨d9,yo⟩: ∃d9,d9=(w.alloc (.deferred (some []))).alloc (.loop rec):=⟨_,rfl⟩;have qJ:Below w.heap.size w d9:=by rw[yo];exact((Below.refl _ w).alloc (as2 _) _).alloc aD3 _
 have ary:d9.heap.size=w.heap.size+2:=by rw[yo];simp
 have K4:d9.heap[w.heap.size+1]? =some (.loop rec):=by rw[yo];have:=World.alloc_heap_new (w.alloc (.deferred (some []))) (.loop rec);rwa[World.size_alloc] at this
 have K5:d9.heap[w.heap.size]? =some (.deferred (some [])):=by rw[yo];exact(Below.heap_alloc _ _ _ aD3).trans (World.alloc_heap_new w _)
 obtain⟨l,nN⟩: ∃l,l=w.heap.size+1:=⟨_,rfl⟩;rw[<-nN] at K4
 let lN:=b5 C (ku++hm ic) F w
 have nO:cp lN w lN d9:=fun b O=>⟨O,qJ.block b O.1⟩
 let gj:=fun x=>bg.oi ρ ie lN d9 l rec c (hm x)
 have az:=av s;rw[aeb] at az;obtain⟨cs,ev,t'⟩:=az;obtain⟨aef,aeg⟩:=h7.bZ K3 cs t'
 have hN: ∀t,cA ρ lN d9 (dR lA t) (a.tmps.getD t undef):=fun t=>by
  rcases Kn K0 t with h |h
  .exact cA.mono nO _ _ (fun _ _=>rfl) (wJ h (av t))
  .rw[h];trivial
 have jF:=aed l gj (fun t8 args res x rN h ha ax=>adW h ha ax) (fun x aF rN aC=>by
  obtain⟨vi,wQ,CU⟩:=aec x aF rN aC;show yj P l aF [(c,.aH (bg.oi ρ ie lN d9 l rec c (hm x)))] (fun _:Unit=>qx true) (fun _=>[(c,.aH (bg.oi ρ ie lN d9 l rec c (hm rN)))]);rw[kp];exact adY bl l3 (fun p ae=>by have:=av3.1 hz p ae;simpa[Nat.blt_eq] using this) hn KZ Da eX cu hN stops vi wQ CU)
 refine⟨l,[xR w.heap.size],d9,{target:=.fn (.func f) cs.toArray,args:= #[.func (.yield l) #[] #[]]},d9,f,#[.func (.yield l) #[] #[]]++cs.toArray,d9,?_,?_,fun _ _=>trivial,aea hf,fun h=>as3 h aD3,QP ?_⟩
 .rw[yo,nN,kp];exact run_enterLoop_outer _ _ _ _ _
 .have aeh:a.eval (.tmp s)= .func (.func f) #[] cs.toArray:=ev;simp only[resolve,aeh];simp[go_sem]
 have aei: #[Value.func (.yield l) #[] #[]]++cs.toArray=(Value.func (.yield l) #[] #[]::cs).toArray:=by simp
 rw[aei];have ue: ∀b,(∃d ch,aj (hm ic) d=some ch/\F d b)->b < w.heap.size:=fun b ⟨d,ch,H,O⟩=>(al.own d ch (pZ H).1 b O).1
 let cL:Nat->Nat->Prop:=fun d=>if d=c then(fun b=>b=l\/ ∃d ch,aj (hm ic) d=some ch/\F d b) else F d
 have i0: ∀{d ch},aj (ku++[(c,ba.aH (gj ic))]) d=some ch->(d=c/\ch= .aH (gj ic))\/(d≠c/\aj ku d=some ch):=fun {d ch} h=>by
  rw[i1] at h
  cases e:aj ku d with
  |some ch'=>
   rw[e] at h;exact .inr ⟨fun K6=>(by rw[K6,R1] at e;cases e),h⟩
  |none=>
   rw[e] at h;obtain⟨af,ao⟩:=vq h;exact .inl ⟨af,ao⟩
 have dW:aj (ku++[(c,ba.aH (gj ic))]) c=some (.aH (gj ic)):=by rw[i1,R1];exact oA
 have w1:cL c=(fun b=>b=l\/ ∃d ch,aj (hm ic) d=some ch/\F d b):=vj rfl;have uf: ∀{d},d≠c->cL d=F d:=fun {d} h=>mu h
 have arz:w.heap.size<=l:=aD9
 refine(jF.2 ρ cL lN d9 _ (fun b O=>by have:=O.1;omega) ?_ ?_ ?_ (by simp[aef]) ?_).mono ?_
 .intro d ch H;rcases i0 H with⟨rfl,rfl⟩ |⟨e,H⟩
  .rw[w1]
   exact⟨cp.refl _ _,K4,ρ,F,rfl,fun _ _=>rfl,fun d ch H=>Holds.cr nO (fun b O=>qJ.block b (al.own d ch (pZ H).1 b O).1) qJ.size ch (fun _ _=>rfl) (al.holds d ch (pZ H).1),fun d da ch ch' b E G=>al.fw d da ch ch' b (pZ E).1 (pZ G).1,
    fun d ch H O=>by have:=(al.own d ch (pZ H).1 l O).1;omega,fun b=>Iff.rfl⟩
  .rw[uf e];exact Holds.cr nO (fun b O=>qJ.block b (al.own d ch (rO H) b O).1) qJ.size ch (fun _ _=>rfl) (al.holds d ch (rO H))
 .intro d ch H b O;rcases i0 H with⟨rfl,rfl⟩ |⟨e,H⟩
  .rw[w1] at O;rcases O with rfl |⟨d,ch,H,O⟩
   .exact⟨mr K4,fun aE=>by have:=aE.1;omega⟩
   .have:=(al.own d ch (pZ H).1 b O).1;exact⟨aD1,fun aE=>aE.2.2 d ch (pZ H).1 O⟩
  .rw[uf e] at O;have:=(al.own d ch (rO H) b O).1;exact⟨aD1,fun aE=>aE.2.2 d ch (rO H) O⟩
 .intro d da ch ch' b H dC a8 O dB
  have key: ∀{d ch b},aj ku d=some ch->F d b-> ¬(b=l\/ ∃d ch,aj (hm ic) d=some ch/\F d b):=fun {af cD b1} b' cS hx=>by
   rcases hx with hx |⟨jd,pc,en,e0⟩
   .have:=(al.own af cD (rO b') _ cS).1;omega
   .exact al.fw af jd cD pc b1 (rO b') (pZ en).1 (fun e=>by rw[e,(pZ en).2] at b';cases b') cS e0
  rcases i0 H with⟨e,_⟩ |⟨e,H⟩ <;>rcases i0 dC with⟨b9,_⟩ |⟨b9,dC⟩
  .exact a8 (e.trans b9.symm)
  .rw[e,w1] at O;rw[uf b9] at dB;exact key dC dB O
  .rw[uf e] at O;rw[b9,w1] at dB;exact key H O dB
  .rw[uf e] at O;rw[uf b9] at dB;exact al.fw d da ch ch' b (rO H) (rO dC) a8 O dB
 .intro i v x az hx
  match i with
  |0=>
   simp only[at9,as9] at az hx;subst az hx;rfl
  |i+1=>exact cA.mono nO v x (fun _ _=>rfl) (aeg i v x aF3 aG5)
 rintro e fb ⟨x,ρ',F',rfl,cJ,dA,I',jG,gM,l6,aq,ix,-⟩;have f2:Gs ρ ie lN d9 l rec c (hm Dd) I' (F' c) fb (ρ' c):=l6 c _ oA;obtain⟨aw,ak,pk,cj,cB,yq,cH,dO,AH,fy⟩:=f2;have nh:=mr ak;obtain⟨ih,nM⟩: ∃ih,ih=fb.putObj l (.loop {rec with state:=.exhausted}):=⟨_,rfl⟩
 have d3:(Instr.endLoop l).run P fb= .ok none ih:=by
  have E:=run_endLoop (P:=P) ak (by rw[kp];simp);have G:rec.pending=none:=by rw[kp]
  rw[nM,E,G]
 refine⟨none,ih,d3,?_⟩;show iY .normal {a with defers:=[xR w.heap.size]++a.defers} ih;have s3:ih.heap.size=fb.heap.size:=by rw[nM,World.putObj_size]
 have w0: ∀b,b≠l->ih.heap[b]? =fb.heap[b]? :=fun b O=>by rw[nM];exact World.putObj_heap_other O
 have yu:ih.os=fb.os/\ih.tape=fb.tape/\ih.output=fb.output:=by rw[nM];exact⟨rfl,rfl,rfl⟩
 have arA:=cJ.size
 have K7: ∀{b},F' c b->b < fb.heap.size/\ ¬I' b/\(b=l\/(∃d ch,aj (ku++hm ic) d=some ch/\F d b)\/d9.heap.size<=b):=fun {b} O=>by
  obtain⟨r1,r2,gh⟩:=aq c _ oA b O;refine⟨r1,r2,?_⟩;rcases gh with⟨d,ch,H,hf⟩ |gh
  .rcases i0 H with⟨rfl,rfl⟩ |⟨e,H⟩
   .rw[w1] at hf;exact hf.imp id fun⟨d,ch,H,hf⟩=>.inl ⟨d,ch,(pZ H).1,hf⟩
   .rw[uf e] at hf;exact .inr (.inl ⟨d,ch,rO H,hf⟩)
  .exact .inr (.inr gh)
 have AI: ¬I' l:=(K7 ((fy l).2 (.inl rfl))).2.1
 have R2: ∀{b},((∃d ch,aj (ku++hm ic) d=some ch/\F d b)\/d9.heap.size<=b)->(C.qw b\/C.gH.heap.size<=b/\b∉w.heap.size::C.ds):=fun {b} h=>by
  rcases h with⟨d,ch,H,hf⟩ |h
  .obtain⟨r1,r2⟩:=al.own d ch H b hf;exact r2.imp id fun x=>⟨x.1,fun ay=>(as8.1 ay).elim (fun e=>by omega) x.2⟩
  .have:=al.fresh (b:=b) aD1;exact .inr ⟨this.1,fun ay=>(as8.1 ay).elim (fun e=>by omega) this.2⟩
 have aej: ∀{b},(lN b\/(∃d ch,aj (ku++hm ic) d=some ch/\F d b)\/d9.heap.size<=b)->(C.zU b\/C.qw b\/C.gH.heap.size<=b/\b∉w.heap.size::C.ds):=fun {b} h=>by
  rcases h with h |h
  .have E:=h.1;exact h.2.1.imp id fun x=>x.imp id fun x=>⟨x.1,fun ay=>(as8.1 ay).elim (fun e=>by omega) x.2⟩
  .exact .inr (R2 h)
 have De:cp I' fb (b5 (C.at (w.heap.size::C.ds)) (hm Dd) cj ih) ih:=fun b O=>by
  have a8:b≠l:=fun e=>AI (e▸O)
  obtain⟨r1,r2⟩:=gM b O;refine⟨⟨by rw[s3];exact r1,aej ?_,fun d ch H aU=>(K7 ((fy b).2 (.inr ⟨d,ch,H,aU⟩))).2.1 O⟩,w0 b a8⟩;rcases r2 with r2 |⟨d,ch,H,hf⟩ |r2
  .exact .inl r2
  .rcases i0 H with⟨rfl,rfl⟩ |⟨e,H⟩
   .rw[w1] at hf;rcases hf with hf |⟨d,ch,H,hf⟩
    .exact as3 hf a8
    .exact .inr (.inl ⟨d,ch,(pZ H).1,hf⟩)
   .rw[uf e] at hf;exact .inr (.inl ⟨d,ch,rO H,hf⟩)
  .exact .inr (.inr r2)
 refine aQ .hl lA (hm Dd) (w.heap.size::C.ds) (fun h=>by rw[hid] at h;cases h) nJ _ _ ⟨hn,?_,pk,cj,⟨?_,?_,?_,dO,?_,?_,al.lp.2.1,?_⟩,?_⟩
 .show[xR w.heap.size]++a.defers=List.map xR (w.heap.size::C.ds);rw[H];rfl
 .refine(al.fr.trans (S':=fun b=>b=l\/ ∃d ch,aj (ku++hm ic) d=some ch/\F d b) ?_ fun b O h=>?_)
  .have eW:cZ (fun b=>b=l\/ ∃d ch,aj (ku++hm ic) d=some ch/\F d b) w d9:=cZ.pP qJ;have iZ:cZ (fun b=>b=l) fb ih:=⟨yu.1,yu.2.1,yu.2.2,Nat.le_of_eq s3.symm,fun b _ O=>w0 b O⟩;refine(eW.trans cJ ?_).trans iZ fun b _ O=>.inl O
   rintro b _ ⟨d,ch,H,hf⟩;rcases i0 H with⟨rfl,rfl⟩ |⟨e,H⟩
   .rw[w1] at hf;exact hf.imp id fun⟨d,ch,H,hf⟩=>⟨d,ch,(pZ H).1,hf⟩
   .rw[uf e] at hf;exact .inr ⟨d,ch,rO H,hf⟩
  .have z0:=al.fr.size;rcases h with h |⟨d,ch,H,hf⟩
   .omega
   .rcases(al.own d ch H b hf).2 with h |h
    .exact h
    .have:=h.1;omega
 .exact fun d ch H=>Holds.cr De (fun b O=>w0 b (fun e=>AH d ch H (e▸O))) (Nat.le_of_eq s3.symm) ch (fun _ _=>rfl) (cH d ch H)
 .intro d ch H b O;obtain⟨r1,r2,gh⟩:=K7 ((fy b).2 (.inr ⟨d,ch,H,O⟩));have a8:b≠l:=fun e=>AH d ch H (e▸O)
  exact⟨by rw[s3];exact r1,R2 (gh.resolve_left a8)⟩
 .exact fun d H=>(yq d (Je d H)).trans (al.eP d H)
 .exact av5.2 ⟨fun h=>by have:=(al.lp.2.2 _ h).1;omega,al.lp.1⟩
 .intro D ce
  have K8:D≠l/\D < d9.heap.size/\d9.heap[D]? =some (.deferred (some []))/\C.gH.heap.size<=D:=by
   rcases as8.1 ce with rfl |ce
   .exact⟨aD1,aD1,K5,al.fr.size⟩
   .obtain⟨r1,r2,gh⟩:=al.lp.2.2 D ce;exact⟨aD1,aD1,(qJ.block D r1).trans r2,gh⟩
  obtain⟨jc,bF,u0,u1⟩:=K8
  have AK: ¬ ∃d ch,aj (ku++[(c,ba.aH (gj ic))]) d=some ch/\cL d D:=by
   rintro⟨d,ch,H,hf⟩
   have bM: ∃d ch,aj (ku++hm ic) d=some ch/\F d D:=by
    rcases i0 H with⟨rfl,rfl⟩ |⟨e,H⟩
    .rw[w1] at hf;rcases hf with hf |⟨d,ch,H,hf⟩
     .exact as3 hf jc
     .exact⟨d,ch,(pZ H).1,hf⟩
    .rw[uf e] at hf;exact⟨d,ch,rO H,hf⟩
   obtain⟨d,ch,H,hf⟩:=bM;obtain⟨r1,r2⟩:=al.own d ch H D hf;rcases as8.1 ce with rfl |ce
   .omega
   .rcases r2 with r2 |r2
    .have:=al.lp.2.1 D (.inr r2);omega
    .exact r2.2 ce
  exact⟨by rw[s3];omega,(w0 D jc).trans ((cJ.block D bF AK).trans u0),u1⟩
 .intro t;exact cA.mono (jG.trans De) _ _ (fun j V=>yq j (aS.k5 (KY eX t) V)) (hN t)
end
end
section
def K9:bE->Value
 | .d (.int k n)=>.int k n
 | .d (.bool b)=>.bool b
 | .d (.lit b)=>.bool b
 | .d (.str s)=>.string ⟨List.toArray s⟩
 |_=>.nilFunc
def AL:bE->Lit
 | .d (.int k n)=>.int k n
 | .d (.bool b)=>.bool b
 | .d (.lit b)=>.bool b
 | .d (.str s)=>.string s
 |_=>.nil
def La:bE->Bool
 | .d (.int _ _)=>true
 | .d (.bool _)=>true
 | .d (.lit _)=>true
 | .d (.str _)=>true
 |_=>false
def pq:List bE->List Value
 | []=>[]
 |s::l=>K9 s::pq l
def kv:List bE->List Lit
 | []=>[]
 |s::l=>AL s::kv l
def Df:List bE->Bool
 | []=>true
 |s::l=>La s&&Df l
def Lb {ρ:Nat->bq} {I:Nat->Prop} {w:aH5}: ∀{l:List bE} {aF:aH4},Df l=true->cg ρ I w l aF->aF=pq l
 | [],aF,_,h=>h
 |s::l,aF,ae,⟨v,r,e,E,G⟩=>by
  simp only[Df,as1] at ae;have ah:=Lb ae.2 G;subst ah e
  have:v=K9 s:=by
   cases s with
   |d x=>cases x <;>first |exact E |(simp[La] at ae;done)
   |_=>simp[La] at ae
  rw[this];rfl
section
variable {P:aH6} {aV:dt} {ids:aH0} {K:aZ} {B:aA}
def Lc {o:Oper} {T fF:aI0} {x y:aH8} {lx ly:List bE} {m D:Nat} (ag:o.op= .binOp .eql T x y fF) (aU:P.eqGuardType P.depth T=false) (Z:P.keyTypeAt m T=true) (ay:m<=10000)
  (hx:a7 K x= .c (.agg lx)) (aC:a7 K y= .c (.agg ly)) (hz:(Df lx&&Df ly)=true) (aek:(Value.agg (List.toArray (pq lx))).formed P T=true) (ael:(Value.agg (List.toArray (pq ly))).formed P T=true)
  (aem:P.keyLits D T (pq lx)=some (kv lx)) (aen:P.keyLits D T (pq ly)=some (kv ly)) {r:Bool} (ax:r=true↔kv lx=kv ly) (N:Nat):bD P N ids o K B (.c (.one (.d (.bool r)))) ⟨[],[],[]⟩:=by
 have m1:x∈o.op.operands:=aD8
 have m2:y∈o.op.operands:=aD8
 simp only[as1] at hz;refine bD.val fun K' B' g1 g2 C ρ F a w al av=>?_
 obtain⟨aF,af,E⟩:=av.ev ((g1 x m1).trans hx);obtain⟨us,ao,G⟩:=av.ev ((g1 y m2).trans aC);have E:=Lb hz.1 E;have G:=Lb hz.2 G;subst E G;obtain⟨q,aQ,rs⟩:=run_equalIn_deep (P:=P) (10000 - m) m T Z w D D (.agg (List.toArray (pq lx))) (.agg (List.toArray (pq ly))) (kv lx) (kv ly) aek ael (by simpa[Value.cells] using aem) (by simpa[Value.cells] using aen);rw[show 10000 - m+m=10000 by omega] at aQ
 have bt:q=r:=by
  cases q <;>cases r
  .rfl
  .exact as3 (rs.2 (ax.1 rfl)) aD3
  .exact as3 (ax.2 (rs.1 rfl)) aD3
  .rfl
 subst bt;refine⟨.bool q,?_,rfl⟩;simp only[execOp,ag,af,ao,aw5,run_eqGuard_agg w .eql T x y _ _ aU,au5,run_eql_struct,aQ,ax2]
def Ld {o:Oper} {T:aI0} {x:aH8} {f:Nat} {l:List bE} {fs:Array Field} {kn:Field} {d:aJ1} {s:bE} (ag:o.op= .field T x f) (b8:P.underlying T=some (.struct fs)) (sI:fs[f]? =some kn) (H:P.underlying kn.type=some d) (gm:d.isRow=false)
  (hx:a7 K x= .c (.agg l)) (au:l[kn.offset]? =some s) (N:Nat):bD P N ids o K B (.c (.one s)) ⟨[],[],[]⟩:=by
 have m1:x∈o.op.operands:=aD8
 refine bD.val fun K' B' g1 g2 C ρ F a w al av=>?_
 obtain⟨aF,af,E⟩:=av.ev ((g1 x m1).trans hx);obtain⟨v,az,dI⟩:=cg.get _ _ E kn.offset s au;refine⟨v,?_,dI⟩;have Le:(Go.isAgg kn.type).run P w= .ok false w:=by cases d <;>first |(simp[TypeDesc.isRow] at gm;done) |simp[Go.isAgg,run_underlying H]
 have hP:(List.toArray aF)[kn.offset]? =some v:=aF3
 simp only[execOp,ag,af,Instr.field,aw5,run_underlying b8,au5,sI,asAgg,ax2,part,Le,Bool.false_eq_true,if_false,hP]
def Lf {n:Nat} {u:bB} (g:List (aa u)) (i q:Nat) (aQ:q < aR u):fS (.arr n u) g (i*aR u+q)=fS u (List.getD g i (cR u)) q:=by show fS u (List.getD g ((i*aR u+q)/aR u) (cR u)) ((i*aR u+q) % aR u)=_;rw[show(i*aR u+q)/aR u=i by rw[aB2,Nat.mul_add_div aD1,Nat.div_eq_of_lt aQ,az5],show(i*aR u+q) % aR u=q by rw[aB2,Nat.mul_add_mod,Nat.mod_eq_of_lt aQ]]
def aeo {o:Oper} {T:aI0} {x i:aH8} {n e:Nat} {di:aI9} {d:aJ1} {u:bB} {g:List (aa u)} {j:Int} (ag:o.op= .index T x i) (b8:P.underlying T=some (.array n e)) (U:P.underlying e=some d) (gm:d.isRow=true) (aE:P.info? e=some di) (aN:di.size=aR u)
  (hx:a7 K x= .c (.agg (gI (.arr n u) g 0 (n*aR u)))) (V:a7 K i= .c (.one (.d (.int .i64 j)))) (aw:0<=j) (E:j < n) (N:Nat):bD P N ids o K B (.c (.agg (gI u (List.getD g j.toNat (cR u)) 0 (aR u)))) ⟨[],[],[]⟩:=by
 have m1:x∈o.op.operands:=aD8
 have m2:i∈o.op.operands:=aD8
 refine bD.val fun K' B' g1 g2 C ρ F a w al av=>?_
 obtain⟨aF,af,H⟩:=av.ev ((g1 x m1).trans hx);have ao:=av.int ((g1 i m2).trans V);have bX:aF.length=n*aR u:=(cg.length _ _ H).trans (tT (.arr n u) g _ _);have Le:(Go.isAgg e).run P w= .ok true w:=by cases d <;>first |(simp[TypeDesc.isRow] at gm;done) |simp[Go.isAgg,run_underlying U]
 have cz:(sizeOf e).run P w= .ok (aR u) w:=by simp[sizeOf,typeInfo,aE,aN]
 have gy:j.toNat*aR u+aR u<=n*aR u:=by
  have:=ax5 (aR u) (show j.toNat+1<=n by omega);rw[az3] at this;exact this
 refine⟨.agg ((List.toArray aF).extract (j.toNat*aR u) (j.toNat*aR u+aR u)),?_,(aF.drop (j.toNat*aR u)).take (aR u),by simp[List.extract],?_⟩
 .simp[execOp,ag,af,ao,Instr.index,asIntOf,run_underlying b8,aw,E,cz,part,Le]
 .have key: ∀(m g5:Nat),g5+m<=aR u->cg ρ (b5 C B' F w) w (gI u (List.getD g j.toNat (cR u)) g5 m) ((aF.drop (j.toNat*aR u+g5)).take m):=fun m=>by
   induction m with
   |zero=>intro g5 _;simp[gI,cg]
   |succ m bn=>
    intro g5 ay;have bv:j.toNat*aR u+g5 < n*aR u:=aD9
    obtain⟨v,az,tZ⟩:=cg.get _ _ H _ _ (Ag (.arr n u) g (n*aR u) 0 (j.toNat*aR u+g5) bv)
    have Dg:aF.drop (j.toNat*aR u+g5)=v::aF.drop (j.toNat*aR u+(g5+1)):=by
     obtain⟨ak,pe⟩:=at0.1 az;rw[ay6 ak,pe,Nat.add_assoc]
    rw[Dg,List.take_succ_cons];refine⟨v,_,rfl,?_,bn (g5+1) aD1⟩
    have J:fS (.arr n u) g (0+(j.toNat*aR u+g5))=fS u (List.getD g j.toNat (cR u)) g5:=by
     rw[aw9];exact Lf g _ _ aD1
    rw[J] at tZ;exact tZ
  exact key (aR u) 0 aD1
def ac.aep (c:Nat) {u:bB} {x:aa u} (hw:o4 u x) (J:aj B c=some (.cells (gI u x 0 (aR u)))):ac ids K B K ((c,.val u x)::B):=by
 rintro N C a w ⟨hn,H,ρ,F,al,av⟩;obtain⟨bj,aF,T,O,dI⟩:=al.holds c _ J;obtain⟨bC,a2⟩:=al.h8 (w':=w) (ch:=.val u x) J (cZ.refl _ _) fun I a1=>⟨bj,aF,T,O,by rw[cg.length _ _ dI,tT],Cu hw (cg.mono (ρ':=ρ) a1 _ _ (fun _ _=>rfl) dI)⟩
 exact⟨hn,H,ρ,F,bC,av.mono a2 fun _ _ _=>rfl⟩
def aeq {o:Oper} {T:aI0} {x i:aH8} {n e c:Nat} {di:aI9} {s:Nat} {j:Int} (ag:o.op= .indexAddr T x i) (b8:P.underlying T=some (.array n e)) (aE:P.info? e=some di) (aN:di.size=s)
  (hx:a7 K x= .c (.one (.ptr c 0))) (V:a7 K i= .c (.one (.d (.int .i64 j)))) (aw:0<=j) (E:j < n) (N:Nat):bD P N ids o K B (.c (.one (.fW c s j.toNat 0))) ⟨[],[],[]⟩:=by
 have m1:x∈o.op.operands:=aD8
 have m2:i∈o.op.operands:=aD8
 refine bD.val fun K' B' g1 g2 C ρ F a w al av=>?_
 have af:=av.ptr ((g1 x m1).trans hx);have ao:=av.int ((g1 i m2).trans V);have cz:(sizeOf e).run P w= .ok s w:=by simp[sizeOf,typeInfo,aE,aN]
 refine⟨.pointer (some ⟨(ρ c).bm,j.toNat*s,none⟩),?_,rfl⟩;simp[execOp,ag,af,ao,Instr.indexAt,asIntOf,run_underlying b8,aw,E,cz,Instr.sureAddr,qt]
def aer {I:Nat->Prop} {w:aH5} {n:Nat} {u:bB} {g:List (aa u)} {c:Nat->Option Value} (H:cw I w (.arr n u) g c) {y:aa u} {j:Nat} {cs:aH4} (ak:cs.length=aR u) (aC:cw I w u y (fun i=>cs[i]?)) (V:j < n):
  cw I w (.arr n u) (g.set j y) (fun i=>if j*aR u<=i/\i < j*aR u+aR u then cs[i - j*aR u]? else c i):=by
 obtain⟨E,G⟩:=H;refine⟨by rw[ay0];exact E,fun i aB aN=>?_⟩;unfold fd at aN;rw[aA0] at aN
 split at aN
 .rename_i e;subst e
  split at aN
  .injection aN with aN
   subst aN;refine cw.mono (cp.refl _ _) u y _ _ (fun q v az=>?_) aC;have aQ:q < aR u:=by rw[<-ak];exact(at0.1 az).1
   simp only;rw[vj ⟨aD1,aD1⟩,show j*aR u+q - j*aR u=q by omega];exact az
  .cases aN
 .rename_i a8;have nP:=G i aB aN;rcases aB3 (aR u) with aw |aw
  .refine cw.mono (cp.refl _ _) u aB _ _ (fun q v az=>?_) nP;simp only;rw[mu aD1];exact az
  .refine cw.mk u aB _ (cw.wf u aB _ nP) fun q aQ=>?_
   obtain⟨v,az,tZ⟩:=cw.cell u aB _ q nP aQ;refine⟨v,?_,tZ⟩;simp only;rw[mu ?_]
   .exact az
   .rintro⟨b4,cf⟩;rcases Nat.lt_or_gt_of_ne a8 with bv |u2
    .have:=ax5 (aR u) (show j+1<=i by omega);rw[az3] at this;omega
    .have:=ax5 (aR u) (show i+1<=j by omega);rw[az3] at this;omega
def aes {o:Oper} {T:aI0} {x v:aH8} {c n j:Nat} {u:bB} {g:List (aa u)} {y:aa u} {di:aI9} (ag:o.op= .store T x v) (aE:P.info? T=some di) (aN:di.size=aR u) (hx:a7 K x= .c (.one (.fW c (aR u) j 0))) (V:j < n)
  (J:aj B c=some (.val (.arr n u) g)) (az:a7 K v= .c (.agg (gI u y 0 (aR u)))) (hw:o4 u y) (N:Nat):bD P N ids o K B .undef ⟨[c],[],[(c,some (.val (.arr n u) (g.set j y)))]⟩:=by
 have m1:x∈o.op.operands:=aD8
 have m2:v∈o.op.operands:=aD8
 refine bD.h8 J fun K' B' g1 C ρ F a w al av gz=>?_
 obtain⟨bj,aF,e8,O,bX,dI⟩:=al.holds c _ gz;have af:=av.fW ((g1 x m1).trans hx);obtain⟨us,ao,G⟩:=av.ev ((g1 v m2).trans az);have Lg:us.length=aR u:=by rw[cg.length _ _ G,tT]
 have R3:=Cu hw G
 have lI:j*aR u+us.length<=aF.length:=by
  have:=ax5 (aR u) (show j+1<=n by omega);rw[az3] at this;rw[bX,Lg];exact this
 have sH: ∀aB,aB∈us->aB.oneCell'=true:=fun aB aN=>by
  obtain⟨q,aQ,rfl⟩:=ay5 aN;obtain⟨z',rC,tN⟩:=cw.one u y _ R3 q aD1;rw[as0 aQ] at rC;injection rC with rC
  rw[rC];exact tN
 have d3:=Ct (P:=P) (o:=o) (ev:=a.eval) (w:=w) (us:=us) ag (by rw[af,az5]) (by rw[ao];rfl) aE (aN.trans Lg.symm) O lI sH;have hb:(w.setRow (ρ c).bm (List.toArray (aF.take (j*aR u)++us++aF.drop (j*aR u+us.length)))).heap[(ρ c).bm]? =some (.cells (List.toArray (aF.take (j*aR u)++us++aF.drop (j*aR u+us.length))) e8 (0,0)):=setRow_heap w _ _ _ e8 _ O;refine⟨_,d3,⟨rfl,rfl,rfl,by simp[World.setRow],fun k _ Z=>setRow_other w _ k _ (fun e=>Z ((bj k).2 e))⟩,fun I a2=>⟨bj,_,e8,hb,?_,?_⟩⟩
 .rw[as4,as4,at3,ax4];omega
 .refine cw.mk (.arr n u) (g.set j y) _ ?_ ?_
  .have R4:=cw.wf (.arr n u) g _ dI;refine⟨by rw[ay0];exact R4.1,fun aB aN=>?_⟩;rcases List.mem_or_eq_of_mem_set aN with aN |rfl
   .exact R4.2 aB aN
   .exact hw
  .intro q aQ;have m5:=aer dI (y:=y) (j:=j) Lg R3 V;obtain⟨aB,aN,rt⟩:=cw.cell (.arr n u) _ _ q m5 aQ;refine⟨aB,?_,gY.mono a2 _ _ rt⟩;rw[<-aN];have Gq:q < aF.length:=by rw[bX];exact aQ
   split
   .rename_i dw;rw[aw1,au6 aE8,at3,au7 aD1]
    congr 1
    omega
   .rename_i ot;rcases aA6 q (j*aR u) with bv |ww
    .rw[aw1,au7 aE8,ax3,vj bv]
    .have:j*aR u+aR u<=q:=by
      rcases aA6 q (j*aR u+aR u) with h |h
      .exact as3 ⟨ww,h⟩ ot
      .exact h
     rw[au6 (by rw[as4,at3];omega),as4,at3,aA7]
     congr 1
     omega
def R5 {o:Oper} {T:aI0} {x:aH8} {c:Nat} {u:bB} {y:aa u} {di:aI9} {d:aJ1} (ag:o.op= .load T x) (b8:P.underlying T=some d) (gm:d.isRow=true) (aE:P.info? T=some di) (aN:di.size=aR u) (hx:a7 K x= .c (.one (.ptr c 0)))
  (J:aj B c=some (.val u y)) (N:Nat):bD P N ids o K B (.c (.agg (gI u y 0 (aR u)))) ⟨[c],[],[]⟩:=by
 have m1:x∈o.op.operands:=aD8
 refine bD.val fun K' B' g1 g2 C ρ F a w al av=>?_
 obtain⟨bj,aF,e8,O,bX,dI⟩:=al.holds c _ ((g2 c aD3).trans J);have af:=av.ptr ((g1 x m1).trans hx);obtain⟨us,E,G⟩:=FJ (ρ:=ρ) dI (aR u) 0 aD1;refine⟨_,FH (cs:=us) ag af b8 gm aE (by rw[cg.length _ _ E,tT];exact aN) (fun j v V=>?_),us,rfl,E⟩;have:=G j v V;exact pd O this
def aet {aV:dt} (bl:eq P aV) {o:Oper} {T n e:Nat} {ti:cd} (ag:o.op= .build T #[]) (cm:aV.find T=some ti) (b8:P.underlying T=some (.array n e)) {Dh:aI9} (aeu:P.info? e=some Dh) (gm:ti.row=true) (N:Nat):bD P N ids o K B (.c (.agg ti.zero)) ⟨[],[],[]⟩:=by
 refine bD.val fun K' B' g1 g2 C ρ F a w al av=>?_
 obtain⟨i,d,bx⟩:=bl.at_ cm;obtain⟨aB,aN,m7⟩:=bx.zero;obtain⟨k2,rA⟩:=wD (ρ:=ρ) (I:=b5 C B' F w) (w:=w) _ _ m7;refine⟨.agg aB.cells,?_,aB.cells.toList,aD3,k2⟩;simp[execOp,ag,Instr.build,zeroValue,typeInfo,bx.km,aN,run_underlying b8,sizeOf,aeu,Instr.fill]
def aev {o:Oper} {T e d:Nat} {x y:aH8} {di:aI9} {n:Int} (ag:o.op= .makeSlice T x y) (b8:P.underlying T=some (.slice e)) (aE:P.info? e=some di) (aN:di.zero=some (.int .i64 0)) (au:di.size=1) (O:di.bytes=8)
  (hx:a7 K x= .c (.one (.d (.int .i64 n)))) (aC:a7 K y= .c (.one (.d (.int .i64 n)))) (aw:0<=n) (E:n<=1000000) (N:Nat):bD P N ids o K B (.c (.one (.own d))) ⟨[],[d],[(d,some (.row e (.int .i64) (List.replicate n.toNat (0:Int))))]⟩:=by
 have m1:x∈o.op.operands:=aD8
 have m2:y∈o.op.operands:=aD8
 refine bD.make (fun d h=>Cx h) fun K' B' g1 g2 C ρ F a w al av hn=>?_
 have dY:=av.int ((g1 x m1).trans hx);have eo:=av.int ((g1 y m2).trans aC);have d3:=run_make (P:=P) w T e di _ b8 aE aN .i64 .i64 n n aw (Int.le_refl _) (by rw[O];omega) aD1
 have xP:madeCells (Value.int .i64 0).cells (n.toNat*di.size)=(List.replicate n.toNat (Value.int .i64 0)).toArray:=by
  rw[au];simp[madeCells,Value.cells];apply Array.ext
  .simp
  .intro i E G;simp[Nat.mod_one]
 rw[xP] at d3;refine⟨.slice (some ⟨w.heap.size,0,none⟩) n.toNat n.toNat,w.alloc (.cells (List.replicate n.toNat (.int .i64 0)).toArray e),⟨w.heap.size,some ⟨w.heap.size,0,none⟩,n.toNat,n.toNat⟩,fun b=>b=w.heap.size,?_,tL w _,fun b O=>?_,fun I a2 a1=>⟨⟨?_,?_,List.replicate n.toNat (.int .i64 0),?_,?_⟩,?_⟩⟩
 .simp only[execOp,ag,aw5,dY,eo,d3,au5,ax2]
 .subst O;simp
 .intro b;simp[bq.eS,Value.ownBlock,eq_comm]
 .intro b O;simp[bq.eS,Value.ownBlock] at O;exact O.symm
 .have:=FO w e 1 n.toNat (List.replicate n.toNat (.int .i64 0)) aD3 aF6;have af:List.length (α:=aa (.int .i64)) (List.replicate n.toNat (0:Int))=n.toNat:=at5;rw[af];exact this
 .intro i aB aN;obtain⟨aE,rC⟩:=at0.1 aN;have qC:aB=(0:Int):=by rw[<-rC];exact List.getElem_replicate ..
  subst qC
  have aE:i < n.toNat:=by
   have E:i < List.length (α:=Int) (List.replicate n.toNat (0:Int)):=aE;rw[at5] at E;exact E
  show(List.replicate n.toNat (Value.int .i64 0))[i*1+0]? =some (.int .i64 0);simp[aE]
 .simp only[cA,gS,d',dh];rfl
def R6 (w:aH5) {T:aI0} {bI jH:Array TypeId} {uW:Bool} (b8:P.underlying T=some (.func bI jH uW)) (f:Go.Fn) (a b:aJ3):(binOp .eql T (.func f a b) .nilFunc).run P w= .ok (.bool false) w/\(binOp .neq T (.func f a b) .nilFunc).run P w= .ok (.bool true) w:=by
 have aw: ∀d,(Op.equalIn (d+1) T (.func f a b) .nilFunc).run P w= .ok false w:=fun d=>by simp[Op.equalIn,run_underlying b8]
 have h:(Op.equalIn 10000 T (.func f a b) .nilFunc).run P w= .ok false w:=aw 9999;constructor
 .simp only[binOp];simp[Op.equal,Op.maxDepth,h]
 .simp only[binOp];simp[Op.equal,Op.maxDepth,h]
def aew {o:Oper} {T fF:aI0} {x:aH8} {op:BinOp} {y:Nat×aH0} {b:Bool} {bI jH:Array TypeId} {uW:Bool} (wN:(op= .eql/\b=false)\/(op= .neq/\b=true)) (ag:o.op= .binOp op T x (.const .nilFunc) fF) (b8:P.underlying T=some (.func bI jH uW))
  (hx:a7 K x= .c (.one (.d (.fn y)))) (N:Nat):bD P N ids o K B (.c (.one (.d (.lit b)))) ⟨[],[],[]⟩:=by
 have m1:x∈o.op.operands:=aD8
 refine bD.val fun K' B' g1 g2 C ρ F a w al av=>?_
 have af:a.eval x=mV y:=av.ev ((g1 x m1).trans hx);refine⟨.bool b,?_,rfl⟩;have ao:a.eval (.const .nilFunc)= .nilFunc:=rfl;rcases wN with⟨rfl,rfl⟩ |⟨rfl,rfl⟩
 .have h:=(R6 (P:=P) w b8 (.func y.1) #[] (List.toArray (rq y.2))).1;simp[execOp,ag,af,ao,eqGuard,mV,h]
 .have h:=(R6 (P:=P) w b8 (.func y.1) #[] (List.toArray (rq y.2))).2;simp[execOp,ag,af,ao,eqGuard,mV,h]
def R7 (w:aH5) {T:aI0} {bI jH:Array TypeId} {uW:Bool} (b8:P.underlying T=some (.func bI jH uW)):(binOp .eql T .nilFunc .nilFunc).run P w= .ok (.bool true) w/\(binOp .neq T .nilFunc .nilFunc).run P w= .ok (.bool false) w:=by
 have aw: ∀d,(Op.equalIn (d+1) T .nilFunc .nilFunc).run P w= .ok true w:=fun d=>by simp[Op.equalIn,run_underlying b8]
 have h:(Op.equalIn 10000 T .nilFunc .nilFunc).run P w= .ok true w:=aw 9999;constructor
 .simp only[binOp];simp[Op.equal,Op.maxDepth,h]
 .simp only[binOp];simp[Op.equal,Op.maxDepth,h]
def aex {o:Oper} {T fF:aI0} {x:aH8} {op:BinOp} {b:Bool} {bI jH:Array TypeId} {uW:Bool} (wN:(op= .eql/\b=true)\/(op= .neq/\b=false)) (ag:o.op= .binOp op T x (.const .nilFunc) fF) (b8:P.underlying T=some (.func bI jH uW))
  (hx:a7 K x= .c (.one (.bN .nilFunc))) (N:Nat):bD P N ids o K B (.c (.one (.d (.lit b)))) ⟨[],[],[]⟩:=by
 have m1:x∈o.op.operands:=aD8
 refine bD.val fun K' B' g1 g2 C ρ F a w al av=>?_
 have af:=av.bN ((g1 x m1).trans hx);refine⟨.bool b,?_,rfl⟩;have ao:a.eval (.const .nilFunc)= .nilFunc:=rfl;rcases wN with⟨rfl,rfl⟩ |⟨rfl,rfl⟩
 .have h:=(R7 (P:=P) w b8).1;simp[execOp,ag,af,ao,eqGuard,h]
 .have h:=(R7 (P:=P) w b8).2;simp[execOp,ag,af,ao,eqGuard,h]
end
end
section
def fg {aI aK:bB} (es:List (aa aI×aa aK)):Prop:=es.Pairwise fun p q=>fT aI p.1 q.1=false
def aey (a b:Int):zV a b=true↔a=b:=decide_eq_true_iff
def aez (a b:aG9):zW a b=true↔a=b:=decide_eq_true_iff
def qK {k:IntKind} (a b:aa (.int k)):fT (.int k) a b=true↔a=b:=aey a b
def qL (a b:aa .str):fT .str a b=true↔a=b:=aez a b
section
variable {aI aK:bB} (cO: ∀a b:aa aI,fT aI a b=true↔a=b)
include cO
def rP {a b:aa aI} (h:a≠b):fT aI a b=false:=by
 cases e:fT aI a b with
 |false=>rfl
 |true=>exact as3 ((cO a b).1 e) h
def Di (a:aa aI):fT aI a a=true:=(cO a a).2 rfl
def yv (k:aa aI) (x:aa aK): ∀(es:List (aa aI×aa aK)),b0 (dx es k x) k=some x/\ ∀j,j≠k->b0 (dx es k x) j=b0 es j
 | []=>by
  refine⟨?_,fun j V=>?_⟩
  .simp only[dx,b0,Di cO]
  .simp only[dx,b0,rP cO V]
 |p::es=>by
  obtain⟨E,G⟩:=yv k x es;unfold dx
  cases e:fT aI k p.1 with
  |true=>
   have af:=(cO _ _).1 e;simp only;refine⟨by simp only[b0,Di cO],fun j V=>?_⟩;simp only[b0,rP cO V,rP cO (fun h=>V (h.trans af.symm))]
  |false=>
   simp only;refine⟨by simp only[b0,e,E],fun j V=>?_⟩;simp only[b0,G j V]
def R8 {k:aa aI}: ∀{es:List (aa aI×aa aK)},(∀p,p∈es->fT aI p.1 k=false)->b0 es k=none
 | [],_=>rfl
 |p::es,h=>by
  have E:=h p (at6 ..);have:fT aI k p.1=false:=rP cO fun e=>by rw[e,Di cO] at E;cases E
  simp only[b0,this];exact R8 fun q aQ=>h q (as6 _ aQ)
def Dj (k:aa aI): ∀(es:List (aa aI×aa aK)),fg es->b0 (g0 es k) k=none/\ ∀j,j≠k->b0 (g0 es k) j=b0 es j
 | [],_=>⟨rfl,fun _ _=>rfl⟩
 |p::es,hn=>by
  obtain⟨c0,d5⟩:=List.pairwise_cons.1 hn;obtain⟨E,G⟩:=Dj k es d5;unfold g0
  cases e:fT aI k p.1 with
  |true=>
   have af:=(cO _ _).1 e;subst af;simp only;refine⟨R8 cO fun q aQ=>?_,fun j V=>?_⟩
   .have:=c0 q aQ;exact rP cO fun e=>by rw[<-e,Di cO] at this;cases this
   .simp only[b0,rP cO V]
  |false=>
   simp only;refine⟨by simp only[b0,e,E],fun j V=>?_⟩;simp only[b0,G j V]
omit cO in
def Lh {k:aa aI} {x:aa aK}: ∀{es:List (aa aI×aa aK)} {q:aa aI×aa aK},q∈dx es k x->q=(k,x)\/q∈es
 | [],q,h=>by
  unfold dx at h;exact .inl (at7.1 h)
 |p::es,q,h=>by
  unfold dx at h
  split at h
  .rcases as8.1 h with h |h
   .exact .inl h
   .exact .inr (as6 _ h)
  .rcases as8.1 h with h |h
   .exact .inr (by rw[h];exact at6 ..)
   .exact(Lh h).imp id (as6 _)
omit cO in
def AM {k:aa aI}: ∀{es:List (aa aI×aa aK)} {q:aa aI×aa aK},q∈g0 es k->q∈es
 | [],q,h=>by cases h
 |p::es,q,h=>by
  unfold g0 at h
  split at h
  .exact as6 _ h
  .rcases as8.1 h with h |h
   .rw[h];exact at6 ..
   .exact as6 _ (AM h)
def fg.put {k:aa aI} {x:aa aK}: ∀{es:List (aa aI×aa aK)},fg es->fg (dx es k x)
 | [],_=>List.pairwise_singleton _ _
 |p::es,hn=>by
  obtain⟨c0,d5⟩:=List.pairwise_cons.1 hn;unfold dx
  split
  .rename_i e;have af:=(cO _ _).1 e;refine List.pairwise_cons.2 ⟨fun q aQ=>?_,d5⟩;have:=c0 q aQ;simp only;rw[af];exact this
  .rename_i e;refine List.pairwise_cons.2 ⟨fun q aQ=>?_,fg.put d5⟩;rcases Lh aQ with rfl |aQ
   .simp only;exact rP cO fun h=>by rw[h,Di cO] at e;cases e
   .exact c0 q aQ
omit cO in
def fg.nQ {k:aa aI}: ∀{es:List (aa aI×aa aK)},fg es->fg (g0 es k)
 | [],h=>h
 |p::es,hn=>by
  obtain⟨c0,d5⟩:=List.pairwise_cons.1 hn;unfold g0
  split
  .exact d5
  .exact List.pairwise_cons.2 ⟨fun q aQ=>c0 q (AM aQ),fg.nQ d5⟩
def R9 {k:aa aI} {x:aa aK}: ∀{es:List (aa aI×aa aK)},b0 es k=some x->(k,x)∈es
 | [],h=>by cases h
 |p::es,h=>by
  unfold b0 at h
  split at h
  .rename_i e;injection h with h
   have af:=(cO _ _).1 e;subst h af;exact at6 ..
  .exact as6 _ (R9 h)
end
end
section
abbrev ug:bB:=.bU (.int .i64) (.bU (.int .i64) .bool)
abbrev fN:bB:=.arr 16 ug
abbrev aI8:=List (aa ai×aa fN)
abbrev fo:=Int×Int×Bool
abbrev qM (s:fo):List bE:=[.d (.int .i64 s.1),.d (.int .i64 s.2.1),.d (.bool s.2.2)]
abbrev p0 (s:fo):d0:=.agg (qM s)
abbrev ck:fo:=(0,0,false)
def uh (s:fo):Prop:=(-1000000<=s.1/\s.1<=1000000)/\ -1000000<=s.2.1/\s.2.1<=1000000
def qN:List fo:=List.replicate 16 ck
abbrev pr (n:Int) (es:aI8):aA:=[(1001,.cells [.d (.int .i64 n),.mp 1002]),(1002,.map ai fN es)]
def h0 (es:aI8) (k:Int):List fo:=(b0 (aI:=ai) (aK:=fN) es k).getD qN
structure oB (t:List fo) (es:aI8):Prop where
 ho:fg es
 wf: ∀p,p∈es->List.length (α:=fo) p.2=16
 ok: ∀k i,uh ((h0 es k).getD i ck)
 at_: ∀c (h:c < t.length),(h0 es ((c/16:Nat):Int)).getD (c % 16) ck=t[c]
def oB.len {t:List fo} {es:aI8} (h:oB t es) (k:Int):(h0 es k).length=16:=by
 unfold h0
 cases e:b0 (aI:=ai) (aK:=fN) es k with
 |none=>rfl
 |some g=>exact h.wf _ (R9 qK e)
def aeA (es:aI8) (k:Int) (g:List fo):h0 (dx (aI:=ai) (aK:=fN) es k g) k=g/\ ∀j,j≠k->h0 (dx (aI:=ai) (aK:=fN) es k g) j=h0 es j:=by obtain⟨E,G⟩:=yv (aI:=ai) (aK:=fN) qK k g es;refine⟨by unfold h0;rw[E];rfl,fun j V=>?_⟩;unfold h0;rw[G j V]
def aeB {es:aI8} (hn:fg es) (k:Int):h0 (g0 (aI:=ai) (aK:=fN) es k) k=qN/\ ∀j,j≠k->h0 (g0 (aI:=ai) (aK:=fN) es k) j=h0 es j:=by obtain⟨E,G⟩:=Dj (aI:=ai) (aK:=fN) qK k es hn;refine⟨by unfold h0;rw[E];rfl,fun j V=>?_⟩;unfold h0;rw[G j V]
def rQ (es:aI8) (c:Nat) (s:fo):List (aa ai×aa fN):=
 if(h0 es ((c/16:Nat):Int)).set (c % 16) s=qN then g0 (aI:=ai) (aK:=fN) es ((c/16:Nat):Int) else dx (aI:=ai) (aK:=fN) es ((c/16:Nat):Int) ((h0 es ((c/16:Nat):Int)).set (c % 16) s)
def aeC {t:List fo} {es:aI8} (h:oB t es) (c:Nat) (s:fo):h0 (rQ es c s) ((c/16:Nat):Int)=(h0 es ((c/16:Nat):Int)).set (c % 16) s/\ ∀j,j≠((c/16:Nat):Int)->h0 (rQ es c s) j=h0 es j:=by
 unfold rQ
 split
 .rename_i e;obtain⟨E,G⟩:=aeB h.ho ((c/16:Nat):Int);exact⟨E.trans e.symm,G⟩
 .exact aeA es _ _
def oB.set {t:List fo} {es:aI8} (h:oB t es) (c:Nat) (s:fo) (au:uh s):oB (t.set c s) (rQ es c s):=by
 obtain⟨g1,g2⟩:=aeC h c s;refine⟨?_,?_,fun k i=>?_,fun d H=>?_⟩
 .unfold rQ
  split
  .exact fg.nQ h.ho
  .exact fg.put qK h.ho
 .intro p ae;unfold rQ at ae
  split at ae
  .exact h.wf p (AM ae)
  .rcases Lh ae with rfl |ae
   .show List.length (α:=fo) ((h0 es ((c/16:Nat):Int)).set (c % 16) s)=16;rw[ay0];exact h.len _
   .exact h.wf p ae
 .by_cases e:k=((c/16:Nat):Int)
  .rw[e,g1,as7,aA0]
   split
   .split
    .exact au
    .exact⟨aD2,aD2⟩
   .rw[<-as7];exact h.ok _ _
  .rw[g2 _ e];exact h.ok _ _
 .rw[ay0] at H;have ak:=h.len ((c/16:Nat):Int)
  by_cases e:d/16=c/16
  .rw[e,g1]
   by_cases ao:d=c
   .subst ao;rw[List.getElem_set_self,as7,ax8 (by rw[ak];omega)];rfl
   .have a8:c % 16≠d % 16:=fun h=>ao aD1
    rw[List.getElem_set_ne (ay4 ao),as7,ax1 a8,<-as7,<-e];exact h.at_ d H
  .have a8:((d/16:Nat):Int)≠((c/16:Nat):Int):=fun h=>e aD1
   rw[g2 _ a8,List.getElem_set_ne (fun ao=>e (by rw[ao]))];exact h.at_ d H
def R':(prog.info? 243).map (·.size)=some 3:=by kernel_rfl
def rR (s:fo):Bool:=if s.1=1 then decide (0<=s.2.1)&&decide (s.2.1 < 512) else decide (s=ck)||decide (s=(2,0,false))
def Sa (s q:fo):decide (s=q)=true↔kv (qM s)=kv (qM q):=by
 rw[decide_eq_true_iff];simp only[kv,AL,qM,List.cons.injEq,Lit.int.injEq,Lit.bool.injEq,true_and,and_true];constructor
 .intro h;subst h;exact⟨rfl,rfl,rfl⟩
 .rintro⟨E,G,ah⟩;exact Prod.ext E (Prod.ext G ah)
def aeD {n:Int} (h: -1000000<=n/\n<=1000000):(Lit.int .i64 n).wf=true:=by
 simp only[Lit.wf,as1,av6];have E:IntKind.min .i64= -9223372036854775808:=by decide
 have G:IntKind.max .i64=9223372036854775807:=by decide
 rw[E,G];omega
def Sb (d:Nat) {n:Int} (h: -1000000<=n/\n<=1000000):prog.keyLits (d+1) 3 [.int .i64 n]=some [.int .i64 n]:=by unfold Program.keyLits;simp only[underlying3];have hw:=aeD h;simp[hw]
def mb (d:Nat) {s:fo} (h:uh s):prog.keyLits (d+2) 243 (pq (qM s))=some (kv (qM s)):=by
 have cD:prog.cellsOf 243=3:=by kernel_rfl
 have cv:prog.cellsOf 3=1:=by kernel_rfl
 have hQ:prog.cellsOf 4=1:=by kernel_rfl
 have b':=Sb d h.1;have cS:=Sb d h.2
 have en:prog.keyLits (d+1) 4 [.bool s.2.2]=some [.bool s.2.2]:=by
  unfold Program.keyLits;simp only[underlying4]
 unfold Program.keyLits;simp only[underlying243,cD];simp[pq,K9,qM,cv,hQ,b',cS,en,kv,AL]
def aeE (s:fo) (au:uh s):Fn prog 228 [.c (p0 s)] [] [] (fX (rR s)) []:=by
 refine aY [] func228 ?_;refine⟨rfl,fun E=>?_,fun E=>?_⟩
 .have E:=gd E;refine⟨fun G=>?_,fun G=>?_⟩
  .refine⟨_,_,_,bt,rfl,?_,trivial,rfl⟩;show decide (s.2.1 < 512)=rR s;unfold rR;have G:decide (0<=s.2.1)=true:=G;rw[vj E,G,aB4]
  .refine⟨_,_,_,bt,rfl,?_,trivial,rfl⟩;show false=rR s;unfold rR;have G:decide (0<=s.2.1)=false:=G;rw[vj E,G,Bool.false_and]
 .have E:=oj E;refine bc (fun N=>Lc (m:=5) (D:=5) (lx:=qM s) (ly:=[.d (.int .i64 0),.d (.int .i64 0),.d (.lit false)]) rfl aD4 aD4 aD2 rfl rfl rfl rfl rfl (mb 3 au) (mb 3 (s:=ck) ⟨aD2,aD2⟩) (Sa s ck) N) ?_;refine⟨fun G=>?_,fun G=>?_⟩
  .refine⟨_,_,_,bt,rfl,?_,trivial,rfl⟩;show true=rR s;unfold rR;rw[mu E,G,Bool.true_or]
  .refine bc (fun N=>Lc (m:=5) (D:=5) (lx:=qM s) (ly:=[.d (.int .i64 2),.d (.int .i64 0),.d (.lit false)]) rfl aD4 aD4 aD2 rfl rfl rfl rfl rfl (mb 3 au) (mb 3 (s:=(2,0,false)) ⟨aD2,aD2⟩) (Sa s (2,0,false)) N) ?_;refine⟨_,_,_,bt,rfl,?_,trivial,rfl⟩;show decide (s=(2,0,false))=rR s;unfold rR;rw[mu E,G,Bool.false_or]
def vr (s:fo):Bool:=decide (s.1=1)&&s.2.2
def aeF (s:fo):Fn prog 202 [.c (p0 s)] [] [] (fX (vr s)) []:=by
 refine aY [] func202 ?_;refine⟨rfl,fun E=>?_,fun E=>?_⟩
 .refine⟨_,_,_,bt,rfl,?_,trivial,rfl⟩;show s.2.2=vr s;unfold vr;have E:decide (s.1=1)=true:=E;rw[E,aB4]
 .refine⟨_,_,_,bt,rfl,?_,trivial,rfl⟩;show false=vr s;unfold vr;have E:decide (s.1=1)=false:=E;rw[E,Bool.false_and]
def Sc (n:Int):Fn prog 152 [ab n] [] [] (fX (decide (0<=n)&&decide (n<=256))) []:=by
 refine aY [] func152 ?_;refine⟨fun h=>?_,fun h=>?_⟩
 .refine⟨_,_,_,bt,rfl,?_,trivial,rfl⟩;show decide (n<=256)=_;have h:decide (0<=n)=true:=h;rw[h,aB4]
 .refine⟨_,_,_,bt,rfl,?_,trivial,rfl⟩;show false=_;have h:decide (0<=n)=false:=h;rw[h,Bool.false_and]
def aeG (n:Int) (es:aI8):Fn prog 165 [ap 1001] (pr n es) [] (ab n) (pr n es):=by refine aY [] func165 ?_;exact bh
def Sd {t:List fo} {es:aI8} (gA:oB t es) (ak:t.length<=256) (c:Nat) (J:c < t.length):Fn prog 167 [ap 1001,ab (c:Int)] (pr (t.length:Nat) es) [] (.c (p0 t[c])) (pr (t.length:Nat) es):=by
 have aU:(h0 es ((c:Int)/16)).getD ((c:Int) % 16).toNat ck=t[c]:=by
  rw[<-gA.at_ c J]
  congr 1
 obtain⟨aeH,Dk,Gu⟩: ∃i,prog.info? 243=some i/\i.size=3:=by
  have:=R'
  cases e:prog.info? 243 with
  |none=>rw[e] at this;cases this
  |some i=>rw[e] at this;exact⟨i,rfl,by simpa using this⟩
 refine aY [] func167 ?_;refine⟨rfl,fun E=>as3 (gd E) aD1,fun E=>⟨fun E=>as3 (gd E) aD1,fun E=>⟨⟨aD1,aD1⟩,⟨aD1,aD1⟩,⟨aD1,aD1⟩,⟨aD1,aD1⟩,bc (fun N=>aeo (n:=16) (e:=243) (u:=ug) (g:=h0 es ((c:Int)/16)) (j:=(c:Int) % 16) rfl underlying290 underlying243 rfl Dk Gu rfl rfl aD1 aD1 N) ?_⟩⟩⟩;refine⟨_,_,_,bt,rfl,?_,aD,rfl⟩;show sE (.c (.agg (gI ug ((h0 es ((c:Int)/16)).getD ((c:Int) % 16).toNat ck) 0 3))) _;rw[aU];exact aD
def aeI (g hC:List fo) (ak:g.length=16) (gz:hC.length=16):kv (gI fN g 0 48)=kv (gI fN hC 0 48)->g=hC:=by
 intro h
 have m4: ∀(l:List bE) (j:Nat),(kv l)[j]? =(l[j]?).map AL:=fun l=>by
  induction l with
  |nil=>intro j;simp[kv]
  |cons s l bn=>
   intro j
   match j with
   |0=>rfl
   |j+1=>simpa[kv] using bn j
 have J: ∀i,i < 16-> ∀q,q < 3->AL (.d (fS ug (g.getD i ck) q))=AL (.d (fS ug (hC.getD i ck) q)):=fun i aE q aQ=>by
  have E:=as5 (fun l=>l[i*3+q]?) h;simp only[m4] at E;have af:=Ag fN g 48 0 (i*3+q) aD1;have ao:=Ag fN hC 48 0 (i*3+q) aD1;rw[af,ao] at E;simp only[ay7,as9,aw9] at E;have cD:fS fN g (i*3+q)=fS ug (g.getD i ck) q:=Lf (u:=ug) (n:=16) g i q aQ;have cv:fS fN hC (i*3+q)=fS ug (hC.getD i ck) q:=Lf (u:=ug) (n:=16) hC i q aQ;rw[cD,cv] at E;exact E
 refine List.ext_getElem (ak.trans gz.symm) fun i E G=>?_
 have a0:=J i aD1 0 aD1;have b4:=J i aD1 1 aD1;have cf:=J i aD1 2 aD1;have af:g.getD i ck=g[i]:=by rw[as7,as0 E];rfl
 have ao:hC.getD i ck=hC[i]:=by rw[as7,as0 G];rfl
 rw[af,ao] at a0 b4 cf;have eT:Lit.int .i64 (g[i]).1=Lit.int .i64 (hC[i]).1:=a0;have b1:Lit.int .i64 (g[i]).2.1=Lit.int .i64 (hC[i]).2.1:=b4;have b2:Lit.bool (g[i]).2.2=Lit.bool (hC[i]).2.2:=cf;injection eT with _ eT
 injection b1 with _ b1
 injection b2 with b2
 exact Prod.ext eT (Prod.ext b1 b2)
def Se {α l7:Type} {f:α->Option l7} {g:α->l7}: ∀{l:List α},(∀a,a∈l->f a=some (g a))->l.mapM f=some (l.map g)
 | [],_=>rfl
 |a::l,h=>by
  rw[List.mapM_cons,h a (at6 ..),Se fun b O=>h b (as6 _ O)];rfl
def Sf (d:Nat) (g:List fo) (h: ∀i,i < 16->uh (g.getD i ck)):prog.keyLits (d+3) 290 (pq (gI fN g 0 48))=some (kv (gI fN g 0 48)):=by
 have cD:prog.cellsOf 290=48:=by kernel_rfl
 have cv:prog.cellsOf 243=3:=by kernel_rfl
 have key: ∀i,i < 16->prog.keyLits (d+2) 243 (((pq (gI fN g 0 48)).drop (i*3)).take 3)=some (kv (qM (g.getD i ck))):=by
  intro i aE
  match i,aE with
  |0,_=>exact mb d (h 0 aD1)
  |1,_=>exact mb d (h 1 aD1)
  |2,_=>exact mb d (h 2 aD1)
  |3,_=>exact mb d (h 3 aD1)
  |4,_=>exact mb d (h 4 aD1)
  |5,_=>exact mb d (h 5 aD1)
  |6,_=>exact mb d (h 6 aD1)
  |7,_=>exact mb d (h 7 aD1)
  |8,_=>exact mb d (h 8 aD1)
  |9,_=>exact mb d (h 9 aD1)
  |10,_=>exact mb d (h 10 aD1)
  |11,_=>exact mb d (h 11 aD1)
  |12,_=>exact mb d (h 12 aD1)
  |13,_=>exact mb d (h 13 aD1)
  |14,_=>exact mb d (h 14 aD1)
  |15,_=>exact mb d (h 15 aD1)
  |n+16,aE=>exact as3 aE aD1
 unfold Program.keyLits;simp only[underlying290,cD,cv];have ak:(pq (gI fN g 0 48)).length=48:=rfl;have ax:((List.range 16).map fun i=>kv (qM (g.getD i ck))).flatten=kv (gI fN g 0 48):=rfl;generalize pq (gI fN g 0 48)=arB at ak key⊢;rw[vj ak,Se (g:=fun i=>kv (qM (g.getD i ck))) fun i aE=>key i (List.mem_range.1 aE)];exact as5 some ax
def aeJ:(prog.info? 290).map (·.size)=some 48:=by kernel_rfl
def kL {T n:Nat} (h:(prog.info? T).map (·.size)=some n): ∃i,prog.info? T=some i/\i.size=n:=by
 cases e:prog.info? T with
 |none=>rw[e] at h;cases h
 |some i=>rw[e] at h;exact⟨i,rfl,by simpa using h⟩
def Sg (i:Nat):qN.getD i ck=ck:=by
 unfold qN;rw[as7,aB6]
 split <;>rfl
abbrev oC:List bE:=[.d (.int .i64 0),.d (.int .i64 0),.d (.lit false)]
abbrev Gv:List bE:=oC++(oC++(oC++(oC++(oC++(oC++(oC++(oC++(oC++(oC++(oC++(oC++(oC++(oC++(oC++oC))))))))))))))
def aeK:prog.keyLits 5 290 (pq Gv)=some (kv Gv):=Sf 2 qN fun i _=>by rw[Sg];exact⟨aD2,aD2⟩
abbrev aeL (c:Nat):aZ:=[(0,ap 1001),(1,ab (c:Int)),(5,ap 5),(6,ap 6)]
abbrev aeM (n:Int) (es:aI8) (s:fo) (g:List fo):aA:=[(6,.val fN g),(5,.cells (qM s)),(1001,.cells [.d (.int .i64 n),.mp 1002]),(1002,.map ai fN es)]
def aeN {t:List fo} {es:aI8} (gA:oB t es) (n:Int) (c:Nat) (J:c < 100000) (s:fo) (au:uh s):Fn prog 229 [ap 1001,ab (c:Int),.c (p0 s)] (pr n es) [] g4 (pr n (rQ es c s)):=by
 obtain⟨aeH,Dk,Gu⟩:=kL R';obtain⟨arC,Sh,Si⟩:=kL aeJ;have bX:=gA.len ((c:Int)/16);have c9:((c/16:Nat):Int)=(c:Int)/16:=aD9
 have AN:((c:Int) % 16).toNat=c % 16:=aD9
 have Sj:(h0 es ((c:Int)/16)).set (c % 16) s=qN->rQ es c s=g0 (aI:=ai) (aK:=fN) es ((c:Int)/16):=fun h=>by
  unfold rQ;rw[c9,vj h];rfl
 have Gw: ¬(h0 es ((c:Int)/16)).set (c % 16) s=qN->rQ es c s=dx (aI:=ai) (aK:=fN) es ((c:Int)/16) ((h0 es ((c:Int)/16)).set (c % 16) s):=fun h=>by
  unfold rQ;rw[c9,mu h];rfl
 have vs:((h0 es ((c:Int)/16)).set (c % 16) s).length=16:=by rw[ay0];exact bX
 have Sk: ∀i,i < 16->uh (((h0 es ((c:Int)/16)).set (c % 16) s).getD i ck):=fun i _=>by
  rw[as7,aA0]
  split
  .split
   .exact au
   .exact⟨aD2,aD2⟩
  .rw[<-as7];exact gA.ok _ _
 obtain⟨hC,rS⟩: ∃hC:List fo,hC=(h0 es ((c:Int)/16)).set (c % 16) s:=⟨_,rfl⟩;rw[<-rS] at Sj Gw Sk vs
 have sN:decide (hC=qN)=true↔kv (gI fN hC 0 48)=kv Gv:=by
  rw[decide_eq_true_iff];exact⟨fun h=>by rw[h];rfl,aeI hC qN vs rfl⟩
 refine aY [2] func229 ?_;refine⟨rfl,⟨aD1,aD1⟩,⟨aD1,aD1⟩,rfl,bz [] ((ac.aep 6 (u:=fN) (x:=h0 es ((c:Int)/16)) ⟨bX,fun _ _=>⟨trivial,trivial,trivial⟩⟩ rfl).trans (cM (aeL c) (aeM n es s (h0 es ((c:Int)/16))))) ⟨⟨aD1,aD1⟩,⟨aD1,aD1⟩,bc (fun N=>aeq (s:=3) (j:=(c:Int) % 16) rfl underlying290 Dk Gu rfl rfl aD1 aD1 N) ?_⟩⟩;rw[AN];refine⟨_,⟨[6],[],[(6,some (.val fN hC))]⟩,fun N=>by rw[rS];exact aes (n:=16) (u:=ug) (g:=h0 es ((c:Int)/16)) (y:=s) rfl Dk Gu rfl aD1 rfl rfl ⟨trivial,trivial,trivial⟩ N,rfl,?_⟩;refine bc (R5 (u:=fN) (y:=hC) rfl underlying290 rfl Sh Si rfl rfl) ?_;refine bc (aet fa rfl rfl underlying290 Dk rfl) ?_;refine bc (fun N=>Lc (m:=5) (D:=5) (r:=decide (hC=qN)) (lx:=gI fN hC 0 48) (ly:=Gv) rfl aD4 aD4 aD2 rfl rfl rfl rfl rfl (Sf 2 hC Sk) aeK (sN) N) ?_;refine⟨fun h=>?_,fun h=>?_⟩
 .have h:=gd h;refine⟨⟨aD1,aD1⟩,⟨aD1,aD1⟩,?_⟩;rw[Sj h];exact bh
 .have h:=oj h;refine⟨⟨aD1,aD1⟩,⟨aD1,aD1⟩,bc (R5 (u:=fN) (y:=hC) rfl underlying290 rfl Sh Si rfl rfl) ?_⟩;refine⟨hC,⟨⟨vs,fun _ _=>⟨trivial,trivial,trivial⟩⟩,rfl⟩,rfl,?_⟩;rw[Gw h];exact bh
def aeO {t:List fo} {es:aI8} (gA:oB t es) (ak:t.length<=256) (c:Nat) (J:c < t.length) (s:fo) (au:uh s) (ax:rR s=true):
  Fn prog 205 [ap 1001,ab (c:Int),.c (p0 s)] (pr (t.length:Nat) es) [] (.cn [p0 t[c],dJ 0]) (pr (t.length:Nat) (rQ es c s)):=by
 refine aY [] func205 ?_;refine⟨rfl,rfl,fun E=>as3 (gd E) aD1,fun E=>⟨fun E=>as3 (gd E) aD1,fun E=>ar (aeE s au) ?_⟩⟩;exact⟨fun E=>as3 E (by rw[ax];decide),fun _=>ar (Sd gA ak c J) ⟨rfl,ar (aeN gA (t.length:Nat) c aD1 s au) <| eN bt rfl ⟨aD,rfl,trivial⟩⟩⟩
def rT (t:List fo):bg where
 bp:=fun I F w p=> ∃es,oB t es/\jJ 1001 (pr (t.length:Nat) es) I F w p
 cr:=fun I F w I' w' p ⟨es,h,aU⟩ U bj aN=>⟨es,h,(bg.jq 1001 (pr (t.length:Nat) es)).cr I F w I' w' p aU U bj aN⟩
def oB.new (n:Nat):oB (List.replicate n ck) []:=by
 have aU: ∀k i,(h0 [] k).getD i ck=ck:=fun k i=>Sg i
 refine⟨.nil,fun p ae=>(by cases ae),fun k i=>?_,fun c J=>?_⟩
 .rw[aU];exact⟨aD2,aD2⟩
 .rw[aU,List.getElem_replicate]
def aeP (n:Int) (h: ¬(0<=n/\n<=256)):Fn prog 98 [ab n] [] [] (.cn [nf,dJ 1]) []:=by
 have O:(decide (0<=n)&&decide (n<=256))=false:=by
  rw[Bool.and_eq_false_iff,decide_eq_false_iff_not,decide_eq_false_iff_not];omega
 refine aY [] func98 ?_;refine ar (Sc n) ?_;rw[O];exact⟨fun _=>bh,fun E=>as3 E aD2⟩
def Li (n:Nat) (h:n<=256):Fn prog 98 [ab (n:Int)] [] [1001] (.cn [.one (.ptr 1001 0),dJ 0]) [(1001,.aH (rT (List.replicate n ck)))]:=by
 have O:(decide ((0:Int)<=n)&&decide ((n:Int)<=256))=true:=by
  rw[as1,decide_eq_true_iff,decide_eq_true_iff];omega
 have ak:((List.replicate n ck).length:Nat)=n:=at5;refine aY [] func98 ?_;refine ar (Sc n) ?_;rw[O];refine⟨fun E=>as3 E aD2,fun _=>⟨rfl,rfl,?_⟩⟩;refine⟨_,_,_,(ac.aX 10 1001 rfl).trans ((ac.aX 8 1002 rfl).trans (ac.close 1001 (pr (n:Nat) []) (o:=rT (List.replicate n ck)) aD rfl fun _ _ _ _ h=>⟨[],oB.new n,by rw[ak];exact h⟩)),rfl,aD,aD,rfl⟩
end
section
abbrev p1 (l:aI2):aA:=[(1001,.cells [.own 1002]),(1002,.row 3 ai l)]
def rU (l:aI2):bg:=.jq 1001 (p1 l)
def aeQ:(prog.info? 3).map (fun i=>(i.zero,i.size,i.bytes))=some (some (.int .i64 0),1,8):=by kernel_rfl
def Sl (n:Int) (h: ¬(0<=n/\n<=512)):Fn prog 99 [ab n] [] [] (.cn [nf,dJ 1]) []:=by
 refine aY [] func99 ?_;refine⟨fun E=>?_,fun E=>?_⟩
 .exact bh
 refine⟨fun G=>?_,fun G=>?_⟩
 .exact bh
 .exfalso;simp at E G;omega
def Gx (n:Int) (aw:0<=n) (hn:n<=512):Fn prog 99 [ab n] [] [1001] (.cn [.one (.ptr 1001 0),dJ 0]) [(1001,.aH (rU (List.replicate n.toNat (0:Int))))]:=by
 obtain⟨di,kG,jX,vt,AO⟩:=info_parts aeQ;refine aY [] func99 ?_;refine⟨fun E=>?_,fun E=>?_⟩
 .exfalso;simp at E;omega
 refine⟨fun G=>?_,fun G=>?_⟩
 .exfalso;simp at G;omega
 refine bc (fun N=>aev (d:=11) rfl underlying83 kG jX vt AO rfl rfl aw aD1 N) ?_;exact⟨rfl,_,_,_,(ac.aX 13 1001 rfl).trans ((ac.aX 11 1002 rfl).trans (ac.close 1001 (p1 (List.replicate n.toNat (0:Int))) (o:=rU (List.replicate n.toNat (0:Int))) aD rfl fun _ _ _ _ h=>h)),rfl,aD,aD,rfl⟩
def aeR (l:aI2) (h:Int):Fn prog 269 [ap 1001,ab h] (p1 l) [] (fX (decide (0<=h)&&decide (h < l.length))) (p1 l):=by
 refine aY [] func269 ?_;refine⟨fun E=>?_,fun E=>?_⟩
 .refine⟨_,_,_,bt,rfl,?_,aD,rfl⟩;show decide (h < (l.length:Nat))=(decide (0<=h)&&decide (h < (l.length:Nat)));have E:decide (0<=h)=true:=E;rw[E,aB4]
 .refine⟨_,_,_,bt,rfl,?_,aD,rfl⟩;show false=(decide (0<=h)&&decide (h < (l.length:Nat)));have E:decide (0<=h)=false:=E;rw[E,Bool.false_and]
def aeS (n:Int) (h:n≠0):Fn prog 259 [ab n] [] [] (ab 0) []:=by refine aY [] func259 ?_;exact⟨fun E=>as3 (gd E) h,fun E=>bh⟩
def aeT (l:aI2) (h:Nat) (n:Int) (hn:l[h]? =some n) (E:1<=n) (G:n<=65535):Fn prog 258 [ap 1001,ab (h:Int),ab (-1),k0 (.c3 259 [])] (p1 l) [] (ab 0) (p1 (l.set h (n - 1))):=by
 have ak:h < l.length:=(at0.1 hn).1;refine aY [] func258 ?_;refine ar (aeR l h) ?_;have m1:(0:Int)<=(h:Int):=aD9
 have m2:(h:Int) < (l.length:Nat):=aD9
 refine⟨fun _=>?_,fun hf=>?_⟩
 .exact⟨⟨m1,m2⟩,n,hn,ar (aeS n aD1) <| fm ⟨⟨m1,m2⟩,n,hn,⟨aD1,aD1⟩,⟨m1,m2⟩,⟨trivial,ak⟩,bh⟩⟩
 .exfalso;have hf:(decide ((0:Int)<=h)&&decide ((h:Int) < l.length))=false:=hf;rw[at4 aD1,at4 aD1] at hf
  cases hf
def aeU (l:aI2) (h:Nat) (n:Int) (hn:l[h]? =some n) (E:1<=n) (G:n<=65535):Fn prog 230 [ap 1001,ab (h:Int)] (p1 l) [] (.cn [.one (.d (.int .i64 (n - 1))),dJ 0]) (p1 (l.set h (n - 1))):=by
 have ak:h < l.length:=(at0.1 hn).1;refine aY [] func230 ?_;refine ar (aeT l h n hn E G) <| dE ?_;have qA:h < (l.set h (n - 1)).length:=by rw[ay0];exact ak
 have m1:(0:Int)<=(h:Int):=aD9
 have m2:(h:Int) < ((l.set h (n - 1)).length:Nat):=aD9
 have m3:(l.set h (n - 1))[h]? =some (n - 1):=by rw[ax8 ak]
 exact⟨⟨m1,m2⟩,n - 1,m3,bh⟩
def d6 (l:aI2):Nat:=(l.filter fun x=>decide (x=0)).length
def Lj (l:aI2):d6 l<=l.length:=List.length_filter_le _ _
def aeV {l:aI2} {k:Nat} (h:k < l.length):d6 (l.take (k+1))=d6 (l.take k)+(if l[k]=0 then 1 else 0):=by
 unfold d6;rw[aw6 h,List.filter_append,as4]
 congr 1
 by_cases e:l[k]=0
 .simp[e]
 .simp[e]
abbrev aeW (l:aI2) (k:Nat):aZ:=[(3,ab (d6 (l.take k):Nat)),(9,eC 1002),(10,ab (l.length:Nat)),(11,ab (k:Nat))]
def aeX (l:aI2) (ak:l.length<=1000000):Fn prog 203 [ap 1001] (p1 l) [] (ab (d6 l:Nat)) (p1 l):=by
 refine aY [] func203 ?_;refine d1 [] (X:=Nat) (aeW l) (fun _=>p1 l) (fun k=>k<=l.length) (fun k=>l.length - k) 0 (at2 _) ?_ ?_
 .exact ac.sub aD aD
 intro k Z;have aN:=Lj (l.take k);have qC:(l.take k).length<=l.length:=aE8
 refine⟨fun h=>?_,fun h=>?_⟩
 .have h:decide ((k:Int) < (l.length:Nat))=true:=h;have eX:k < l.length:=aE0
  have au:=aeV eX;have m1:(0:Int)<=(k:Int):=aD9
  have m2:(k:Int) < (l.length:Nat):=aD9
  refine⟨⟨m1,m2⟩,l[k],j4 (n:=k) eX,fun aw=>?_,fun aw=>?_⟩
  .have aw:=gd aw;refine⟨aD1,aD1,k+1,aD1,aD1,ac.sub ⟨?_,rfl,rfl,rfl,trivial⟩ aD⟩;show((d6 (l.take k):Nat):Int)+1=(d6 (l.take (k+1)):Nat);rw[au,vj aw];omega
  .have aw:=oj aw;refine⟨aD1,k+1,aD1,aD1,ac.sub ⟨?_,rfl,rfl,rfl,trivial⟩ aD⟩;show((d6 (l.take k):Nat):Int)=(d6 (l.take (k+1)):Nat);rw[au,mu aw];omega
 .have h:decide ((k:Int) < (l.length:Nat))=false:=h;have eX:k=l.length:=aG1
  subst eX;refine⟨_,_,_,bt,rfl,?_,aD,rfl⟩;show((d6 (l.take l.length):Nat):Int)=_;rw[au3]
abbrev aeY (l:aI2) (k:Nat):aZ:=[(0,ap 1001),(9,ab (l.length:Nat)),(10,ab (k:Nat))]
def aeZ (l:aI2) (ak:l.length<=1000000) (h:Nat) (bd:l[h]? =some 0) (hf: ∀j,j < h->l[j]? ≠some 0):Fn prog 204 [ap 1001] (p1 l) [] (.cn [.one (.d (.int .i64 (h:Int))),dJ 0]) (p1 (l.set h 1)):=by
 have bv:h < l.length:=(at0.1 bd).1;refine aY [] func204 ?_;refine d1 [] (X:=Nat) (aeY l) (fun _=>p1 l) (fun k=>k<=h) (fun k=>l.length - k) 0 (at2 _) ?_ ?_
 .exact ac.sub aD aD
 intro k Z;refine⟨fun _=>?_,fun E=>?_⟩
 .have eX:k < l.length:=aD9
  have m1:(0:Int)<=(k:Int):=aD9
  have m2:(k:Int) < (l.length:Nat):=aD9
  refine⟨⟨m1,m2⟩,l[k],j4 (n:=k) eX,fun aw=>?_,fun aw=>?_⟩
  .have aw:=gd aw
   have Sm:k=h:=by
    rcases aA6 k h with ah |ah
    .exact as3 (by rw[as0 eX,aw]) (hf k ah)
    .omega
   subst Sm;exact⟨⟨m1,m2⟩,⟨trivial,eX⟩,bh⟩
  .have aw:=oj aw
   have Sm:k≠h:=fun e=>by
    subst e;rw[as0 eX] at bd;exact aw (by injection bd)
   exact⟨aD1,k+1,aD1,aD1,ac.sub aD aD⟩
 .exfalso;have E:decide ((k:Int) < (l.length:Nat))=false:=E;simp at E;omega
end
end Go.Proofs.YtkfbeijmgggkmaaGreat
