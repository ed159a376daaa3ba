/-
A part of the proof of this claim: lemmas, with no condition beyond what each says.
-/
import Derived.Deep.LoopGhost
import Derived.Orders
import Derived.OrdersIn
import Derived.TacticsIn
import Derived.Sort.LoopGhostIn
import Derived.RangeFuncRecord
import Derived.Scope
import Derived.Test.YtkfbeijmgggkmaaGreatZc5
set_option linter.unusedVariables false
set_option linter.unusedSimpArgs false
set_option maxRecDepth 10000
set_option maxHeartbeats 4000000
namespace Go.Proofs.YtkfbeijmgggkmaaGreat
open Go.RowKit Go.Proofs
section
def tJ (N:Nat):List Oper->Bool
 | []=>true
 |o::l=>(match o.dst with
  |some d=>Nat.blt d N
  |none=>true)&&(match o.op with
  | .defer _=>false
  |_=>true)&&tJ N l
section
variable {P:Program} {b:Frame} {a:Act} {k:List Item} {cs:List Frame} {w:World}
theorem zQ {c:Code}:step P (lone (b.atR a (.code (.scope c)::k)) cs w)= .next (lone (b.atR a (.code c:: .inScope c::k)) cs w):=
 step_lone_go (by simp[stepG,stepG.exec,Frame.atR])
theorem aaj {c:Code}:step P (lone (b.atR a (.inScope c::k)) cs w)= .next (lone (b.atR a k) cs w):=
 step_lone_go (by simp[stepG,stepG.exec,Frame.atR])
theorem aak {F:Fence} {n:Nat} {Q:Exit->Act->World->Prop} {c:Code} (h:c.wpIn F n P (Exit.noGoto Q) a w):(Code.scope c).wpIn F n P Q a w:=by
 intro b k cs aal O aC;have av:(lone (b.atR a (.code (.scope c)::k)) cs w).fenced P F:=fenced_calm O aC rfl;obtain⟨e,B6,B7,aP,zR⟩:=h b (.inScope c::k) cs aal O aC
 cases e with
 |normal=>exact⟨.normal,B6,B7,aP,.head av zQ (StepsIn.trans zR (.one (fenced_calm O aC rfl) aaj))⟩
 |exit id=>
  have hx:exitTo id (.inScope c::k)=exitTo id k:=by simp[exitTo]
  exact⟨.exit id,B6,B7,aP,fun d2 Z=>.head av zQ (zR.1 d2 (by rw[hx];exact Z)),fun J4 Z=>let⟨k₁,E,G⟩:=zR.2 J4 (by rw[hx];exact Z);⟨k₁,E,.head av zQ G⟩⟩
 |goto l=>exact aP.elim
 |ret=>exact⟨_,B6,B7,aP,.of_steps (.one av zQ) zR⟩
 |panic ch=>exact⟨_,B6,B7,aP,.of_steps (.one av zQ) zR⟩
 |outgrown=>exact⟨_,B6,B7,aP,.of_steps (.one av zQ) zR⟩
end
def jF (P:Program) (N:Nat):Code->Bool
 | .skip=>true
 | .region _ dg draw=>tJ N dg.toList&&(!draw||P.follows .mixedOrders)
 | .seq a b=>jF P N a&&jF P N b
 | .cond _ x y=>jF P N x&&jF P N y
 | .block _ b=>jF P N b
 | .loop b=>jF P N b
 | .rangeFunc _ _ a b=>jF P N a&&jF P N b
 | .scope b=>jF P N b
 | .label _=>true
 | .exit _=>true
 | .ret=>true
 |_=>false
section
variable {P:Program} {aU:dl} {N:Nat} {ids:aA1}
theorem B8 {dg:Array Oper} {a:Act} {j s:Nat} (ax:(dg[j]?).bind (·.dst)=some s) {v:Value} (aA:a.tmps.getD s undef=v):
  (∀b,v= .bool b->yielded dg a.tmps j=some b)/\((∀b,v≠ .bool b)->yielded dg a.tmps j=none):=by
 unfold yielded;rw[ax];simp only[Option.bind_some]
 cases cn:a.tmps[s]? with
 |none=>
  have aA:v=undef:=by rw[<-aA];simp[cn]
  subst aA;exact⟨fun b O=>(by simp[undef] at O),fun _=>rfl⟩
 |some x=>
  have aA:v=x:=by rw[<-aA];simp[cn]
  subst aA;refine⟨fun b O=>by rw[O],fun h=>?_⟩
  cases v <;>first |rfl |exact absurd rfl (h _)
theorem aam {all:List Oper} {j s:Nat} (h:BO all j=some s):((all.toArray)[j]?).bind (·.dst)=some s:=by
 unfold BO at h;simp only[List.getElem?_toArray]
 split at h
 .rename_i o ag;rw[ag];exact h
 .cases h
theorem zS {all:List Oper} {K:aX} {o:Oper} {t:Bool} (h:uw all K o.guard=some t) {ρ:Nat->bo} {I:Nat->Prop} {a:Act} {w:World} (au:ey K ρ I a w):Region.wanted o (yielded all.toArray a.tmps)=t:=by
 unfold uw at h;unfold Region.wanted
 split at h
 .rename_i aY;injection h with h
  simp[aY,h]
 .rename_i j want aY;simp only[aY]
  split at h
  .cases h
  .rename_i s ax;have ax:=aam ax;have aA:=au s
   split at h
   .rename_i ap;rw[ap] at aA;have:=(B8 (a:=a) ax (show a.tmps.getD s undef= .bool true from aA)).1 true rfl;injection h with h
    rw[this,<-h];rfl
   .rename_i ap;rw[ap] at aA;have:=(B8 (a:=a) ax (show a.tmps.getD s undef= .bool true from aA)).1 true rfl;injection h with h
    rw[this,<-h];rfl
   .rename_i ap;rw[ap] at aA;have:=(B8 (a:=a) ax (show a.tmps.getD s undef= .bool false from aA)).1 false rfl;injection h with h
    rw[this,<-h];rfl
   .rename_i ap;rw[ap] at aA;have:=(B8 (a:=a) ax (show a.tmps.getD s undef= .bool false from aA)).1 false rfl;injection h with h
    rw[this,<-h];rfl
   .rename_i ap;rw[ap] at aA;have:=(B8 (a:=a) ax (show a.tmps.getD s undef=undef from aA)).2 (by simp[undef]);injection h with h
    rw[this,<-h];simp
   .cases h
theorem fa.undef {C:fi} {K:aX} {B:ay} {a:Act} {w:World} (h:fa N ids C K B a w) (d:Option Nat) (H: ∀e,d=some e->e < N):fa N ids C (mO d .undef K) B (a.put d undef) w:=by
 obtain⟨E,G,ρ,F,ar,au⟩:=h;exact⟨kq.trans E,kr.trans G,ρ,F,ar,au.ku (fun e U=>by rw[E];exact H e U) rfl⟩
theorem fa.lit {C:fi} {K:aX} {B:ay} {a:Act} {w:World} {d:Nat} {b:Bool} (h:fa N ids C ((d,.c (.one (.d (.bool b))))::K) B a w):fa N ids C ((d,.c (.one (.d (.lit b))))::K) B a w:=by
 obtain⟨E,G,ρ,F,ar,au⟩:=h;refine⟨E,G,ρ,F,ar,fun s=>?_⟩;have:=au s;rw[kp] at this⊢
 split at this
 .rw[if_pos ‹_›];exact this
 .rw[if_neg ‹_›];exact this
theorem Qp {n:Nat} {r:Option Nat} {f:FuncId} {args:Array Value} {w:World} {bn:Ending->World->Prop} (h:Calls P f args w bn):CallsIn (oX r) n P f args w bn:=(callsIn_wide (n:=n)).2 h
theorem Qq {n:Nat} {r:Option Nat} {f:FuncId} {args:Array Value} {w:World} {bn:Ending->World->Prop} (h:CallsIn (oX r) n P f args w bn):Calls P f args w bn:=(callsIn_wide (n:=n)).1 h
theorem aan {n:Nat} {r:Option Nat} {row:String} {args:Array Value} {w:World} {bn:Value->World->Prop} (h:Rows P row args w bn):RowsIn (oX r) n P row args w bn:=fun c cs _=>by
 obtain⟨v,w',E,G⟩:=h c cs;exact⟨v,w',E,stepsIn_wide.2 G⟩
theorem J5 {o:Oper} (h:(match o.op with
 | .defer _=>false
 |_=>true)=true): ∀c,o.op≠ .defer c:=fun c e=>by rw[e] at h;cases h
theorem B9 {r:Option Nat} {o:Oper} (dR: ∀c,o.op≠ .defer c) {a:Act} {w:World} {next:Act->World->Prop} {Q:Exit->Act->World->Prop} (h:o.wp P a w next Q):o.wpIn (oX r) 0 P a w next Q:=by
 refine⟨fun _ _=>trivial,?_⟩;rw[Oper.semAt_eq _ _ _ dR];unfold Oper.wp at h;generalize(execOp a.eval o).run P w=q at*
 cases q with
 |ok x w'=>
  cases x <;>simp only[Oper.upon,Oper.uponIn] at h⊢ <;>
   first
    |exact h
    |exact h.elim
    |exact⟨fun ax=>absurd ax aw2,Qp h⟩
    |exact⟨fun ax=>absurd ax aw2,aan h⟩
 |halt x w'=>cases x <;>simp only[Oper.upon,Oper.uponIn] at h⊢ <;>exact h
theorem xJ (bl:eh P aU) (all:List Oper): ∀(l:List Oper) (i:Nat) (K:aX) (B:ay) (gu:List kU) (k:aX->ay->List kU->Prop),tJ N l=true->tx P aU ids all i l K B gu k-> ∀(C:fi) (a:Act) (w:World),fa N ids C K B a w->
  ∀(r:Option Nat) (Q:Exit->Act->World->Prop),(∀K' B' aao,k K' B' aao-> ∀a' w',fa N ids C K' B' a' w'->Q .normal a' w')->wpListIn (oX r) 0 P all.toArray Q l a w
 | [],i,K,B,gu,k,_,h,C,a,w,ax,r,Q,Z=>wpListIn_nil (Z K B gu h a w ax)
 |o::l,i,K,B,gu,k,H,h,C,a,w,ax,r,Q,Z=>by
  simp only[tJ,vj] at H;obtain⟨⟨v8,dR⟩,dL⟩:=H;have dR:=J5 dR;have bx: ∀d,o.dst=some d->d < N:=fun d e=>by rw[e] at v8;simpa[Nat.blt_eq] using v8
  have eb:=ax;obtain⟨_,_,ρ,F,ar,au⟩:=eb;rw[Pz] at h;unfold E' at h;simp only[I8] at h;refine wpListIn_step fun fO Ca=>?_
  split at h
  .exact h.elim
  .rename_i hw;rw[if_neg (by rw[zS hw au];simp)];refine⟨fun _ _=>trivial,Ca _ _ ?_⟩;have a8:=ax.undef o.dst bx
   split at h
   .rename_i d e;rw[e] at a8⊢;exact xJ bl all l _ _ _ _ k dL h C _ w a8 r Q Z
   .rename_i e;rw[e] at a8⊢;exact xJ bl all l _ _ _ _ k dL h C _ w a8 r Q Z
  .rename_i hw;rw[if_pos (zS hw au)];obtain⟨v,e,h,aq,hf⟩:=J3 bl h;refine B9 dR (aq K B (fun _ _=>rfl) (fun _ _=>rfl) hf C a w ax bx fO Q fun a' w' fR=>Ca _ _ ?_)
   split at h
   .rename_i ao;rw[ao] at fR;exact xJ bl all l _ _ _ _ k dL h C _ w' fR r Q Z
   .rename_i d ao;rw[ao] at fR
    split at h
    .rename_i b aY
     cases b with
     |true=>exact xJ bl all l _ _ _ _ k dL (h.1 rfl) C _ w' fR.lit r Q Z
     |false=>exact xJ bl all l _ _ _ _ k dL (h.2 rfl) C _ w' fR.lit r Q Z
    .exact xJ bl all l _ _ _ _ k dL h C _ w' fR r Q Z
def zT (P:Program) (aU:dl) (N:Nat) (ids:aA1):Prop:= ∀(id:Nat) (dg:Array Oper) (K:aX) (B:ay) (k:aX->ay->Prop),tJ N dg.toList=true->P.follows .mixedOrders=true->
 tx P aU ids dg.toList 0 dg.toList K B [] (fun K' B' gu=>vW K B dg.toList gu=true/\k K' B')-> ∀(C:fi) (a:Act) (w:World),fa N ids C K B a w->
 ∀(r:Option Nat) (Q:Exit->Act->World->Prop),(∀K' B',k K' B'-> ∀a' w',fa N ids C K' B' a' w'->Q .normal a' w')->(Code.region id dg true).wpIn (oX r) 0 P Q a w
theorem fa.eval {C:fi} {K:aX} {B:ay} {a:Act} {w:World} (h:fa N ids C K B a w) {c:Operand} {b:Bool} (J:a7 K c= .c (.one (.d (.lit b)))\/a7 K c= .c (.one (.d (.bool b)))):a.eval c= .bool b:=by
 obtain⟨_,_,ρ,F,ar,au⟩:=h;rcases J with J |J
 .exact au.lit J
 .exact au.bool J
theorem zU (bl:eh P aU) (cp:zT P aU N ids) (stops:aA1): ∀(c:Code) (K:aX) (B:ay) (Q:nY->aX->ay->Prop),jF P N c=true->jA P aU N ids stops c K B Q->bk P N ids c K B Q:=by
 intro c
 induction c with
 |skip=>exact fun K B Q _ h r aC C il aP a w ax=>wpIn_skip (aP .g' K B C.ds (fun _=>rfl) h a w ax)
 |region id dg draw=>
  intro K B Q J h;rw[YJ] at h;simp only[jF,vj,Bool.or_eq_true,Bool.not_eq_true'] at J
  split at h
  .exact h
  .split at h
   .intro r aC C il aP a w ax;refine wpIn_region_list ?_;have:=xJ bl dg.toList dg.toList 0 K B [] _ J.1 h C a w ax r il (fun K' B' _ Z a' w' eb=>aP .g' K' B' C.ds (fun _=>rfl) Z a' w' eb);simpa using this
   .intro r aC C il aP a w ax;exact cp id dg K B (Q .g') J.1 (J.2.resolve_left aw2) h C a w ax r il (fun K' B' Z a' w' eb=>aP .g' K' B' C.ds (fun _=>rfl) Z a' w' eb)
 |seq x y oT oU=>
  intro K B Q J h r aC C il aP a w ax;simp only[jF,vj] at J;rw[YK] at h;refine wpIn_seq (oT K B _ J.1 h r aC C _ ?_ a w ax);intro e K' B' ds hA U a' w' eb
  cases e with
  |g'=>exact oU K' B' Q J.2 U r aC (C.at ds) il (fun e K B xK J6=>aP e K B xK fun aG=>(J6 aG).trans (hA aG)) a' w' eb
  |ex i=>exact aP (.ex i) K' B' ds hA U a' w' eb
  |ret=>exact aP .ret K' B' ds hA U a' w' eb
 |cond c x y oT oU=>
  intro K B Q J h r aC C il aP a w ax;simp only[jF,vj] at J;rw[YL] at h
  split at h
  .rename_i ap;exact wpIn_cond_true (ax.eval (.inl ap)) (oT K B Q J.1 h r aC C il aP a w ax)
  .rename_i ap;exact wpIn_cond_false (ax.eval (.inl ap)) (oU K B Q J.2 h r aC C il aP a w ax)
  .rename_i b ap
   cases b with
   |true=>exact wpIn_cond_true (ax.eval (.inr ap)) (oT K B Q J.1 (h.1 rfl) r aC C il aP a w ax)
   |false=>exact wpIn_cond_false (ax.eval (.inr ap)) (oU K B Q J.2 (h.2 rfl) r aC C il aP a w ax)
  .exact h.elim
 |block i b bu=>
  intro K B Q J h r aC C il aP a w ax;rw[YM] at h;refine wpIn_block (bu K B _ J h r aC C _ ?_ a w ax);intro e K' B' ds hA U a' w' eb
  cases e with
  |g'=>exact aP .g' K' B' ds hA U a' w' eb
  |ret=>exact aP .ret K' B' ds hA U a' w' eb
  |ex j=>
   simp only[nY.to,Exit.inBlock] at U⊢
   split at U
   .rename_i e;have:=ar0 e;subst this;rw[if_pos rfl];exact aP .g' K' B' ds hA U a' w' eb
   .rename_i e;rw[if_neg (fun x=>by subst x;simp at e)];exact aP (.ex j) K' B' ds hA U a' w' eb
 |loop b bu=>exact fun K B Q J h=>h
 |rangeFunc f bE x b oT oU=>exact fun K B Q J h=>h
 |scope b bu=>
  intro K B Q J h r aC C il aP a w ax;rw[YN] at h;refine aak (bu K B _ J h r aC C _ ?_ a w ax);intro e K' B' ds hA U a' w' eb
  cases e with
  |g'=>exact aP .g' K' B' ds hA U a' w' eb
  |ret=>exact aP .ret K' B' ds hA U a' w' eb
  |ex j=>exact aP (.ex j) K' B' ds hA U a' w' eb
 |label l=>exact fun K B Q J h r aC C il aP a w ax=>wpIn_label (aP .g' K B C.ds (fun _=>rfl) h a w ax)
 |exit i=>exact fun K B Q J h r aC C il aP a w ax=>wpIn_exit (aP (.ex i) K B C.ds (fun _=>rfl) h a w ax)
 |ret=>exact fun K B Q J h r aC C il aP a w ax=>wpIn_ret (aP .ret K B C.ds (fun _=>rfl) h a w ax)
 |_=>intro K B Q J h;simp[jF] at J
def ab (ids:aA1) (K:aX) (B:ay) (K':aX) (B':ay):Prop:= ∀(N:Nat) (C:fi) (a:Act) (w:World),fa N ids C K B a w->fa N ids C K' B' a w
theorem ab.refl (K:aX) (B:ay):ab ids K B K B:=fun _ _ _ _ h=>h
theorem ab.trans {K K' Qr:aX} {B B' Qs:ay} (h:ab ids K B K' B') (h':ab ids K' B' Qr Qs):ab ids K B Qr Qs:=fun N C a w ax=>h' N C a w (h N C a w ax)
theorem bk.le {c:Code} {K K':aX} {B B':ay} {Q:nY->aX->ay->Prop} (h:ab ids K B K' B') (cn:bk P N ids c K' B' Q):bk P N ids c K B Q:=fun r aC C il aP a w ax=>cn r aC C il aP a w (h N C a w ax)
theorem bk.mono {c:Code} {K:aX} {B:ay} {Q Q':nY->aX->ay->Prop} (h: ∀e K B,Q' e K B->Q e K B) (cn:bk P N ids c K B Q'):bk P N ids c K B Q:=fun r aC C il aP a w ax=>cn r aC C il (fun e K' B' ds hA U=>aP e K' B' ds hA (h e K' B' U)) a w ax
theorem bk.loop (bl:eh P aU) (cp:zT P aU N ids) (stops:aA1) {b:Code} (J:jF P N b=true) {X:Type} (k0:X->aX) (hb:X->ay) (inv:X->Prop) (uL:X->Nat) (h3:X) {K:aX} {B:ay} {Q:nY->aX->ay->Prop} (av:inv h3) (fZ:ab ids K B (k0 h3) (hb h3))
  (h: ∀x,inv x->jA P aU N ids stops b (k0 x) (hb x) (fun e K B=>match e with
   | .g'=> ∃y,inv y/\uL y < uL x/\ab ids K B (k0 y) (hb y)
   | .ex i=>Q (.ex i) K B
   | .ret=>Q .ret K B)):bk P N ids (.loop b) K B Q:=by
 intro r aC C il aP a w ax;refine wpIn_loop_ghost (fun n a w=> ∃x ds,(ux ids=true->ds=C.ds)/\inv x/\uL x=n/\fa N ids (C.at ds) (k0 x) (hb x) a w) (uL h3) ⟨h3,C.ds,fun _=>rfl,av,rfl,fZ N C a w ax⟩ ?_;rintro n a w ⟨x,ds,hA,hx,rfl,ax⟩;refine zU bl cp stops b _ _ _ J (h x hx) r aC (C.at ds) _ ?_ a w ax;intro e K' B' xK J6 U a' w' eb;have J7:ux ids=true->xK=C.ds:=fun aG=>(J6 aG).trans (hA aG)
 cases e with
 |g'=>
  obtain⟨y,aD,bx,aap⟩:=U;exact⟨uL y,bx,y,xK,J7,aD,rfl,aap N (C.at xK) a' w' eb⟩
 |ex i=>exact aP (.ex i) K' B' xK J7 U a' w' eb
 |ret=>exact aP .ret K' B' xK J7 U a' w' eb
def o5:Nat->List aO->aX
 |_,[]=>[]
 |i,v::l=>(i,v)::o5 (i+1) l
theorem Cb: ∀(l:List aO) (i s:Nat),dI (o5 i l) s=(if i<=s then(l[s - i]?).getD (.c (.one .any)) else .c (.one .any))
 | [],i,s=>by simp[o5,dI]
 |v::l,i,s=>by
  simp only[o5];rw[kp,Cb l (i+1) s]
  by_cases h:i=s
  .subst h;simp
  .rw[if_neg h]
   by_cases G:i<=s
   .rw[if_pos aw0,if_pos G,show s - i=(s - (i+1))+1 by omega];rfl
   .rw[if_neg aw0,if_neg G]
def xL (aU:dl) (K:aX) (B:ay):List ResultVar->Option (List dQ)
 | []=>some []
 | .tmp t::l=>match dI K t,xL aU K B l with
  | .c x,some r=>some (x::r)
  |_,_=>none
 | .cell t T::l=>match dI K t,xL aU K B l,aU.find T with
  | .c (.one (.ptr c o)),some r,some ti=>match aj B c with
   |some (.cells m)=>match ti.row with
    |true=>match Nat.ble (o+ti.size) m.length with
     |true=>some (.agg ((m.drop o).take ti.size)::r)
     |false=>none
    |false=>match m[o]? with
     |some s=>some (.one s::r)
     |none=>none
   |_=>none
  |_,_,_=>none
def tK (tmps:Array Value) (r:ResultVar):Sem Value:=match r with
 | .tmp t=>pure (tmps.getD t undef)
 | .cell ad t=>do loadVar t (<-asAddr (tmps.getD ad undef))
def J8:List dQ->aO
 | [x]=>.c x
 |l=>.cb l
theorem Fu (bl:eh P aU) {ρ:Nat->bo} {F:Nat->Nat->Prop} {C:fi} {K:aX} {B:ay} {a:Act} {w:World} (ar:Mem ids C B ρ F w) (au:ey K ρ (b5 C B F w) a w): ∀(l:List ResultVar) (r:List dQ),xL aU K B l=some r->
  ∃aE:List Value,(l.mapM (tK a.tmps)).run P w= .ok aE w/\iX ρ (b5 C B F w) w r aE
 | [],r,h=>by
  simp only[xL,aq8] at h;subst h;exact⟨[],aw2,rfl⟩
 | .tmp t::l,r,h=>by
  unfold xL at h
  split at h
  .rename_i x Cc hx aC;injection h with h
   subst h;obtain⟨aE,E,G⟩:=Fu bl ar au l Cc aC;have aA:=au t;rw[hx] at aA;exact⟨_::aE,by simp[List.mapM_cons,E,tK],_,aE,rfl,aA,G⟩
  .cases h
 | .cell t T::l,r,h=>by
  unfold xL at h
  split at h
  .rename_i c o Cc ti hx aC gK;obtain⟨i,d,bz⟩:=bl.at_ gK;obtain⟨aE,E,G⟩:=Fu bl ar au l Cc aC;have aA:=au t;rw[hx] at aA;have aA:a.tmps.getD t undef= .pointer (some ⟨(ρ c).bh,o,none⟩):=aA
   split at h
   .rename_i m ap;obtain⟨bd,us,e3,O,H⟩:=ar.holds c _ ap
    split at h
    .rename_i ga
     split at h
     .rename_i fZ;have fZ:=Nat.le_of_ble_eq_true fZ;injection h with h
      subst h;have kX:=cc.Fc ti.size _ _ (cc.rt o _ _ H)
      have dW:=run_loadVar_mid (P:=P) w (ρ c).bh o T ((us.drop o).take ti.size) d (fun j u V=>by
       rw[List.getElem?_take] at V
       split at V
       .rw[List.getElem?_drop] at V;exact oZ O V
       .cases V) bz.n0 (bz.row.trans ga) (by rw[bz.jW,au5,bz.size,cc.length _ _ kX,ar3,au3];congr 1;omega)
      exact⟨_::aE,by simp[List.mapM_cons,tK,aA,asAddr,dW,E],_,aE,rfl,⟨_,rfl,kX⟩,G⟩
     .cases h
    .rename_i ga
     split at h
     .rename_i s ax;injection h with h
      subst h;obtain⟨v,uM,kX⟩:=cc.get _ _ H o s ax;have dW:=PO (P:=P) (T:=T) bz.n0 (bz.row.trans ga) (oZ O uM);exact⟨_::aE,by simp[List.mapM_cons,tK,aA,asAddr,dW,E],_,aE,rfl,kX,G⟩
     .cases h
   .cases h
  .cases h
def zV (l:aA1):List kQ->Bool
 | []=>true
 | .p b _::m=>l.contains b&&zV l m
 | .d _::m=>zV l m
theorem J9 {l:aA1} {c:Nat}: ∀{m:List kQ},zV l m=true->mh c m=true->c∈l
 | [],_,J=>by simp[mh] at J
 | .p b o::m,h,J=>by
  simp only[zV,vj,at2] at h;simp only[mh,Bool.or_eq_true] at J;rcases J with J |J
  .have:=ar0 J;subst this;exact h.1
  .exact J9 h.2 J
 | .d x::m,h,J=>J9 (m:=m) (by simpa[zV] using h) (by simpa[mh] using J)
def bC.i7 (l:aA1):bC->Bool
 | .ptr b _=>l.contains b
 | .own b=>l.contains b
 | .gj b _ _ _=>l.contains b
 | .os b _ _ _=>l.contains b
 | .mp b=>l.contains b
 | .cY _ m=>zV l m
 |_=>true
def Cd (l:aA1):List bC->Bool
 | []=>true
 |s::m=>s.i7 l&&Cd l m
def dQ.i7 (l:aA1):dQ->Bool
 | .one s=>s.i7 l
 | .agg m=>Cd l m
 | .kc _ _=>true
def Fv (l:aA1):List dQ->Bool
 | []=>true
 |s::m=>s.i7 l&&Fv l m
def aO.i7 (l:aA1):aO->Bool
 | .c x=>x.i7 l
 | .cb m=>Fv l m
 | .undef=>true
def ba.i7 (l:aA1):ba->Bool
 | .cells m=>Cd l m
 | .cg d _=>l.contains d
 |_=>true
def v' (l:aA1):ay->Bool
 | []=>true
 |(_,ch)::B=>ch.i7 l&&v' l B
theorem bC.kB {l:aA1} {s:bC} (h:s.i7 l=true) {c:Nat} (J:s.has c=true):c∈l:=by
 cases s <;>simp only[bC.i7,bC.has,at2,Bool.false_eq_true] at h J
 all_goals first |exact J9 h J |(have:=ar0 J;subst this;exact h)
theorem J' {l:aA1} {c:Nat}: ∀{m:List bC},Cd l m=true->mM c m=true->c∈l
 | [],_,J=>by simp[mM] at J
 |s::m,h,J=>by
  simp only[Cd,vj] at h;simp only[mM,Bool.or_eq_true] at J;exact J.elim (bC.kB h.1) (J' h.2)
theorem dQ.kB {l:aA1} {s:dQ} (h:s.i7 l=true) {c:Nat} (J:s.has c=true):c∈l:=by
 cases s with
 |one s=>exact bC.kB h J
 |agg m=>exact J' h J
 |kc u x=>cases J
theorem Qt {l:aA1} {c:Nat}: ∀{m:List dQ},Fv l m=true->tt c m=true->c∈l
 | [],_,J=>by simp[tt] at J
 |s::m,h,J=>by
  simp only[Fv,vj] at h;simp only[tt,Bool.or_eq_true] at J;exact J.elim (dQ.kB h.1) (Qt h.2)
theorem aO.kB {l:aA1} {s:aO} (h:s.i7 l=true) {c:Nat} (J:s.has c=true):c∈l:=by
 cases s with
 |c s=>exact dQ.kB h J
 |cb m=>exact Qt h J
 |undef=>cases J
theorem ba.kB {l:aA1} {s:ba} (h:s.i7 l=true) {c:Nat} (J:s.has c=true):c∈l:=by
 cases s with
 |cells m=>exact J' h J
 |row e u xs=>cases J
 |map aH aJ es=>cases J
 |val u x=>cases J
 |aF o=>cases J
 |cg d o=>rw[<-ar0 J];exact at2.1 h
theorem xM {l:aA1}: ∀{B:ay},v' l B=true-> ∀{c ch},aj B c=some ch->ch.i7 l=true
 | [],_,c,ch,h=>by cases h
 |(d,x)::B,h,c,ch,J=>by
  simp only[v',vj] at h;rw[cd] at J
  split at J
  .injection J with J;subst J;exact h.1
  .exact xM h.2 J
section
variable {ρ:Nat->bo} {I:Nat->Prop} {w:World}
theorem aaq: ∀{x y:D} {v:Value},Ja x y->gP I w x v->gP I w y v:=by
 intro x y v h aA;unfold Ja at h
 split at h
 .split at h
  .rename_i e;have:=nZ e;subst this h;exact aA
  .exact h.elim
 .subst h;exact aA
 .subst h;exact aA
 .subst h;exact aA
 .subst h;exact aA
 .subst h;exact aA
 .subst h;exact aA
 .subst h;exact aA
 .split at h
  .rename_i e _;subst e;have h:_=_:=h;subst h;exact aA
  .exact h.elim
 .exact h.elim
theorem Qu {s t:bC} {v:Value} (h:ES s t) (aA:d1 ρ I w s v):d1 ρ I w t v:=by
 unfold ES at h
 split at h
 .trivial
 .exact aaq h aA
 .subst h;rw[show v=_ from aA];exact⟨none,0,rfl,aq4 _,aq9 _,fun h=>absurd h (Nat.lt_irrefl 0)⟩
 .subst h;exact aA
theorem Ka: ∀{l m:List bC} {aE:List Value},ET l m->cc ρ I w l aE->cc ρ I w m aE
 | [],[],_,_,h=>h
 |s::l,t::m,_,⟨E,G⟩,⟨v,r,e,g1,g2⟩=>⟨v,r,e,Qu E g1,Ka G g2⟩
 | [],_::_,_,h,_=>h.elim
 |_::_,[],_,h,_=>h.elim
theorem Qv {s t:dQ} {v:Value} (h:EU s t) (aA:gI ρ I w s v):gI ρ I w t v:=by
 unfold EU at h
 split at h
 .exact Qu h aA
 .obtain⟨aE,e,aA⟩:=aA;exact⟨aE,e,Ka h aA⟩
 .trivial
 .split at h
  .rename_i a8 _;subst a8;have h:_=_:=h;subst h;exact aA
  .exact h.elim
 .trivial
 .exact h.elim
theorem Qw: ∀{l m:List dQ} {aE:List Value},Jb l m->iX ρ I w l aE->iX ρ I w m aE
 | [],[],_,_,h=>h
 |s::l,t::m,_,⟨E,G⟩,⟨v,r,e,g1,g2⟩=>⟨v,r,e,Qv E g1,Qw G g2⟩
 | [],_::_,_,h,_=>h.elim
 |_::_,[],_,h,_=>h.elim
theorem wa {s t:aO} {v:Value} (h:tw s t) (aA:cx ρ I w s v):cx ρ I w t v:=by
 unfold tw at h
 split at h
 .exact Qv h aA
 .obtain⟨aE,e,aA⟩:=aA;exact⟨aE,e,Qw h aA⟩
 .exact aA
 .trivial
 .exact h.elim
theorem Kb: ∀{l m:List aO},EV l m->l.length=m.length/\ ∀(i:Nat) (t:aO),m[i]? =some t-> ∃s,l[i]? =some s/\tw s t
 | [],[],_=>⟨rfl,fun i t h=>by simp at h⟩
 |s::l,t::m,⟨E,G⟩=>by
  obtain⟨g1,g2⟩:=Kb G;refine⟨by simp[g1],fun i u a8=>?_⟩
  match i with
  |0=>
   simp only[ar9,aq8] at a8;subst a8;exact⟨s,rfl,E⟩
  |i+1=>exact g2 i u (by simpa using a8)
 | [],_::_,h=>h.elim
 |_::_,[],h=>h.elim
end
theorem Fn.arg {P:Program} {f:FuncId} {args args':List aO} {aI:ay} {bb:aA1} {res:aO} {aN:ay} (h:Fn P f args' aI bb res aN) (ap:EV args args'):Fn P f args aI bb res aN:=by
 obtain⟨E,G⟩:=Kb ap;refine⟨h.1,fun ρ F I w bW b0 ca a3 a4 a5 gD=>h.2 ρ F I w bW b0 ca a3 a4 (a5.trans E) fun i v x aA hx=>?_⟩;obtain⟨s,g1,g2⟩:=G i v aA;exact wa g2 (gD i s x g1 hx)
theorem aar {C:fi} {ds:aA1} {B:ay} {ρ:Nat->bo} {F:Nat->Nat->Prop} {w w':World} (h:Mem ids (C.at ds) B ρ F w) (cE:cP (fun D=>D∈ds) w w'):
  Mem ids (C.at []) B ρ F w'/\cj (b5 (C.at ds) B F w) w (b5 (C.at []) B F w') w':=by
 have hA: ∀b,(C.zt b\/C.qn b\/C.e'.heap.size<=b/\b∉ds)->b∉ds:=fun b O H=>by
  have c2:C.e'.heap.size<=b:=(h.kR.2.2 b H).2.2;rcases O with O |O |O
  .have jC:b < C.e'.heap.size:=h.kR.2.1 b (.inl O);omega
  .have jC:b < C.e'.heap.size:=h.kR.2.1 b (.inr O);omega
  .exact O.2 H
 have aZ:cj (b5 (C.at ds) B F w) w (b5 (C.at []) B F w') w':=fun b O=>
  ⟨⟨Nat.lt_of_lt_of_le O.1 cE.size,O.2.1.imp id fun x=>x.imp id fun x=>⟨x.1,aw2⟩,O.2.2⟩,cE.block b O.1 (hA b O.2.1)⟩
 have bd: ∀c ch,aj B c=some ch-> ∀b,F c b->w'.heap[b]? =w.heap[b]? :=fun c ch J b O=>by
  obtain⟨cC,cF⟩:=h.own c ch J b O;exact cE.block b cC (hA b (.inr cF))
 refine⟨⟨h.fr.trans cE fun i aG H=>?_,fun c ch J=>Holds.ck aZ (bd c ch J) cE.size ch (fun _ _=>rfl) (h.holds c ch J),fun c ch J b O=>?_,h.fj,h.dZ,au7,h.kR.2.1,fun D cp=>by cases cp⟩,aZ⟩
 .have al:C.e'.heap.size<=i:=(h.kR.2.2 i H).2.2;have aG:i < C.e'.heap.size:=aG;omega
 .obtain⟨cC,cF⟩:=h.own c ch J b O;exact⟨Nat.lt_of_lt_of_le cC cE.size,cF.imp id fun x=>⟨x.1,aw2⟩⟩
theorem Qx {F:Fence} {n:Nat} {fn:Func} {tmps:Array Value} {bn:Ending->World->Prop}: ∀(ds:aA1) (w:World),ds.Nodup->(∀D,D∈ds->D < w.heap.size/\w.heap[D]? =some (.deferred (some [])))->
  (∀w',cP (fun D=>D∈ds) w w'->LeavesIn F n P fn tmps bn [] .returning w')->LeavesInM F n P fn tmps bn (ds.map xo) .returning w
 | [],w,_,_,h=>h w (cP.refl _ w)
 |D::ds,w,hn,H,h=>by
  obtain⟨cM,dK⟩:=at0.1 hn;obtain⟨hM,jj⟩:=H D (ar4 ..);have hf:cP (fun b=>b=D) w (w.putObj D (.deferred none)):=⟨rfl,rfl,rfl,Nat.le_of_eq (World.putObj_size).symm,fun k _ Z=>World.putObj_heap_other Z⟩;refine⟨fun e=>(by cases e),.inl ⟨D,w.putObj D (.deferred none),rfl,run_takeDeferred jj,Qx ds _ dK (fun uH aZ=>?_) fun w' qu=>h w' ?_⟩⟩
  .obtain⟨cC,cF⟩:=H uH (aq6 _ aZ);exact⟨by rw[World.putObj_size];exact cC,(World.putObj_heap_other (r:=D) (k:=uH) fun e=>cM (e▸aZ)).trans cF⟩
  .exact(hf.mono fun i _ (aG:i=D)=>by rw[aG];exact ar4 ..).trans qu fun i _ aG=>aq6 _ aG
theorem Qy {F:Fence} {n:Nat} {fn:Func} {bn:Ending->World->Prop} {C:fi} {ds:aA1} {K:aX} {B:ay} {a:Act} {w:World} (ax:fa N ids (C.at ds) K B a w)
  (h: ∀w',fa N ids (C.at []) K B {a with defers:=[]} w'-> ∃v,(results fn a.tmps).run P w'= .ok v w'/\bn (.returned v) w'):LeavesInM F n P fn a.tmps bn a.defers .returning w:=by
 obtain⟨E,G,ρ,b9,ar,au⟩:=ax;rw[G];refine Qx ds w ar.kR.1 (fun D cp=>⟨(ar.kR.2.2 D cp).1,(ar.kR.2.2 D cp).2.1⟩) fun w' qu=>h w' ?_
 obtain⟨bP,aZ⟩:=aar ar qu;exact⟨E,rfl,ρ,b9,bP,au.mono aZ fun _ _ _=>rfl⟩
def Fw (aU:dl) (ids bb:aA1) (jm:List ResultVar) (res:aO) (aN:ay) (e:nY) (K:aX) (B:ay):Prop:=match e with
 | .ex _=>False
 |_=> ∃K' B' r,ab ids K B K' B'/\xL aU K' B' jm=some r/\tw (J8 r) res/\kT B' aN/\(res.i7 (ids++bb)&&v' (ids++bb) aN&&(cm aN).all (fun c=>(ids++bb).contains c))=true
theorem Fn.of (bl:eh P aU) {f:FuncId} {fn:Func} {c:Code} (stops:aA1) (args:List aO) (aI:ay) (bb:aA1) (res:aO) (aN:ay) (hf:P.funcs[f]? =some fn) (O:fn.body=some c) (hn:fn.ntmps=N) (f3:jz P f=true) (J:jF P N c=true) (fG:Nat.ble args.length N=true) (cp:zT P aU N (cm aI)) {jm:List ResultVar} (xN:fn.results.toList=jm)
  (h:jA P aU N (cm aI) stops c (o5 0 args) aI (Fw aU (cm aI) bb jm res aN)):Fn P f args aI bb res aN:=by
 refine⟨f3,?_⟩;intro ρ F I w bW a2 c0 bd eG bZ dx;have fG:=Nat.le_of_ble_eq_true fG;refine Qq (r:=none) (n:=0) (callsIn_of_wp_marks hf O trivial ?_)
 let C:fi:=⟨w,I,fun b=> ∃c ch,aj aI c=some ch/\F c b,ρ,[]⟩
 have sE:cj I w (b5 C aI F w) w:=fun b O=>⟨⟨a2 b O,.inl O,fun c ch J qv=>(bd c ch J b qv).2 O⟩,rfl⟩
 have ar:Mem (cm aI) C aI ρ F w:=⟨cP.refl _ _,fun c ch J=>Holds.ck sE (fun _ _=>rfl) (aq4 _) ch (fun _ _=>rfl) (c0 c ch J),fun c ch J b O=>⟨(bd c ch J b O).1,.inl ⟨c,ch,J,O⟩⟩,eG,fun c _=>rfl,au7,fun b O=>O.elim (a2 b) fun⟨c,ch,J,Ce⟩=>(bd c ch J b Ce).1,fun D cp=>by cases cp⟩;refine zU bl cp stops c _ _ _ J h none (fun _=>rfl) C _ ?_ _ w ⟨by simp[bZ,hn];omega,rfl,ρ,F,ar,fun s=>?_⟩
 .intro e K' B' ds _ U a' w' eb
  cases e with
  |ex i=>exact U.elim
  |_=>
   obtain⟨Qz,jG,r,fZ,aC,ae,h2,pR⟩:=U;refine Qy eb fun w' eb=>?_
   obtain⟨hC,kX,ρ',F',bP,Cf⟩:=fZ N C _ w' eb;obtain⟨aE,dW,hD⟩: ∃aE:List Value,(jm.mapM (tK a'.tmps)).run P w'= .ok aE w'/\iX ρ' (b5 C jG F' w') w' r aE:=Fu bl bP Cf jm r aC
   have jn: ∃x,(results fn a'.tmps).run P w'= .ok x w'/\cx ρ' (b5 C jG F' w') w' (J8 r) x:=by
    have E:fn.results=jm.toArray:=by rw[<-xN]
    have G:(fn.results.mapM (tK a'.tmps)).run P w'= .ok (List.toArray aE) w':=by
     rw[E,List.mapM_toArray];simp[dW]
    have al:results fn a'.tmps=(do let aE<-fn.results.mapM (tK a'.tmps);pure (if h:aE.size=1 then aE[0] else .tuple aE)):=rfl;rw[al]
    match r,aE,hD,G with
    | [],_,e,G=>rw[show _=[] from e] at G;exact⟨.tuple #[],by simp[G],[],rfl,rfl⟩
    | [x],_,⟨v,s,e,aA,ax⟩,G=>
     have ax:s=[]:=ax;subst ax e;exact⟨v,by simp[G],aA⟩
    |x::y::r,_,⟨v,s,e,aA,v2,bF,ao,uM,fR⟩,G=>
     subst ao e;exact⟨.tuple (List.toArray (v::v2::bF)),by simp[G],_,rfl,v,_,rfl,aA,v2,bF,rfl,uM,fR⟩
   obtain⟨x,hx,sC⟩:=jn;have sC:=wa ae sC;simp only[vj] at pR
   let uN:Nat->bo:=fun c=>if c∈bb then ρ' c else ρ c
   have rA: ∀c,c∈cm aI++bb->uN c=ρ' c:=fun c J=>by
    show(if c∈bb then ρ' c else ρ c)=ρ' c
    split
    .rfl
    .rename_i hn;rcases as4.1 J with h |h
     .exact(bP.dZ c h).symm
     .exact absurd h hn
   refine⟨x,hx,x,uN,F',rfl,bP.fr,fun c J=>if_neg J,b5 C jG F' w',?_,fun b O=>⟨O.1,?_⟩,?_,?_,?_,?_⟩
   .intro b O;have wb: ¬C.qn b:=fun⟨c,ch,E,G⟩=>(bd c ch E b G).2 O
    refine⟨⟨Nat.lt_of_lt_of_le (a2 b O) bP.fr.size,.inl O,fun c ch J qv=>?_⟩,bP.fr.block b (a2 b O) wb⟩;rcases(bP.own c ch J b qv).2 with h |h
    .exact wb h
    .have:=a2 b O;exact absurd h.1 (Nat.not_le.2 this)
   .rcases O.2.1 with h |h |h
    .exact .inl h
    .exact .inr (.inl h)
    .exact .inr (.inr h.1)
   .intro c ch J
    have Z:c∈cm aI++bb:=by
     have:=as9.1 pR.2 c (gw.2 ⟨ch,J⟩);simpa only[at2] using this
    rw[rA c Z];exact Holds.ck (cj.refl _ _) (fun _ _=>rfl) (aq4 _) ch (fun d H=>rA d (ba.kB (xM pR.1.2 J) H)) (bP.holds c ch (kz h2 J))
   .intro c ch J b O;have cQ:=kz h2 J;exact⟨(bP.own c ch cQ b O).1,fun aG=>aG.2.2 c ch cQ O,(bP.own c ch cQ b O).2.imp id fun x=>x.1⟩
   .exact fun c b7 ch ch' b E G=>bP.fj c b7 ch ch' b (kz h2 E) (kz h2 G)
   .exact cx.mono (cj.refl _ _) res x (fun c J=>rA c (aO.kB pR.1.1 J)) sC
 .rw[Cb];simp only[aq9,if_true,Nat.sub_zero]
  cases ax:args[s]? with
  |none=>trivial
  |some v=>
   have bx:s < bW.length:=by rw[bZ];exact(ar1.1 ax).1
   simp only[Option.getD_some];have hx:bW[s]? =some bW[s]:=oj bx;have:=cx.mono sE v _ (fun _ _=>rfl) (dx s v _ ax hx);simpa[Array.getElem?_append,bx,hx] using this
end
end
section
section
variable {ids:aA1} {K:aX} {B:ay} {C:fi} {ρ:Nat->bo} {F:Nat->Nat->Prop} {w:World}
def zW (K:aX):aX->Prop
 | []=>True
 |(s,v)::l=>tw (dI K s) v/\zW K l
theorem Kc: ∀{K' K:aX},zW K K'-> ∀s,tw (dI K s) (dI K' s)\/dI K' s= .c (.one .any)
 | [],K,h,s=>.inr rfl
 |(t,v)::K',K,h,s=>by
  rw[kp]
  split
  .rename_i e;subst e;exact .inl h.1
  .exact Kc h.2 s
theorem ab.sub {K':aX} {B':ay} (dq:zW K K') (dy:kT B B'):ab ids K B K' B':=by
 rintro N C a w ⟨E,G,ρ,F,ar,au⟩
 obtain⟨bP,aZ⟩:=ar.step (B':=B') (ρ':=ρ) (F':=F) (w':=w) (fun c=>aj B' c=none) (fun _=>False) (cP.refl _ _) (fun c ch J _=>kz dy J) (fun _ _=>rfl) (fun _ _=>rfl) (fun _ _ h=>h) (fun _ h=>h.elim) (fun _ _ _ _ _ _ h=>h)
  (fun c ch J hn=>by rw[hn] at J;cases J) (fun c ch J hn=>by rw[hn] at J;cases J) (fun c b7 ch ch' b J _ hn=>by rw[hn] at J;cases J)
 refine⟨E,G,ρ,F,bP,fun s=>?_⟩;rcases Kc dq s with h |h
 .exact cx.mono aZ _ _ (fun _ _=>rfl) (wa h (au s))
 .rw[h];trivial
def bC.d3 (c:Nat) (x:D):bC->bC
 | .own b=>match Nat.beq b c with
  |true=>.d x
  |false=>.own b
 |s=>s
def Fx (c:Nat) (x:D):List bC->List bC
 | []=>[]
 |s::l=>s.d3 c x::Fx c x l
def dQ.d3 (c:Nat) (x:D):dQ->dQ
 | .one s=>.one (s.d3 c x)
 | .agg l=>.agg (Fx c x l)
 | .kc u y=>.kc u y
def Kd (c:Nat) (x:D):List dQ->List dQ
 | []=>[]
 |s::l=>s.d3 c x::Kd c x l
def aO.d3 (c:Nat) (x:D):aO->aO
 | .c s=>.c (s.d3 c x)
 | .cb l=>.cb (Kd c x l)
 | .undef=>.undef
def Fy (c:Nat) (x:D):aX->aX
 | []=>[]
 |(s,v)::K=>(s,v.d3 c x)::Fy c x K
def ba.d3 (c:Nat) (x:D):ba->ba
 | .cells l=>.cells (Fx c x l)
 |ch=>ch
def qw (c:Nat) (x:D):ay->ay
 | []=>[]
 |(b,ch)::B=>match Nat.beq b c with
  |true=>qw c x B
  |false=>(b,ch.d3 c x)::qw c x B
theorem QA {c:Nat} {x:D}: ∀(K:aX) (s:Nat),dI (Fy c x K) s=(dI K s).d3 c x
 | [],s=>rfl
 |(t,v)::K,s=>by
  simp only[Fy];rw[kp,kp,QA K s]
  split <;>rfl
theorem xO {c:Nat} {x:D}: ∀(B:ay) (d:Nat),aj (qw c x B) d=if c=d then none else(aj B d).map (·.d3 c x)
 | [],d=>by simp[qw,aj]
 |(b,ch)::B,d=>by
  unfold qw
  split
  .rename_i e;have:=ar0 e;subst this;rw[xO B d,cd]
   split <;>rfl
  .rename_i e;have a6:b≠c:=fun h=>by subst h;simp at e
   rw[cd,cd,xO B d]
   by_cases h:b=d
   .subst h;rw[if_pos rfl,if_pos rfl,if_neg (Ne.symm a6)];rfl
   .rw[if_neg h,if_neg h]
section
variable {I I':Nat->Prop} {c:Nat} {x:D}
theorem d1.d3 (U:cj I w I' w) (hx:gP I' w x (ρ c).eK) (s:bC) (v:Value) (h:d1 ρ I w s v):d1 ρ I' w (s.d3 c x) v:=by
 cases s with
 |own b=>
  unfold bC.d3;simp only
  split
  .rename_i e;have:=ar0 e;subst this;rw[show v=_ from h];exact hx
  .exact h
 |d y=>exact d1.mono (ρ':=ρ) U (.d y) v (fun _ _=>rfl) h
 |el u y o=>exact d1.mono (ρ':=ρ) U (.el u y o) v (fun _ _=>rfl) h
 |cY f l=>exact d1.mono (ρ':=ρ) U (.cY f l) v (fun _ _=>rfl) h
 |_=>exact h
theorem cc.d3 (U:cj I w I' w) (hx:gP I' w x (ρ c).eK): ∀(l:List bC) (aE:List Value),cc ρ I w l aE->cc ρ I' w (Fx c x l) aE
 | [],_,h=>h
 |s::l,_,⟨v,r,e,E,G⟩=>⟨v,r,e,d1.d3 U hx s v E,cc.d3 U hx l r G⟩
theorem gI.d3 (U:cj I w I' w) (hx:gP I' w x (ρ c).eK) (s:dQ) (v:Value) (h:gI ρ I w s v):gI ρ I' w (s.d3 c x) v:=by
 cases s with
 |one s=>exact d1.d3 U hx s v h
 |agg l=>obtain⟨aE,e,h⟩:=h;exact⟨aE,e,cc.d3 U hx l aE h⟩
 |kc u y=>obtain⟨aE,e,E,G⟩:=h;exact⟨aE,e,E,cq.mono U u y _ _ (fun _ _ h=>h) G⟩
theorem iX.d3 (U:cj I w I' w) (hx:gP I' w x (ρ c).eK): ∀(l:List dQ) (aE:List Value),iX ρ I w l aE->iX ρ I' w (Kd c x l) aE
 | [],_,h=>h
 |s::l,_,⟨v,r,e,E,G⟩=>⟨v,r,e,gI.d3 U hx s v E,iX.d3 U hx l r G⟩
theorem cx.d3 (U:cj I w I' w) (hx:gP I' w x (ρ c).eK) (s:aO) (v:Value) (h:cx ρ I w s v):cx ρ I' w (s.d3 c x) v:=by
 cases s with
 |c s=>exact gI.d3 U hx s v h
 |cb l=>obtain⟨aE,e,h⟩:=h;exact⟨aE,e,iX.d3 U hx l aE h⟩
 |undef=>exact h
end
theorem Mem.d3 (ar:Mem ids C B ρ F w) {c:Nat} {e:TypeId} {u:bA} {xs:List (aa u)} (J:aj B c=some (.row e u xs)):
  Mem ids C (qw c (.cf u xs) B) ρ F w/\cj (b5 C B F w) w (b5 C (qw c (.cf u xs) B) F w) w/\gP (b5 C (qw c (.cf u xs) B) F w) w (.cf u xs) (ρ c).eK:=by
 have bj:=ar.holds c _ J
 have zX: ∀b,b5 C B F w b->b5 C (qw c (.cf u xs) B) F w b:=fun b ⟨E,G,al⟩=>⟨E,G,fun d ch H O=>by
  rw[xO] at H
  split at H
  .cases H
  .obtain⟨ch',dn,_⟩:=at6.1 H;exact al d ch' dn O⟩
 have qt: ∀b,F c b->b5 C (qw c (.cf u xs) B) F w b:=fun b O=>by
  obtain⟨E,G⟩:=ar.own c _ J b O;refine⟨E,.inr G,fun d ch H dt=>?_⟩;rw[xO] at H
  split at H
  .cases H
  .rename_i a6;obtain⟨ch',dn,_⟩:=at6.1 H;exact ar.fj c d _ ch' b J dn a6 O dt
 have dx:gP (b5 C (qw c (.cf u xs) B) F w) w (.cf u xs) (ρ c).eK:=BX bj zX qt;have aZ:cj (b5 C B F w) w (b5 C (qw c (.cf u xs) B) F w) w:=fun b O=>⟨zX b O,rfl⟩
 refine⟨⟨ar.fr,fun d ch H=>?_,fun d ch H=>?_,fun d cT ch ch' b H dn=>?_,ar.dZ,ar.kR⟩,aZ,dx⟩
 .rw[xO] at H
  split at H
  .cases H
  .obtain⟨ch',dn,rfl⟩:=at6.1 H;have:=ar.holds d ch' dn
   cases ch' with
   |cells l=>
    obtain⟨E,aE,T,G,al⟩:=this;exact⟨E,aE,T,G,cc.d3 aZ dx l aE al⟩
   |row e u xs=>exact Holds.ck aZ (fun _ _=>rfl) (aq4 _) _ (fun _ _=>rfl) this
   |map aH aJ es=>exact Holds.ck aZ (fun _ _=>rfl) (aq4 _) _ (fun _ _=>rfl) this
   |val u x=>exact Holds.ck aZ (fun _ _=>rfl) (aq4 _) _ (fun _ _=>rfl) this
   |aF o=>exact Holds.ck aZ (fun _ _=>rfl) (aq4 _) _ (fun _ _=>rfl) this
   |cg d o=>exact Holds.ck aZ (fun _ _=>rfl) (aq4 _) (.cg d o) (fun _ _=>rfl) this
 .rw[xO] at H
  split at H
  .cases H
  .obtain⟨ch',dn,_⟩:=at6.1 H;exact ar.own d ch' dn
 .rw[xO] at H dn
  split at H
  .cases H
  .split at dn
   .cases dn
   .obtain⟨cJ,E,_⟩:=at6.1 H;obtain⟨cG,G,_⟩:=at6.1 dn;exact ar.fj d cT cJ cG b E G
theorem ab.d3 (c:Nat) {e:TypeId} {u:bA} {xs:List (aa u)} (J:aj B c=some (.row e u xs)):ab ids K B (Fy c (.cf u xs) K) (qw c (.cf u xs) B):=by
 rintro N C a w ⟨E,G,ρ,F,ar,au⟩;obtain⟨bP,aZ,H⟩:=ar.d3 J;exact⟨E,G,ρ,F,bP,fun s=>by rw[QA];exact cx.d3 aZ H _ _ (au s)⟩
theorem ab.nil (s c:Nat) (e:TypeId) (u:bA) (ax:dI K s= .c (.one .dH)) (hf:g9 ids K B c=true):ab ids K B ((s,.c (.one (.own c)))::K) ((c,.row e u [])::B):=by
 rintro N C a w ⟨E,G,ρ,F,ar,au⟩;have cE:=kV hf;obtain⟨bP,aZ⟩:=ar.make (ch:=.row e u []) (w':=w) hf (Below.refl _ _) ⟨0,none,0,0⟩ (fun _=>False) (fun b h=>h.elim) (fun I _ _=>⟨fun b=>by simp[bo.eK,Value.ownBlock],fun b O=>by simp[bo.eK,Value.ownBlock] at O,[],World.ownsRow_nil _ _ _ _,gX.nil u⟩);refine⟨E,G,_,_,bP,fun t=>?_⟩;rw[kp]
 split
 .rename_i e;subst e;have:=au s;rw[ax] at this;rw[show a.tmps.getD s undef= .slice none 0 0 from this];simp only[cx,gI,d1,dd,bo.eK]
 .exact cx.mono aZ _ _ (fun d H=>dm _ _ (fun e=>by subst e;rw[cE.1 t] at H;cases H)) (au t)
theorem ab.wc (b j c:Nat) (e:TypeId) (u:bA) {l:List bC} (O:aj B b=some (.cells l)) (V:l[j]? =some .dH) (hf:g9 ids K B c=true):ab ids K B K ((b,.cells (l.set j (.own c)))::(c,.row e u [])::B):=by
 rintro N C a w ⟨E,G,ρ,F,ar,au⟩;have cE:=kV hf;obtain⟨bP,aZ⟩:=ar.make (ch:=.row e u []) (w':=w) hf (Below.refl _ _) ⟨0,none,0,0⟩ (fun _=>False) (fun b h=>h.elim) (fun I _ _=>⟨fun b=>by simp[bo.eK,Value.ownBlock],fun b O=>by simp[bo.eK,Value.ownBlock] at O,[],World.ownsRow_nil _ _ _ _,gX.nil u⟩);have Fz:c≠b:=fun e=>by subst e;rw[cE.2.1] at O;cases O
 have dt:aj ((c,ba.row e u [])::B) b=some (.cells l):=by rw[cd,if_neg Fz];exact O
 have bj:=bP.holds b _ dt
 obtain⟨iY,uO⟩:=bP.h0 (ch:=.cells (l.set j (.own c))) dt (cP.refl _ _) (fun I U=>by
  obtain⟨g1,aE,T,g2,c2⟩:=bj;refine⟨g1,aE,T,g2,?_⟩;have c2:=cc.mono (ρ':=dc ρ c ⟨0,none,0,0⟩) U l aE (fun _ _=>rfl) c2
  have key: ∀(l:List bC) (aE:List Value) (j:Nat),l[j]? =some .dH->cc (dc ρ c ⟨0,none,0,0⟩) I w l aE->cc (dc ρ c ⟨0,none,0,0⟩) I w (l.set j (.own c)) aE:=fun l=>by
   induction l with
   |nil=>intro aE j V;simp at V
   |cons s l bu=>
    rintro _ j V ⟨v,r,rfl,cC,cF⟩
    match j with
    |0=>
     simp only[ar9,aq8] at V;subst V;refine⟨v,r,rfl,?_,cF⟩;rw[show v= .slice none 0 0 from cC];simp only[d1,dd,bo.eK]
    |j+1=>exact⟨v,r,rfl,cC,bu r j ay0 cF⟩
  exact key l aE j V c2)
 refine⟨E,G,_,_,iY,fun t=>?_⟩;exact cx.mono (aZ.trans uO) _ _ (fun d H=>dm _ _ (fun e=>by subst e;rw[cE.1 t] at H;cases H)) (au t)
def FA (c d:Nat):List kQ->List kQ
 | []=>[]
 | .p b o::l=>(match Nat.beq b c with
  |true=>.p d o
  |false=>.p b o)::FA c d l
 | .d x::l=>.d x::FA c d l
def bC.aV (c d:Nat):bC->bC
 | .ptr b o=>match Nat.beq b c with
  |true=>.ptr d o
  |false=>.ptr b o
 | .own b=>match Nat.beq b c with
  |true=>.own d
  |false=>.own b
 | .gj b s i o=>match Nat.beq b c with
  |true=>.gj d s i o
  |false=>.gj b s i o
 | .os b s o n=>match Nat.beq b c with
  |true=>.os d s o n
  |false=>.os b s o n
 | .mp b=>match Nat.beq b c with
  |true=>.mp d
  |false=>.mp b
 | .cY f l=>.cY f (FA c d l)
 |s=>s
def FB (c d:Nat):List bC->List bC
 | []=>[]
 |s::l=>s.aV c d::FB c d l
def dQ.aV (c d:Nat):dQ->dQ
 | .one s=>.one (s.aV c d)
 | .agg l=>.agg (FB c d l)
 | .kc u x=>.kc u x
def Ke (c d:Nat):List dQ->List dQ
 | []=>[]
 |s::l=>s.aV c d::Ke c d l
def aO.aV (c d:Nat):aO->aO
 | .c s=>.c (s.aV c d)
 | .cb l=>.cb (Ke c d l)
 | .undef=>.undef
def FC (c d:Nat):aX->aX
 | []=>[]
 |(s,v)::K=>(s,v.aV c d)::FC c d K
def ba.aV (c d:Nat):ba->ba
 | .cells l=>.cells (FB c d l)
 | .cg b o=>match Nat.beq b c with
  |true=>.cg d o
  |false=>.cg b o
 |ch=>ch
def wd (c d:Nat):ay->ay
 | []=>[]
 |(b,ch)::B=>match Nat.beq b c with
  |true=>(d,ch.aV c d)::wd c d B
  |false=>(b,ch.aV c d)::wd c d B
theorem QB {c d:Nat}: ∀(K:aX) (s:Nat),dI (FC c d K) s=(dI K s).aV c d
 | [],s=>rfl
 |(t,v)::K,s=>by
  simp only[FC];rw[kp,kp,QB K s]
  split <;>rfl
theorem QC {c d:Nat}: ∀(B:ay),aj B d=none-> ∀b,aj (wd c d B) b=if b=d then(aj B c).map (·.aV c d) else if b=c then none else(aj B b).map (·.aV c d)
 | [],_,b=>by simp[wd,aj]
 |(t,ch)::B,H,b=>by
  rw[cd] at H;have QD:t≠d:=fun e=>by rw[if_pos e] at H;cases H
  rw[if_neg QD] at H;have bu:=QC (c:=c) B H b;unfold wd
  split
  .rename_i e;have:=ar0 e;subst this;rw[cd,cd,if_pos rfl,bu,cd]
   by_cases E:b=d
   .subst E;simp
   .rw[if_neg (Ne.symm E),if_neg E,if_neg E]
    by_cases G:b=t
    .rw[if_pos G,if_pos G]
    .rw[if_neg G,if_neg G,if_neg (Ne.symm G)]
  .rename_i e;have a6:t≠c:=fun h=>by subst h;simp at e
   rw[cd,bu,cd,cd,if_neg a6]
   by_cases E:b=d
   .subst E;rw[if_neg QD,if_pos rfl,if_pos rfl]
   .rw[if_neg E,if_neg E]
    by_cases G:b=c
    .subst G;rw[if_neg a6,if_pos rfl,if_pos rfl]
    .rw[if_neg G,if_neg G]
     by_cases al:t=b
     .rw[if_pos al,if_pos al];rfl
     .rw[if_neg al,if_neg al]
section
variable {I:Nat->Prop} {c d:Nat}
theorem hZ.aV: ∀(l:List kQ) (aE:List Value),mh d l=false->hZ ρ I w l aE->hZ (dc ρ d (ρ c)) I w (FA c d l) aE
 | [],_,_,h=>h
 | .p b o::l,_,H,⟨v,r,e,E,G⟩=>by
  simp only[mh,Bool.or_eq_false_iff] at H;refine⟨v,r,e,?_,hZ.aV l r H.2 G⟩
  split
  .rename_i e;have:=ar0 e;subst this;simp only[xn,dd] at E⊢;exact E
  .simp only[xn] at E⊢;rw[dm _ _ (fun e=>by subst e;simp at H)];exact E
 | .d x::l,_,H,⟨v,r,e,E,G⟩=>⟨v,r,e,E,hZ.aV l r (by simpa[mh] using H) G⟩
theorem d1.aV (s:bC) (v:Value) (H:s.has d=false) (h:d1 ρ I w s v):d1 (dc ρ d (ρ c)) I w (s.aV c d) v:=by
 have key: ∀b,Nat.beq b d=false->(match Nat.beq b c with |true=>dc ρ d (ρ c) d=ρ b |false=>dc ρ d (ρ c) b=ρ b):=fun b O=>by
  split
  .rename_i e;rw[dd,ar0 e]
  .exact dm _ _ (fun e=>by subst e;simp at O)
 cases s with
 |ptr b o=>
  have:=key b H;unfold bC.aV;simp only
  split <;>rename_i e <;>rw[e] at this <;>simp only at this <;>simp only[d1] at h⊢ <;>rw[this] <;>exact h
 |own b=>
  have:=key b H;unfold bC.aV;simp only
  split <;>rename_i e <;>rw[e] at this <;>simp only at this <;>simp only[d1] at h⊢ <;>rw[this] <;>exact h
 |gj b s i o=>
  have:=key b H;unfold bC.aV;simp only
  split <;>rename_i e <;>rw[e] at this <;>simp only at this <;>simp only[d1] at h⊢ <;>rw[this] <;>exact h
 |os b s o n=>
  have:=key b H;unfold bC.aV;simp only
  split <;>rename_i e <;>rw[e] at this <;>simp only at this <;>simp only[d1] at h⊢ <;>rw[this] <;>exact h
 |mp b=>
  have:=key b H;unfold bC.aV;simp only
  split <;>rename_i e <;>rw[e] at this <;>simp only at this <;>simp only[d1] at h⊢ <;>rw[this] <;>exact h
 |d y=>exact h
 |el u y o=>exact h
 |cY f l=>obtain⟨aE,e,h⟩:=h;exact⟨aE,e,hZ.aV l aE H h⟩
 |dH=>exact h
 |bM v=>exact h
 |any=>exact h
theorem cc.aV: ∀(l:List bC) (aE:List Value),mM d l=false->cc ρ I w l aE->cc (dc ρ d (ρ c)) I w (FB c d l) aE
 | [],_,_,h=>h
 |s::l,_,H,⟨v,r,e,E,G⟩=>by
  simp only[mM,Bool.or_eq_false_iff] at H;exact⟨v,r,e,d1.aV s v H.1 E,cc.aV l r H.2 G⟩
theorem gI.aV (s:dQ) (v:Value) (H:s.has d=false) (h:gI ρ I w s v):gI (dc ρ d (ρ c)) I w (s.aV c d) v:=by
 cases s with
 |one s=>exact d1.aV s v H h
 |agg l=>obtain⟨aE,e,h⟩:=h;exact⟨aE,e,cc.aV l aE H h⟩
 |kc u x=>exact h
theorem iX.aV: ∀(l:List dQ) (aE:List Value),tt d l=false->iX ρ I w l aE->iX (dc ρ d (ρ c)) I w (Ke c d l) aE
 | [],_,_,h=>h
 |s::l,_,H,⟨v,r,e,E,G⟩=>by
  simp only[tt,Bool.or_eq_false_iff] at H;exact⟨v,r,e,gI.aV s v H.1 E,iX.aV l r H.2 G⟩
theorem cx.aV (s:aO) (v:Value) (H:s.has d=false) (h:cx ρ I w s v):cx (dc ρ d (ρ c)) I w (s.aV c d) v:=by
 cases s with
 |c s=>exact gI.aV s v H h
 |cb l=>obtain⟨aE,e,h⟩:=h;exact⟨aE,e,iX.aV l aE H h⟩
 |undef=>exact h
end
theorem ab.aV (c d:Nat) (hf:g9 ids K B d=true):ab ids K B (FC c d K) (wd c d B):=by
 rintro N C a w ⟨E,G,ρ,F,ar,au⟩;obtain⟨io,jB,pL,pM⟩:=kV hf;have B4:=QC (c:=c) (d:=d) B jB
 have back: ∀b ch,aj (wd c d B) b=some ch-> ∃eL cB,aj B eL=some cB/\ch=cB.aV c d/\dc F d (F c) b=F eL/\dc ρ d (ρ c) b=ρ eL/\((b=d/\eL=c)\/(b≠d/\b≠c/\eL=b)):=fun b ch O=>by
  rw[B4] at O
  split at O
  .rename_i e;subst e;obtain⟨cB,h,rfl⟩:=at6.1 O;exact⟨c,cB,h,rfl,dd _ _ _,dd _ _ _,.inl ⟨rfl,rfl⟩⟩
  .rename_i e
   split at O
   .cases O
   .rename_i ao;obtain⟨cB,h,rfl⟩:=at6.1 O;exact⟨b,cB,h,rfl,dm _ _ e,dm _ _ e,.inr ⟨e,ao,rfl⟩⟩
 have aZ:cj (b5 C B F w) w (b5 C (wd c d B) (dc F d (F c)) w) w:=fun b ⟨cC,cF,dD⟩=>⟨⟨cC,cF,fun e ch U bd=>by
  obtain⟨eL,cB,g1,_,g2,_⟩:=back e ch U;rw[g2] at bd;exact dD eL cB g1 bd⟩,rfl⟩
 refine⟨E,G,dc ρ d (ρ c),dc F d (F c),⟨ar.fr,fun b ch O=>?_,fun b ch O x hx=>?_,fun b ea ch ch' x O dt a6 hx dM=>?_,fun e U=>?_,ar.kR⟩,fun s=>?_⟩
 .obtain⟨eL,cB,g1,rfl,g2,c2,_⟩:=back b ch O;rw[g2,c2];have:=ar.holds eL cB g1;have fH:=pL eL cB g1
  cases cB with
  |cells l=>
   obtain⟨ce,aE,T,cR,er⟩:=this;exact⟨ce,aE,T,cR,cc.mono aZ _ _ (fun _ _=>rfl) (cc.aV l aE fH er)⟩
  |row e u xs=>exact Holds.ck (ρ':=ρ) aZ (fun _ _=>rfl) (aq4 _) (.row e u xs) (fun _ _=>rfl) this
  |map aH aJ es=>exact Holds.ck (ρ':=ρ) aZ (fun _ _=>rfl) (aq4 _) (.map aH aJ es) (fun _ _=>rfl) this
  |val u x=>exact Holds.ck (ρ':=ρ) aZ (fun _ _=>rfl) (aq4 _) (.val u x) (fun _ _=>rfl) this
  |aF o=>exact Holds.ck (ρ':=ρ) aZ (fun _ _=>rfl) (aq4 _) (.aF o) (fun _ _=>rfl) this
  |cg j o=>
   have G:=Holds.ck (ρ':=ρ) aZ (fun _ _=>rfl) (aq4 _) (.cg j o) (fun _ _=>rfl) this;unfold ba.aV;simp only
   split
   .rename_i e;have:=ar0 e;subst this;simp only[Holds,dd] at G⊢;exact G
   .have V:j≠d:=fun e=>by subst e;simp[ba.has] at fH
    simp only[Holds] at G⊢;rw[dm _ _ V];exact G
 .obtain⟨eL,cB,g1,_,g2,_⟩:=back b ch O;rw[g2] at hx;exact ar.own eL cB g1 x hx
 .obtain⟨eL,cB,g1,_,g2,_,jC⟩:=back b ch O;obtain⟨b1,i3,ce,_,cR,_,eQ⟩:=back ea ch' dt;rw[g2] at hx;rw[cR] at dM;refine ar.fj eL b1 cB i3 x g1 ce (fun e=>?_) hx dM;subst e;rcases jC with⟨af,ao⟩ |⟨af,ao,bm⟩ <;>rcases eQ with⟨c6,f2⟩ |⟨c6,f2,h1⟩
  .exact a6 (af.trans c6.symm)
  .exact f2 (h1.symm.trans ao)
  .exact ao (bm.symm.trans f2)
  .exact a6 (bm.symm.trans h1)
 .rw[dm _ _ (fun b6=>by subst b6;exact pM U)];exact ar.dZ e U
 .rw[QB];exact cx.mono aZ _ _ (fun _ _=>rfl) (cx.aV _ _ (io s) (au s))
end
theorem bk.go {P:Program} {aU:dl} {N:Nat} {ids:aA1} {K K':aX} {B B':ay} {Q:nY->aX->ay->Prop} {c:Code} (bl:eh P aU) (cp:zT P aU N ids) (stops:aA1) (J:jF P N c=true) (h:ab ids K B K' B') (cn:jA P aU N ids stops c K' B' Q):bk P N ids c K B Q:=
 bk.le h (zU bl cp stops c K' B' Q J cn)
end
section
section fold
variable {T mU aas:Type} (get:mU->Nat->aas) (jH:T->mU->mU) (uP:T->Nat->Prop)
def fU (m:Nat->Bool):Nat->List T->mU->mU
 |_,[],x=>x
 |i,t::l,x=>fU m (i+1) l (if m i then jH t x else x)
variable (E: ∀t x s,¬uP t s->get (jH t x) s=get x s) (G: ∀t x y s,get x s=get y s->get (jH t x) s=get (jH t y) s)
include E G in
theorem zY (m gx:Nat->Bool) (s:Nat): ∀(l:List T) (i:Nat) (x y:mU),(∀j t,l[j]? =some t->uP t s->m (i+j)=gx (i+j))->get x s=get y s->get (fU jH m i l x) s=get (fU jH gx i l y) s
 | [],i,x,y,_,U=>U
 |t::l,i,x,y,h,U=>by
  unfold fU;refine zY m gx s l (i+1) _ _ (fun j u V a8=>by rw[show i+1+j=i+(j+1) by omega];exact h (j+1) u ay0 a8) ?_
  by_cases cn:uP t s
  .have:=h 0 t rfl cn;rw[Nat.add_zero] at this;rw[this]
   split
   .exact G t x y s U
   .exact U
  .have af:get (if m i then jH t x else x) s=get x s:=by split;exact E t x s cn;rfl
   have ao:get (if gx i then jH t y else y) s=get y s:=by split;exact E t y s cn;rfl
   rw[af,ao,U]
include E G in
theorem Kf (m:Nat->Bool) (k:Nat) (s:Nat): ∀(l:List T) (i:Nat) (x:mU) (t:T),l[k]? =some t->m (i+k)=false->(∀j u,k < j->l[j]? =some u->m (i+j)=true->uP t s-> ¬uP u s)->
  get (fU jH (fun j=>m j||j == i+k) i l x) s=get (jH t (fU jH m i l x)) s
 | [],i,x,t,Z,_,_=>by simp at Z
 |u::l,i,x,t,Z,aw,ap=>by
  unfold fU
  match k with
  |0=>
   simp only[ar9,aq8] at Z;subst Z;rw[Nat.add_zero] at aw;simp only[Nat.add_zero,aw,BEq.rfl,Bool.or_true,if_true,Bool.false_eq_true,if_false]
   by_cases cn:uP u s
   .
    have af: ∀y,get (fU jH (fun j=>m j||j == i) (i+1) l y) s=get (fU jH (fun _=>false) (i+1) l y) s:=fun y=>
     zY get jH uP E G _ _ s l (i+1) y y (fun j v V aA=>by
      have a6:(i+1+j == i)=false:=by rw[beq_eq_false_iff_ne];omega
      rw[a6,Bool.or_false]
      cases n9:m (i+1+j) with
      |false=>rfl
      |true=>exact absurd aA (ap (j+1) v aw0 ay0 (by rw[show i+(j+1)=i+1+j by omega];exact n9) cn)) rfl
    have ao: ∀y,get (fU jH m (i+1) l y) s=get (fU jH (fun _=>false) (i+1) l y) s:=fun y=>
     zY get jH uP E G _ _ s l (i+1) y y (fun j v V aA=>by
      cases n9:m (i+1+j) with
      |false=>rfl
      |true=>exact absurd aA (ap (j+1) v aw0 ay0 (by rw[show i+(j+1)=i+1+j by omega];exact n9) cn)) rfl
    have bm: ∀(l:List T) (i:Nat) (y:mU),fU jH (fun _=>false) i l y=y:=fun l=>by
     induction l with
     |nil=>exact fun _ _=>rfl
     |cons v l bu=>intro i y;unfold fU;simp[bu]
    rw[af,bm];exact G u x _ s (by rw[ao,bm])
   .rw[E u _ s cn]
    exact zY get jH uP E G _ _ s l (i+1) _ _ (fun j v V aA=>by
     have a6:(i+1+j == i)=false:=by rw[beq_eq_false_iff_ne];omega
     rw[a6,Bool.or_false]) (E u x s cn)
  |k+1=>
   have a6:(i == i+(k+1))=false:=by rw[beq_eq_false_iff_ne];omega
   simp only[a6,Bool.or_false];have:=Kf m k s l (i+1) (if m i=true then jH u x else x) t (by simpa using Z) (by rw[show i+1+k=i+(k+1) by omega];exact aw) (fun j v V aA aat cn=>ap (j+1) v aw0 ay1 (by rw[show i+(j+1)=i+1+j by omega];exact aat) cn);rw[<-this]
   have e:(fun j=>m j||j == i+1+k)=(fun j=>m j||j == i+(k+1)):=by
    funext j
    rw[show i+1+k=i+(k+1) by omega]
   rw[e]
end fold
section
variable {P:Program} {aU:dl} {N:Nat} {ids:aA1}
abbrev hN:=Oper×kU
def hO (t:hN) (K:aX):aX:=mO t.1.dst t.2.v K
def jI (t:hN) (B:ay):ay:=hl t.2.e.hL B
def FD (t:hN) (s:Nat):Prop:=t.1.dst=some s
def QE (t:hN) (s:Nat):Prop:=s∈Fb t.2.e
theorem QF (t:hN) (K:aX) (s:Nat) (h: ¬FD t s):dI (hO t K) s=dI K s:=by
 unfold hO mO;unfold FD at h
 split
 .rename_i d e;rw[kp,if_neg (fun x=>h (by rw[e,x]))]
 .rfl
theorem QG (t:hN) (K K':aX) (s:Nat) (h:dI K s=dI K' s):dI (hO t K) s=dI (hO t K') s:=by
 unfold hO mO
 split
 .rw[kp,kp,h]
 .exact h
theorem FE: ∀(l:List (Nat×Option ba)) (B B':ay) (s:Nat),aj B s=aj B' s->aj (hl l B) s=aj (hl l B') s
 | [],B,B',s,h=>h
 |(c,none)::l,B,B',s,h=>FE l _ _ s (by rw[hv,hv,h])
 |(c,some ch)::l,B,B',s,h=>FE l _ _ s (by rw[cd,cd,h])
theorem FF: ∀(l:List (Nat×Option ba)) (B:ay) (s:Nat),s∉l.map (·.1)->aj (hl l B) s=aj B s
 | [],B,s,h=>rfl
 |(c,none)::l,B,s,h=>by
  simp only[ar8,aq7,not_or] at h;unfold hl;rw[FF l _ s h.2,hv,if_neg (Ne.symm h.1)]
 |(c,some ch)::l,B,s,h=>by
  simp only[ar8,aq7,not_or] at h;unfold hl;rw[FF l _ s h.2,cd,if_neg (Ne.symm h.1)]
theorem fa.congr {C:fi} {K K':aX} {B B':ay} {a:Act} {w:World} (dq: ∀s,dI K' s=dI K s) (dy: ∀c,aj B' c=aj B c) (h:fa N ids C K B a w):fa N ids C K' B' a w:=by
 obtain⟨E,G,ρ,F,ar,au⟩:=h
 have a2:b5 C B' F w=b5 C B F w:=by
  funext b
  simp only[b5,dy]
 refine⟨E,G,ρ,F,⟨ar.fr,fun c ch J=>?_,fun c ch J=>ar.own c ch (by rw[<-dy];exact J),fun c b7 ch ch' b J cQ=>ar.fj c b7 ch ch' b (by rw[<-dy];exact J) (by rw[<-dy];exact cQ),ar.dZ,ar.kR⟩,fun s=>?_⟩
 .rw[a2];exact ar.holds c ch (by rw[<-dy];exact J)
 .rw[a2,dq];exact au s
def FG (P:Program) (N:Nat) (ids:aA1) (all:List Oper) (t:hN) (K:aX) (B:ay):Prop:=
 (uw all K t.1.guard=some false/\t.2.v= .undef/\t.2.e=bJ)\/(uw all K t.1.guard=some true/\bB P N ids t.1 K B t.2.v t.2.e/\ ∀c,c∈t.2.e.bb->g9 ids K B c=true)
theorem bB.lit {o:Oper} {K:aX} {B:ay} {b:Bool} {e:fY} (h:bB P N ids o K B (.c (.one (.d (.bool b)))) e):bB P N ids o K B (.c (.one (.d (.lit b)))) e:=by
 intro K' B' g1 g2 c2 C a w ax bx fO Q dq;refine h K' B' g1 g2 c2 C a w ax bx fO Q fun a' w' eb=>dq a' w' ?_
 cases H:o.dst with
 |none=>rw[H] at eb;exact eb
 |some d=>rw[H] at eb;exact eb.lit
theorem bB.any {o:Oper} {K:aX} {B:ay} {v da:aO} {e:fY} (H:o.dst=none) (h:bB P N ids o K B v e):bB P N ids o K B da e:=by
 intro K' B' g1 g2 c2 C a w ax bx fO Q dq;refine h K' B' g1 g2 c2 C a w ax bx fO Q fun a' w' eb=>dq a' w' ?_
 rw[H] at eb⊢;exact eb
def Cg (P:Program) (N:Nat) (ids:aA1) (all:List Oper):List hN->aX->ay->Prop
 | [],_,_=>True
 |t::l,K,B=>FG P N ids all t K B/\Cg P N ids all l (hO t K) (jI t B)
def runK:List hN->aX->aX
 | [],K=>K
 |t::l,K=>runK l (hO t K)
def zZ:List hN->ay->ay
 | [],B=>B
 |t::l,B=>zZ l (jI t B)
theorem QH (bl:eh P aU) (all:List Oper): ∀(l:List Oper) (i:Nat) (K:aX) (B:ay) (gu:List kU) (k:aX->ay->List kU->Prop),tx P aU ids all i l K B gu k->
  ∃cv:List hN,cv.map (·.1)=l/\Cg P N ids all cv K B/\k (runK cv K) (zZ cv B) ((cv.map (·.2)).reverse++gu)
 | [],i,K,B,gu,k,h=>⟨[],rfl,trivial,h⟩
 |o::l,i,K,B,gu,k,h=>by
  have rz: ∀(n:kU),FG P N ids all (o,n) K B->tx P aU ids all (i+1) l (hO (o,n) K) (jI (o,n) B) (n::gu) k-> ∃cv:List hN,cv.map (·.1)=o::l/\Cg P N ids all cv K B/\k (runK cv K) (zZ cv B) ((cv.map (·.2)).reverse++gu):=fun n hn aA=>by
   obtain⟨cv,E,G,al⟩:=QH bl all l (i+1) _ _ _ k aA;exact⟨(o,n)::cv,by simp[E],⟨hn,G⟩,by simpa[runK,zZ] using al⟩
  rw[Pz] at h;unfold E' at h;simp only[I8] at h
  split at h
  .exact h.elim
  .rename_i hw
   split at h
   .rename_i d e;exact rz ⟨i,.undef,bJ⟩ (.inl ⟨hw,rfl,rfl⟩) (by simpa[hO,jI,mO,e,hl] using h)
   .rename_i e;exact rz ⟨i,.undef,bJ⟩ (.inl ⟨hw,rfl,rfl⟩) (by simpa[hO,jI,mO,e,hl] using h)
  .rename_i hw;obtain⟨v,e,h,aq,hf⟩:=J3 (N:=N) bl h
   split at h
   .rename_i ao;exact rz ⟨i,.undef,e⟩ (.inr ⟨hw,bB.any ao aq,hf⟩) (by simpa[hO,jI,mO,ao] using h)
   .rename_i d ao
    split at h
    .rename_i b aY
     cases b with
     |true=>exact rz ⟨i,.c (.one (.d (.lit true))),e⟩ (.inr ⟨hw,aq.lit,hf⟩) (by simpa[hO,jI,mO,ao] using h.1 rfl)
     |false=>exact rz ⟨i,.c (.one (.d (.lit false))),e⟩ (.inr ⟨hw,aq.lit,hf⟩) (by simpa[hO,jI,mO,ao] using h.2 rfl)
    .exact rz ⟨i,_,e⟩ (.inr ⟨hw,aq,hf⟩) (by simpa[hO,jI,mO,ao] using h)
theorem QI {all:List Oper}: ∀(cv:List hN) (i:Nat) (K:aX) (B:ay),Cg P N ids all cv K B-> ∀(p:Nat) (t:hN),cv[p]? =some t->FG P N ids all t (fU hO (fun j=>decide (j < i+p)) i cv K) (fU jI (fun j=>decide (j < i+p)) i cv B)
 | [],i,K,B,_,p,t,ae=>by simp at ae
 |u::cv,i,K,B,h,0,t,ae=>by
  simp only[ar9,aq8] at ae;subst ae
  have bm: ∀{mU:Type} (jH:hN->mU->mU) (l:List hN) (q:Nat) (y:mU),i<=q->fU jH (fun j=>decide (j < i+0)) q l y=y:=fun {mU} jH l=>by
   induction l with
   |nil=>exact fun _ _ _=>rfl
   |cons v l bu=>
    intro q y aP;unfold fU;rw[bu (q+1) _ aw0];simp only[as1];rw[if_neg aw0]
  rw[bm hO _ i K (aq4 _),bm jI _ i B (aq4 _)];exact h.1
 |u::cv,i,K,B,h,p+1,t,ae=>by
  have:=QI cv (i+1) _ _ h.2 p t (by simpa using ae);unfold fU;simp only[as1];rw[if_pos aw0,if_pos aw0];rw[show i+(p+1)=i+1+p by omega];exact this
theorem QJ: ∀(cv:List hN) (i:Nat) (m:Nat->Bool) (K:aX),(∀j,j < cv.length->m (i+j)=true)->runK cv K=fU hO m i cv K
 | [],_,_,_,_=>rfl
 |t::cv,i,m,K,h=>by
  unfold runK fU;rw[if_pos (by simpa using h 0 aw2)];exact QJ cv (i+1) m _ fun j V=>by rw[show i+1+j=i+(j+1) by omega];exact h (j+1) ay0
theorem QK: ∀(cv:List hN) (i:Nat) (m:Nat->Bool) (B:ay),(∀j,j < cv.length->m (i+j)=true)->zZ cv B=fU jI m i cv B
 | [],_,_,_,_=>rfl
 |t::cv,i,m,B,h=>by
  unfold zZ fU;rw[if_pos (by simpa using h 0 aw2)];exact QK cv (i+1) m _ fun j V=>by rw[show i+1+j=i+(j+1) by omega];exact h (j+1) ay0
theorem QL {c:Nat}: ∀(cv:List hN) (i:Nat) (m:Nat->Bool) (K:aX),ur c K=true->(∀(j:Nat) (t:hN),cv[j]? =some t->m (i+j)=true->named t.2 c=false)->ur c (fU hO m i cv K)=true
 | [],_,_,_,h,_=>h
 |t::cv,i,m,K,h,aw=>by
  unfold fU;refine QL cv (i+1) m _ ?_ fun j u V a8=>aw (j+1) u ay0 (by rw[show i+(j+1)=i+1+j by omega];exact a8)
  split
  .rename_i aG;have:=aw 0 t rfl (by simpa using aG);simp only[named,Bool.or_eq_false_iff] at this;unfold hO mO
   split
   .simp[ur,this.1,h]
   .exact h
  .exact h
theorem Kg {c:Nat}: ∀(B:ay) (d:Nat),kw c B=true->kw c (gY B d)=true
 | [],d,h=>h
 |(t,v)::B,d,h=>by
  simp only[kw,vj] at h;unfold gY
  split
  .exact Kg B d h.2
  .simp[kw,h.1,Kg B d h.2]
theorem Kh {c:Nat}: ∀(l:List (Nat×Option ba)) (B:ay),zH c l=false->kw c B=true->kw c (hl l B)=true
 | [],B,_,h=>h
 |(d,none)::l,B,ap,h=>by
  simp only[zH,Bool.or_eq_false_iff] at ap;exact Kh l _ ap.2 (Kg B d h)
 |(d,some ch)::l,B,ap,h=>by
  simp only[zH,Bool.or_eq_false_iff] at ap;exact Kh l _ ap.2 (by simp[kw,ap.1.1,ap.1.2,h])
theorem QM {c:Nat}: ∀(cv:List hN) (i:Nat) (m:Nat->Bool) (B:ay),kw c B=true->(∀(j:Nat) (t:hN),cv[j]? =some t->m (i+j)=true->named t.2 c=false)->kw c (fU jI m i cv B)=true
 | [],_,_,_,h,_=>h
 |t::cv,i,m,B,h,aw=>by
  unfold fU;refine QM cv (i+1) m _ ?_ fun j u V a8=>aw (j+1) u ay0 (by rw[show i+(j+1)=i+1+j by omega];exact a8)
  split
  .rename_i aG;have:=aw 0 t rfl (by simpa using aG);simp only[named,Bool.or_eq_false_iff] at this;exact Kh _ _ this.2 h
  .exact h
def xP (all:List Oper) (m:Nat->Bool):Prop:= ∀(j:Nat) (o:Oper),all[j]? =some o->m j=true-> ∀d∈qo o,m d=true
theorem QN (all:List Oper): ∀(l Ch:List Oper) (acc:List aA1),all=Ch++l->acc.length=Ch.length->(∀j a,a∈acc.getD j []-> ∀m,xP all m->m j=true->m a=true)-> ∀j a,a∈(zF l acc).getD j []-> ∀m,xP all m->m j=true->m a=true
 | [],Ch,acc,_,_,h=>h
 |o::l,Ch,acc,U,ap,h=>by
  unfold zF;refine QN all l (Ch++[o]) _ az6 (by simp[ap]) ?_;intro j a ha m aw V;rw[ar2] at ha;rcases Nat.lt_trichotomy j acc.length with bx |sz |uF
  .rw[as8 bx,<-ar2] at ha;exact h j a ha m aw V
  .subst sz;rw[at4 (aq4 _)] at ha;simp only[Nat.sub_self,ar9,Option.getD_some,as4,List.mem_flatMap] at ha;have ag:all[acc.length]? =some o:=by rw[U,ap];simp
   rcases ha with ha |⟨d,H,ha⟩
   .exact aw _ o ag V a ha
   .exact h d a ha m aw (aw _ o ag V d H)
  .rw[au9 ax4] at ha;simp at ha
theorem Ki {all:List Oper} {an:List aA1}: ∀(L:List (Oper×kU×Nat)),uy all an L=true-> ∀(i j:Nat) (x y:Oper×kU×Nat),i < j->L[i]? =some x->L[j]? =some y->((an.getD y.2.2 []).contains x.2.2&& !y.2.1.e.bb.any (named x.2.1)||apart all x.1 y.1 x.2.1 y.2.1)=true
 | [],_,i,j,x,y,_,hx,_=>by simp at hx
 |aB::L,h,0,j+1,x,y,_,hx,aD=>by
  simp only[ar9,aq8] at hx;subst hx;obtain⟨o,n,i⟩:=aB;simp only[uy,vj] at h;have:=as9.1 h.1 y (List.mem_of_getElem? (by simpa using aD));obtain⟨p,m,rB⟩:=y;exact this
 |aB::L,h,i+1,j+1,x,y,bx,hx,aD=>by
  obtain⟨o,n,k⟩:=aB;simp only[uy,vj] at h;exact Ki L h.2 i j x y aw0 az5 (by simpa using aD)
 |aB::L,h,i,0,x,y,bx,hx,aD=>by omega
theorem z1 {a b:aA1} (h:zG a b=false) {x:Nat} (E:x∈a) (G:x∈b):False:=by
 unfold zG at h;rw[List.any_eq_false] at h;have:=h x E;simp at this;exact this G
theorem QO {a:aA1} {f:Nat->Bool} (h:a.any f=false) {x:Nat} (E:x∈a):f x=false:=by
 rw[List.any_eq_false] at h;simpa using h x E
theorem aau {all:List Oper} {lP:aX} {mV:ay} {cv:List hN} (jE:cv.map (·.1)=all) (ez:Cg P N ids all cv lP mV) (eD:vW lP mV all ((cv.map (·.2)).reverse++[])=true) {m:Nat->Bool} (aw:xP all m) {i:Nat} {t:hN} (aG:cv[i]? =some t) (z2:m i=false) (FH: ∀d∈qo t.1,m d=true):
  FG P N ids all t (fU hO m 0 cv lP) (fU jI m 0 cv mV)/\(∀s,dI (fU hO (fun j=>m j||j == i) 0 cv lP) s=dI (hO t (fU hO m 0 cv lP)) s)/\(∀s,aj (fU jI (fun j=>m j||j == i) 0 cv mV) s=aj (jI t (fU jI m 0 cv mV)) s)/\
  (∀d∈qo t.1,d < i):=by
 simp only[vW,au0,List.reverse_reverse,vj] at eD;obtain⟨⟨aav,tL⟩,QP⟩:=eD;have uQ: ∀(j:Nat) (u:hN),cv[j]? =some u->all[j]? =some u.1:=fun j u V=>by rw[<-jE,as6,V];rfl
 have cH: ∀(j:Nat) (u:hN),cv[j]? =some u->(((all.zip (cv.map (·.2))).zipIdx).map fun((o,n),i)=>(o,n,i))[j]? =some (u.1,u.2,j):=fun j u V=>by
  have aR:(all.zip (cv.map (·.2)))[j]? =some (u.1,u.2):=by
   rw[List.getElem?_zip_eq_some];exact⟨uQ j u V,by rw[as6,V];rfl⟩
  rw[as6,List.getElem?_zipIdx,aR];simp
 have aaw: ∀d∈qo t.1,d < i:=fun d H=>by
  have h4:(t.1,i)∈all.zipIdx:=by
   rw[List.mem_iff_getElem?];exact⟨i,by rw[List.getElem?_zipIdx,uQ i t aG];simp⟩
  have:=as9.1 aav _ h4;have:=as9.1 this d H;simpa[Nat.blt_eq] using this
 have QQ:=QN all all [] [] aw2 rfl (fun j a ha=>by simp at ha)
 have aax:xP all (fun j=>m j||j == i):=fun j o ag V d H=>by
  simp only[Bool.or_eq_true,beq_iff_eq] at V⊢;rcases V with V |rfl
  .exact .inl (aw j o ag V d H)
  .rw[uQ j t aG] at ag;injection ag with ag
   subst ag;exact .inl (FH d H)
 have Kj: ∀(j:Nat) (u:hN),cv[j]? =some u->j < i->(apart all u.1 t.1 u.2 t.2=true\/m j=true)/\t.2.e.bb.any (named u.2)=false:=fun j u V bx=>by
  have:=Ki _ QP j i _ _ bx (cH j u V) (cH i t aG);simp only[Bool.or_eq_true,vj,Bool.not_eq_true',at2] at this;rcases this with⟨E,G⟩ |h
  .refine⟨.inr ?_,G⟩;have:=QQ i j E _ aax aw2;simp only[Bool.or_eq_true,beq_iff_eq] at this;rcases this with h |h
   .exact h
   .omega
  .refine⟨.inl h,?_⟩;simp only[apart,vj,Bool.not_eq_true'] at h;exact h.2
 have Ci: ∀(j:Nat) (u:hN),cv[j]? =some u->i < j->apart all t.1 u.1 t.2 u.2=true\/m j=false:=fun j u V bx=>by
  have:=Ki _ QP i j _ _ bx (cH i t aG) (cH j u V);simp only[Bool.or_eq_true,vj,at2] at this;rcases this with⟨E,_⟩ |h
  .right
   cases n9:m j with
   |false=>rfl
   |true=>have:=QQ j i E m aw n9;rw[z2] at this;cases this
  .exact .inl h
 have QR: ∀s,s∈Fa all t.1->dI (fU hO m 0 cv lP) s=dI (fU hO (fun j=>decide (j < 0+i)) 0 cv lP) s:=fun s ax=>
  zY dI hO FD QF QG _ _ s cv 0 lP lP (fun j u V a8=>by
   rw[Nat.zero_add,Nat.zero_add];have QS:s∈u.1.dst.toList:=by rw[show u.1.dst=some s from a8];simp
   rcases Nat.lt_trichotomy j i with h |h |h
   .simp only[h,decide_true];refine((Kj j u V h).1).resolve_left fun ha=>?_
    simp only[apart,vj,Bool.not_eq_true'] at ha;exact z1 ha.1.1.1.1.1 QS (List.mem_append_left _ ax)
   .subst h;simp[z2]
   .rw[show decide (j < i)=false by simp;omega];refine(Ci j u V h).resolve_left fun ha=>?_
    simp only[apart,vj,Bool.not_eq_true'] at ha;exact z1 ha.1.1.1.1.2 QS ax) rfl
 have aay: ∀c,c∈t.2.e.ix->aj (fU jI m 0 cv mV) c=aj (fU jI (fun j=>decide (j < 0+i)) 0 cv mV) c:=fun c J=>
  zY aj jI QE (fun t x s h=>FF _ _ _ h) (fun t x y s h=>FE _ _ _ _ h) _ _ c cv 0 mV mV (fun j u V a8=>by
   rw[Nat.zero_add,Nat.zero_add];rcases Nat.lt_trichotomy j i with h |h |h
   .simp only[h,decide_true];refine((Kj j u V h).1).resolve_left fun ha=>?_
    simp only[apart,vj,Bool.not_eq_true'] at ha;exact z1 ha.1.1.1.2 a8 (List.mem_append_left _ J)
   .subst h;simp[z2]
   .rw[show decide (j < i)=false by simp;omega];refine(Ci j u V h).resolve_left fun ha=>?_
    simp only[apart,vj,Bool.not_eq_true'] at ha;exact z1 ha.1.1.2 a8 J) rfl
 refine⟨?_,fun s=>?_,fun s=>?_,aaw⟩
 .have we:=QI cv 0 lP mV ez i t aG
  have hw:uw all (fU hO m 0 cv lP) t.1.guard=uw all (fU hO (fun j=>decide (j < 0+i)) 0 cv lP) t.1.guard:=by
   unfold uw
   cases aY:t.1.guard with
   |none=>rfl
   |some p=>
    obtain⟨j,want⟩:=p;simp only
    cases ax:BO all j with
    |none=>rfl
    |some s=>
     simp only;rw[QR s (by unfold Fa;rw[aY];simp[ax])]
  rcases we with⟨E,G,al⟩ |⟨E,G,al⟩
  .exact .inl ⟨hw.trans E,G,al⟩
  .refine .inr ⟨hw.trans E,?_,fun c J=>?_⟩
   .intro K' B' g1 g2 c2;refine G K' B' (fun x hx=>(g1 x hx).trans ?_) (fun c J=>(g2 c J).trans (aay c J)) c2
    cases x with
    |tmp s=>exact QR s (List.mem_append_left _ (List.mem_filterMap.2 ⟨.tmp s,by simpa using hx,rfl⟩))
    |_=>rfl
   .have hf:=al c J;simp only[g9,vj] at hf⊢;have xE:=as9.1 tL t.2 (as5.2 ⟨t,List.mem_of_getElem? aG,rfl⟩);have xE:=as9.1 xE c J;simp only[vj] at xE
    have fH: ∀(j:Nat) (u:hN),cv[j]? =some u->m (0+j)=true->named u.2 c=false:=fun j u V n9=>by
     rw[Nat.zero_add] at n9;rcases Nat.lt_trichotomy j i with h |h |h
     .exact QO (Kj j u V h).2 J
     .subst h;rw[z2] at n9;cases n9
     .rcases Ci j u V h with ha |ha
      .simp only[apart,vj,Bool.not_eq_true'] at ha;exact QO ha.1.2 J
      .rw[n9] at ha;cases ha
    exact⟨⟨QL cv 0 m lP xE.1 fH,QM cv 0 m mV xE.2 fH⟩,hf.2⟩
 .have:=Kf dI hO FD QF QG m i s cv 0 lP t aG (by simpa using z2) (fun j u bx V n9 E G=>by
   rw[Nat.zero_add] at n9;rcases Ci j u V bx with ha |ha
   .simp only[apart,vj,Bool.not_eq_true'] at ha;exact z1 (x:=s) ha.1.1.1.1.1 (by rw[show t.1.dst=some s from E];simp) (List.mem_append_right _ (by rw[show u.1.dst=some s from G];simp))
   .rw[n9] at ha;cases ha)
  simpa using this
 .have:=Kf aj jI QE (fun t x s h=>FF _ _ _ h) (fun t x y s h=>FE _ _ _ _ h) m i s cv 0 mV t aG (by simpa using z2) (fun j u bx V n9 E G=>by
   rw[Nat.zero_add] at n9;rcases Ci j u V bx with ha |ha
   .simp only[apart,vj,Bool.not_eq_true'] at ha;exact z1 ha.1.1.1.2 E (List.mem_append_right _ G)
   .rw[n9] at ha;cases ha)
  simpa using this
theorem z6 (bl:eh P aU):zT P aU N ids:=by
 intro id dg lP mV k H aaz h C a w ax rd Q wg;refine wpIn_region_any aaz ?_;obtain⟨cv,jE,ez,eD,Z⟩:=QH (N:=N) bl dg.toList dg.toList 0 lP mV [] _ h
 have bZ:cv.length=dg.size:=by
  have:=congrArg List.length jE;simpa using this
 have uQ: ∀(j:Nat) (u:hN),cv[j]? =some u->dg.toList[j]? =some u.1:=fun j u V=>by rw[<-jE,as6,V];rfl
 have QT: ∀(j:Nat) (u:hN),cv[j]? =some u->(∀d,u.1.dst=some d->d < N)/\ ∀c,u.1.op≠ .defer c:=fun j u V=>by
  have key: ∀(l:List Oper),tJ N l=true-> ∀o∈l,(∀d,o.dst=some d->d < N)/\ ∀c,o.op≠ .defer c:=fun l=>by
   induction l with
   |nil=>intro _ o ag;cases ag
   |cons x l bu=>
    intro hx o ag;simp only[tJ,vj] at hx;rcases aq7.1 ag with rfl |ag
    .exact⟨fun d H=>by have hx:=hx.1.1;rw[H] at hx;simpa[Nat.blt_eq] using hx,J5 hx.1.2⟩
    .exact bu hx.2 o ag
  exact key _ H u.1 (List.mem_of_getElem? (uQ j u V))
 have bx: ∀(j:Nat) (u:hN),cv[j]? =some u-> ∀d,u.1.dst=some d->d < N:=fun j u V=>(QT j u V).1
 have sx: ∀(fuel:Nat) (gy:Array Bool) (a:Act) (w:World),gy.size=dg.size->gy.toList.count false<=fuel->xP dg.toList (fun j=>gy.getD j false)->
   fa N ids C (fU hO (fun j=>gy.getD j false) 0 cv lP) (fU jI (fun j=>gy.getD j false) 0 cv mV) a w->wpAnyIn (oX rd) 0 P .any dg Q fuel gy a w:=by
  intro fuel
  have done: ∀(gy:Array Bool) (a:Act) (w:World),gy.size=dg.size->(∀j,j < dg.size->gy.getD j false=true)->fa N ids C (fU hO (fun j=>gy.getD j false) 0 cv lP) (fU jI (fun j=>gy.getD j false) 0 cv mV) a w->Q .normal a w:=fun gy a w cu Cj eb=>by
   rw[<-QJ cv 0 _ lP (fun j V=>by simpa using Cj j aw0),<-QK cv 0 _ mV (fun j V=>by simpa using Cj j aw0)] at eb;exact wg _ _ Z a w eb
  have aaA: ∀(gy:Array Bool),gy.size=dg.size->xP dg.toList (fun j=>gy.getD j false)->Region.ready .any dg gy=[]-> ∀j,j < dg.size->gy.getD j false=true:=fun gy cu dF aC=>by
   intro j
   induction j using Nat.strongRecOn with
   |_ j bu=>
    intro V;obtain⟨u,a8⟩: ∃u,cv[j]? =some u:=⟨_,oj aw0⟩
    cases wh:gy.getD j false with
    |true=>rfl
    |false=>
     exfalso
     have h4:j∈Region.ready .any dg gy:=by
      unfold Region.ready;rw[av0];refine⟨List.mem_range.2 V,?_⟩
      have sn:gy.getD j true=false:=by
       rw[Array.getD_eq_getD_getElem?] at wh⊢;rw[Array.getElem?_eq_getElem aw0] at wh⊢;simpa using wh
      have ag:dg[j]? =some u.1:=by simpa using uQ j u a8
      simp only[sn,Bool.not_false,Bool.true_and,ag,au5,Option.getD_some];rw[Array.all_eq_true_iff_forall_mem];intro e U
      cases O:Region.binds .any e with
      |false=>rfl
      |true=>
       simp only[Bool.not_true,Bool.false_or]
       have eG:e.on∈qo u.1:=by
        unfold qo;exact as5.2 ⟨e,av0.2 ⟨by simpa using U,O⟩,rfl⟩
       have Kk:e.on < j:=by
        have dJ:=eD;simp only[vW,au0,List.reverse_reverse,vj] at dJ
        have h4:(u.1,j)∈dg.toList.zipIdx:=by
         rw[List.mem_iff_getElem?];exact⟨j,by rw[List.getElem?_zipIdx,uQ j u a8];simp⟩
        have:=as9.1 dJ.1.1 _ h4;have:=as9.1 this _ eG;simpa[Nat.blt_eq] using this
       exact bu e.on Kk aw0
     rw[aC] at h4
     cases h4
  induction fuel with
  |zero=>
   intro gy a w cu J dF eb
   have Cj: ∀j,j < dg.size->gy.getD j false=true:=fun j V=>by
    cases wh:gy.getD j false with
    |true=>rfl
    |false=>
     exfalso
     have h4:false∈gy.toList:=by
      rw[Array.getD_eq_getD_getElem?,Array.getElem?_eq_getElem aw0] at wh;simp only[Option.getD_some] at wh;rw[<-wh];simp
     have:=List.count_pos_iff.2 h4;omega
   refine⟨?_,done gy a w cu Cj eb⟩;unfold Region.ready;rw[List.filter_eq_nil_iff];intro j V;have V:=List.mem_range.1 V;have:=Cj j V;rw[Array.getD_eq_getD_getElem?,Array.getElem?_eq_getElem aw0] at this;simp only[Option.getD_some] at this;simp[Array.getElem?_eq_getElem (show j < gy.size by omega),this]
  |succ fuel bu=>
   intro gy a w cu J dF eb;refine⟨fun aC=>done gy a w cu (aaA gy cu dF aC) eb,fun i aG=>?_⟩;obtain⟨QU,o,ag,aaB⟩:=mem_ready.1 aG;have aqa:i < dg.size:=(Array.getElem?_eq_some_iff.1 ag).1;obtain⟨t,cn⟩: ∃t,cv[i]? =some t:=⟨_,oj aw0⟩
   have aaC:o=t.1:=by
    have:=uQ i t cn;rw[Array.getElem?_toList,ag] at this;injection this
   subst aaC
   have Kl:gy.getD i false=false:=by
    rw[Array.getD_eq_getD_getElem?,Array.getElem?_eq_getElem aw0] at QU⊢;simpa using QU
   have FH: ∀d∈qo t.1,gy.getD d false=true:=fun d H=>by
    unfold qo at H;obtain⟨e,U,rfl⟩:=as5.1 H;obtain⟨jl,gL⟩:=av0.1 U;exact aaB e (by simpa using jl) gL
   obtain⟨we,aaD,aaE,_⟩:=aau (m:=fun j=>gy.getD j false) jE ez eD dF cn Kl FH
   have gZ:(fun j=>(gy.setIfInBounds i true).getD j false)=(fun j=>(gy.getD j false||j == i)):=by
    funext j
    by_cases e:j=i
    .subst e;simp[Array.getElem?_setIfInBounds,show j < gy.size by omega]
    .simp[Array.getElem?_setIfInBounds,Ne.symm e,e]
   have aaF:xP dg.toList (fun j=>(gy.setIfInBounds i true).getD j false):=by
    rw[gZ];intro j o' tu V d H;simp only[Bool.or_eq_true,beq_iff_eq] at V⊢;rcases V with V |rfl
    .exact .inl (dF j o' tu V d H)
    .rw[uQ j t cn] at tu;injection tu with tu
     subst tu;exact .inl (FH d H)
   have aaG:(gy.setIfInBounds i true).toList.count false<=fuel:=by
    rw[Array.toList_setIfInBounds,List.count_set ax4]
    have lL:gy.toList[i]'ax4=false:=by
     rw[Array.getD_eq_getD_getElem?,Array.getElem?_eq_getElem aw0] at Kl;simpa using Kl
    rw[lL];simp only[BEq.rfl,if_true,show(true == false)=false from rfl,Bool.false_eq_true,if_false];omega
   have next: ∀a' w',fa N ids C (hO t (fU hO (fun j=>gy.getD j false) 0 cv lP)) (jI t (fU jI (fun j=>gy.getD j false) 0 cv mV)) a' w'->wpAnyIn (oX rd) 0 P .any dg Q fuel (gy.setIfInBounds i true) a' w':=fun a' w' fR=>by
    refine bu _ a' w' (by simp[cu]) aaG aaF ?_;rw[gZ];exact fR.congr aaD aaE
   have aaH:=eb;obtain⟨_,_,ρ,F,ar,au⟩:=aaH;unfold wpOpIn;simp only[ag];rcases we with⟨hw,aA,U⟩ |⟨hw,aq,hf⟩
   .have Ck:=zS hw au;simp only[Array.toArray_toList] at Ck;rw[if_neg (by rw[Ck];simp)];refine⟨fun _ _=>trivial,next _ _ ?_⟩;have:=eb.undef t.1.dst (bx i t cn);unfold hO jI;rw[aA,U];exact this
   .have Ck:=zS hw au;simp only[Array.toArray_toList] at Ck;rw[if_pos Ck];exact B9 (QT i t cn).2 (aq _ _ (fun _ _=>rfl) (fun _ _=>rfl) hf C a w eb (bx i t cn) _ Q fun a' w' fR=>next a' w' fR)
 refine sx dg.size _ a _ aw2 (by simp[List.count_replicate]) (fun j o ag V=>?_) ?_
 .simp only[Array.getD_eq_getD_getElem?,Array.getElem?_replicate] at V
  split at V <;>simp at V
 .have aR:(fun j=>(Array.replicate dg.size false).getD j false)=fun _=>false:=by
   funext j
   rw[Array.getD_eq_getD_getElem?];simp only[Array.getElem?_replicate]
   split <;>rfl
  rw[aR]
  have bm: ∀{mU:Type} (jH:hN->mU->mU) (l:List hN) (q:Nat) (y:mU),fU jH (fun _=>false) q l y=y:=fun {mU} jH l=>by
   induction l with
   |nil=>exact fun _ _=>rfl
   |cons v l bu=>intro q y;unfold fU;simp[bu]
  rw[bm,bm];obtain⟨E,G,ρ,F,ar,au⟩:=ax;obtain⟨bP,aZ⟩:=ar.below (w':={w with drawn:=w.drawn+1}) (Yn w);exact⟨E,G,ρ,F,bP,au.mono aZ fun _ _ _=>rfl⟩
end
end
section
def Cl (a b c:Nat):Nat:=match Nat.beq c a with
 |true=>b
 |false=>match Nat.beq c b with
  |true=>a
  |false=>c
theorem FI {a b:Nat} (h:a≠b):Nat.beq a b=false:=by rw[au8];exact fun e=>h (ar0 e)
theorem QV (a b c:Nat):Cl a b (Cl a b c)=c:=by
 unfold Cl
 by_cases E:c=a
 .subst E;simp only[Nat.beq_refl]
  by_cases G:b=c
  .subst G;simp
  .simp[FI G]
 .simp only[FI E]
  by_cases G:c=b
  .subst G;simp
  .simp[FI G,FI E]
def eF:List (Nat×Nat)->Nat->Nat
 | [],c=>c
 |(a,b)::l,c=>eF l (Cl a b c)
def z7:List (Nat×Nat)->Nat->Nat
 | [],c=>c
 |(a,b)::l,c=>Cl a b (z7 l c)
theorem FJ: ∀(l:List (Nat×Nat)) (c:Nat),z7 l (eF l c)=c
 | [],c=>rfl
 |(a,b)::l,c=>by simp only[eF,z7,FJ l,QV]
theorem FK: ∀(l:List (Nat×Nat)) (c:Nat),eF l (z7 l c)=c
 | [],c=>rfl
 |(a,b)::l,c=>by simp only[eF,z7,QV,FK l]
def lj:List (Nat×Nat)->List (Nat×Nat)->List (Nat×Nat)
 | [],acc=>acc
 |(a,b)::l,acc=>lj l (acc++[(eF acc a,b)])
section
variable (f:Nat->Nat)
def z8:List kQ->List kQ
 | []=>[]
 | .p c o::l=>.p (f c) o::z8 l
 | .d x::l=>.d x::z8 l
def bC.eF:bC->bC
 | .ptr c o=>.ptr (f c) o
 | .own c=>.own (f c)
 | .gj c s i o=>.gj (f c) s i o
 | .os c s o n=>.os (f c) s o n
 | .mp c=>.mp (f c)
 | .cY g l=>.cY g (z8 f l)
 | .d x=>.d x
 | .el u x o=>.el u x o
 | .dH=>.dH
 | .bM v=>.bM v
 | .any=>.any
def Aa:List bC->List bC
 | []=>[]
 |s::l=>s.eF f::Aa l
def dQ.eF:dQ->dQ
 | .one s=>.one (s.eF f)
 | .agg l=>.agg (Aa f l)
 | .kc u x=>.kc u x
def FL:List dQ->List dQ
 | []=>[]
 |s::l=>s.eF f::FL l
def aO.eF:aO->aO
 | .c s=>.c (s.eF f)
 | .cb l=>.cb (FL f l)
 | .undef=>.undef
def xQ:List aO->List aO
 | []=>[]
 |s::l=>s.eF f::xQ l
def ba.eF:ba->ba
 | .cells l=>.cells (Aa f l)
 | .row e u xs=>.row e u xs
 | .map aH aJ es=>.map aH aJ es
 | .val u x=>.val u x
 | .aF o=>.aF o
 | .cg d o=>.cg (f d) o
def kf:ay->ay
 | []=>[]
 |(c,ch)::B=>(f c,ch.eF f)::kf B
def Ab:aA1->aA1
 | []=>[]
 |c::l=>f c::Ab l
end
section
variable {f g:Nat->Nat} {ρ:Nat->bo} {I:Nat->Prop} {w:World}
theorem Km: ∀(l:List kQ) (aE:List Value),hZ ρ I w (z8 f l) aE=hZ (fun c=>ρ (f c)) I w l aE
 | [],aE=>rfl
 | .p c o::l,aE=>by simp only[z8,hZ,xn,Km l]
 | .d x::l,aE=>by simp only[z8,hZ,xn,Km l]
theorem QW (s:bC) (v:Value):d1 ρ I w (s.eF f) v=d1 (fun c=>ρ (f c)) I w s v:=by
 cases s with
 |cY g l=>simp only[bC.eF,d1,Km]
 |_=>rfl
theorem Kn: ∀(l:List bC) (aE:List Value),cc ρ I w (Aa f l) aE=cc (fun c=>ρ (f c)) I w l aE
 | [],aE=>rfl
 |s::l,aE=>by simp only[Aa,cc,QW,Kn l]
theorem QX (s:dQ) (v:Value):gI ρ I w (s.eF f) v=gI (fun c=>ρ (f c)) I w s v:=by
 cases s with
 |one s=>exact QW s v
 |agg l=>simp only[dQ.eF,gI,Kn]
 |kc u x=>rfl
theorem QY: ∀(l:List dQ) (aE:List Value),iX ρ I w (FL f l) aE=iX (fun c=>ρ (f c)) I w l aE
 | [],aE=>rfl
 |s::l,aE=>by simp only[FL,iX,QX,QY l]
theorem FM (s:aO) (v:Value):cx ρ I w (s.eF f) v=cx (fun c=>ρ (f c)) I w s v:=by
 cases s with
 |c s=>exact QX s v
 |cb l=>simp only[aO.eF,cx,QY]
 |undef=>rfl
theorem Cm {F:Nat->Prop} {p:bo} (ch:ba):Holds ρ I F w p (ch.eF f)=Holds (fun c=>ρ (f c)) I F w p ch:=by
 cases ch with
 |cells l=>simp only[ba.eF,Holds,Kn]
 |row e u xs=>rfl
 |map aH aJ es=>rfl
 |val u x=>rfl
 |aF o=>rfl
 |cg d o=>rfl
theorem Cn (aY: ∀c,g (f c)=c): ∀(B:ay) (c:Nat),aj (kf f B) (f c)=(aj B c).map (·.eF f)
 | [],c=>rfl
 |(d,ch)::B,c=>by
  simp only[kf];rw[cd,cd,Cn aY B c]
  by_cases h:d=c
  .subst h;rw[if_pos rfl,if_pos rfl];rfl
  .rw[if_neg h,if_neg fun e=>h (by rw[<-aY d,e,aY])]
theorem Ko: ∀(l:List aO),xQ f l=l.map (·.eF f)
 | []=>rfl
 |s::l=>by simp only[xQ,ar8,Ko l]
theorem Kp: ∀(l:aA1) (c:Nat),c∈l->f c∈Ab f l
 | [],c,h=>by cases h
 |d::l,c,h=>by
  rcases aq7.1 h with rfl |h
  .exact ar4
  .exact aq6 _ (Kp l c h)
end
theorem Fn.Kq {P:Program} {fn:FuncId} {f g:Nat->Nat} (aY: ∀c,g (f c)=c) (hf: ∀c,f (g c)=c) {args:List aO} {aI:ay} {bb:aA1} {res:aO} {aN:ay} (h:Fn P fn args aI bb res aN):
  Fn P fn (xQ f args) (kf f aI) (Ab f bb) (res.eF f) (kf f aN):=by
 refine⟨h.1,?_⟩;intro ρ F I w bW a2 c0 bd eG bZ dx;have mo: ∀(B:ay) c,aj (kf f B) (f c)=(aj B c).map (·.eF f):=Cn aY;have o6: ∀{B:ay} {c ch},aj B c=some ch->aj (kf f B) (f c)=some (ch.eF f):=fun {B c ch} h=>by rw[mo,h];rfl
 have uR: ∀{B:ay} {c ch},aj (kf f B) c=some ch-> ∃cB,aj B (g c)=some cB/\ch=cB.eF f:=fun {B c ch} h=>by
  have e:=mo B (g c);rw[hf,h] at e;obtain⟨cB,E,G⟩:=at6.1 e.symm;exact⟨cB,E,G.symm⟩
 rw[Ko] at bZ dx
 have J:=h.2 (fun c=>ρ (f c)) (fun c=>F (f c)) I w bW a2
  (fun c ch J=>by rw[<-Cm];exact c0 _ _ (o6 J))
  (fun c ch J=>bd _ _ (o6 J))
  (fun c b7 ch ch' b E G a6=>eG _ _ _ _ b (o6 E) (o6 G) fun e=>a6 (by rw[<-aY c,e,aY]))
  (by simpa using bZ)
  (fun i v x aA hx=>by rw[<-FM];exact dx i _ x (by rw[as6,aA];rfl) hx)
 refine J.mono ?_;rintro e w' ⟨x,ρ',F',rfl,cE,dr,I',jl,gL,lQ,aq,ip,hx⟩;have xR:(fun c=>ρ' (g (f c)))=ρ':=funext fun c=>by rw[aY]
 refine⟨x,fun c=>ρ' (g c),fun c=>F' (g c),rfl,?_,?_,I',jl,?_,?_,?_,?_,?_⟩
 .exact cE.mono fun b _ ⟨c,ch,E,G⟩=>⟨f c,_,o6 E,G⟩
 .intro c J;show ρ' (g c)=ρ c;rw[dr (g c) (fun aw=>J (by have:=Kp (f:=f) _ _ aw;rwa[hf] at this)),hf]
 .intro b O;obtain⟨E,G⟩:=gL b O;refine⟨E,?_⟩;rcases G with G |⟨c,ch,G,al⟩ |G
  .exact .inl G
  .exact .inr (.inl ⟨f c,_,o6 G,al⟩)
  .exact .inr (.inr G)
 .intro c ch J;obtain⟨cB,E,rfl⟩:=uR J;rw[Cm,xR];exact lQ _ _ E
 .intro c ch J b O;obtain⟨cB,E,rfl⟩:=uR J;obtain⟨cC,cF,dD⟩:=aq _ _ E b O;refine⟨cC,cF,?_⟩;rcases dD with⟨hy,cB,dD,fm⟩ |dD
  .exact .inl ⟨f hy,_,o6 dD,fm⟩
  .exact .inr dD
 .intro c b7 ch ch' b J cQ a6;obtain⟨cB,E,rfl⟩:=uR J;obtain⟨i3,G,rfl⟩:=uR cQ;exact ip _ _ _ _ b E G fun e=>a6 (by rw[<-hf c,e,hf])
 .rw[FM,xR];exact hx
theorem Fn.aV {P:Program} {fn:FuncId} (l:List (Nat×Nat)) {args:List aO} {aI:ay} {bb:aA1} {res:aO} {aN:ay} (h:Fn P fn args aI bb res aN):
  Fn P fn (xQ (eF (lj l [])) args) (kf (eF (lj l [])) aI) (Ab (eF (lj l [])) bb) (res.eF (eF (lj l []))) (kf (eF (lj l [])) aN):=
 Fn.Kq (FJ _) (FK _) h
end
end Go.Proofs.YtkfbeijmgggkmaaGreat
