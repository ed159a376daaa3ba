/-
A part of the proof of this claim: lemmas, with no condition beyond what each says.
-/
import Derived.Deep.LoopGhost
import Derived.Orders
import Derived.OrdersIn
import Derived.TacticsIn
import Derived.Sort.LoopGhostIn
import Derived.RangeFuncRecord
import Derived.Scope
import Derived.Test.YthnboghbhgapcaaGreatZb5
set_option linter.unusedVariables false
set_option linter.unusedSimpArgs false
set_option maxRecDepth 10000
set_option maxHeartbeats 4000000
namespace Go.Proofs.YthnboghbhgapcaaGreat
open Go.RowKit Go.Proofs
section
def tj (N:Nat):List Oper->Bool
 | []=>true
 |o::l=>(match o.dst with
  |some d=>Nat.blt d N
  |none=>true)&&(match o.op with
  | .defer _=>false
  |_=>true)&&tj N l
section
variable {P:Program} {b:Frame} {a:Act} {k:List Item} {cs:List Frame} {w:World}
theorem zd {c:Code}:step P (lone (b.atR a (.code (.scope c)::k)) cs w)= .next (lone (b.atR a (.code c:: .inScope c::k)) cs w):=
 step_lone_go (by simp[stepG,stepG.exec,Frame.atR])
theorem Zp {c:Code}:step P (lone (b.atR a (.inScope c::k)) cs w)= .next (lone (b.atR a k) cs w):=
 step_lone_go (by simp[stepG,stepG.exec,Frame.atR])
theorem Zq {F:Fence} {n:Nat} {Q:Exit->Act->World->Prop} {c:Code} (h:c.wpIn F n P (Exit.noGoto Q) a w):(Code.scope c).wpIn F n P Q a w:=by
 intro b k cs Zr O aF;have av:(lone (b.atR a (.code (.scope c)::k)) cs w).fenced P F:=fenced_calm O aF rfl;obtain⟨e,Bu,Bv,aT,ze⟩:=h b (.inScope c::k) cs Zr O aF
 cases e with
 |normal=>exact⟨.normal,Bu,Bv,aT,.head av zd (StepsIn.trans ze (.one (fenced_calm O aF rfl) Zp))⟩
 |exit id=>
  have hx:exitTo id (.inScope c::k)=exitTo id k:=by simp[exitTo]
  exact⟨.exit id,Bu,Bv,aT,fun dV ab=>.head av zd (ze.1 dV (by rw[hx];exact ab)),fun Jb ab=>let⟨k₁,E,G⟩:=ze.2 Jb (by rw[hx];exact ab);⟨k₁,E,.head av zd G⟩⟩
 |goto l=>exact aT.elim
 |ret=>exact⟨_,Bu,Bv,aT,.of_steps (.one av zd) ze⟩
 |panic ch=>exact⟨_,Bu,Bv,aT,.of_steps (.one av zd) ze⟩
 |outgrown=>exact⟨_,Bu,Bv,aT,.of_steps (.one av zd) ze⟩
end
def jr (P:Program) (N:Nat):Code->Bool
 | .skip=>true
 | .region _ c' draw=>tj N c'.toList&&(!draw||P.follows .mixedOrders)
 | .seq a b=>jr P N a&&jr P N b
 | .cond _ x y=>jr P N x&&jr P N y
 | .block _ b=>jr P N b
 | .loop b=>jr P N b
 | .rangeFunc _ _ a b=>jr P N a&&jr P N b
 | .scope b=>jr P N b
 | .label _=>true
 | .exit _=>true
 | .ret=>true
 |_=>false
section
variable {P:Program} {aS:dc} {N:Nat} {ids:ay5}
theorem Bw {c':Array Oper} {a:Act} {j s:Nat} (ax:(c'[j]?).bind (·.dst)=some s) {v:Value} (ay:a.tmps.getD s undef=v):
  (∀b,v= .bool b->yielded c' a.tmps j=some b)/\((∀b,v≠ .bool b)->yielded c' a.tmps j=none):=by
 unfold yielded;rw[ax];simp only[Option.bind_some]
 cases cq:a.tmps[s]? with
 |none=>
  have ay:v=undef:=by rw[<-ay];simp[cq]
  subst ay;exact⟨fun b O=>(by simp[undef] at O),fun _=>rfl⟩
 |some x=>
  have ay:v=x:=by rw[<-ay];simp[cq]
  subst ay;refine⟨fun b O=>by rw[O],fun h=>?_⟩
  cases v <;>first |rfl |exact absurd rfl (h _)
theorem Zs {all:List Oper} {j s:Nat} (h:Bc all j=some s):((all.toArray)[j]?).bind (·.dst)=some s:=by
 unfold Bc at h;simp only[List.getElem?_toArray]
 split at h
 .rename_i o ah;rw[ah];exact h
 .cases h
theorem zf {all:List Oper} {K:aY} {o:Oper} {t:Bool} (h:t' all K o.guard=some t) {ρ:Nat->bn} {I:Nat->Prop} {a:Act} {w:World} (au:ee K ρ I a w):Region.wanted o (yielded all.toArray a.tmps)=t:=by
 unfold t' at h;unfold Region.wanted
 split at h
 .rename_i a1;injection h with h
  simp[a1,h]
 .rename_i j want a1;simp only[a1]
  split at h
  .cases h
  .rename_i s ax;have ax:=Zs ax;have ay:=au s
   split at h
   .rename_i al;rw[al] at ay;have:=(Bw (a:=a) ax (show a.tmps.getD s undef= .bool true from ay)).1 true rfl;injection h with h
    rw[this,<-h];rfl
   .rename_i al;rw[al] at ay;have:=(Bw (a:=a) ax (show a.tmps.getD s undef= .bool true from ay)).1 true rfl;injection h with h
    rw[this,<-h];rfl
   .rename_i al;rw[al] at ay;have:=(Bw (a:=a) ax (show a.tmps.getD s undef= .bool false from ay)).1 false rfl;injection h with h
    rw[this,<-h];rfl
   .rename_i al;rw[al] at ay;have:=(Bw (a:=a) ax (show a.tmps.getD s undef= .bool false from ay)).1 false rfl;injection h with h
    rw[this,<-h];rfl
   .rename_i al;rw[al] at ay;have:=(Bw (a:=a) ax (show a.tmps.getD s undef=undef from ay)).2 (by simp[undef]);injection h with h
    rw[this,<-h];simp
   .cases h
theorem eW.undef {C:e9} {K:aY} {B:aw} {a:Act} {w:World} (h:eW N ids C K B a w) (d:Option Nat) (J: ∀e,d=some e->e < N):eW N ids C (mt d .undef K) B (a.put d undef) w:=by
 obtain⟨E,G,ρ,F,aq,au⟩:=h;exact⟨kf.trans E,kg.trans G,ρ,F,aq,au.kh (fun e V=>by rw[E];exact J e V) rfl⟩
theorem eW.lit {C:e9} {K:aY} {B:aw} {a:Act} {w:World} {d:Nat} {b:Bool} (h:eW N ids C ((d,.c (.one (.d (.bool b))))::K) B a w):eW N ids C ((d,.c (.one (.d (.lit b))))::K) B a w:=by
 obtain⟨E,G,ρ,F,aq,au⟩:=h;refine⟨E,G,ρ,F,aq,fun s=>?_⟩;have:=au s;rw[ke] at this⊢
 split at this
 .rw[if_pos ‹_›];exact this
 .rw[if_neg ‹_›];exact this
theorem Pr {n:Nat} {r:Option Nat} {f:FuncId} {args:Array Value} {w:World} {R:Ending->World->Prop} (h:Calls P f args w R):CallsIn (oD r) n P f args w R:=(callsIn_wide (n:=n)).2 h
theorem Ps {n:Nat} {r:Option Nat} {f:FuncId} {args:Array Value} {w:World} {R:Ending->World->Prop} (h:CallsIn (oD r) n P f args w R):Calls P f args w R:=(callsIn_wide (n:=n)).1 h
theorem Zt {n:Nat} {r:Option Nat} {row:String} {args:Array Value} {w:World} {R:Value->World->Prop} (h:Rows P row args w R):RowsIn (oD r) n P row args w R:=fun c cs _=>by
 obtain⟨v,w',E,G⟩:=h c cs;exact⟨v,w',E,stepsIn_wide.2 G⟩
theorem Jc {o:Oper} (h:(match o.op with
 | .defer _=>false
 |_=>true)=true): ∀c,o.op≠ .defer c:=fun c e=>by rw[e] at h;cases h
theorem Bx {r:Option Nat} {o:Oper} (d0: ∀c,o.op≠ .defer c) {a:Act} {w:World} {next:Act->World->Prop} {Q:Exit->Act->World->Prop} (h:o.wp P a w next Q):o.wpIn (oD r) 0 P a w next Q:=by
 refine⟨fun _ _=>trivial,?_⟩;rw[Oper.semAt_eq _ _ _ d0];unfold Oper.wp at h;generalize(execOp a.eval o).run P w=q at*
 cases q with
 |ok x w'=>
  cases x <;>simp only[Oper.upon,Oper.uponIn] at h⊢ <;>
   first
    |exact h
    |exact h.elim
    |exact⟨fun ax=>absurd ax au7,Pr h⟩
    |exact⟨fun ax=>absurd ax au7,Zt h⟩
 |halt x w'=>cases x <;>simp only[Oper.upon,Oper.uponIn] at h⊢ <;>exact h
theorem xk (bm:d6 P aS) (all:List Oper): ∀(l:List Oper) (i:Nat) (K:aY) (B:aw) (gj:List kL) (k:aY->aw->List kL->Prop),tj N l=true->s6 P aS ids all i l K B gj k-> ∀(C:e9) (a:Act) (w:World),eW N ids C K B a w->
  ∀(r:Option Nat) (Q:Exit->Act->World->Prop),(∀K' B' Zu,k K' B' Zu-> ∀a' w',eW N ids C K' B' a' w'->Q .normal a' w')->wpListIn (oD r) 0 P all.toArray Q l a w
 | [],i,K,B,gj,k,_,h,C,a,w,ax,r,Q,ab=>wpListIn_nil (ab K B gj h a w ax)
 |o::l,i,K,B,gj,k,J,h,C,a,w,ax,r,Q,ab=>by
  simp only[tj,vj] at J;obtain⟨⟨vK,d0⟩,dC⟩:=J;have d0:=Jc d0;have bw: ∀d,o.dst=some d->d < N:=fun d e=>by rw[e] at vK;simpa[Nat.blt_eq] using vK
  have d1:=ax;obtain⟨_,_,ρ,F,aq,au⟩:=d1;rw[OB] at h;unfold Ev at h;simp only[Ig] at h;refine wpListIn_step fun fE By=>?_
  split at h
  .exact h.elim
  .rename_i hw;rw[if_neg (by rw[zf hw au];simp)];refine⟨fun _ _=>trivial,By _ _ ?_⟩;have a7:=ax.undef o.dst bw
   split at h
   .rename_i d e;rw[e] at a7⊢;exact xk bm all l _ _ _ _ k dC h C _ w a7 r Q ab
   .rename_i e;rw[e] at a7⊢;exact xk bm all l _ _ _ _ k dC h C _ w a7 r Q ab
  .rename_i hw;rw[if_pos (zf hw au)];obtain⟨v,e,h,aD,hf⟩:=Ja bm h;refine Bx d0 (aD K B (fun _ _=>rfl) (fun _ _=>rfl) hf C a w ax bw fE Q fun a' w' f'=>By _ _ ?_)
   split at h
   .rename_i ao;rw[ao] at f';exact xk bm all l _ _ _ _ k dC h C _ w' f' r Q ab
   .rename_i d ao;rw[ao] at f'
    split at h
    .rename_i b a1
     cases b with
     |true=>exact xk bm all l _ _ _ _ k dC (h.1 rfl) C _ w' f'.lit r Q ab
     |false=>exact xk bm all l _ _ _ _ k dC (h.2 rfl) C _ w' f'.lit r Q ab
    .exact xk bm all l _ _ _ _ k dC h C _ w' f' r Q ab
def zg (P:Program) (aS:dc) (N:Nat) (ids:ay5):Prop:= ∀(id:Nat) (c':Array Oper) (K:aY) (B:aw) (k:aY->aw->Prop),tj N c'.toList=true->P.follows .mixedOrders=true->
 s6 P aS ids c'.toList 0 c'.toList K B [] (fun K' B' gj=>vC K B c'.toList gj=true/\k K' B')-> ∀(C:e9) (a:Act) (w:World),eW N ids C K B a w->
 ∀(r:Option Nat) (Q:Exit->Act->World->Prop),(∀K' B',k K' B'-> ∀a' w',eW N ids C K' B' a' w'->Q .normal a' w')->(Code.region id c' true).wpIn (oD r) 0 P Q a w
theorem eW.eval {C:e9} {K:aY} {B:aw} {a:Act} {w:World} (h:eW N ids C K B a w) {c:Operand} {b:Bool} (H:a6 K c= .c (.one (.d (.lit b)))\/a6 K c= .c (.one (.d (.bool b)))):a.eval c= .bool b:=by
 obtain⟨_,_,ρ,F,aq,au⟩:=h;rcases H with H |H
 .exact au.lit H
 .exact au.bool H
theorem zh (bm:d6 P aS) (b9:zg P aS N ids) (stops:ay5): ∀(c:Code) (K:aY) (B:aw) (Q:nG->aY->aw->Prop),jr P N c=true->jm P aS N ids stops c K B Q->bt P N ids c K B Q:=by
 intro c
 induction c with
 |skip=>exact fun K B Q _ h r aF C h1 aT a w ax=>wpIn_skip (aT .gY K B C.ds (fun _=>rfl) h a w ax)
 |region id c' draw=>
  intro K B Q H h;rw[XO] at h;simp only[jr,vj,Bool.or_eq_true,Bool.not_eq_true'] at H
  split at h
  .exact h
  .split at h
   .intro r aF C h1 aT a w ax;refine wpIn_region_list ?_;have:=xk bm c'.toList c'.toList 0 K B [] _ H.1 h C a w ax r h1 (fun K' B' _ ab a' w' d1=>aT .gY K' B' C.ds (fun _=>rfl) ab a' w' d1);simpa using this
   .intro r aF C h1 aT a w ax;exact b9 id c' K B (Q .gY) H.1 (H.2.resolve_left au7) h C a w ax r h1 (fun K' B' ab a' w' d1=>aT .gY K' B' C.ds (fun _=>rfl) ab a' w' d1)
 |seq x y oz oA=>
  intro K B Q H h r aF C h1 aT a w ax;simp only[jr,vj] at H;rw[XP] at h;refine wpIn_seq (oz K B _ H.1 h r aF C _ ?_ a w ax);intro e K' B' ds ho V a' w' d1
  cases e with
  |gY=>exact oA K' B' Q H.2 V r aF (C.at ds) h1 (fun e K B xl Jd=>aT e K B xl fun aH=>(Jd aH).trans (ho aH)) a' w' d1
  |ex i=>exact aT (.ex i) K' B' ds ho V a' w' d1
  |ret=>exact aT .ret K' B' ds ho V a' w' d1
 |cond c x y oz oA=>
  intro K B Q H h r aF C h1 aT a w ax;simp only[jr,vj] at H;rw[XQ] at h
  split at h
  .rename_i al;exact wpIn_cond_true (ax.eval (.inl al)) (oz K B Q H.1 h r aF C h1 aT a w ax)
  .rename_i al;exact wpIn_cond_false (ax.eval (.inl al)) (oA K B Q H.2 h r aF C h1 aT a w ax)
  .rename_i b al
   cases b with
   |true=>exact wpIn_cond_true (ax.eval (.inr al)) (oz K B Q H.1 (h.1 rfl) r aF C h1 aT a w ax)
   |false=>exact wpIn_cond_false (ax.eval (.inr al)) (oA K B Q H.2 (h.2 rfl) r aF C h1 aT a w ax)
  .exact h.elim
 |block i b br=>
  intro K B Q H h r aF C h1 aT a w ax;rw[XR] at h;refine wpIn_block (br K B _ H h r aF C _ ?_ a w ax);intro e K' B' ds ho V a' w' d1
  cases e with
  |gY=>exact aT .gY K' B' ds ho V a' w' d1
  |ret=>exact aT .ret K' B' ds ho V a' w' d1
  |ex j=>
   simp only[nG.to,Exit.inBlock] at V⊢
   split at V
   .rename_i e;have:=ap6 e;subst this;rw[if_pos rfl];exact aT .gY K' B' ds ho V a' w' d1
   .rename_i e;rw[if_neg (fun x=>by subst x;simp at e)];exact aT (.ex j) K' B' ds ho V a' w' d1
 |loop b br=>exact fun K B Q H h=>h
 |rangeFunc f bE x b oz oA=>exact fun K B Q H h=>h
 |scope b br=>
  intro K B Q H h r aF C h1 aT a w ax;rw[XS] at h;refine Zq (br K B _ H h r aF C _ ?_ a w ax);intro e K' B' ds ho V a' w' d1
  cases e with
  |gY=>exact aT .gY K' B' ds ho V a' w' d1
  |ret=>exact aT .ret K' B' ds ho V a' w' d1
  |ex j=>exact aT (.ex j) K' B' ds ho V a' w' d1
 |label l=>exact fun K B Q H h r aF C h1 aT a w ax=>wpIn_label (aT .gY K B C.ds (fun _=>rfl) h a w ax)
 |exit i=>exact fun K B Q H h r aF C h1 aT a w ax=>wpIn_exit (aT (.ex i) K B C.ds (fun _=>rfl) h a w ax)
 |ret=>exact fun K B Q H h r aF C h1 aT a w ax=>wpIn_ret (aT .ret K B C.ds (fun _=>rfl) h a w ax)
 |_=>intro K B Q H h;simp[jr] at H
def ae (ids:ay5) (K:aY) (B:aw) (K':aY) (B':aw):Prop:= ∀(N:Nat) (C:e9) (a:Act) (w:World),eW N ids C K B a w->eW N ids C K' B' a w
theorem ae.refl (K:aY) (B:aw):ae ids K B K B:=fun _ _ _ _ h=>h
theorem ae.trans {K K' Pt:aY} {B B' Pu:aw} (h:ae ids K B K' B') (h':ae ids K' B' Pt Pu):ae ids K B Pt Pu:=fun N C a w ax=>h' N C a w (h N C a w ax)
theorem bt.le {c:Code} {K K':aY} {B B':aw} {Q:nG->aY->aw->Prop} (h:ae ids K B K' B') (cq:bt P N ids c K' B' Q):bt P N ids c K B Q:=fun r aF C h1 aT a w ax=>cq r aF C h1 aT a w (h N C a w ax)
theorem bt.mono {c:Code} {K:aY} {B:aw} {Q Q':nG->aY->aw->Prop} (h: ∀e K B,Q' e K B->Q e K B) (cq:bt P N ids c K B Q'):bt P N ids c K B Q:=fun r aF C h1 aT a w ax=>cq r aF C h1 (fun e K' B' ds ho V=>aT e K' B' ds ho (h e K' B' V)) a w ax
theorem bt.loop (bm:d6 P aS) (b9:zg P aS N ids) (stops:ay5) {b:Code} (H:jr P N b=true) {X:Type} (kQ:X->aY) (g0:X->aw) (inv:X->Prop) (uo:X->Nat) (hS:X) {K:aY} {B:aw} {Q:nG->aY->aw->Prop} (av:inv hS) (gZ:ae ids K B (kQ hS) (g0 hS))
  (h: ∀x,inv x->jm P aS N ids stops b (kQ x) (g0 x) (fun e K B=>match e with
   | .gY=> ∃y,inv y/\uo y < uo x/\ae ids K B (kQ y) (g0 y)
   | .ex i=>Q (.ex i) K B
   | .ret=>Q .ret K B)):bt P N ids (.loop b) K B Q:=by
 intro r aF C h1 aT a w ax;refine wpIn_loop_ghost (fun n a w=> ∃x ds,(ua ids=true->ds=C.ds)/\inv x/\uo x=n/\eW N ids (C.at ds) (kQ x) (g0 x) a w) (uo hS) ⟨hS,C.ds,fun _=>rfl,av,rfl,gZ N C a w ax⟩ ?_;rintro n a w ⟨x,ds,ho,hx,rfl,ax⟩;refine zh bm b9 stops b _ _ _ H (h x hx) r aF (C.at ds) _ ?_ a w ax;intro e K' B' xl Jd V a' w' d1;have Je:ua ids=true->xl=C.ds:=fun aH=>(Jd aH).trans (ho aH)
 cases e with
 |gY=>
  obtain⟨y,aB,bw,Zv⟩:=V;exact⟨uo y,bw,y,xl,Je,aB,rfl,Zv N (C.at xl) a' w' d1⟩
 |ex i=>exact aT (.ex i) K' B' xl Je V a' w' d1
 |ret=>exact aT .ret K' B' xl Je V a' w' d1
def oM:Nat->List aP->aY
 |_,[]=>[]
 |i,v::l=>(i,v)::oM (i+1) l
theorem Bz: ∀(l:List aP) (i s:Nat),dA (oM i l) s=(if i<=s then(l[s - i]?).getD (.c (.one .any)) else .c (.one .any))
 | [],i,s=>by simp[oM,dA]
 |v::l,i,s=>by
  simp only[oM];rw[ke,Bz l (i+1) s]
  by_cases h:i=s
  .subst h;simp
  .rw[if_neg h]
   by_cases G:i<=s
   .rw[if_pos au5,if_pos G,show s - i=(s - (i+1))+1 by omega];rfl
   .rw[if_neg au5,if_neg G]
def xm (aS:dc) (K:aY) (B:aw):List ResultVar->Option (List dI)
 | []=>some []
 | .tmp t::l=>match dA K t,xm aS K B l with
  | .c x,some r=>some (x::r)
  |_,_=>none
 | .cell t T::l=>match dA K t,xm aS K B l,aS.find T with
  | .c (.one (.ptr c o)),some r,some ti=>match ag B c with
   |some (.cells m)=>match ti.row with
    |true=>match Nat.ble (o+ti.size) m.length with
     |true=>some (.agg ((m.drop o).take ti.size)::r)
     |false=>none
    |false=>match m[o]? with
     |some s=>some (.one s::r)
     |none=>none
   |_=>none
  |_,_,_=>none
def tk (tmps:Array Value) (r:ResultVar):Sem Value:=match r with
 | .tmp t=>pure (tmps.getD t undef)
 | .cell ad t=>do loadVar t (<-asAddr (tmps.getD ad undef))
def Jf:List dI->aP
 | [x]=>.c x
 |l=>.cf l
theorem EP (bm:d6 P aS) {ρ:Nat->bn} {F:Nat->Nat->Prop} {C:e9} {K:aY} {B:aw} {a:Act} {w:World} (aq:Mem ids C B ρ F w) (au:ee K ρ (bZ C B F w) a w): ∀(l:List ResultVar) (r:List dI),xm aS K B l=some r->
  ∃aE:List Value,(l.mapM (tk a.tmps)).run P w= .ok aE w/\iM ρ (bZ C B F w) w r aE
 | [],r,h=>by
  simp only[xm,ap4] at h;subst h;exact⟨[],au7,rfl⟩
 | .tmp t::l,r,h=>by
  unfold xm at h
  split at h
  .rename_i x BA hx aF;injection h with h
   subst h;obtain⟨aE,E,G⟩:=EP bm aq au l BA aF;have ay:=au t;rw[hx] at ay;exact⟨_::aE,by simp[List.mapM_cons,E,tk],_,aE,rfl,ay,G⟩
  .cases h
 | .cell t T::l,r,h=>by
  unfold xm at h
  split at h
  .rename_i c o BA ti hx aF gB;obtain⟨i,d,bu⟩:=bm.at_ gB;obtain⟨aE,E,G⟩:=EP bm aq au l BA aF;have ay:=au t;rw[hx] at ay;have ay:a.tmps.getD t undef= .pointer (some ⟨(ρ c).bj,o,none⟩):=ay
   split at h
   .rename_i m al;obtain⟨bh,us,eS,O,J⟩:=aq.holds c _ al
    split at h
    .rename_i fX
     split at h
     .rename_i gZ;have gZ:=Nat.le_of_ble_eq_true gZ;injection h with h
      subst h;have jW:=b'.Ey ti.size _ _ (b'.qZ o _ _ J)
      have dO:=run_loadVar_mid (P:=P) w (ρ c).bj o T ((us.drop o).take ti.size) d (fun j u Z=>by
       rw[List.getElem?_take] at Z
       split at Z
       .rw[List.getElem?_drop] at Z;exact oF O Z
       .cases Z) bu.nI (bu.row.trans fX) (by rw[bu.jE,at2,bu.size,b'.length _ _ jW,ap8,at1];congr 1;omega)
      exact⟨_::aE,by simp[List.mapM_cons,tk,ay,asAddr,dO,E],_,aE,rfl,⟨_,rfl,jW⟩,G⟩
     .cases h
    .rename_i fX
     split at h
     .rename_i s ax;injection h with h
      subst h;obtain⟨v,up,jW⟩:=b'.get _ _ J o s ax;have dO:=OQ (P:=P) (T:=T) bu.nI (bu.row.trans fX) (oF O up);exact⟨_::aE,by simp[List.mapM_cons,tk,ay,asAddr,dO,E],_,aE,rfl,jW,G⟩
     .cases h
   .cases h
  .cases h
def zi (l:ay5):List kH->Bool
 | []=>true
 | .p b _::m=>l.contains b&&zi l m
 | .d _::m=>zi l m
theorem Jg {l:ay5} {c:Nat}: ∀{m:List kH},zi l m=true->l0 c m=true->c∈l
 | [],_,H=>by simp[l0] at H
 | .p b o::m,h,H=>by
  simp only[zi,vj,ar6] at h;simp only[l0,Bool.or_eq_true] at H;rcases H with H |H
  .have:=ap6 H;subst this;exact h.1
  .exact Jg h.2 H
 | .d x::m,h,H=>Jg (m:=m) (by simpa[zi] using h) (by simpa[l0] using H)
def bC.iW (l:ay5):bC->Bool
 | .ptr b _=>l.contains b
 | .own b=>l.contains b
 | .f2 b _ _ _=>l.contains b
 | .os b _ _ _=>l.contains b
 | .mp b=>l.contains b
 | .cU _ m=>zi l m
 |_=>true
def BB (l:ay5):List bC->Bool
 | []=>true
 |s::m=>s.iW l&&BB l m
def dI.iW (l:ay5):dI->Bool
 | .one s=>s.iW l
 | .agg m=>BB l m
 | .jV _ _=>true
def EQ (l:ay5):List dI->Bool
 | []=>true
 |s::m=>s.iW l&&EQ l m
def aP.iW (l:ay5):aP->Bool
 | .c x=>x.iW l
 | .cf m=>EQ l m
 | .undef=>true
def bb.iW (l:ay5):bb->Bool
 | .cells m=>BB l m
 | .cn d _=>l.contains d
 |_=>true
def vL (l:ay5):aw->Bool
 | []=>true
 |(_,ch)::B=>ch.iW l&&vL l B
theorem bC.kn {l:ay5} {s:bC} (h:s.iW l=true) {c:Nat} (H:s.has c=true):c∈l:=by
 cases s <;>simp only[bC.iW,bC.has,ar6,Bool.false_eq_true] at h H
 all_goals first |exact Jg h H |(have:=ap6 H;subst this;exact h)
theorem Jh {l:ay5} {c:Nat}: ∀{m:List bC},BB l m=true->mr c m=true->c∈l
 | [],_,H=>by simp[mr] at H
 |s::m,h,H=>by
  simp only[BB,vj] at h;simp only[mr,Bool.or_eq_true] at H;exact H.elim (bC.kn h.1) (Jh h.2)
theorem dI.kn {l:ay5} {s:dI} (h:s.iW l=true) {c:Nat} (H:s.has c=true):c∈l:=by
 cases s with
 |one s=>exact bC.kn h H
 |agg m=>exact Jh h H
 |jV u x=>cases H
theorem Pv {l:ay5} {c:Nat}: ∀{m:List dI},EQ l m=true->s2 c m=true->c∈l
 | [],_,H=>by simp[s2] at H
 |s::m,h,H=>by
  simp only[EQ,vj] at h;simp only[s2,Bool.or_eq_true] at H;exact H.elim (dI.kn h.1) (Pv h.2)
theorem aP.kn {l:ay5} {s:aP} (h:s.iW l=true) {c:Nat} (H:s.has c=true):c∈l:=by
 cases s with
 |c s=>exact dI.kn h H
 |cf m=>exact Pv h H
 |undef=>cases H
theorem bb.kn {l:ay5} {s:bb} (h:s.iW l=true) {c:Nat} (H:s.has c=true):c∈l:=by
 cases s with
 |cells m=>exact Jh h H
 |row e u xs=>cases H
 |map aI aK es=>cases H
 |val u x=>cases H
 |aG o=>cases H
 |cn d o=>rw[<-ap6 H];exact ar6.1 h
theorem xn {l:ay5}: ∀{B:aw},vL l B=true-> ∀{c ch},ag B c=some ch->ch.iW l=true
 | [],_,c,ch,h=>by cases h
 |(d,x)::B,h,c,ch,H=>by
  simp only[vL,vj] at h;rw[ca] at H
  split at H
  .injection H with H;subst H;exact h.1
  .exact xn h.2 H
section
variable {ρ:Nat->bn} {I:Nat->Prop} {w:World}
theorem Zw: ∀{x y:D} {v:Value},Ii x y->gF I w x v->gF I w y v:=by
 intro x y v h ay;unfold Ii at h
 split at h
 .split at h
  .rename_i e;have:=nH e;subst this h;exact ay
  .exact h.elim
 .subst h;exact ay
 .subst h;exact ay
 .subst h;exact ay
 .subst h;exact ay
 .subst h;exact ay
 .subst h;exact ay
 .subst h;exact ay
 .split at h
  .rename_i e _;subst e;have h:_=_:=h;subst h;exact ay
  .exact h.elim
 .exact h.elim
theorem Pw {s t:bC} {v:Value} (h:Ec s t) (ay:dU ρ I w s v):dU ρ I w t v:=by
 unfold Ec at h
 split at h
 .trivial
 .exact Zw h ay
 .subst h;rw[show v=_ from ay];exact⟨none,0,rfl,ap0 _,ap7 _,fun h=>absurd h (Nat.lt_irrefl 0)⟩
 .subst h;exact ay
theorem Ji: ∀{l m:List bC} {aE:List Value},Ed l m->b' ρ I w l aE->b' ρ I w m aE
 | [],[],_,_,h=>h
 |s::l,t::m,_,⟨E,G⟩,⟨v,r,e,g1,g2⟩=>⟨v,r,e,Pw E g1,Ji G g2⟩
 | [],_::_,_,h,_=>h.elim
 |_::_,[],_,h,_=>h.elim
theorem Px {s t:dI} {v:Value} (h:Ee s t) (ay:gA ρ I w s v):gA ρ I w t v:=by
 unfold Ee at h
 split at h
 .exact Pw h ay
 .obtain⟨aE,e,ay⟩:=ay;exact⟨aE,e,Ji h ay⟩
 .trivial
 .split at h
  .rename_i a7 _;subst a7;have h:_=_:=h;subst h;exact ay
  .exact h.elim
 .trivial
 .exact h.elim
theorem Py: ∀{l m:List dI} {aE:List Value},Ij l m->iM ρ I w l aE->iM ρ I w m aE
 | [],[],_,_,h=>h
 |s::l,t::m,_,⟨E,G⟩,⟨v,r,e,g1,g2⟩=>⟨v,r,e,Px E g1,Py G g2⟩
 | [],_::_,_,h,_=>h.elim
 |_::_,[],_,h,_=>h.elim
theorem vM {s t:aP} {v:Value} (h:s5 s t) (ay:cr ρ I w s v):cr ρ I w t v:=by
 unfold s5 at h
 split at h
 .exact Px h ay
 .obtain⟨aE,e,ay⟩:=ay;exact⟨aE,e,Py h ay⟩
 .exact ay
 .trivial
 .exact h.elim
theorem Jj: ∀{l m:List aP},Ef l m->l.length=m.length/\ ∀(i:Nat) (t:aP),m[i]? =some t-> ∃s,l[i]? =some s/\s5 s t
 | [],[],_=>⟨rfl,fun i t h=>by simp at h⟩
 |s::l,t::m,⟨E,G⟩=>by
  obtain⟨g1,g2⟩:=Jj G;refine⟨by simp[g1],fun i u a7=>?_⟩
  match i with
  |0=>
   simp only[aq5,ap4] at a7;subst a7;exact⟨s,rfl,E⟩
  |i+1=>exact g2 i u (by simpa using a7)
 | [],_::_,h=>h.elim
 |_::_,[],h=>h.elim
end
theorem Fn.arg {P:Program} {f:FuncId} {args args':List aP} {aJ:aw} {bc:ay5} {res:aP} {aO:aw} (h:Fn P f args' aJ bc res aO) (al:Ef args args'):Fn P f args aJ bc res aO:=by
 obtain⟨E,G⟩:=Jj al;refine⟨h.1,fun ρ F I w bW b4 cg a3 a4 a5 gy=>h.2 ρ F I w bW b4 cg a3 a4 (a5.trans E) fun i v x ay hx=>?_⟩;obtain⟨s,g1,g2⟩:=G i v ay;exact vM g2 (gy i s x g1 hx)
theorem Zx {C:e9} {ds:ay5} {B:aw} {ρ:Nat->bn} {F:Nat->Nat->Prop} {w w':World} (h:Mem ids (C.at ds) B ρ F w) (cz:cK (fun D=>D∈ds) w w'):
  Mem ids (C.at []) B ρ F w'/\ce (bZ (C.at ds) B F w) w (bZ (C.at []) B F w') w':=by
 have ho: ∀b,(C.yP b\/C.p3 b\/C.gh.heap.size<=b/\b∉ds)->b∉ds:=fun b O J=>by
  have cZ:C.gh.heap.size<=b:=(h.kI.2.2 b J).2.2;rcases O with O |O |O
  .have jo:b < C.gh.heap.size:=h.kI.2.1 b (.inl O);omega
  .have jo:b < C.gh.heap.size:=h.kI.2.1 b (.inr O);omega
  .exact O.2 J
 have aW:ce (bZ (C.at ds) B F w) w (bZ (C.at []) B F w') w':=fun b O=>
  ⟨⟨Nat.lt_of_lt_of_le O.1 cz.size,O.2.1.imp id fun x=>x.imp id fun x=>⟨x.1,au7⟩,O.2.2⟩,cz.block b O.1 (ho b O.2.1)⟩
 have bh: ∀c ch,ag B c=some ch-> ∀b,F c b->w'.heap[b]? =w.heap[b]? :=fun c ch H b O=>by
  obtain⟨cx,cA⟩:=h.own c ch H b O;exact cz.block b cx (ho b (.inr cA))
 refine⟨⟨h.fr.trans cz fun i aH J=>?_,fun c ch H=>Holds.cj aW (bh c ch H) cz.size ch (fun _ _=>rfl) (h.holds c ch H),fun c ch H b O=>?_,h.e',h.d',at0,h.kI.2.1,fun D b9=>by cases b9⟩,aW⟩
 .have aj:C.gh.heap.size<=i:=(h.kI.2.2 i J).2.2;have aH:i < C.gh.heap.size:=aH;omega
 .obtain⟨cx,cA⟩:=h.own c ch H b O;exact⟨Nat.lt_of_lt_of_le cx cz.size,cA.imp id fun x=>⟨x.1,au7⟩⟩
theorem Pz {F:Fence} {n:Nat} {fn:Func} {tmps:Array Value} {R:Ending->World->Prop}: ∀(ds:ay5) (w:World),ds.Nodup->(∀D,D∈ds->D < w.heap.size/\w.heap[D]? =some (.deferred (some [])))->
  (∀w',cK (fun D=>D∈ds) w w'->LeavesIn F n P fn tmps R [] .returning w')->LeavesInM F n P fn tmps R (ds.map w0) .returning w
 | [],w,_,_,h=>h w (cK.refl _ w)
 |D::ds,w,hn,J,h=>by
  obtain⟨cI,dF⟩:=aq7.1 hn;obtain⟨hB,iB⟩:=J D (aq0 ..);have hf:cK (fun b=>b=D) w (w.putObj D (.deferred none)):=⟨rfl,rfl,rfl,Nat.le_of_eq (World.putObj_size).symm,fun k _ ab=>World.putObj_heap_other ab⟩;refine⟨fun e=>(by cases e),.inl ⟨D,w.putObj D (.deferred none),rfl,run_takeDeferred iB,Pz ds _ dF (fun uk aW=>?_) fun w' p8=>h w' ?_⟩⟩
  .obtain⟨cx,cA⟩:=J uk (ap2 _ aW);exact⟨by rw[World.putObj_size];exact cx,(World.putObj_heap_other (r:=D) (k:=uk) fun e=>cI (e▸aW)).trans cA⟩
  .exact(hf.mono fun i _ (aH:i=D)=>by rw[aH];exact aq0 ..).trans p8 fun i _ aH=>ap2 _ aH
theorem PA {F:Fence} {n:Nat} {fn:Func} {R:Ending->World->Prop} {C:e9} {ds:ay5} {K:aY} {B:aw} {a:Act} {w:World} (ax:eW N ids (C.at ds) K B a w)
  (h: ∀w',eW N ids (C.at []) K B {a with defers:=[]} w'-> ∃v,(results fn a.tmps).run P w'= .ok v w'/\R (.returned v) w'):LeavesInM F n P fn a.tmps R a.defers .returning w:=by
 obtain⟨E,G,ρ,b8,aq,au⟩:=ax;rw[G];refine Pz ds w aq.kI.1 (fun D b9=>⟨(aq.kI.2.2 D b9).1,(aq.kI.2.2 D b9).2.1⟩) fun w' p8=>h w' ?_
 obtain⟨bN,aW⟩:=Zx aq p8;exact⟨E,rfl,ρ,b8,bN,au.mono aW fun _ _ _=>rfl⟩
def ER (aS:dc) (ids bc:ay5) (i6:List ResultVar) (res:aP) (aO:aw) (e:nG) (K:aY) (B:aw):Prop:=match e with
 | .ex _=>False
 |_=> ∃K' B' r,ae ids K B K' B'/\xm aS K' B' i6=some r/\s5 (Jf r) res/\kK B' aO/\(res.iW (ids++bc)&&vL (ids++bc) aO&&(cl aO).all (fun c=>(ids++bc).contains c))=true
theorem Fn.of (bm:d6 P aS) {f:FuncId} {fn:Func} {c:Code} (stops:ay5) (args:List aP) (aJ:aw) (bc:ay5) (res:aP) (aO:aw) (hf:P.funcs[f]? =some fn) (O:fn.body=some c) (hn:fn.ntmps=N) (fT:jl P f=true) (H:jr P N c=true) (fu:Nat.ble args.length N=true) (b9:zg P aS N (cl aJ)) {i6:List ResultVar} (xo:fn.results.toList=i6)
  (h:jm P aS N (cl aJ) stops c (oM 0 args) aJ (ER aS (cl aJ) bc i6 res aO)):Fn P f args aJ bc res aO:=by
 refine⟨fT,?_⟩;intro ρ F I w bW ba cX bh ep b6 dt;have fu:=Nat.le_of_ble_eq_true fu;refine Ps (r:=none) (n:=0) (callsIn_of_wp_marks hf O trivial ?_)
 let C:e9:=⟨w,I,fun b=> ∃c ch,ag aJ c=some ch/\F c b,ρ,[]⟩
 have sc:ce I w (bZ C aJ F w) w:=fun b O=>⟨⟨ba b O,.inl O,fun c ch H p9=>(bh c ch H b p9).2 O⟩,rfl⟩
 have aq:Mem (cl aJ) C aJ ρ F w:=⟨cK.refl _ _,fun c ch H=>Holds.cj sc (fun _ _=>rfl) (ap0 _) ch (fun _ _=>rfl) (cX c ch H),fun c ch H b O=>⟨(bh c ch H b O).1,.inl ⟨c,ch,H,O⟩⟩,ep,fun c _=>rfl,at0,fun b O=>O.elim (ba b) fun⟨c,ch,H,BC⟩=>(bh c ch H b BC).1,fun D b9=>by cases b9⟩;refine zh bm b9 stops c _ _ _ H h none (fun _=>rfl) C _ ?_ _ w ⟨by simp[b6,hn];omega,rfl,ρ,F,aq,fun s=>?_⟩
 .intro e K' B' ds _ V a' w' d1
  cases e with
  |ex i=>exact V.elim
  |_=>
   obtain⟨PB,js,r,gZ,aF,af,hR,ps⟩:=V;refine PA d1 fun w' d1=>?_
   obtain⟨hq,jW,ρ',F',bN,BD⟩:=gZ N C _ w' d1;obtain⟨aE,dO,hr⟩: ∃aE:List Value,(i6.mapM (tk a'.tmps)).run P w'= .ok aE w'/\iM ρ' (bZ C js F' w') w' r aE:=EP bm bN BD i6 r aF
   have i7: ∃x,(results fn a'.tmps).run P w'= .ok x w'/\cr ρ' (bZ C js F' w') w' (Jf r) x:=by
    have E:fn.results=i6.toArray:=by rw[<-xo]
    have G:(fn.results.mapM (tk a'.tmps)).run P w'= .ok (List.toArray aE) w':=by
     rw[E,List.mapM_toArray];simp[dO]
    have aj:results fn a'.tmps=(do let aE<-fn.results.mapM (tk a'.tmps);pure (if h:aE.size=1 then aE[0] else .tuple aE)):=rfl;rw[aj]
    match r,aE,hr,G with
    | [],_,e,G=>rw[show _=[] from e] at G;exact⟨.tuple #[],by simp[G],[],rfl,rfl⟩
    | [x],_,⟨v,s,e,ay,ax⟩,G=>
     have ax:s=[]:=ax;subst ax e;exact⟨v,by simp[G],ay⟩
    |x::y::r,_,⟨v,s,e,ay,v2,bD,ao,up,f'⟩,G=>
     subst ao e;exact⟨.tuple (List.toArray (v::v2::bD)),by simp[G],_,rfl,v,_,rfl,ay,v2,bD,rfl,up,f'⟩
   obtain⟨x,hx,r'⟩:=i7;have r':=vM af r';simp only[vj] at ps
   let uq:Nat->bn:=fun c=>if c∈bc then ρ' c else ρ c
   have q6: ∀c,c∈cl aJ++bc->uq c=ρ' c:=fun c H=>by
    show(if c∈bc then ρ' c else ρ c)=ρ' c
    split
    .rfl
    .rename_i hn;rcases aq8.1 H with h |h
     .exact(bN.d' c h).symm
     .exact absurd h hn
   refine⟨x,hx,x,uq,F',rfl,bN.fr,fun c H=>if_neg H,bZ C js F' w',?_,fun b O=>⟨O.1,?_⟩,?_,?_,?_,?_⟩
   .intro b O;have vN: ¬C.p3 b:=fun⟨c,ch,E,G⟩=>(bh c ch E b G).2 O
    refine⟨⟨Nat.lt_of_lt_of_le (ba b O) bN.fr.size,.inl O,fun c ch H p9=>?_⟩,bN.fr.block b (ba b O) vN⟩;rcases(bN.own c ch H b p9).2 with h |h
    .exact vN h
    .have:=ba b O;exact absurd h.1 (Nat.not_le.2 this)
   .rcases O.2.1 with h |h |h
    .exact .inl h
    .exact .inr (.inl h)
    .exact .inr (.inr h.1)
   .intro c ch H
    have ab:c∈cl aJ++bc:=by
     have:=ar4.1 ps.2 c (gm.2 ⟨ch,H⟩);simpa only[ar6] using this
    rw[q6 c ab];exact Holds.cj (ce.refl _ _) (fun _ _=>rfl) (ap0 _) ch (fun d J=>q6 d (bb.kn (xn ps.1.2 H) J)) (bN.holds c ch (kl hR H))
   .intro c ch H b O;have cF:=kl hR H;exact⟨(bN.own c ch cF b O).1,fun aH=>aH.2.2 c ch cF O,(bN.own c ch cF b O).2.imp id fun x=>x.1⟩
   .exact fun c bX ch ch' b E G=>bN.e' c bX ch ch' b (kl hR E) (kl hR G)
   .exact cr.mono (ce.refl _ _) res x (fun c H=>q6 c (aP.kn ps.1.1 H)) r'
 .rw[Bz];simp only[ap7,if_true,Nat.sub_zero]
  cases ax:args[s]? with
  |none=>trivial
  |some v=>
   have bw:s < bW.length:=by rw[b6];exact(ap5.1 ax).1
   simp only[Option.getD_some];have hx:bW[s]? =some bW[s]:=oj bw;have:=cr.mono sc v _ (fun _ _=>rfl) (dt s v _ ax hx);simpa[Array.getElem?_append,bw,hx] using this
end
end
section
section
variable {ids:ay5} {K:aY} {B:aw} {C:e9} {ρ:Nat->bn} {F:Nat->Nat->Prop} {w:World}
def zj (K:aY):aY->Prop
 | []=>True
 |(s,v)::l=>s5 (dA K s) v/\zj K l
theorem Jk: ∀{K' K:aY},zj K K'-> ∀s,s5 (dA K s) (dA K' s)\/dA K' s= .c (.one .any)
 | [],K,h,s=>.inr rfl
 |(t,v)::K',K,h,s=>by
  rw[ke]
  split
  .rename_i e;subst e;exact .inl h.1
  .exact Jk h.2 s
theorem ae.sub {K':aY} {B':aw} (di:zj K K') (da:kK B B'):ae ids K B K' B':=by
 rintro N C a w ⟨E,G,ρ,F,aq,au⟩
 obtain⟨bN,aW⟩:=aq.step (B':=B') (ρ':=ρ) (F':=F) (w':=w) (fun c=>ag B' c=none) (fun _=>False) (cK.refl _ _) (fun c ch H _=>kl da H) (fun _ _=>rfl) (fun _ _=>rfl) (fun _ _ h=>h) (fun _ h=>h.elim) (fun _ _ _ _ _ _ h=>h)
  (fun c ch H hn=>by rw[hn] at H;cases H) (fun c ch H hn=>by rw[hn] at H;cases H) (fun c bX ch ch' b H _ hn=>by rw[hn] at H;cases H)
 refine⟨E,G,ρ,F,bN,fun s=>?_⟩;rcases Jk di s with h |h
 .exact cr.mono aW _ _ (fun _ _=>rfl) (vM h (au s))
 .rw[h];trivial
def bC.dW (c:Nat) (x:D):bC->bC
 | .own b=>match Nat.beq b c with
  |true=>.d x
  |false=>.own b
 |s=>s
def ES (c:Nat) (x:D):List bC->List bC
 | []=>[]
 |s::l=>s.dW c x::ES c x l
def dI.dW (c:Nat) (x:D):dI->dI
 | .one s=>.one (s.dW c x)
 | .agg l=>.agg (ES c x l)
 | .jV u y=>.jV u y
def Jl (c:Nat) (x:D):List dI->List dI
 | []=>[]
 |s::l=>s.dW c x::Jl c x l
def aP.dW (c:Nat) (x:D):aP->aP
 | .c s=>.c (s.dW c x)
 | .cf l=>.cf (Jl c x l)
 | .undef=>.undef
def ET (c:Nat) (x:D):aY->aY
 | []=>[]
 |(s,v)::K=>(s,v.dW c x)::ET c x K
def bb.dW (c:Nat) (x:D):bb->bb
 | .cells l=>.cells (ES c x l)
 |ch=>ch
def p' (c:Nat) (x:D):aw->aw
 | []=>[]
 |(b,ch)::B=>match Nat.beq b c with
  |true=>p' c x B
  |false=>(b,ch.dW c x)::p' c x B
theorem PC {c:Nat} {x:D}: ∀(K:aY) (s:Nat),dA (ET c x K) s=(dA K s).dW c x
 | [],s=>rfl
 |(t,v)::K,s=>by
  simp only[ET];rw[ke,ke,PC K s]
  split <;>rfl
theorem xp {c:Nat} {x:D}: ∀(B:aw) (d:Nat),ag (p' c x B) d=if c=d then none else(ag B d).map (·.dW c x)
 | [],d=>by simp[p',ag]
 |(b,ch)::B,d=>by
  unfold p'
  split
  .rename_i e;have:=ap6 e;subst this;rw[xp B d,ca]
   split <;>rfl
  .rename_i e;have a2:b≠c:=fun h=>by subst h;simp at e
   rw[ca,ca,xp B d]
   by_cases h:b=d
   .subst h;rw[if_pos rfl,if_pos rfl,if_neg (Ne.symm a2)];rfl
   .rw[if_neg h,if_neg h]
section
variable {I I':Nat->Prop} {c:Nat} {x:D}
theorem dU.dW (V:ce I w I' w) (hx:gF I' w x (ρ c).ey) (s:bC) (v:Value) (h:dU ρ I w s v):dU ρ I' w (s.dW c x) v:=by
 cases s with
 |own b=>
  unfold bC.dW;simp only
  split
  .rename_i e;have:=ap6 e;subst this;rw[show v=_ from h];exact hx
  .exact h
 |d y=>exact dU.mono (ρ':=ρ) V (.d y) v (fun _ _=>rfl) h
 |el u y o=>exact dU.mono (ρ':=ρ) V (.el u y o) v (fun _ _=>rfl) h
 |cU f l=>exact dU.mono (ρ':=ρ) V (.cU f l) v (fun _ _=>rfl) h
 |_=>exact h
theorem b'.dW (V:ce I w I' w) (hx:gF I' w x (ρ c).ey): ∀(l:List bC) (aE:List Value),b' ρ I w l aE->b' ρ I' w (ES c x l) aE
 | [],_,h=>h
 |s::l,_,⟨v,r,e,E,G⟩=>⟨v,r,e,dU.dW V hx s v E,b'.dW V hx l r G⟩
theorem gA.dW (V:ce I w I' w) (hx:gF I' w x (ρ c).ey) (s:dI) (v:Value) (h:gA ρ I w s v):gA ρ I' w (s.dW c x) v:=by
 cases s with
 |one s=>exact dU.dW V hx s v h
 |agg l=>obtain⟨aE,e,h⟩:=h;exact⟨aE,e,b'.dW V hx l aE h⟩
 |jV u y=>obtain⟨aE,e,E,G⟩:=h;exact⟨aE,e,E,co.mono V u y _ _ (fun _ _ h=>h) G⟩
theorem iM.dW (V:ce I w I' w) (hx:gF I' w x (ρ c).ey): ∀(l:List dI) (aE:List Value),iM ρ I w l aE->iM ρ I' w (Jl c x l) aE
 | [],_,h=>h
 |s::l,_,⟨v,r,e,E,G⟩=>⟨v,r,e,gA.dW V hx s v E,iM.dW V hx l r G⟩
theorem cr.dW (V:ce I w I' w) (hx:gF I' w x (ρ c).ey) (s:aP) (v:Value) (h:cr ρ I w s v):cr ρ I' w (s.dW c x) v:=by
 cases s with
 |c s=>exact gA.dW V hx s v h
 |cf l=>obtain⟨aE,e,h⟩:=h;exact⟨aE,e,iM.dW V hx l aE h⟩
 |undef=>exact h
end
theorem Mem.dW (aq:Mem ids C B ρ F w) {c:Nat} {e:TypeId} {u:bx} {xs:List (aa u)} (H:ag B c=some (.row e u xs)):
  Mem ids C (p' c (.ck u xs) B) ρ F w/\ce (bZ C B F w) w (bZ C (p' c (.ck u xs) B) F w) w/\gF (bZ C (p' c (.ck u xs) B) F w) w (.ck u xs) (ρ c).ey:=by
 have bk:=aq.holds c _ H
 have zk: ∀b,bZ C B F w b->bZ C (p' c (.ck u xs) B) F w b:=fun b ⟨E,G,aj⟩=>⟨E,G,fun d ch J O=>by
  rw[xp] at J
  split at J
  .cases J
  .obtain⟨ch',dK,_⟩:=as0.1 J;exact aj d ch' dK O⟩
 have sb: ∀b,F c b->bZ C (p' c (.ck u xs) B) F w b:=fun b O=>by
  obtain⟨E,G⟩:=aq.own c _ H b O;refine⟨E,.inr G,fun d ch J dm=>?_⟩;rw[xp] at J
  split at J
  .cases J
  .rename_i a2;obtain⟨ch',dK,_⟩:=as0.1 J;exact aq.e' c d _ ch' b H dK a2 O dm
 have dt:gF (bZ C (p' c (.ck u xs) B) F w) w (.ck u xs) (ρ c).ey:=Bl bk zk sb;have aW:ce (bZ C B F w) w (bZ C (p' c (.ck u xs) B) F w) w:=fun b O=>⟨zk b O,rfl⟩
 refine⟨⟨aq.fr,fun d ch J=>?_,fun d ch J=>?_,fun d c1 ch ch' b J dK=>?_,aq.d',aq.kI⟩,aW,dt⟩
 .rw[xp] at J
  split at J
  .cases J
  .obtain⟨ch',dK,rfl⟩:=as0.1 J;have:=aq.holds d ch' dK
   cases ch' with
   |cells l=>
    obtain⟨E,aE,T,G,aj⟩:=this;exact⟨E,aE,T,G,b'.dW aW dt l aE aj⟩
   |row e u xs=>exact Holds.cj aW (fun _ _=>rfl) (ap0 _) _ (fun _ _=>rfl) this
   |map aI aK es=>exact Holds.cj aW (fun _ _=>rfl) (ap0 _) _ (fun _ _=>rfl) this
   |val u x=>exact Holds.cj aW (fun _ _=>rfl) (ap0 _) _ (fun _ _=>rfl) this
   |aG o=>exact Holds.cj aW (fun _ _=>rfl) (ap0 _) _ (fun _ _=>rfl) this
   |cn d o=>exact Holds.cj aW (fun _ _=>rfl) (ap0 _) (.cn d o) (fun _ _=>rfl) this
 .rw[xp] at J
  split at J
  .cases J
  .obtain⟨ch',dK,_⟩:=as0.1 J;exact aq.own d ch' dK
 .rw[xp] at J dK
  split at J
  .cases J
  .split at dK
   .cases dK
   .obtain⟨cC,E,_⟩:=as0.1 J;obtain⟨cG,G,_⟩:=as0.1 dK;exact aq.e' d c1 cC cG b E G
theorem ae.dW (c:Nat) {e:TypeId} {u:bx} {xs:List (aa u)} (H:ag B c=some (.row e u xs)):ae ids K B (ET c (.ck u xs) K) (p' c (.ck u xs) B):=by
 rintro N C a w ⟨E,G,ρ,F,aq,au⟩;obtain⟨bN,aW,J⟩:=aq.dW H;exact⟨E,G,ρ,F,bN,fun s=>by rw[PC];exact cr.dW aW J _ _ (au s)⟩
theorem ae.nil (s c:Nat) (e:TypeId) (u:bx) (ax:dA K s= .c (.one .dD)) (hf:gX ids K B c=true):ae ids K B ((s,.c (.one (.own c)))::K) ((c,.row e u [])::B):=by
 rintro N C a w ⟨E,G,ρ,F,aq,au⟩;have cz:=kM hf;obtain⟨bN,aW⟩:=aq.make (ch:=.row e u []) (w':=w) hf (Below.refl _ _) ⟨0,none,0,0⟩ (fun _=>False) (fun b h=>h.elim) (fun I _ _=>⟨fun b=>by simp[bn.ey,Value.ownBlock],fun b O=>by simp[bn.ey,Value.ownBlock] at O,[],World.ownsRow_nil _ _ _ _,gL.nil u⟩);refine⟨E,G,_,_,bN,fun t=>?_⟩;rw[ke]
 split
 .rename_i e;subst e;have:=au s;rw[ax] at this;rw[show a.tmps.getD s undef= .slice none 0 0 from this];simp only[cr,gA,dU,c6,bn.ey]
 .exact cr.mono aW _ _ (fun d J=>dd _ _ (fun e=>by subst e;rw[cz.1 t] at J;cases J)) (au t)
theorem ae.vO (b j c:Nat) (e:TypeId) (u:bx) {l:List bC} (O:ag B b=some (.cells l)) (Z:l[j]? =some .dD) (hf:gX ids K B c=true):ae ids K B K ((b,.cells (l.set j (.own c)))::(c,.row e u [])::B):=by
 rintro N C a w ⟨E,G,ρ,F,aq,au⟩;have cz:=kM hf;obtain⟨bN,aW⟩:=aq.make (ch:=.row e u []) (w':=w) hf (Below.refl _ _) ⟨0,none,0,0⟩ (fun _=>False) (fun b h=>h.elim) (fun I _ _=>⟨fun b=>by simp[bn.ey,Value.ownBlock],fun b O=>by simp[bn.ey,Value.ownBlock] at O,[],World.ownsRow_nil _ _ _ _,gL.nil u⟩);have EU:c≠b:=fun e=>by subst e;rw[cz.2.1] at O;cases O
 have dm:ag ((c,bb.row e u [])::B) b=some (.cells l):=by rw[ca,if_neg EU];exact O
 have bk:=bN.holds b _ dm
 obtain⟨iN,ur⟩:=bN.hP (ch:=.cells (l.set j (.own c))) dm (cK.refl _ _) (fun I V=>by
  obtain⟨g1,aE,T,g2,cZ⟩:=bk;refine⟨g1,aE,T,g2,?_⟩;have cZ:=b'.mono (ρ':=c5 ρ c ⟨0,none,0,0⟩) V l aE (fun _ _=>rfl) cZ
  have key: ∀(l:List bC) (aE:List Value) (j:Nat),l[j]? =some .dD->b' (c5 ρ c ⟨0,none,0,0⟩) I w l aE->b' (c5 ρ c ⟨0,none,0,0⟩) I w (l.set j (.own c)) aE:=fun l=>by
   induction l with
   |nil=>intro aE j Z;simp at Z
   |cons s l br=>
    rintro _ j Z ⟨v,r,rfl,cx,cA⟩
    match j with
    |0=>
     simp only[aq5,ap4] at Z;subst Z;refine⟨v,r,rfl,?_,cA⟩;rw[show v= .slice none 0 0 from cx];simp only[dU,c6,bn.ey]
    |j+1=>exact⟨v,r,rfl,cx,br r j aw4 cA⟩
  exact key l aE j Z cZ)
 refine⟨E,G,_,_,iN,fun t=>?_⟩;exact cr.mono (aW.trans ur) _ _ (fun d J=>dd _ _ (fun e=>by subst e;rw[cz.1 t] at J;cases J)) (au t)
def EV (c d:Nat):List kH->List kH
 | []=>[]
 | .p b o::l=>(match Nat.beq b c with
  |true=>.p d o
  |false=>.p b o)::EV c d l
 | .d x::l=>.d x::EV c d l
def bC.aV (c d:Nat):bC->bC
 | .ptr b o=>match Nat.beq b c with
  |true=>.ptr d o
  |false=>.ptr b o
 | .own b=>match Nat.beq b c with
  |true=>.own d
  |false=>.own b
 | .f2 b s i o=>match Nat.beq b c with
  |true=>.f2 d s i o
  |false=>.f2 b s i o
 | .os b s o n=>match Nat.beq b c with
  |true=>.os d s o n
  |false=>.os b s o n
 | .mp b=>match Nat.beq b c with
  |true=>.mp d
  |false=>.mp b
 | .cU f l=>.cU f (EV c d l)
 |s=>s
def EW (c d:Nat):List bC->List bC
 | []=>[]
 |s::l=>s.aV c d::EW c d l
def dI.aV (c d:Nat):dI->dI
 | .one s=>.one (s.aV c d)
 | .agg l=>.agg (EW c d l)
 | .jV u x=>.jV u x
def Jm (c d:Nat):List dI->List dI
 | []=>[]
 |s::l=>s.aV c d::Jm c d l
def aP.aV (c d:Nat):aP->aP
 | .c s=>.c (s.aV c d)
 | .cf l=>.cf (Jm c d l)
 | .undef=>.undef
def EX (c d:Nat):aY->aY
 | []=>[]
 |(s,v)::K=>(s,v.aV c d)::EX c d K
def bb.aV (c d:Nat):bb->bb
 | .cells l=>.cells (EW c d l)
 | .cn b o=>match Nat.beq b c with
  |true=>.cn d o
  |false=>.cn b o
 |ch=>ch
def vP (c d:Nat):aw->aw
 | []=>[]
 |(b,ch)::B=>match Nat.beq b c with
  |true=>(d,ch.aV c d)::vP c d B
  |false=>(b,ch.aV c d)::vP c d B
theorem PD {c d:Nat}: ∀(K:aY) (s:Nat),dA (EX c d K) s=(dA K s).aV c d
 | [],s=>rfl
 |(t,v)::K,s=>by
  simp only[EX];rw[ke,ke,PD K s]
  split <;>rfl
theorem PE {c d:Nat}: ∀(B:aw),ag B d=none-> ∀b,ag (vP c d B) b=if b=d then(ag B c).map (·.aV c d) else if b=c then none else(ag B b).map (·.aV c d)
 | [],_,b=>by simp[vP,ag]
 |(t,ch)::B,J,b=>by
  rw[ca] at J;have PF:t≠d:=fun e=>by rw[if_pos e] at J;cases J
  rw[if_neg PF] at J;have br:=PE (c:=c) B J b;unfold vP
  split
  .rename_i e;have:=ap6 e;subst this;rw[ca,ca,if_pos rfl,br,ca]
   by_cases E:b=d
   .subst E;simp
   .rw[if_neg (Ne.symm E),if_neg E,if_neg E]
    by_cases G:b=t
    .rw[if_pos G,if_pos G]
    .rw[if_neg G,if_neg G,if_neg (Ne.symm G)]
  .rename_i e;have a2:t≠c:=fun h=>by subst h;simp at e
   rw[ca,br,ca,ca,if_neg a2]
   by_cases E:b=d
   .subst E;rw[if_neg PF,if_pos rfl,if_pos rfl]
   .rw[if_neg E,if_neg E]
    by_cases G:b=c
    .subst G;rw[if_neg a2,if_pos rfl,if_pos rfl]
    .rw[if_neg G,if_neg G]
     by_cases aj:t=b
     .rw[if_pos aj,if_pos aj];rfl
     .rw[if_neg aj,if_neg aj]
section
variable {I:Nat->Prop} {c d:Nat}
theorem hO.aV: ∀(l:List kH) (aE:List Value),l0 d l=false->hO ρ I w l aE->hO (c5 ρ d (ρ c)) I w (EV c d l) aE
 | [],_,_,h=>h
 | .p b o::l,_,J,⟨v,r,e,E,G⟩=>by
  simp only[l0,Bool.or_eq_false_iff] at J;refine⟨v,r,e,?_,hO.aV l r J.2 G⟩
  split
  .rename_i e;have:=ap6 e;subst this;simp only[wZ,c6] at E⊢;exact E
  .simp only[wZ] at E⊢;rw[dd _ _ (fun e=>by subst e;simp at J)];exact E
 | .d x::l,_,J,⟨v,r,e,E,G⟩=>⟨v,r,e,E,hO.aV l r (by simpa[l0] using J) G⟩
theorem dU.aV (s:bC) (v:Value) (J:s.has d=false) (h:dU ρ I w s v):dU (c5 ρ d (ρ c)) I w (s.aV c d) v:=by
 have key: ∀b,Nat.beq b d=false->(match Nat.beq b c with |true=>c5 ρ d (ρ c) d=ρ b |false=>c5 ρ d (ρ c) b=ρ b):=fun b O=>by
  split
  .rename_i e;rw[c6,ap6 e]
  .exact dd _ _ (fun e=>by subst e;simp at O)
 cases s with
 |ptr b o=>
  have:=key b J;unfold bC.aV;simp only
  split <;>rename_i e <;>rw[e] at this <;>simp only at this <;>simp only[dU] at h⊢ <;>rw[this] <;>exact h
 |own b=>
  have:=key b J;unfold bC.aV;simp only
  split <;>rename_i e <;>rw[e] at this <;>simp only at this <;>simp only[dU] at h⊢ <;>rw[this] <;>exact h
 |f2 b s i o=>
  have:=key b J;unfold bC.aV;simp only
  split <;>rename_i e <;>rw[e] at this <;>simp only at this <;>simp only[dU] at h⊢ <;>rw[this] <;>exact h
 |os b s o n=>
  have:=key b J;unfold bC.aV;simp only
  split <;>rename_i e <;>rw[e] at this <;>simp only at this <;>simp only[dU] at h⊢ <;>rw[this] <;>exact h
 |mp b=>
  have:=key b J;unfold bC.aV;simp only
  split <;>rename_i e <;>rw[e] at this <;>simp only at this <;>simp only[dU] at h⊢ <;>rw[this] <;>exact h
 |d y=>exact h
 |el u y o=>exact h
 |cU f l=>obtain⟨aE,e,h⟩:=h;exact⟨aE,e,hO.aV l aE J h⟩
 |dD=>exact h
 |bJ v=>exact h
 |any=>exact h
theorem b'.aV: ∀(l:List bC) (aE:List Value),mr d l=false->b' ρ I w l aE->b' (c5 ρ d (ρ c)) I w (EW c d l) aE
 | [],_,_,h=>h
 |s::l,_,J,⟨v,r,e,E,G⟩=>by
  simp only[mr,Bool.or_eq_false_iff] at J;exact⟨v,r,e,dU.aV s v J.1 E,b'.aV l r J.2 G⟩
theorem gA.aV (s:dI) (v:Value) (J:s.has d=false) (h:gA ρ I w s v):gA (c5 ρ d (ρ c)) I w (s.aV c d) v:=by
 cases s with
 |one s=>exact dU.aV s v J h
 |agg l=>obtain⟨aE,e,h⟩:=h;exact⟨aE,e,b'.aV l aE J h⟩
 |jV u x=>exact h
theorem iM.aV: ∀(l:List dI) (aE:List Value),s2 d l=false->iM ρ I w l aE->iM (c5 ρ d (ρ c)) I w (Jm c d l) aE
 | [],_,_,h=>h
 |s::l,_,J,⟨v,r,e,E,G⟩=>by
  simp only[s2,Bool.or_eq_false_iff] at J;exact⟨v,r,e,gA.aV s v J.1 E,iM.aV l r J.2 G⟩
theorem cr.aV (s:aP) (v:Value) (J:s.has d=false) (h:cr ρ I w s v):cr (c5 ρ d (ρ c)) I w (s.aV c d) v:=by
 cases s with
 |c s=>exact gA.aV s v J h
 |cf l=>obtain⟨aE,e,h⟩:=h;exact⟨aE,e,iM.aV l aE J h⟩
 |undef=>exact h
end
theorem ae.aV (c d:Nat) (hf:gX ids K B d=true):ae ids K B (EX c d K) (vP c d B):=by
 rintro N C a w ⟨E,G,ρ,F,aq,au⟩;obtain⟨h2,jn,po,f4⟩:=kM hf;have Bs:=PE (c:=c) (d:=d) B jn
 have back: ∀b ch,ag (vP c d B) b=some ch-> ∃eA cw,ag B eA=some cw/\ch=cw.aV c d/\c5 F d (F c) b=F eA/\c5 ρ d (ρ c) b=ρ eA/\((b=d/\eA=c)\/(b≠d/\b≠c/\eA=b)):=fun b ch O=>by
  rw[Bs] at O
  split at O
  .rename_i e;subst e;obtain⟨cw,h,rfl⟩:=as0.1 O;exact⟨c,cw,h,rfl,c6 _ _ _,c6 _ _ _,.inl ⟨rfl,rfl⟩⟩
  .rename_i e
   split at O
   .cases O
   .rename_i ao;obtain⟨cw,h,rfl⟩:=as0.1 O;exact⟨b,cw,h,rfl,dd _ _ e,dd _ _ e,.inr ⟨e,ao,rfl⟩⟩
 have aW:ce (bZ C B F w) w (bZ C (vP c d B) (c5 F d (F c)) w) w:=fun b ⟨cx,cA,dy⟩=>⟨⟨cx,cA,fun e ch V bh=>by
  obtain⟨eA,cw,g1,_,g2,_⟩:=back e ch V;rw[g2] at bh;exact dy eA cw g1 bh⟩,rfl⟩
 refine⟨E,G,c5 ρ d (ρ c),c5 F d (F c),⟨aq.fr,fun b ch O=>?_,fun b ch O x hx=>?_,fun b dZ ch ch' x O dm a2 hx dE=>?_,fun e V=>?_,aq.kI⟩,fun s=>?_⟩
 .obtain⟨eA,cw,g1,rfl,g2,cZ,_⟩:=back b ch O;rw[g2,cZ];have:=aq.holds eA cw g1;have fv:=po eA cw g1
  cases cw with
  |cells l=>
   obtain⟨ci,aE,T,cN,ec⟩:=this;exact⟨ci,aE,T,cN,b'.mono aW _ _ (fun _ _=>rfl) (b'.aV l aE fv ec)⟩
  |row e u xs=>exact Holds.cj (ρ':=ρ) aW (fun _ _=>rfl) (ap0 _) (.row e u xs) (fun _ _=>rfl) this
  |map aI aK es=>exact Holds.cj (ρ':=ρ) aW (fun _ _=>rfl) (ap0 _) (.map aI aK es) (fun _ _=>rfl) this
  |val u x=>exact Holds.cj (ρ':=ρ) aW (fun _ _=>rfl) (ap0 _) (.val u x) (fun _ _=>rfl) this
  |aG o=>exact Holds.cj (ρ':=ρ) aW (fun _ _=>rfl) (ap0 _) (.aG o) (fun _ _=>rfl) this
  |cn j o=>
   have G:=Holds.cj (ρ':=ρ) aW (fun _ _=>rfl) (ap0 _) (.cn j o) (fun _ _=>rfl) this;unfold bb.aV;simp only
   split
   .rename_i e;have:=ap6 e;subst this;simp only[Holds,c6] at G⊢;exact G
   .have Z:j≠d:=fun e=>by subst e;simp[bb.has] at fv
    simp only[Holds] at G⊢;rw[dd _ _ Z];exact G
 .obtain⟨eA,cw,g1,_,g2,_⟩:=back b ch O;rw[g2] at hx;exact aq.own eA cw g1 x hx
 .obtain⟨eA,cw,g1,_,g2,_,jo⟩:=back b ch O;obtain⟨b1,iU,ci,_,cN,_,eG⟩:=back dZ ch' dm;rw[g2] at hx;rw[cN] at dE;refine aq.e' eA b1 cw iU x g1 ci (fun e=>?_) hx dE;subst e;rcases jo with⟨ai,ao⟩ |⟨ai,ao,bl⟩ <;>rcases eG with⟨c2,fS⟩ |⟨c2,fS,hQ⟩
  .exact a2 (ai.trans c2.symm)
  .exact fS (hQ.symm.trans ao)
  .exact ao (bl.symm.trans fS)
  .exact a2 (bl.symm.trans hQ)
 .rw[dd _ _ (fun b5=>by subst b5;exact f4 V)];exact aq.d' e V
 .rw[PD];exact cr.mono aW _ _ (fun _ _=>rfl) (cr.aV _ _ (h2 s) (au s))
end
theorem bt.go {P:Program} {aS:dc} {N:Nat} {ids:ay5} {K K':aY} {B B':aw} {Q:nG->aY->aw->Prop} {c:Code} (bm:d6 P aS) (b9:zg P aS N ids) (stops:ay5) (H:jr P N c=true) (h:ae ids K B K' B') (cq:jm P aS N ids stops c K' B' Q):bt P N ids c K B Q:=
 bt.le h (zh bm b9 stops c K' B' Q H cq)
end
section
section fold
variable {T mB Zy:Type} (get:mB->Nat->Zy) (jt:T->mB->mB) (ut:T->Nat->Prop)
def fL (m:Nat->Bool):Nat->List T->mB->mB
 |_,[],x=>x
 |i,t::l,x=>fL m (i+1) l (if m i then jt t x else x)
variable (E: ∀t x s,¬ut t s->get (jt t x) s=get x s) (G: ∀t x y s,get x s=get y s->get (jt t x) s=get (jt t y) s)
include E G in
theorem zl (m gp:Nat->Bool) (s:Nat): ∀(l:List T) (i:Nat) (x y:mB),(∀j t,l[j]? =some t->ut t s->m (i+j)=gp (i+j))->get x s=get y s->get (fL jt m i l x) s=get (fL jt gp i l y) s
 | [],i,x,y,_,V=>V
 |t::l,i,x,y,h,V=>by
  unfold fL;refine zl m gp s l (i+1) _ _ (fun j u Z a7=>by rw[show i+1+j=i+(j+1) by omega];exact h (j+1) u aw4 a7) ?_
  by_cases cq:ut t s
  .have:=h 0 t rfl cq;rw[Nat.add_zero] at this;rw[this]
   split
   .exact G t x y s V
   .exact V
  .have ai:get (if m i then jt t x else x) s=get x s:=by split;exact E t x s cq;rfl
   have ao:get (if gp i then jt t y else y) s=get y s:=by split;exact E t y s cq;rfl
   rw[ai,ao,V]
include E G in
theorem Jn (m:Nat->Bool) (k:Nat) (s:Nat): ∀(l:List T) (i:Nat) (x:mB) (t:T),l[k]? =some t->m (i+k)=false->(∀j u,k < j->l[j]? =some u->m (i+j)=true->ut t s-> ¬ut u s)->
  get (fL jt (fun j=>m j||j == i+k) i l x) s=get (jt t (fL jt m i l x)) s
 | [],i,x,t,ab,_,_=>by simp at ab
 |u::l,i,x,t,ab,az,al=>by
  unfold fL
  match k with
  |0=>
   simp only[aq5,ap4] at ab;subst ab;rw[Nat.add_zero] at az;simp only[Nat.add_zero,az,BEq.rfl,Bool.or_true,if_true,Bool.false_eq_true,if_false]
   by_cases cq:ut u s
   .
    have ai: ∀y,get (fL jt (fun j=>m j||j == i) (i+1) l y) s=get (fL jt (fun _=>false) (i+1) l y) s:=fun y=>
     zl get jt ut E G _ _ s l (i+1) y y (fun j v Z ay=>by
      have a2:(i+1+j == i)=false:=by rw[beq_eq_false_iff_ne];omega
      rw[a2,Bool.or_false]
      cases nN:m (i+1+j) with
      |false=>rfl
      |true=>exact absurd ay (al (j+1) v au5 aw4 (by rw[show i+(j+1)=i+1+j by omega];exact nN) cq)) rfl
    have ao: ∀y,get (fL jt m (i+1) l y) s=get (fL jt (fun _=>false) (i+1) l y) s:=fun y=>
     zl get jt ut E G _ _ s l (i+1) y y (fun j v Z ay=>by
      cases nN:m (i+1+j) with
      |false=>rfl
      |true=>exact absurd ay (al (j+1) v au5 aw4 (by rw[show i+(j+1)=i+1+j by omega];exact nN) cq)) rfl
    have bl: ∀(l:List T) (i:Nat) (y:mB),fL jt (fun _=>false) i l y=y:=fun l=>by
     induction l with
     |nil=>exact fun _ _=>rfl
     |cons v l br=>intro i y;unfold fL;simp[br]
    rw[ai,bl];exact G u x _ s (by rw[ao,bl])
   .rw[E u _ s cq]
    exact zl get jt ut E G _ _ s l (i+1) _ _ (fun j v Z ay=>by
     have a2:(i+1+j == i)=false:=by rw[beq_eq_false_iff_ne];omega
     rw[a2,Bool.or_false]) (E u x s cq)
  |k+1=>
   have a2:(i == i+(k+1))=false:=by rw[beq_eq_false_iff_ne];omega
   simp only[a2,Bool.or_false];have:=Jn m k s l (i+1) (if m i=true then jt u x else x) t (by simpa using ab) (by rw[show i+1+k=i+(k+1) by omega];exact az) (fun j v Z ay Zz cq=>al (j+1) v au5 aw6 (by rw[show i+(j+1)=i+1+j by omega];exact Zz) cq);rw[<-this]
   have e:(fun j=>m j||j == i+1+k)=(fun j=>m j||j == i+(k+1)):=by
    funext j
    rw[show i+1+k=i+(k+1) by omega]
   rw[e]
end fold
section
variable {P:Program} {aS:dc} {N:Nat} {ids:ay5}
abbrev hC:=Oper×kL
def hD (t:hC) (K:aY):aY:=mt t.1.dst t.2.v K
def ju (t:hC) (B:aw):aw:=hb t.2.e.hA B
def EY (t:hC) (s:Nat):Prop:=t.1.dst=some s
def PG (t:hC) (s:Nat):Prop:=s∈Ex t.2.e
theorem PH (t:hC) (K:aY) (s:Nat) (h: ¬EY t s):dA (hD t K) s=dA K s:=by
 unfold hD mt;unfold EY at h
 split
 .rename_i d e;rw[ke,if_neg (fun x=>h (by rw[e,x]))]
 .rfl
theorem PI (t:hC) (K K':aY) (s:Nat) (h:dA K s=dA K' s):dA (hD t K) s=dA (hD t K') s:=by
 unfold hD mt
 split
 .rw[ke,ke,h]
 .exact h
theorem EZ: ∀(l:List (Nat×Option bb)) (B B':aw) (s:Nat),ag B s=ag B' s->ag (hb l B) s=ag (hb l B') s
 | [],B,B',s,h=>h
 |(c,none)::l,B,B',s,h=>EZ l _ _ s (by rw[hl,hl,h])
 |(c,some ch)::l,B,B',s,h=>EZ l _ _ s (by rw[ca,ca,h])
theorem E0: ∀(l:List (Nat×Option bb)) (B:aw) (s:Nat),s∉l.map (·.1)->ag (hb l B) s=ag B s
 | [],B,s,h=>rfl
 |(c,none)::l,B,s,h=>by
  simp only[aq4,ap3,not_or] at h;unfold hb;rw[E0 l _ s h.2,hl,if_neg (Ne.symm h.1)]
 |(c,some ch)::l,B,s,h=>by
  simp only[aq4,ap3,not_or] at h;unfold hb;rw[E0 l _ s h.2,ca,if_neg (Ne.symm h.1)]
theorem eW.congr {C:e9} {K K':aY} {B B':aw} {a:Act} {w:World} (di: ∀s,dA K' s=dA K s) (da: ∀c,ag B' c=ag B c) (h:eW N ids C K B a w):eW N ids C K' B' a w:=by
 obtain⟨E,G,ρ,F,aq,au⟩:=h
 have ba:bZ C B' F w=bZ C B F w:=by
  funext b
  simp only[bZ,da]
 refine⟨E,G,ρ,F,⟨aq.fr,fun c ch H=>?_,fun c ch H=>aq.own c ch (by rw[<-da];exact H),fun c bX ch ch' b H cF=>aq.e' c bX ch ch' b (by rw[<-da];exact H) (by rw[<-da];exact cF),aq.d',aq.kI⟩,fun s=>?_⟩
 .rw[ba];exact aq.holds c ch (by rw[<-da];exact H)
 .rw[ba,di];exact au s
def E1 (P:Program) (N:Nat) (ids:ay5) (all:List Oper) (t:hC) (K:aY) (B:aw):Prop:=
 (t' all K t.1.guard=some false/\t.2.v= .undef/\t.2.e=bG)\/(t' all K t.1.guard=some true/\bB P N ids t.1 K B t.2.v t.2.e/\ ∀c,c∈t.2.e.bc->gX ids K B c=true)
theorem bB.lit {o:Oper} {K:aY} {B:aw} {b:Bool} {e:fR} (h:bB P N ids o K B (.c (.one (.d (.bool b)))) e):bB P N ids o K B (.c (.one (.d (.lit b)))) e:=by
 intro K' B' g1 g2 cZ C a w ax bw fE Q di;refine h K' B' g1 g2 cZ C a w ax bw fE Q fun a' w' d1=>di a' w' ?_
 cases J:o.dst with
 |none=>rw[J] at d1;exact d1
 |some d=>rw[J] at d1;exact d1.lit
theorem bB.any {o:Oper} {K:aY} {B:aw} {v cW:aP} {e:fR} (J:o.dst=none) (h:bB P N ids o K B v e):bB P N ids o K B cW e:=by
 intro K' B' g1 g2 cZ C a w ax bw fE Q di;refine h K' B' g1 g2 cZ C a w ax bw fE Q fun a' w' d1=>di a' w' ?_
 rw[J] at d1⊢;exact d1
def BE (P:Program) (N:Nat) (ids:ay5) (all:List Oper):List hC->aY->aw->Prop
 | [],_,_=>True
 |t::l,K,B=>E1 P N ids all t K B/\BE P N ids all l (hD t K) (ju t B)
def runK:List hC->aY->aY
 | [],K=>K
 |t::l,K=>runK l (hD t K)
def zm:List hC->aw->aw
 | [],B=>B
 |t::l,B=>zm l (ju t B)
theorem PJ (bm:d6 P aS) (all:List Oper): ∀(l:List Oper) (i:Nat) (K:aY) (B:aw) (gj:List kL) (k:aY->aw->List kL->Prop),s6 P aS ids all i l K B gj k->
  ∃cp:List hC,cp.map (·.1)=l/\BE P N ids all cp K B/\k (runK cp K) (zm cp B) ((cp.map (·.2)).reverse++gj)
 | [],i,K,B,gj,k,h=>⟨[],rfl,trivial,h⟩
 |o::l,i,K,B,gj,k,h=>by
  have q5: ∀(n:kL),E1 P N ids all (o,n) K B->s6 P aS ids all (i+1) l (hD (o,n) K) (ju (o,n) B) (n::gj) k-> ∃cp:List hC,cp.map (·.1)=o::l/\BE P N ids all cp K B/\k (runK cp K) (zm cp B) ((cp.map (·.2)).reverse++gj):=fun n hn ay=>by
   obtain⟨cp,E,G,aj⟩:=PJ bm all l (i+1) _ _ _ k ay;exact⟨(o,n)::cp,by simp[E],⟨hn,G⟩,by simpa[runK,zm] using aj⟩
  rw[OB] at h;unfold Ev at h;simp only[Ig] at h
  split at h
  .exact h.elim
  .rename_i hw
   split at h
   .rename_i d e;exact q5 ⟨i,.undef,bG⟩ (.inl ⟨hw,rfl,rfl⟩) (by simpa[hD,ju,mt,e,hb] using h)
   .rename_i e;exact q5 ⟨i,.undef,bG⟩ (.inl ⟨hw,rfl,rfl⟩) (by simpa[hD,ju,mt,e,hb] using h)
  .rename_i hw;obtain⟨v,e,h,aD,hf⟩:=Ja (N:=N) bm h
   split at h
   .rename_i ao;exact q5 ⟨i,.undef,e⟩ (.inr ⟨hw,bB.any ao aD,hf⟩) (by simpa[hD,ju,mt,ao] using h)
   .rename_i d ao
    split at h
    .rename_i b a1
     cases b with
     |true=>exact q5 ⟨i,.c (.one (.d (.lit true))),e⟩ (.inr ⟨hw,aD.lit,hf⟩) (by simpa[hD,ju,mt,ao] using h.1 rfl)
     |false=>exact q5 ⟨i,.c (.one (.d (.lit false))),e⟩ (.inr ⟨hw,aD.lit,hf⟩) (by simpa[hD,ju,mt,ao] using h.2 rfl)
    .exact q5 ⟨i,_,e⟩ (.inr ⟨hw,aD,hf⟩) (by simpa[hD,ju,mt,ao] using h)
theorem PK {all:List Oper}: ∀(cp:List hC) (i:Nat) (K:aY) (B:aw),BE P N ids all cp K B-> ∀(p:Nat) (t:hC),cp[p]? =some t->E1 P N ids all t (fL hD (fun j=>decide (j < i+p)) i cp K) (fL ju (fun j=>decide (j < i+p)) i cp B)
 | [],i,K,B,_,p,t,af=>by simp at af
 |u::cp,i,K,B,h,0,t,af=>by
  simp only[aq5,ap4] at af;subst af
  have bl: ∀{mB:Type} (jt:hC->mB->mB) (l:List hC) (q:Nat) (y:mB),i<=q->fL jt (fun j=>decide (j < i+0)) q l y=y:=fun {mB} jt l=>by
   induction l with
   |nil=>exact fun _ _ _=>rfl
   |cons v l br=>
    intro q y aT;unfold fL;rw[br (q+1) _ au5];simp only[ar5];rw[if_neg au5]
  rw[bl hD _ i K (ap0 _),bl ju _ i B (ap0 _)];exact h.1
 |u::cp,i,K,B,h,p+1,t,af=>by
  have:=PK cp (i+1) _ _ h.2 p t (by simpa using af);unfold fL;simp only[ar5];rw[if_pos au5,if_pos au5];rw[show i+(p+1)=i+1+p by omega];exact this
theorem PL: ∀(cp:List hC) (i:Nat) (m:Nat->Bool) (K:aY),(∀j,j < cp.length->m (i+j)=true)->runK cp K=fL hD m i cp K
 | [],_,_,_,_=>rfl
 |t::cp,i,m,K,h=>by
  unfold runK fL;rw[if_pos (by simpa using h 0 au7)];exact PL cp (i+1) m _ fun j Z=>by rw[show i+1+j=i+(j+1) by omega];exact h (j+1) aw4
theorem PM: ∀(cp:List hC) (i:Nat) (m:Nat->Bool) (B:aw),(∀j,j < cp.length->m (i+j)=true)->zm cp B=fL ju m i cp B
 | [],_,_,_,_=>rfl
 |t::cp,i,m,B,h=>by
  unfold zm fL;rw[if_pos (by simpa using h 0 au7)];exact PM cp (i+1) m _ fun j Z=>by rw[show i+1+j=i+(j+1) by omega];exact h (j+1) aw4
theorem PN {c:Nat}: ∀(cp:List hC) (i:Nat) (m:Nat->Bool) (K:aY),t2 c K=true->(∀(j:Nat) (t:hC),cp[j]? =some t->m (i+j)=true->named t.2 c=false)->t2 c (fL hD m i cp K)=true
 | [],_,_,_,h,_=>h
 |t::cp,i,m,K,h,az=>by
  unfold fL;refine PN cp (i+1) m _ ?_ fun j u Z a7=>az (j+1) u aw4 (by rw[show i+(j+1)=i+1+j by omega];exact a7)
  split
  .rename_i aH;have:=az 0 t rfl (by simpa using aH);simp only[named,Bool.or_eq_false_iff] at this;unfold hD mt
   split
   .simp[t2,this.1,h]
   .exact h
  .exact h
theorem Jo {c:Nat}: ∀(B:aw) (d:Nat),ki c B=true->ki c (gM B d)=true
 | [],d,h=>h
 |(t,v)::B,d,h=>by
  simp only[ki,vj] at h;unfold gM
  split
  .exact Jo B d h.2
  .simp[ki,h.1,Jo B d h.2]
theorem Jp {c:Nat}: ∀(l:List (Nat×Option bb)) (B:aw),y3 c l=false->ki c B=true->ki c (hb l B)=true
 | [],B,_,h=>h
 |(d,none)::l,B,al,h=>by
  simp only[y3,Bool.or_eq_false_iff] at al;exact Jp l _ al.2 (Jo B d h)
 |(d,some ch)::l,B,al,h=>by
  simp only[y3,Bool.or_eq_false_iff] at al;exact Jp l _ al.2 (by simp[ki,al.1.1,al.1.2,h])
theorem PO {c:Nat}: ∀(cp:List hC) (i:Nat) (m:Nat->Bool) (B:aw),ki c B=true->(∀(j:Nat) (t:hC),cp[j]? =some t->m (i+j)=true->named t.2 c=false)->ki c (fL ju m i cp B)=true
 | [],_,_,_,h,_=>h
 |t::cp,i,m,B,h,az=>by
  unfold fL;refine PO cp (i+1) m _ ?_ fun j u Z a7=>az (j+1) u aw4 (by rw[show i+(j+1)=i+1+j by omega];exact a7)
  split
  .rename_i aH;have:=az 0 t rfl (by simpa using aH);simp only[named,Bool.or_eq_false_iff] at this;exact Jp _ _ this.2 h
  .exact h
def xq (all:List Oper) (m:Nat->Bool):Prop:= ∀(j:Nat) (o:Oper),all[j]? =some o->m j=true-> ∀d∈p4 o,m d=true
theorem PP (all:List Oper): ∀(l BF:List Oper) (acc:List ay5),all=BF++l->acc.length=BF.length->(∀j a,a∈acc.getD j []-> ∀m,xq all m->m j=true->m a=true)-> ∀j a,a∈(y1 l acc).getD j []-> ∀m,xq all m->m j=true->m a=true
 | [],BF,acc,_,_,h=>h
 |o::l,BF,acc,V,al,h=>by
  unfold y1;refine PP all l (BF++[o]) _ ay0 (by simp[al]) ?_;intro j a ha m az Z;rw[ap9] at ha;rcases Nat.lt_trichotomy j acc.length with bw |r6 |ui
  .rw[ar7 bw,<-ap9] at ha;exact h j a ha m az Z
  .subst r6;rw[ar9 (ap0 _)] at ha;simp only[Nat.sub_self,aq5,Option.getD_some,aq8,List.mem_flatMap] at ha;have ah:all[acc.length]? =some o:=by rw[V,al];simp
   rcases ha with ha |⟨d,J,ha⟩
   .exact az _ o ah Z a ha
   .exact h d a ha m az (az _ o ah Z d J)
  .rw[at6 av9] at ha;simp at ha
theorem Jq {all:List Oper} {an:List ay5}: ∀(L:List (Oper×kL×Nat)),ub all an L=true-> ∀(i j:Nat) (x y:Oper×kL×Nat),i < j->L[i]? =some x->L[j]? =some y->((an.getD y.2.2 []).contains x.2.2&& !y.2.1.e.bc.any (named x.2.1)||apart all x.1 y.1 x.2.1 y.2.1)=true
 | [],_,i,j,x,y,_,hx,_=>by simp at hx
 |aC::L,h,0,j+1,x,y,_,hx,aB=>by
  simp only[aq5,ap4] at hx;subst hx;obtain⟨o,n,i⟩:=aC;simp only[ub,vj] at h;have:=ar4.1 h.1 y (List.mem_of_getElem? (by simpa using aB));obtain⟨p,m,q7⟩:=y;exact this
 |aC::L,h,i+1,j+1,x,y,bw,hx,aB=>by
  obtain⟨o,n,k⟩:=aC;simp only[ub,vj] at h;exact Jq L h.2 i j x y au5 ax7 (by simpa using aB)
 |aC::L,h,i,0,x,y,bw,hx,aB=>by omega
theorem zn {a b:ay5} (h:y2 a b=false) {x:Nat} (E:x∈a) (G:x∈b):False:=by
 unfold y2 at h;rw[List.any_eq_false] at h;have:=h x E;simp at this;exact this G
theorem PQ {a:ay5} {f:Nat->Bool} (h:a.any f=false) {x:Nat} (E:x∈a):f x=false:=by
 rw[List.any_eq_false] at h;simpa using h x E
theorem ZA {all:List Oper} {lA:aY} {mC:aw} {cp:List hC} (jq:cp.map (·.1)=all) (eH:BE P N ids all cp lA mC) (ft:vC lA mC all ((cp.map (·.2)).reverse++[])=true) {m:Nat->Bool} (az:xq all m) {i:Nat} {t:hC} (aH:cp[i]? =some t) (zo:m i=false) (E2: ∀d∈p4 t.1,m d=true):
  E1 P N ids all t (fL hD m 0 cp lA) (fL ju m 0 cp mC)/\(∀s,dA (fL hD (fun j=>m j||j == i) 0 cp lA) s=dA (hD t (fL hD m 0 cp lA)) s)/\(∀s,ag (fL ju (fun j=>m j||j == i) 0 cp mC) s=ag (ju t (fL ju m 0 cp mC)) s)/\
  (∀d∈p4 t.1,d < i):=by
 simp only[vC,as6,List.reverse_reverse,vj] at ft;obtain⟨⟨ZB,ZC⟩,PR⟩:=ft;have uu: ∀(j:Nat) (u:hC),cp[j]? =some u->all[j]? =some u.1:=fun j u Z=>by rw[<-jq,ar0,Z];rfl
 have cY: ∀(j:Nat) (u:hC),cp[j]? =some u->(((all.zip (cp.map (·.2))).zipIdx).map fun((o,n),i)=>(o,n,i))[j]? =some (u.1,u.2,j):=fun j u Z=>by
  have aR:(all.zip (cp.map (·.2)))[j]? =some (u.1,u.2):=by
   rw[List.getElem?_zip_eq_some];exact⟨uu j u Z,by rw[ar0,Z];rfl⟩
  rw[ar0,List.getElem?_zipIdx,aR];simp
 have ZD: ∀d∈p4 t.1,d < i:=fun d J=>by
  have k5:(t.1,i)∈all.zipIdx:=by
   rw[List.mem_iff_getElem?];exact⟨i,by rw[List.getElem?_zipIdx,uu i t aH];simp⟩
  have:=ar4.1 ZB _ k5;have:=ar4.1 this d J;simpa[Nat.blt_eq] using this
 have PS:=PP all all [] [] au7 rfl (fun j a ha=>by simp at ha)
 have ZE:xq all (fun j=>m j||j == i):=fun j o ah Z d J=>by
  simp only[Bool.or_eq_true,beq_iff_eq] at Z⊢;rcases Z with Z |rfl
  .exact .inl (az j o ah Z d J)
  .rw[uu j t aH] at ah;injection ah with ah
   subst ah;exact .inl (E2 d J)
 have Jr: ∀(j:Nat) (u:hC),cp[j]? =some u->j < i->(apart all u.1 t.1 u.2 t.2=true\/m j=true)/\t.2.e.bc.any (named u.2)=false:=fun j u Z bw=>by
  have:=Jq _ PR j i _ _ bw (cY j u Z) (cY i t aH);simp only[Bool.or_eq_true,vj,Bool.not_eq_true',ar6] at this;rcases this with⟨E,G⟩ |h
  .refine⟨.inr ?_,G⟩;have:=PS i j E _ ZE au7;simp only[Bool.or_eq_true,beq_iff_eq] at this;rcases this with h |h
   .exact h
   .omega
  .refine⟨.inl h,?_⟩;simp only[apart,vj,Bool.not_eq_true'] at h;exact h.2
 have BG: ∀(j:Nat) (u:hC),cp[j]? =some u->i < j->apart all t.1 u.1 t.2 u.2=true\/m j=false:=fun j u Z bw=>by
  have:=Jq _ PR i j _ _ bw (cY i t aH) (cY j u Z);simp only[Bool.or_eq_true,vj,ar6] at this;rcases this with⟨E,_⟩ |h
  .right
   cases nN:m j with
   |false=>rfl
   |true=>have:=PS j i E m az nN;rw[zo] at this;cases this
  .exact .inl h
 have PT: ∀s,s∈Ew all t.1->dA (fL hD m 0 cp lA) s=dA (fL hD (fun j=>decide (j < 0+i)) 0 cp lA) s:=fun s ax=>
  zl dA hD EY PH PI _ _ s cp 0 lA lA (fun j u Z a7=>by
   rw[Nat.zero_add,Nat.zero_add];have PU:s∈u.1.dst.toList:=by rw[show u.1.dst=some s from a7];simp
   rcases Nat.lt_trichotomy j i with h |h |h
   .simp only[h,decide_true];refine((Jr j u Z h).1).resolve_left fun ha=>?_
    simp only[apart,vj,Bool.not_eq_true'] at ha;exact zn ha.1.1.1.1.1 PU (List.mem_append_left _ ax)
   .subst h;simp[zo]
   .rw[show decide (j < i)=false by simp;omega];refine(BG j u Z h).resolve_left fun ha=>?_
    simp only[apart,vj,Bool.not_eq_true'] at ha;exact zn ha.1.1.1.1.2 PU ax) rfl
 have ZF: ∀c,c∈t.2.e.ig->ag (fL ju m 0 cp mC) c=ag (fL ju (fun j=>decide (j < 0+i)) 0 cp mC) c:=fun c H=>
  zl ag ju PG (fun t x s h=>E0 _ _ _ h) (fun t x y s h=>EZ _ _ _ _ h) _ _ c cp 0 mC mC (fun j u Z a7=>by
   rw[Nat.zero_add,Nat.zero_add];rcases Nat.lt_trichotomy j i with h |h |h
   .simp only[h,decide_true];refine((Jr j u Z h).1).resolve_left fun ha=>?_
    simp only[apart,vj,Bool.not_eq_true'] at ha;exact zn ha.1.1.1.2 a7 (List.mem_append_left _ H)
   .subst h;simp[zo]
   .rw[show decide (j < i)=false by simp;omega];refine(BG j u Z h).resolve_left fun ha=>?_
    simp only[apart,vj,Bool.not_eq_true'] at ha;exact zn ha.1.1.2 a7 H) rfl
 refine⟨?_,fun s=>?_,fun s=>?_,ZD⟩
 .have vQ:=PK cp 0 lA mC eH i t aH
  have hw:t' all (fL hD m 0 cp lA) t.1.guard=t' all (fL hD (fun j=>decide (j < 0+i)) 0 cp lA) t.1.guard:=by
   unfold t'
   cases a1:t.1.guard with
   |none=>rfl
   |some p=>
    obtain⟨j,want⟩:=p;simp only
    cases ax:Bc all j with
    |none=>rfl
    |some s=>
     simp only;rw[PT s (by unfold Ew;rw[a1];simp[ax])]
  rcases vQ with⟨E,G,aj⟩ |⟨E,G,aj⟩
  .exact .inl ⟨hw.trans E,G,aj⟩
  .refine .inr ⟨hw.trans E,?_,fun c H=>?_⟩
   .intro K' B' g1 g2 cZ;refine G K' B' (fun x hx=>(g1 x hx).trans ?_) (fun c H=>(g2 c H).trans (ZF c H)) cZ
    cases x with
    |tmp s=>exact PT s (List.mem_append_left _ (List.mem_filterMap.2 ⟨.tmp s,by simpa using hx,rfl⟩))
    |_=>rfl
   .have hf:=aj c H;simp only[gX,vj] at hf⊢;have r3:=ar4.1 ZC t.2 (ar2.2 ⟨t,List.mem_of_getElem? aH,rfl⟩);have r3:=ar4.1 r3 c H;simp only[vj] at r3
    have fv: ∀(j:Nat) (u:hC),cp[j]? =some u->m (0+j)=true->named u.2 c=false:=fun j u Z nN=>by
     rw[Nat.zero_add] at nN;rcases Nat.lt_trichotomy j i with h |h |h
     .exact PQ (Jr j u Z h).2 H
     .subst h;rw[zo] at nN;cases nN
     .rcases BG j u Z h with ha |ha
      .simp only[apart,vj,Bool.not_eq_true'] at ha;exact PQ ha.1.2 H
      .rw[nN] at ha;cases ha
    exact⟨⟨PN cp 0 m lA r3.1 fv,PO cp 0 m mC r3.2 fv⟩,hf.2⟩
 .have:=Jn dA hD EY PH PI m i s cp 0 lA t aH (by simpa using zo) (fun j u bw Z nN E G=>by
   rw[Nat.zero_add] at nN;rcases BG j u Z bw with ha |ha
   .simp only[apart,vj,Bool.not_eq_true'] at ha;exact zn (x:=s) ha.1.1.1.1.1 (by rw[show t.1.dst=some s from E];simp) (List.mem_append_right _ (by rw[show u.1.dst=some s from G];simp))
   .rw[nN] at ha;cases ha)
  simpa using this
 .have:=Jn ag ju PG (fun t x s h=>E0 _ _ _ h) (fun t x y s h=>EZ _ _ _ _ h) m i s cp 0 mC t aH (by simpa using zo) (fun j u bw Z nN E G=>by
   rw[Nat.zero_add] at nN;rcases BG j u Z bw with ha |ha
   .simp only[apart,vj,Bool.not_eq_true'] at ha;exact zn ha.1.1.1.2 E (List.mem_append_right _ G)
   .rw[nN] at ha;cases ha)
  simpa using this
theorem zp (bm:d6 P aS):zg P aS N ids:=by
 intro id c' lA mC k J ZG h C a w ax rd Q BH;refine wpIn_region_any ZG ?_;obtain⟨cp,jq,eH,ft,ab⟩:=PJ (N:=N) bm c'.toList c'.toList 0 lA mC [] _ h
 have b6:cp.length=c'.size:=by
  have:=congrArg List.length jq;simpa using this
 have uu: ∀(j:Nat) (u:hC),cp[j]? =some u->c'.toList[j]? =some u.1:=fun j u Z=>by rw[<-jq,ar0,Z];rfl
 have PV: ∀(j:Nat) (u:hC),cp[j]? =some u->(∀d,u.1.dst=some d->d < N)/\ ∀c,u.1.op≠ .defer c:=fun j u Z=>by
  have key: ∀(l:List Oper),tj N l=true-> ∀o∈l,(∀d,o.dst=some d->d < N)/\ ∀c,o.op≠ .defer c:=fun l=>by
   induction l with
   |nil=>intro _ o ah;cases ah
   |cons x l br=>
    intro hx o ah;simp only[tj,vj] at hx;rcases ap3.1 ah with rfl |ah
    .exact⟨fun d J=>by have hx:=hx.1.1;rw[J] at hx;simpa[Nat.blt_eq] using hx,Jc hx.1.2⟩
    .exact br hx.2 o ah
  exact key _ J u.1 (List.mem_of_getElem? (uu j u Z))
 have bw: ∀(j:Nat) (u:hC),cp[j]? =some u-> ∀d,u.1.dst=some d->d < N:=fun j u Z=>(PV j u Z).1
 have r4: ∀(fuel:Nat) (gq:Array Bool) (a:Act) (w:World),gq.size=c'.size->gq.toList.count false<=fuel->xq c'.toList (fun j=>gq.getD j false)->
   eW N ids C (fL hD (fun j=>gq.getD j false) 0 cp lA) (fL ju (fun j=>gq.getD j false) 0 cp mC) a w->wpAnyIn (oD rd) 0 P .any c' Q fuel gq a w:=by
  intro fuel
  have done: ∀(gq:Array Bool) (a:Act) (w:World),gq.size=c'.size->(∀j,j < c'.size->gq.getD j false=true)->eW N ids C (fL hD (fun j=>gq.getD j false) 0 cp lA) (fL ju (fun j=>gq.getD j false) 0 cp mC) a w->Q .normal a w:=fun gq a w cM BI d1=>by
   rw[<-PL cp 0 _ lA (fun j Z=>by simpa using BI j au5),<-PM cp 0 _ mC (fun j Z=>by simpa using BI j au5)] at d1;exact BH _ _ ab a w d1
  have ZH: ∀(gq:Array Bool),gq.size=c'.size->xq c'.toList (fun j=>gq.getD j false)->Region.ready .any c' gq=[]-> ∀j,j < c'.size->gq.getD j false=true:=fun gq cM dJ aF=>by
   intro j
   induction j using Nat.strongRecOn with
   |_ j br=>
    intro Z;obtain⟨u,a7⟩: ∃u,cp[j]? =some u:=⟨_,oj au5⟩
    cases vR:gq.getD j false with
    |true=>rfl
    |false=>
     exfalso
     have k5:j∈Region.ready .any c' gq:=by
      unfold Region.ready;rw[at5];refine⟨List.mem_range.2 Z,?_⟩
      have rU:gq.getD j true=false:=by
       rw[Array.getD_eq_getD_getElem?] at vR⊢;rw[Array.getElem?_eq_getElem au5] at vR⊢;simpa using vR
      have ah:c'[j]? =some u.1:=by simpa using uu j u a7
      simp only[rU,Bool.not_false,Bool.true_and,ah,at2,Option.getD_some];rw[Array.all_eq_true_iff_forall_mem];intro e V
      cases O:Region.binds .any e with
      |false=>rfl
      |true=>
       simp only[Bool.not_true,Bool.false_or]
       have ep:e.on∈p4 u.1:=by
        unfold p4;exact ar2.2 ⟨e,at5.2 ⟨by simpa using V,O⟩,rfl⟩
       have Js:e.on < j:=by
        have dX:=ft;simp only[vC,as6,List.reverse_reverse,vj] at dX
        have k5:(u.1,j)∈c'.toList.zipIdx:=by
         rw[List.mem_iff_getElem?];exact⟨j,by rw[List.getElem?_zipIdx,uu j u a7];simp⟩
        have:=ar4.1 dX.1.1 _ k5;have:=ar4.1 this _ ep;simpa[Nat.blt_eq] using this
       exact br e.on Js au5
     rw[aF] at k5
     cases k5
  induction fuel with
  |zero=>
   intro gq a w cM H dJ d1
   have BI: ∀j,j < c'.size->gq.getD j false=true:=fun j Z=>by
    cases vR:gq.getD j false with
    |true=>rfl
    |false=>
     exfalso
     have k5:false∈gq.toList:=by
      rw[Array.getD_eq_getD_getElem?,Array.getElem?_eq_getElem au5] at vR;simp only[Option.getD_some] at vR;rw[<-vR];simp
     have:=List.count_pos_iff.2 k5;omega
   refine⟨?_,done gq a w cM BI d1⟩;unfold Region.ready;rw[List.filter_eq_nil_iff];intro j Z;have Z:=List.mem_range.1 Z;have:=BI j Z;rw[Array.getD_eq_getD_getElem?,Array.getElem?_eq_getElem au5] at this;simp only[Option.getD_some] at this;simp[Array.getElem?_eq_getElem (show j < gq.size by omega),this]
  |succ fuel br=>
   intro gq a w cM H dJ d1;refine⟨fun aF=>done gq a w cM (ZH gq cM dJ aF) d1,fun i aH=>?_⟩;obtain⟨PW,o,ah,ZI⟩:=mem_ready.1 aH;have aoS:i < c'.size:=(Array.getElem?_eq_some_iff.1 ah).1;obtain⟨t,cq⟩: ∃t,cp[i]? =some t:=⟨_,oj au5⟩
   have ZJ:o=t.1:=by
    have:=uu i t cq;rw[Array.getElem?_toList,ah] at this;injection this
   subst ZJ
   have Jt:gq.getD i false=false:=by
    rw[Array.getD_eq_getD_getElem?,Array.getElem?_eq_getElem au5] at PW⊢;simpa using PW
   have E2: ∀d∈p4 t.1,gq.getD d false=true:=fun d J=>by
    unfold p4 at J;obtain⟨e,V,rfl⟩:=ar2.1 J;obtain⟨i5,gn⟩:=at5.1 V;exact ZI e (by simpa using i5) gn
   obtain⟨vQ,ZK,ZL,_⟩:=ZA (m:=fun j=>gq.getD j false) jq eH ft dJ cq Jt E2
   have gO:(fun j=>(gq.setIfInBounds i true).getD j false)=(fun j=>(gq.getD j false||j == i)):=by
    funext j
    by_cases e:j=i
    .subst e;simp[Array.getElem?_setIfInBounds,show j < gq.size by omega]
    .simp[Array.getElem?_setIfInBounds,Ne.symm e,e]
   have ZM:xq c'.toList (fun j=>(gq.setIfInBounds i true).getD j false):=by
    rw[gO];intro j o' s3 Z d J;simp only[Bool.or_eq_true,beq_iff_eq] at Z⊢;rcases Z with Z |rfl
    .exact .inl (dJ j o' s3 Z d J)
    .rw[uu j t cq] at s3;injection s3 with s3
     subst s3;exact .inl (E2 d J)
   have ZN:(gq.setIfInBounds i true).toList.count false<=fuel:=by
    rw[Array.toList_setIfInBounds,List.count_set av9]
    have mx:gq.toList[i]'av9=false:=by
     rw[Array.getD_eq_getD_getElem?,Array.getElem?_eq_getElem au5] at Jt;simpa using Jt
    rw[mx];simp only[BEq.rfl,if_true,show(true == false)=false from rfl,Bool.false_eq_true,if_false];omega
   have next: ∀a' w',eW N ids C (hD t (fL hD (fun j=>gq.getD j false) 0 cp lA)) (ju t (fL ju (fun j=>gq.getD j false) 0 cp mC)) a' w'->wpAnyIn (oD rd) 0 P .any c' Q fuel (gq.setIfInBounds i true) a' w':=fun a' w' f'=>by
    refine br _ a' w' (by simp[cM]) ZN ZM ?_;rw[gO];exact f'.congr ZK ZL
   have ZO:=d1;obtain⟨_,_,ρ,F,aq,au⟩:=ZO;unfold wpOpIn;simp only[ah];rcases vQ with⟨hw,ay,V⟩ |⟨hw,aD,hf⟩
   .have BJ:=zf hw au;simp only[Array.toArray_toList] at BJ;rw[if_neg (by rw[BJ];simp)];refine⟨fun _ _=>trivial,next _ _ ?_⟩;have:=d1.undef t.1.dst (bw i t cq);unfold hD ju;rw[ay,V];exact this
   .have BJ:=zf hw au;simp only[Array.toArray_toList] at BJ;rw[if_pos BJ];exact Bx (PV i t cq).2 (aD _ _ (fun _ _=>rfl) (fun _ _=>rfl) hf C a w d1 (bw i t cq) _ Q fun a' w' f'=>next a' w' f')
 refine r4 c'.size _ a _ au7 (by simp[List.count_replicate]) (fun j o ah Z=>?_) ?_
 .simp only[Array.getD_eq_getD_getElem?,Array.getElem?_replicate] at Z
  split at Z <;>simp at Z
 .have aR:(fun j=>(Array.replicate c'.size false).getD j false)=fun _=>false:=by
   funext j
   rw[Array.getD_eq_getD_getElem?];simp only[Array.getElem?_replicate]
   split <;>rfl
  rw[aR]
  have bl: ∀{mB:Type} (jt:hC->mB->mB) (l:List hC) (q:Nat) (y:mB),fL jt (fun _=>false) q l y=y:=fun {mB} jt l=>by
   induction l with
   |nil=>exact fun _ _=>rfl
   |cons v l br=>intro q y;unfold fL;simp[br]
  rw[bl,bl];obtain⟨E,G,ρ,F,aq,au⟩:=ax;obtain⟨bN,aW⟩:=aq.below (w':={w with drawn:=w.drawn+1}) (Xq w);exact⟨E,G,ρ,F,bN,au.mono aW fun _ _ _=>rfl⟩
end
end
section
def BK (a b c:Nat):Nat:=match Nat.beq c a with
 |true=>b
 |false=>match Nat.beq c b with
  |true=>a
  |false=>c
theorem E3 {a b:Nat} (h:a≠b):Nat.beq a b=false:=by rw[at4];exact fun e=>h (ap6 e)
theorem PX (a b c:Nat):BK a b (BK a b c)=c:=by
 unfold BK
 by_cases E:c=a
 .subst E;simp only[Nat.beq_refl]
  by_cases G:b=c
  .subst G;simp
  .simp[E3 G]
 .simp only[E3 E]
  by_cases G:c=b
  .subst G;simp
  .simp[E3 G,E3 E]
def eo:List (Nat×Nat)->Nat->Nat
 | [],c=>c
 |(a,b)::l,c=>eo l (BK a b c)
def zq:List (Nat×Nat)->Nat->Nat
 | [],c=>c
 |(a,b)::l,c=>BK a b (zq l c)
theorem E4: ∀(l:List (Nat×Nat)) (c:Nat),zq l (eo l c)=c
 | [],c=>rfl
 |(a,b)::l,c=>by simp only[eo,zq,E4 l,PX]
theorem E5: ∀(l:List (Nat×Nat)) (c:Nat),eo l (zq l c)=c
 | [],c=>rfl
 |(a,b)::l,c=>by simp only[eo,zq,PX,E5 l]
def k6:List (Nat×Nat)->List (Nat×Nat)->List (Nat×Nat)
 | [],acc=>acc
 |(a,b)::l,acc=>k6 l (acc++[(eo acc a,b)])
section
variable (f:Nat->Nat)
def zr:List kH->List kH
 | []=>[]
 | .p c o::l=>.p (f c) o::zr l
 | .d x::l=>.d x::zr l
def bC.eo:bC->bC
 | .ptr c o=>.ptr (f c) o
 | .own c=>.own (f c)
 | .f2 c s i o=>.f2 (f c) s i o
 | .os c s o n=>.os (f c) s o n
 | .mp c=>.mp (f c)
 | .cU g l=>.cU g (zr f l)
 | .d x=>.d x
 | .el u x o=>.el u x o
 | .dD=>.dD
 | .bJ v=>.bJ v
 | .any=>.any
def zs:List bC->List bC
 | []=>[]
 |s::l=>s.eo f::zs l
def dI.eo:dI->dI
 | .one s=>.one (s.eo f)
 | .agg l=>.agg (zs f l)
 | .jV u x=>.jV u x
def E6:List dI->List dI
 | []=>[]
 |s::l=>s.eo f::E6 l
def aP.eo:aP->aP
 | .c s=>.c (s.eo f)
 | .cf l=>.cf (E6 f l)
 | .undef=>.undef
def xr:List aP->List aP
 | []=>[]
 |s::l=>s.eo f::xr l
def bb.eo:bb->bb
 | .cells l=>.cells (zs f l)
 | .row e u xs=>.row e u xs
 | .map aI aK es=>.map aI aK es
 | .val u x=>.val u x
 | .aG o=>.aG o
 | .cn d o=>.cn (f d) o
def j1:aw->aw
 | []=>[]
 |(c,ch)::B=>(f c,ch.eo f)::j1 B
def zt:ay5->ay5
 | []=>[]
 |c::l=>f c::zt l
end
section
variable {f g:Nat->Nat} {ρ:Nat->bn} {I:Nat->Prop} {w:World}
theorem Ju: ∀(l:List kH) (aE:List Value),hO ρ I w (zr f l) aE=hO (fun c=>ρ (f c)) I w l aE
 | [],aE=>rfl
 | .p c o::l,aE=>by simp only[zr,hO,wZ,Ju l]
 | .d x::l,aE=>by simp only[zr,hO,wZ,Ju l]
theorem PY (s:bC) (v:Value):dU ρ I w (s.eo f) v=dU (fun c=>ρ (f c)) I w s v:=by
 cases s with
 |cU g l=>simp only[bC.eo,dU,Ju]
 |_=>rfl
theorem Jv: ∀(l:List bC) (aE:List Value),b' ρ I w (zs f l) aE=b' (fun c=>ρ (f c)) I w l aE
 | [],aE=>rfl
 |s::l,aE=>by simp only[zs,b',PY,Jv l]
theorem PZ (s:dI) (v:Value):gA ρ I w (s.eo f) v=gA (fun c=>ρ (f c)) I w s v:=by
 cases s with
 |one s=>exact PY s v
 |agg l=>simp only[dI.eo,gA,Jv]
 |jV u x=>rfl
theorem P0: ∀(l:List dI) (aE:List Value),iM ρ I w (E6 f l) aE=iM (fun c=>ρ (f c)) I w l aE
 | [],aE=>rfl
 |s::l,aE=>by simp only[E6,iM,PZ,P0 l]
theorem E7 (s:aP) (v:Value):cr ρ I w (s.eo f) v=cr (fun c=>ρ (f c)) I w s v:=by
 cases s with
 |c s=>exact PZ s v
 |cf l=>simp only[aP.eo,cr,P0]
 |undef=>rfl
theorem BL {F:Nat->Prop} {p:bn} (ch:bb):Holds ρ I F w p (ch.eo f)=Holds (fun c=>ρ (f c)) I F w p ch:=by
 cases ch with
 |cells l=>simp only[bb.eo,Holds,Jv]
 |row e u xs=>rfl
 |map aI aK es=>rfl
 |val u x=>rfl
 |aG o=>rfl
 |cn d o=>rfl
theorem BM (a1: ∀c,g (f c)=c): ∀(B:aw) (c:Nat),ag (j1 f B) (f c)=(ag B c).map (·.eo f)
 | [],c=>rfl
 |(d,ch)::B,c=>by
  simp only[j1];rw[ca,ca,BM a1 B c]
  by_cases h:d=c
  .subst h;rw[if_pos rfl,if_pos rfl];rfl
  .rw[if_neg h,if_neg fun e=>h (by rw[<-a1 d,e,a1])]
theorem Jw: ∀(l:List aP),xr f l=l.map (·.eo f)
 | []=>rfl
 |s::l=>by simp only[xr,aq4,Jw l]
theorem Jx: ∀(l:ay5) (c:Nat),c∈l->f c∈zt f l
 | [],c,h=>by cases h
 |d::l,c,h=>by
  rcases ap3.1 h with rfl |h
  .exact aq0
  .exact ap2 _ (Jx l c h)
end
theorem Fn.Jy {P:Program} {fn:FuncId} {f g:Nat->Nat} (a1: ∀c,g (f c)=c) (hf: ∀c,f (g c)=c) {args:List aP} {aJ:aw} {bc:ay5} {res:aP} {aO:aw} (h:Fn P fn args aJ bc res aO):
  Fn P fn (xr f args) (j1 f aJ) (zt f bc) (res.eo f) (j1 f aO):=by
 refine⟨h.1,?_⟩;intro ρ F I w bW ba cX bh ep b6 dt;have l5: ∀(B:aw) c,ag (j1 f B) (f c)=(ag B c).map (·.eo f):=BM a1;have oN: ∀{B:aw} {c ch},ag B c=some ch->ag (j1 f B) (f c)=some (ch.eo f):=fun {B c ch} h=>by rw[l5,h];rfl
 have uv: ∀{B:aw} {c ch},ag (j1 f B) c=some ch-> ∃cw,ag B (g c)=some cw/\ch=cw.eo f:=fun {B c ch} h=>by
  have e:=l5 B (g c);rw[hf,h] at e;obtain⟨cw,E,G⟩:=as0.1 e.symm;exact⟨cw,E,G.symm⟩
 rw[Jw] at b6 dt
 have H:=h.2 (fun c=>ρ (f c)) (fun c=>F (f c)) I w bW ba
  (fun c ch H=>by rw[<-BL];exact cX _ _ (oN H))
  (fun c ch H=>bh _ _ (oN H))
  (fun c bX ch ch' b E G a2=>ep _ _ _ _ b (oN E) (oN G) fun e=>a2 (by rw[<-a1 c,e,a1]))
  (by simpa using b6)
  (fun i v x ay hx=>by rw[<-E7];exact dt i _ x (by rw[ar0,ay];rfl) hx)
 refine H.mono ?_;rintro e w' ⟨x,ρ',F',rfl,cz,dl,I',i5,gn,lB,aD,h3,hx⟩;have xt:(fun c=>ρ' (g (f c)))=ρ':=funext fun c=>by rw[a1]
 refine⟨x,fun c=>ρ' (g c),fun c=>F' (g c),rfl,?_,?_,I',i5,?_,?_,?_,?_,?_⟩
 .exact cz.mono fun b _ ⟨c,ch,E,G⟩=>⟨f c,_,oN E,G⟩
 .intro c H;show ρ' (g c)=ρ c;rw[dl (g c) (fun az=>H (by have:=Jx (f:=f) _ _ az;rwa[hf] at this)),hf]
 .intro b O;obtain⟨E,G⟩:=gn b O;refine⟨E,?_⟩;rcases G with G |⟨c,ch,G,aj⟩ |G
  .exact .inl G
  .exact .inr (.inl ⟨f c,_,oN G,aj⟩)
  .exact .inr (.inr G)
 .intro c ch H;obtain⟨cw,E,rfl⟩:=uv H;rw[BL,xt];exact lB _ _ E
 .intro c ch H b O;obtain⟨cw,E,rfl⟩:=uv H;obtain⟨cx,cA,dy⟩:=aD _ _ E b O;refine⟨cx,cA,?_⟩;rcases dy with⟨gW,cw,dy,fb⟩ |dy
  .exact .inl ⟨f gW,_,oN dy,fb⟩
  .exact .inr dy
 .intro c bX ch ch' b H cF a2;obtain⟨cw,E,rfl⟩:=uv H;obtain⟨iU,G,rfl⟩:=uv cF;exact h3 _ _ _ _ b E G fun e=>a2 (by rw[<-hf c,e,hf])
 .rw[E7,xt];exact hx
theorem Fn.aV {P:Program} {fn:FuncId} (l:List (Nat×Nat)) {args:List aP} {aJ:aw} {bc:ay5} {res:aP} {aO:aw} (h:Fn P fn args aJ bc res aO):
  Fn P fn (xr (eo (k6 l [])) args) (j1 (eo (k6 l [])) aJ) (zt (eo (k6 l [])) bc) (res.eo (eo (k6 l []))) (j1 (eo (k6 l [])) aO):=
 Fn.Jy (E4 _) (E5 _) h
end
end Go.Proofs.YthnboghbhgapcaaGreat
