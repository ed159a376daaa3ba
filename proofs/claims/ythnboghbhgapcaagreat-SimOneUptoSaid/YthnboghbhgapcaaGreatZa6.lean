/-
A part of the proof of this claim: lemmas, with no condition beyond what each says.
-/
import Derived.Deep.LoopGhost
import Derived.Orders
import Derived.OrdersIn
import Derived.TacticsIn
import Derived.Sort.LoopGhostIn
import Derived.RangeFuncRecord
import Derived.Scope
import Derived.Test.YthnboghbhgapcaaGreatZa5
set_option linter.unusedVariables false
set_option linter.unusedSimpArgs false
set_option maxRecDepth 10000
namespace Go.Proofs.YthnboghbhgapcaaGreat
open Go.RowKit Go.Proofs
section
def tb (N:Nat):List Oper->Bool
 | []=>true
 |o::l=>(match o.dst with
  |some d=>Nat.blt d N
  |none=>true)&&(match o.op with
  | .defer _=>false
  |_=>true)&&tb N l
section
variable {P:Program} {b:Frame} {a:Act} {k:List Item} {cs:List Frame} {w:World}
theorem y5 {c:Code}:step P (lone (b.atR a (.code (.scope c)::k)) cs w)= .next (lone (b.atR a (.code c:: .inScope c::k)) cs w):=
 step_lone_go (by simp[stepG,stepG.exec,Frame.atR])
theorem Zf {c:Code}:step P (lone (b.atR a (.inScope c::k)) cs w)= .next (lone (b.atR a k) cs w):=
 step_lone_go (by simp[stepG,stepG.exec,Frame.atR])
theorem Zg {F:Fence} {n:Nat} {Q:Exit->Act->World->Prop} {c:Code} (h:c.wpIn F n P (Exit.noGoto Q) a w):(Code.scope c).wpIn F n P Q a w:=by
 intro b k cs Zh O aF;have aw:(lone (b.atR a (.code (.scope c)::k)) cs w).fenced P F:=fenced_calm O aF rfl;obtain⟨e,Bm,Bn,aV,y6⟩:=h b (.inScope c::k) cs Zh O aF
 cases e with
 |normal=>exact⟨.normal,Bm,Bn,aV,.head aw y5 (StepsIn.trans y6 (.one (fenced_calm O aF rfl) Zf))⟩
 |exit id=>
  have hx:exitTo id (.inScope c::k)=exitTo id k:=by simp[exitTo]
  exact⟨.exit id,Bm,Bn,aV,fun dU ab=>.head aw y5 (y6.1 dU (by rw[hx];exact ab)),fun I2 ab=>let⟨k₁,E,G⟩:=y6.2 I2 (by rw[hx];exact ab);⟨k₁,E,.head aw y5 G⟩⟩
 |goto l=>exact aV.elim
 |ret=>exact⟨_,Bm,Bn,aV,.of_steps (.one aw y5) y6⟩
 |panic ch=>exact⟨_,Bm,Bn,aV,.of_steps (.one aw y5) y6⟩
 |outgrown=>exact⟨_,Bm,Bn,aV,.of_steps (.one aw y5) y6⟩
end
def jr (P:Program) (N:Nat):Code->Bool
 | .skip=>true
 | .region _ c9 draw=>tb N c9.toList&&(!draw||P.follows .mixedOrders)
 | .seq a b=>jr P N a&&jr P N b
 | .cond _ x y=>jr P N x&&jr P N y
 | .block _ b=>jr P N b
 | .loop b=>jr P N b
 | .rangeFunc _ _ a b=>jr P N a&&jr P N b
 | .scope b=>jr P N b
 | .label _=>true
 | .exit _=>true
 | .ret=>true
 |_=>false
section
variable {P:Program} {aU:dd} {N:Nat} {ids:List Nat}
theorem Bo {c9:Array Oper} {a:Act} {j s:Nat} (ax:(c9[j]?).bind (·.dst)=some s) {v:Value} (az:a.tmps.getD s undef=v):
  (∀b,v= .bool b->yielded c9 a.tmps j=some b)/\((∀b,v≠ .bool b)->yielded c9 a.tmps j=none):=by
 unfold yielded;rw[ax];simp only[Option.bind_some]
 cases cr:a.tmps[s]? with
 |none=>
  have az:v=undef:=by rw[<-az];simp[cr]
  subst az;exact⟨fun b O=>(by simp[undef] at O),fun _=>rfl⟩
 |some x=>
  have az:v=x:=by rw[<-az];simp[cr]
  subst az;refine⟨fun b O=>by rw[O],fun h=>?_⟩
  cases v <;>first |rfl |exact absurd rfl (h _)
theorem Zi {all:List Oper} {j s:Nat} (h:A4 all j=some s):((all.toArray)[j]?).bind (·.dst)=some s:=by
 unfold A4 at h;simp only[List.getElem?_toArray]
 split at h
 .rename_i o ai;rw[ai];exact h
 .cases h
theorem y7 {all:List Oper} {K:a1} {o:Oper} {t:Bool} (h:tZ all K o.guard=some t) {ρ:Nat->bo} {I:Nat->Prop} {a:Act} {w:World} (av:ee K ρ I a w):Region.wanted o (yielded all.toArray a.tmps)=t:=by
 unfold tZ at h;unfold Region.wanted
 split at h
 .rename_i a6;injection h with h
  simp[a6,h]
 .rename_i j want a6;simp only[a6]
  split at h
  .cases h
  .rename_i s ax;have ax:=Zi ax;have az:=av s
   split at h
   .rename_i aq;rw[aq] at az;have:=(Bo (a:=a) ax (show a.tmps.getD s undef= .bool true from az)).1 true rfl;injection h with h
    rw[this,<-h];rfl
   .rename_i aq;rw[aq] at az;have:=(Bo (a:=a) ax (show a.tmps.getD s undef= .bool true from az)).1 true rfl;injection h with h
    rw[this,<-h];rfl
   .rename_i aq;rw[aq] at az;have:=(Bo (a:=a) ax (show a.tmps.getD s undef= .bool false from az)).1 false rfl;injection h with h
    rw[this,<-h];rfl
   .rename_i aq;rw[aq] at az;have:=(Bo (a:=a) ax (show a.tmps.getD s undef= .bool false from az)).1 false rfl;injection h with h
    rw[this,<-h];rfl
   .rename_i aq;rw[aq] at az;have:=(Bo (a:=a) ax (show a.tmps.getD s undef=undef from az)).2 (by simp[undef]);injection h with h
    rw[this,<-h];simp
   .cases h
theorem eX.undef {C:e8} {K:a1} {B:ay} {a:Act} {w:World} (h:eX N ids C K B a w) (d:Option Nat) (J: ∀e,d=some e->e < N):eX N ids C (ms d .undef K) B (a.put d undef) w:=by
 obtain⟨E,G,ρ,F,ar,av⟩:=h;exact⟨ke.trans E,kf.trans G,ρ,F,ar,av.kg (fun e V=>by rw[E];exact J e V) rfl⟩
theorem eX.lit {C:e8} {K:a1} {B:ay} {a:Act} {w:World} {d:Nat} {b:Bool} (h:eX N ids C ((d,.c (.one (.d (.bool b))))::K) B a w):eX N ids C ((d,.c (.one (.d (.lit b))))::K) B a w:=by
 obtain⟨E,G,ρ,F,ar,av⟩:=h;refine⟨E,G,ρ,F,ar,fun s=>?_⟩;have:=av s;rw[kc] at this⊢
 split at this
 .rw[if_pos ‹_›];exact this
 .rw[if_neg ‹_›];exact this
theorem Pl {n:Nat} {r:Option Nat} {f:FuncId} {args:Array Value} {w:World} {R:Ending->World->Prop} (h:Calls P f args w R):CallsIn (oB r) n P f args w R:=(callsIn_wide (n:=n)).2 h
theorem Pm {n:Nat} {r:Option Nat} {f:FuncId} {args:Array Value} {w:World} {R:Ending->World->Prop} (h:CallsIn (oB r) n P f args w R):Calls P f args w R:=(callsIn_wide (n:=n)).1 h
theorem Zj {n:Nat} {r:Option Nat} {row:String} {args:Array Value} {w:World} {R:Value->World->Prop} (h:Rows P row args w R):RowsIn (oB r) n P row args w R:=fun c cs _=>by
 obtain⟨v,w',E,G⟩:=h c cs;exact⟨v,w',E,stepsIn_wide.2 G⟩
theorem I3 {o:Oper} (h:(match o.op with
 | .defer _=>false
 |_=>true)=true): ∀c,o.op≠ .defer c:=fun c e=>by rw[e] at h;cases h
theorem Bp {r:Option Nat} {o:Oper} (d0: ∀c,o.op≠ .defer c) {a:Act} {w:World} {next:Act->World->Prop} {Q:Exit->Act->World->Prop} (h:o.wp P a w next Q):o.wpIn (oB r) 0 P a w next Q:=by
 refine⟨fun _ _=>trivial,?_⟩;rw[Oper.semAt_eq _ _ _ d0];unfold Oper.wp at h;generalize(execOp a.eval o).run P w=q at*
 cases q with
 |ok x w'=>
  cases x <;>simp only[Oper.upon,Oper.uponIn] at h⊢ <;>
   first
    |exact h
    |exact h.elim
    |exact⟨fun ax=>absurd ax au7,Pl h⟩
    |exact⟨fun ax=>absurd ax au7,Zj h⟩
 |halt x w'=>cases x <;>simp only[Oper.upon,Oper.uponIn] at h⊢ <;>exact h
theorem xd (bn:d6 P aU) (all:List Oper): ∀(l:List Oper) (i:Nat) (K:a1) (B:ay) (gi:List kJ) (k:a1->ay->List kJ->Prop),tb N l=true->s0 P aU ids all i l K B gi k-> ∀(C:e8) (a:Act) (w:World),eX N ids C K B a w->
  ∀(r:Option Nat) (Q:Exit->Act->World->Prop),(∀K' B' Zk,k K' B' Zk-> ∀a' w',eX N ids C K' B' a' w'->Q .normal a' w')->wpListIn (oB r) 0 P all.toArray Q l a w
 | [],i,K,B,gi,k,_,h,C,a,w,ax,r,Q,ab=>wpListIn_nil (ab K B gi h a w ax)
 |o::l,i,K,B,gi,k,J,h,C,a,w,ax,r,Q,ab=>by
  simp only[tb,vj] at J;obtain⟨⟨vC,d0⟩,dC⟩:=J;have d0:=I3 d0;have bw: ∀d,o.dst=some d->d < N:=fun d e=>by rw[e] at vC;simpa[Nat.blt_eq] using vC
  have d1:=ax;obtain⟨_,_,ρ,F,ar,av⟩:=d1;rw[Ov] at h;unfold El at h;simp only[H8] at h;refine wpListIn_step fun fC Bq=>?_
  split at h
  .exact h.elim
  .rename_i hw;rw[if_neg (by rw[y7 hw av];simp)];refine⟨fun _ _=>trivial,Bq _ _ ?_⟩;have a8:=ax.undef o.dst bw
   split at h
   .rename_i d e;rw[e] at a8⊢;exact xd bn all l _ _ _ _ k dC h C _ w a8 r Q ab
   .rename_i e;rw[e] at a8⊢;exact xd bn all l _ _ _ _ k dC h C _ w a8 r Q ab
  .rename_i hw;rw[if_pos (y7 hw av)];obtain⟨v,e,h,aE,hf⟩:=I1 bn h;refine Bp d0 (aE K B (fun _ _=>rfl) (fun _ _=>rfl) hf C a w ax bw fC Q fun a' w' f'=>Bq _ _ ?_)
   split at h
   .rename_i ap;rw[ap] at f';exact xd bn all l _ _ _ _ k dC h C _ w' f' r Q ab
   .rename_i d ap;rw[ap] at f'
    split at h
    .rename_i b a6
     cases b with
     |true=>exact xd bn all l _ _ _ _ k dC (h.1 rfl) C _ w' f'.lit r Q ab
     |false=>exact xd bn all l _ _ _ _ k dC (h.2 rfl) C _ w' f'.lit r Q ab
    .exact xd bn all l _ _ _ _ k dC h C _ w' f' r Q ab
def y8 (P:Program) (aU:dd) (N:Nat) (ids:List Nat):Prop:= ∀(id:Nat) (c9:Array Oper) (K:a1) (B:ay) (k:a1->ay->Prop),tb N c9.toList=true->P.follows .mixedOrders=true->
 s0 P aU ids c9.toList 0 c9.toList K B [] (fun K' B' gi=>vu K B c9.toList gi=true/\k K' B')-> ∀(C:e8) (a:Act) (w:World),eX N ids C K B a w->
 ∀(r:Option Nat) (Q:Exit->Act->World->Prop),(∀K' B',k K' B'-> ∀a' w',eX N ids C K' B' a' w'->Q .normal a' w')->(Code.region id c9 true).wpIn (oB r) 0 P Q a w
theorem eX.eval {C:e8} {K:a1} {B:ay} {a:Act} {w:World} (h:eX N ids C K B a w) {c:Operand} {b:Bool} (H:a7 K c= .c (.one (.d (.lit b)))\/a7 K c= .c (.one (.d (.bool b)))):a.eval c= .bool b:=by
 obtain⟨_,_,ρ,F,ar,av⟩:=h;rcases H with H |H
 .exact av.lit H
 .exact av.bool H
theorem y9 (bn:d6 P aU) (b9:y8 P aU N ids) (stops:List Nat): ∀(c:Code) (K:a1) (B:ay) (Q:nG->a1->ay->Prop),jr P N c=true->jm P aU N ids stops c K B Q->bt P N ids c K B Q:=by
 intro c
 induction c with
 |skip=>exact fun K B Q _ h r aF C h0 aV a w ax=>wpIn_skip (aV .gX K B C.ds (fun _=>rfl) h a w ax)
 |region id c9 draw=>
  intro K B Q H h;rw[XD] at h;simp only[jr,vj,Bool.or_eq_true,Bool.not_eq_true'] at H
  split at h
  .exact h
  .split at h
   .intro r aF C h0 aV a w ax;refine wpIn_region_list ?_;have:=xd bn c9.toList c9.toList 0 K B [] _ H.1 h C a w ax r h0 (fun K' B' _ ab a' w' d1=>aV .gX K' B' C.ds (fun _=>rfl) ab a' w' d1);simpa using this
   .intro r aF C h0 aV a w ax;exact b9 id c9 K B (Q .gX) H.1 (H.2.resolve_left au7) h C a w ax r h0 (fun K' B' ab a' w' d1=>aV .gX K' B' C.ds (fun _=>rfl) ab a' w' d1)
 |seq x y ox oy=>
  intro K B Q H h r aF C h0 aV a w ax;simp only[jr,vj] at H;rw[XE] at h;refine wpIn_seq (ox K B _ H.1 h r aF C _ ?_ a w ax);intro e K' B' ds hm V a' w' d1
  cases e with
  |gX=>exact oy K' B' Q H.2 V r aF (C.at ds) h0 (fun e K B xe I4=>aV e K B xe fun aI=>(I4 aI).trans (hm aI)) a' w' d1
  |ex i=>exact aV (.ex i) K' B' ds hm V a' w' d1
  |ret=>exact aV .ret K' B' ds hm V a' w' d1
 |cond c x y ox oy=>
  intro K B Q H h r aF C h0 aV a w ax;simp only[jr,vj] at H;rw[XF] at h
  split at h
  .rename_i aq;exact wpIn_cond_true (ax.eval (.inl aq)) (ox K B Q H.1 h r aF C h0 aV a w ax)
  .rename_i aq;exact wpIn_cond_false (ax.eval (.inl aq)) (oy K B Q H.2 h r aF C h0 aV a w ax)
  .rename_i b aq
   cases b with
   |true=>exact wpIn_cond_true (ax.eval (.inr aq)) (ox K B Q H.1 (h.1 rfl) r aF C h0 aV a w ax)
   |false=>exact wpIn_cond_false (ax.eval (.inr aq)) (oy K B Q H.2 (h.2 rfl) r aF C h0 aV a w ax)
  .exact h.elim
 |block i b br=>
  intro K B Q H h r aF C h0 aV a w ax;rw[XG] at h;refine wpIn_block (br K B _ H h r aF C _ ?_ a w ax);intro e K' B' ds hm V a' w' d1
  cases e with
  |gX=>exact aV .gX K' B' ds hm V a' w' d1
  |ret=>exact aV .ret K' B' ds hm V a' w' d1
  |ex j=>
   simp only[nG.to,Exit.inBlock] at V⊢
   split at V
   .rename_i e;have:=ap6 e;subst this;rw[if_pos rfl];exact aV .gX K' B' ds hm V a' w' d1
   .rename_i e;rw[if_neg (fun x=>by subst x;simp at e)];exact aV (.ex j) K' B' ds hm V a' w' d1
 |loop b br=>exact fun K B Q H h=>h
 |rangeFunc f bE x b ox oy=>exact fun K B Q H h=>h
 |scope b br=>
  intro K B Q H h r aF C h0 aV a w ax;rw[XH] at h;refine Zg (br K B _ H h r aF C _ ?_ a w ax);intro e K' B' ds hm V a' w' d1
  cases e with
  |gX=>exact aV .gX K' B' ds hm V a' w' d1
  |ret=>exact aV .ret K' B' ds hm V a' w' d1
  |ex j=>exact aV (.ex j) K' B' ds hm V a' w' d1
 |label l=>exact fun K B Q H h r aF C h0 aV a w ax=>wpIn_label (aV .gX K B C.ds (fun _=>rfl) h a w ax)
 |exit i=>exact fun K B Q H h r aF C h0 aV a w ax=>wpIn_exit (aV (.ex i) K B C.ds (fun _=>rfl) h a w ax)
 |ret=>exact fun K B Q H h r aF C h0 aV a w ax=>wpIn_ret (aV .ret K B C.ds (fun _=>rfl) h a w ax)
 |_=>intro K B Q H h;simp[jr] at H
def af (ids:List Nat) (K:a1) (B:ay) (K':a1) (B':ay):Prop:= ∀(N:Nat) (C:e8) (a:Act) (w:World),eX N ids C K B a w->eX N ids C K' B' a w
theorem af.refl (K:a1) (B:ay):af ids K B K B:=fun _ _ _ _ h=>h
theorem af.trans {K K' Pn:a1} {B B' Po:ay} (h:af ids K B K' B') (h':af ids K' B' Pn Po):af ids K B Pn Po:=fun N C a w ax=>h' N C a w (h N C a w ax)
theorem bt.le {c:Code} {K K':a1} {B B':ay} {Q:nG->a1->ay->Prop} (h:af ids K B K' B') (cr:bt P N ids c K' B' Q):bt P N ids c K B Q:=fun r aF C h0 aV a w ax=>cr r aF C h0 aV a w (h N C a w ax)
theorem bt.mono {c:Code} {K:a1} {B:ay} {Q Q':nG->a1->ay->Prop} (h: ∀e K B,Q' e K B->Q e K B) (cr:bt P N ids c K B Q'):bt P N ids c K B Q:=fun r aF C h0 aV a w ax=>cr r aF C h0 (fun e K' B' ds hm V=>aV e K' B' ds hm (h e K' B' V)) a w ax
theorem bt.loop (bn:d6 P aU) (b9:y8 P aU N ids) (stops:List Nat) {b:Code} (H:jr P N b=true) {X:Type} (kP:X->a1) (gZ:X->ay) (inv:X->Prop) (ui:X->Nat) (hQ:X) {K:a1} {B:ay} {Q:nG->a1->ay->Prop} (aw:inv hQ) (gY:af ids K B (kP hQ) (gZ hQ))
  (h: ∀x,inv x->jm P aU N ids stops b (kP x) (gZ x) (fun e K B=>match e with
   | .gX=> ∃y,inv y/\ui y < ui x/\af ids K B (kP y) (gZ y)
   | .ex i=>Q (.ex i) K B
   | .ret=>Q .ret K B)):bt P N ids (.loop b) K B Q:=by
 intro r aF C h0 aV a w ax;refine wpIn_loop_ghost (fun n a w=> ∃x ds,(t1 ids=true->ds=C.ds)/\inv x/\ui x=n/\eX N ids (C.at ds) (kP x) (gZ x) a w) (ui hQ) ⟨hQ,C.ds,fun _=>rfl,aw,rfl,gY N C a w ax⟩ ?_;rintro n a w ⟨x,ds,hm,hx,rfl,ax⟩;refine y9 bn b9 stops b _ _ _ H (h x hx) r aF (C.at ds) _ ?_ a w ax;intro e K' B' xe I4 V a' w' d1;have I5:t1 ids=true->xe=C.ds:=fun aI=>(I4 aI).trans (hm aI)
 cases e with
 |gX=>
  obtain⟨y,aC,bw,Zl⟩:=V;exact⟨ui y,bw,y,xe,I5,aC,rfl,Zl N (C.at xe) a' w' d1⟩
 |ex i=>exact aV (.ex i) K' B' xe I5 V a' w' d1
 |ret=>exact aV .ret K' B' xe I5 V a' w' d1
def oJ:Nat->List aQ->a1
 |_,[]=>[]
 |i,v::l=>(i,v)::oJ (i+1) l
theorem Br: ∀(l:List aQ) (i s:Nat),dA (oJ i l) s=(if i<=s then(l[s - i]?).getD (.c (.one .any)) else .c (.one .any))
 | [],i,s=>by simp[oJ,dA]
 |v::l,i,s=>by
  simp only[oJ];rw[kc,Br l (i+1) s]
  by_cases h:i=s
  .subst h;simp
  .rw[if_neg h]
   by_cases G:i<=s
   .rw[if_pos au5,if_pos G,show s - i=(s - (i+1))+1 by omega];rfl
   .rw[if_neg au5,if_neg G]
def xf (aU:dd) (K:a1) (B:ay):List ResultVar->Option (List dI)
 | []=>some []
 | .tmp t::l=>match dA K t,xf aU K B l with
  | .c x,some r=>some (x::r)
  |_,_=>none
 | .cell t T::l=>match dA K t,xf aU K B l,aU.find T with
  | .c (.one (.ptr c o)),some r,some ti=>match ah B c with
   |some (.cells m)=>match ti.row with
    |true=>match Nat.ble (o+ti.size) m.length with
     |true=>some (.agg ((m.drop o).take ti.size)::r)
     |false=>none
    |false=>match m[o]? with
     |some s=>some (.one s::r)
     |none=>none
   |_=>none
  |_,_,_=>none
def tc (tmps:Array Value) (r:ResultVar):Sem Value:=match r with
 | .tmp t=>pure (tmps.getD t undef)
 | .cell ad t=>do loadVar t (<-asAddr (tmps.getD ad undef))
def I6:List dI->aQ
 | [x]=>.c x
 |l=>.ce l
theorem EG (bn:d6 P aU) {ρ:Nat->bo} {F:Nat->Nat->Prop} {C:e8} {K:a1} {B:ay} {a:Act} {w:World} (ar:Mem ids C B ρ F w) (av:ee K ρ (bZ C B F w) a w): ∀(l:List ResultVar) (r:List dI),xf aU K B l=some r->
  ∃aD:List Value,(l.mapM (tc a.tmps)).run P w= .ok aD w/\iJ ρ (bZ C B F w) w r aD
 | [],r,h=>by
  simp only[xf,ap4] at h;subst h;exact⟨[],au7,rfl⟩
 | .tmp t::l,r,h=>by
  unfold xf at h
  split at h
  .rename_i x Bs hx aF;injection h with h
   subst h;obtain⟨aD,E,G⟩:=EG bn ar av l Bs aF;have az:=av t;rw[hx] at az;exact⟨_::aD,by simp[List.mapM_cons,E,tc],_,aD,rfl,az,G⟩
  .cases h
 | .cell t T::l,r,h=>by
  unfold xf at h
  split at h
  .rename_i c o Bs ti hx aF gz;obtain⟨i,d,bu⟩:=bn.at_ gz;obtain⟨aD,E,G⟩:=EG bn ar av l Bs aF;have az:=av t;rw[hx] at az;have az:a.tmps.getD t undef= .pointer (some ⟨(ρ c).bk,o,none⟩):=az
   split at h
   .rename_i m aq;obtain⟨bj,us,eT,O,J⟩:=ar.holds c _ aq
    split at h
    .rename_i fW
     split at h
     .rename_i gY;have gY:=Nat.le_of_ble_eq_true gY;injection h with h
      subst h;have kM:=b'.Eo ti.size _ _ (b'.qX o _ _ J)
      have dO:=run_loadVar_mid (P:=P) w (ρ c).bk o T ((us.drop o).take ti.size) d (fun j u aa=>by
       rw[List.getElem?_take] at aa
       split at aa
       .rw[List.getElem?_drop] at aa;exact oD O aa
       .cases aa) bu.nI (bu.row.trans fW) (by rw[bu.jF,at2,bu.size,b'.length _ _ kM,ap8,at1];congr 1;omega)
      exact⟨_::aD,by simp[List.mapM_cons,tc,az,asAddr,dO,E],_,aD,rfl,⟨_,rfl,kM⟩,G⟩
     .cases h
    .rename_i fW
     split at h
     .rename_i s ax;injection h with h
      subst h;obtain⟨v,uj,kM⟩:=b'.get _ _ J o s ax;have dO:=OK (P:=P) (T:=T) bu.nI (bu.row.trans fW) (oD O uj);exact⟨_::aD,by simp[List.mapM_cons,tc,az,asAddr,dO,E],_,aD,rfl,kM,G⟩
     .cases h
   .cases h
  .cases h
def za (l:List Nat):List kF->Bool
 | []=>true
 | .p b _::m=>l.contains b&&za l m
 | .d _::m=>za l m
theorem I7 {l:List Nat} {c:Nat}: ∀{m:List kF},za l m=true->lY c m=true->c∈l
 | [],_,H=>by simp[lY] at H
 | .p b o::m,h,H=>by
  simp only[za,vj,ar6] at h;simp only[lY,Bool.or_eq_true] at H;rcases H with H |H
  .have:=ap6 H;subst this;exact h.1
  .exact I7 h.2 H
 | .d x::m,h,H=>I7 (m:=m) (by simpa[za] using h) (by simpa[lY] using H)
def bC.iW (l:List Nat):bC->Bool
 | .ptr b _=>l.contains b
 | .own b=>l.contains b
 | .f1 b _ _ _=>l.contains b
 | .os b _ _ _=>l.contains b
 | .mp b=>l.contains b
 | .cT _ m=>za l m
 |_=>true
def Bt (l:List Nat):List bC->Bool
 | []=>true
 |s::m=>s.iW l&&Bt l m
def dI.iW (l:List Nat):dI->Bool
 | .one s=>s.iW l
 | .agg m=>Bt l m
 | .jX _ _=>true
def EH (l:List Nat):List dI->Bool
 | []=>true
 |s::m=>s.iW l&&EH l m
def aQ.iW (l:List Nat):aQ->Bool
 | .c x=>x.iW l
 | .ce m=>EH l m
 | .undef=>true
def bd.iW (l:List Nat):bd->Bool
 | .cells m=>Bt l m
 | .co d _=>l.contains d
 |_=>true
def vD (l:List Nat):ay->Bool
 | []=>true
 |(_,ch)::B=>ch.iW l&&vD l B
theorem bC.km {l:List Nat} {s:bC} (h:s.iW l=true) {c:Nat} (H:s.has c=true):c∈l:=by
 cases s <;>simp only[bC.iW,bC.has,ar6,Bool.false_eq_true] at h H
 all_goals first |exact I7 h H |(have:=ap6 H;subst this;exact h)
theorem I8 {l:List Nat} {c:Nat}: ∀{m:List bC},Bt l m=true->mq c m=true->c∈l
 | [],_,H=>by simp[mq] at H
 |s::m,h,H=>by
  simp only[Bt,vj] at h;simp only[mq,Bool.or_eq_true] at H;exact H.elim (bC.km h.1) (I8 h.2)
theorem dI.km {l:List Nat} {s:dI} (h:s.iW l=true) {c:Nat} (H:s.has c=true):c∈l:=by
 cases s with
 |one s=>exact bC.km h H
 |agg m=>exact I8 h H
 |jX u x=>cases H
theorem Pp {l:List Nat} {c:Nat}: ∀{m:List dI},EH l m=true->sW c m=true->c∈l
 | [],_,H=>by simp[sW] at H
 |s::m,h,H=>by
  simp only[EH,vj] at h;simp only[sW,Bool.or_eq_true] at H;exact H.elim (dI.km h.1) (Pp h.2)
theorem aQ.km {l:List Nat} {s:aQ} (h:s.iW l=true) {c:Nat} (H:s.has c=true):c∈l:=by
 cases s with
 |c s=>exact dI.km h H
 |ce m=>exact Pp h H
 |undef=>cases H
theorem bd.km {l:List Nat} {s:bd} (h:s.iW l=true) {c:Nat} (H:s.has c=true):c∈l:=by
 cases s with
 |cells m=>exact I8 h H
 |row e u xs=>cases H
 |map aJ aL es=>cases H
 |val u x=>cases H
 |aG o=>cases H
 |co d o=>rw[<-ap6 H];exact ar6.1 h
theorem xg {l:List Nat}: ∀{B:ay},vD l B=true-> ∀{c ch},ah B c=some ch->ch.iW l=true
 | [],_,c,ch,h=>by cases h
 |(d,x)::B,h,c,ch,H=>by
  simp only[vD,vj] at h;rw[ca] at H
  split at H
  .injection H with H;subst H;exact h.1
  .exact xg h.2 H
section
variable {ρ:Nat->bo} {I:Nat->Prop} {w:World}
theorem Zm: ∀{x y:D} {v:Value},H' x y->gE I w x v->gE I w y v:=by
 intro x y v h az;unfold H' at h
 split at h
 .split at h
  .rename_i e;have:=nH e;subst this h;exact az
  .exact h.elim
 .subst h;exact az
 .subst h;exact az
 .subst h;exact az
 .subst h;exact az
 .subst h;exact az
 .subst h;exact az
 .subst h;exact az
 .split at h
  .rename_i e _;subst e;have h:_=_:=h;subst h;exact az
  .exact h.elim
 .exact h.elim
theorem Pq {s t:bC} {v:Value} (h:D4 s t) (az:dS ρ I w s v):dS ρ I w t v:=by
 unfold D4 at h
 split at h
 .trivial
 .exact Zm h az
 .subst h;rw[show v=_ from az];exact⟨none,0,rfl,ap0 _,ap7 _,fun h=>absurd h (Nat.lt_irrefl 0)⟩
 .subst h;exact az
theorem I9: ∀{l m:List bC} {aD:List Value},D5 l m->b' ρ I w l aD->b' ρ I w m aD
 | [],[],_,_,h=>h
 |s::l,t::m,_,⟨E,G⟩,⟨v,r,e,g1,g2⟩=>⟨v,r,e,Pq E g1,I9 G g2⟩
 | [],_::_,_,h,_=>h.elim
 |_::_,[],_,h,_=>h.elim
theorem Pr {s t:dI} {v:Value} (h:D6 s t) (az:gy ρ I w s v):gy ρ I w t v:=by
 unfold D6 at h
 split at h
 .exact Pq h az
 .obtain⟨aD,e,az⟩:=az;exact⟨aD,e,I9 h az⟩
 .trivial
 .split at h
  .rename_i a8 _;subst a8;have h:_=_:=h;subst h;exact az
  .exact h.elim
 .trivial
 .exact h.elim
theorem Ps: ∀{l m:List dI} {aD:List Value},Ia l m->iJ ρ I w l aD->iJ ρ I w m aD
 | [],[],_,_,h=>h
 |s::l,t::m,_,⟨E,G⟩,⟨v,r,e,g1,g2⟩=>⟨v,r,e,Pr E g1,Ps G g2⟩
 | [],_::_,_,h,_=>h.elim
 |_::_,[],_,h,_=>h.elim
theorem vE {s t:aQ} {v:Value} (h:sZ s t) (az:ct ρ I w s v):ct ρ I w t v:=by
 unfold sZ at h
 split at h
 .exact Pr h az
 .obtain⟨aD,e,az⟩:=az;exact⟨aD,e,Ps h az⟩
 .exact az
 .trivial
 .exact h.elim
theorem Ja: ∀{l m:List aQ},D7 l m->l.length=m.length/\ ∀(i:Nat) (t:aQ),m[i]? =some t-> ∃s,l[i]? =some s/\sZ s t
 | [],[],_=>⟨rfl,fun i t h=>by simp at h⟩
 |s::l,t::m,⟨E,G⟩=>by
  obtain⟨g1,g2⟩:=Ja G;refine⟨by simp[g1],fun i u a8=>?_⟩
  match i with
  |0=>
   simp only[aq5,ap4] at a8;subst a8;exact⟨s,rfl,E⟩
  |i+1=>exact g2 i u (by simpa using a8)
 | [],_::_,h=>h.elim
 |_::_,[],h=>h.elim
end
theorem Fn.arg {P:Program} {f:FuncId} {args args':List aQ} {aK:ay} {bf:List Nat} {res:aQ} {aP:ay} (h:Fn P f args' aK bf res aP) (aq:D7 args args'):Fn P f args aK bf res aP:=by
 obtain⟨E,G⟩:=Ja aq;refine⟨h.1,fun ρ F I w bW b4 ci a3 a4 a5 gw=>h.2 ρ F I w bW b4 ci a3 a4 (a5.trans E) fun i v x az hx=>?_⟩;obtain⟨s,g1,g2⟩:=G i v az;exact vE g2 (gw i s x g1 hx)
theorem Zn {C:e8} {ds:List Nat} {B:ay} {ρ:Nat->bo} {F:Nat->Nat->Prop} {w w':World} (h:Mem ids (C.at ds) B ρ F w) (cz:cJ (fun D=>D∈ds) w w'):
  Mem ids (C.at []) B ρ F w'/\cd (bZ (C.at ds) B F w) w (bZ (C.at []) B F w') w':=by
 have hm: ∀b,(C.yH b\/C.p0 b\/C.f2.heap.size<=b/\b∉ds)->b∉ds:=fun b O J=>by
  have cX:C.f2.heap.size<=b:=(h.kG.2.2 b J).2.2;rcases O with O |O |O
  .have jo:b < C.f2.heap.size:=h.kG.2.1 b (.inl O);omega
  .have jo:b < C.f2.heap.size:=h.kG.2.1 b (.inr O);omega
  .exact O.2 J
 have aY:cd (bZ (C.at ds) B F w) w (bZ (C.at []) B F w') w':=fun b O=>
  ⟨⟨Nat.lt_of_lt_of_le O.1 cz.size,O.2.1.imp id fun x=>x.imp id fun x=>⟨x.1,au7⟩,O.2.2⟩,cz.block b O.1 (hm b O.2.1)⟩
 have bj: ∀c ch,ah B c=some ch-> ∀b,F c b->w'.heap[b]? =w.heap[b]? :=fun c ch H b O=>by
  obtain⟨cx,cA⟩:=h.own c ch H b O;exact cz.block b cx (hm b (.inr cA))
 refine⟨⟨h.fr.trans cz fun i aI J=>?_,fun c ch H=>Holds.cg aY (bj c ch H) cz.size ch (fun _ _=>rfl) (h.holds c ch H),fun c ch H b O=>?_,h.e9,h.ed,at0,h.kG.2.1,fun D b9=>by cases b9⟩,aY⟩
 .have al:C.f2.heap.size<=i:=(h.kG.2.2 i J).2.2;have aI:i < C.f2.heap.size:=aI;omega
 .obtain⟨cx,cA⟩:=h.own c ch H b O;exact⟨Nat.lt_of_lt_of_le cx cz.size,cA.imp id fun x=>⟨x.1,au7⟩⟩
theorem Pt {F:Fence} {n:Nat} {fn:Func} {tmps:Array Value} {R:Ending->World->Prop}: ∀(ds:List Nat) (w:World),ds.Nodup->(∀D,D∈ds->D < w.heap.size/\w.heap[D]? =some (.deferred (some [])))->
  (∀w',cJ (fun D=>D∈ds) w w'->LeavesIn F n P fn tmps R [] .returning w')->LeavesInM F n P fn tmps R (ds.map wT) .returning w
 | [],w,_,_,h=>h w (cJ.refl _ w)
 |D::ds,w,hn,J,h=>by
  obtain⟨cH,dF⟩:=aq7.1 hn;obtain⟨hz,i5⟩:=J D (aq1 ..);have hf:cJ (fun b=>b=D) w (w.putObj D (.deferred none)):=⟨rfl,rfl,rfl,Nat.le_of_eq (World.putObj_size).symm,fun k _ ab=>World.putObj_heap_other ab⟩;refine⟨fun e=>(by cases e),.inl ⟨D,w.putObj D (.deferred none),rfl,run_takeDeferred i5,Pt ds _ dF (fun ue aY=>?_) fun w' p6=>h w' ?_⟩⟩
  .obtain⟨cx,cA⟩:=J ue (ap2 _ aY);exact⟨by rw[World.putObj_size];exact cx,(World.putObj_heap_other (r:=D) (k:=ue) fun e=>cH (e▸aY)).trans cA⟩
  .exact(hf.mono fun i _ (aI:i=D)=>by rw[aI];exact aq1 ..).trans p6 fun i _ aI=>ap2 _ aI
theorem Pu {F:Fence} {n:Nat} {fn:Func} {R:Ending->World->Prop} {C:e8} {ds:List Nat} {K:a1} {B:ay} {a:Act} {w:World} (ax:eX N ids (C.at ds) K B a w)
  (h: ∀w',eX N ids (C.at []) K B {a with defers:=[]} w'-> ∃v,(results fn a.tmps).run P w'= .ok v w'/\R (.returned v) w'):LeavesInM F n P fn a.tmps R a.defers .returning w:=by
 obtain⟨E,G,ρ,b8,ar,av⟩:=ax;rw[G];refine Pt ds w ar.kG.1 (fun D b9=>⟨(ar.kG.2.2 D b9).1,(ar.kG.2.2 D b9).2.1⟩) fun w' p6=>h w' ?_
 obtain⟨bN,aY⟩:=Zn ar p6;exact⟨E,rfl,ρ,b8,bN,av.mono aY fun _ _ _=>rfl⟩
def EI (aU:dd) (ids bf:List Nat) (i7:List ResultVar) (res:aQ) (aP:ay) (e:nG) (K:a1) (B:ay):Prop:=match e with
 | .ex _=>False
 |_=> ∃K' B' r,af ids K B K' B'/\xf aU K' B' i7=some r/\sZ (I6 r) res/\kI B' aP/\(res.iW (ids++bf)&&vD (ids++bf) aP&&(cl aP).all (fun c=>(ids++bf).contains c))=true
theorem Fn.of (bn:d6 P aU) {f:FuncId} {fn:Func} {c:Code} (stops:List Nat) (args:List aQ) (aK:ay) (bf:List Nat) (res:aQ) (aP:ay) (hf:P.funcs[f]? =some fn) (O:fn.body=some c) (hn:fn.ntmps=N) (fR:jl P f=true) (H:jr P N c=true) (ft:Nat.ble args.length N=true) (b9:y8 P aU N (cl aK)) {i7:List ResultVar} (xh:fn.results.toList=i7)
  (h:jm P aU N (cl aK) stops c (oJ 0 args) aK (EI aU (cl aK) bf i7 res aP)):Fn P f args aK bf res aP:=by
 refine⟨fR,?_⟩;intro ρ F I w bW bb cV bj eo b6 dt;have ft:=Nat.le_of_ble_eq_true ft;refine Pm (r:=none) (n:=0) (callsIn_of_wp_marks hf O trivial ?_)
 let C:e8:=⟨w,I,fun b=> ∃c ch,ah aK c=some ch/\F c b,ρ,[]⟩
 have r9:cd I w (bZ C aK F w) w:=fun b O=>⟨⟨bb b O,.inl O,fun c ch H p7=>(bj c ch H b p7).2 O⟩,rfl⟩
 have ar:Mem (cl aK) C aK ρ F w:=⟨cJ.refl _ _,fun c ch H=>Holds.cg r9 (fun _ _=>rfl) (ap0 _) ch (fun _ _=>rfl) (cV c ch H),fun c ch H b O=>⟨(bj c ch H b O).1,.inl ⟨c,ch,H,O⟩⟩,eo,fun c _=>rfl,at0,fun b O=>O.elim (bb b) fun⟨c,ch,H,Bu⟩=>(bj c ch H b Bu).1,fun D b9=>by cases b9⟩;refine y9 bn b9 stops c _ _ _ H h none (fun _=>rfl) C _ ?_ _ w ⟨by simp[b6,hn];omega,rfl,ρ,F,ar,fun s=>?_⟩
 .intro e K' B' ds _ V a' w' d1
  cases e with
  |ex i=>exact V.elim
  |_=>
   obtain⟨Pv,js,r,gY,aF,ag,hP,po⟩:=V;refine Pu d1 fun w' d1=>?_
   obtain⟨hp,kM,ρ',F',bN,Bv⟩:=gY N C _ w' d1;obtain⟨aD,dO,hq⟩: ∃aD:List Value,(i7.mapM (tc a'.tmps)).run P w'= .ok aD w'/\iJ ρ' (bZ C js F' w') w' r aD:=EG bn bN Bv i7 r aF
   have i9: ∃x,(results fn a'.tmps).run P w'= .ok x w'/\ct ρ' (bZ C js F' w') w' (I6 r) x:=by
    have E:fn.results=i7.toArray:=by rw[<-xh]
    have G:(fn.results.mapM (tc a'.tmps)).run P w'= .ok (List.toArray aD) w':=by
     rw[E,List.mapM_toArray];simp[dO]
    have al:results fn a'.tmps=(do let aD<-fn.results.mapM (tc a'.tmps);pure (if h:aD.size=1 then aD[0] else .tuple aD)):=rfl;rw[al]
    match r,aD,hq,G with
    | [],_,e,G=>rw[show _=[] from e] at G;exact⟨.tuple #[],by simp[G],[],rfl,rfl⟩
    | [x],_,⟨v,s,e,az,ax⟩,G=>
     have ax:s=[]:=ax;subst ax e;exact⟨v,by simp[G],az⟩
    |x::y::r,_,⟨v,s,e,az,v2,bD,ap,uj,f'⟩,G=>
     subst ap e;exact⟨.tuple (List.toArray (v::v2::bD)),by simp[G],_,rfl,v,_,rfl,az,v2,bD,rfl,uj,f'⟩
   obtain⟨x,hx,r6⟩:=i9;have r6:=vE ag r6;simp only[vj] at po
   let uk:Nat->bo:=fun c=>if c∈bf then ρ' c else ρ c
   have q4: ∀c,c∈cl aK++bf->uk c=ρ' c:=fun c H=>by
    show(if c∈bf then ρ' c else ρ c)=ρ' c
    split
    .rfl
    .rename_i hn;rcases aq8.1 H with h |h
     .exact(bN.ed c h).symm
     .exact absurd h hn
   refine⟨x,hx,x,uk,F',rfl,bN.fr,fun c H=>if_neg H,bZ C js F' w',?_,fun b O=>⟨O.1,?_⟩,?_,?_,?_,?_⟩
   .intro b O;have vF: ¬C.p0 b:=fun⟨c,ch,E,G⟩=>(bj c ch E b G).2 O
    refine⟨⟨Nat.lt_of_lt_of_le (bb b O) bN.fr.size,.inl O,fun c ch H p7=>?_⟩,bN.fr.block b (bb b O) vF⟩;rcases(bN.own c ch H b p7).2 with h |h
    .exact vF h
    .have:=bb b O;exact absurd h.1 (Nat.not_le.2 this)
   .rcases O.2.1 with h |h |h
    .exact .inl h
    .exact .inr (.inl h)
    .exact .inr (.inr h.1)
   .intro c ch H
    have ab:c∈cl aK++bf:=by
     have:=ar4.1 po.2 c (gl.2 ⟨ch,H⟩);simpa only[ar6] using this
    rw[q4 c ab];exact Holds.cg (cd.refl _ _) (fun _ _=>rfl) (ap0 _) ch (fun d J=>q4 d (bd.km (xg po.1.2 H) J)) (bN.holds c ch (kk hP H))
   .intro c ch H b O;have cF:=kk hP H;exact⟨(bN.own c ch cF b O).1,fun aI=>aI.2.2 c ch cF O,(bN.own c ch cF b O).2.imp id fun x=>x.1⟩
   .exact fun c bX ch ch' b E G=>bN.e9 c bX ch ch' b (kk hP E) (kk hP G)
   .exact ct.mono (cd.refl _ _) res x (fun c H=>q4 c (aQ.km po.1.1 H)) r6
 .rw[Br];simp only[ap7,if_true,Nat.sub_zero]
  cases ax:args[s]? with
  |none=>trivial
  |some v=>
   have bw:s < bW.length:=by rw[b6];exact(ap5.1 ax).1
   simp only[Option.getD_some];have hx:bW[s]? =some bW[s]:=oj bw;have:=ct.mono r9 v _ (fun _ _=>rfl) (dt s v _ ax hx);simpa[Array.getElem?_append,bw,hx] using this
end
end
section
section
variable {ids:List Nat} {K:a1} {B:ay} {C:e8} {ρ:Nat->bo} {F:Nat->Nat->Prop} {w:World}
def zb (K:a1):a1->Prop
 | []=>True
 |(s,v)::l=>sZ (dA K s) v/\zb K l
theorem Jb: ∀{K' K:a1},zb K K'-> ∀s,sZ (dA K s) (dA K' s)\/dA K' s= .c (.one .any)
 | [],K,h,s=>.inr rfl
 |(t,v)::K',K,h,s=>by
  rw[kc]
  split
  .rename_i e;subst e;exact .inl h.1
  .exact Jb h.2 s
theorem af.sub {K':a1} {B':ay} (di:zb K K') (c':kI B B'):af ids K B K' B':=by
 rintro N C a w ⟨E,G,ρ,F,ar,av⟩
 obtain⟨bN,aY⟩:=ar.step (B':=B') (ρ':=ρ) (F':=F) (w':=w) (fun c=>ah B' c=none) (fun _=>False) (cJ.refl _ _) (fun c ch H _=>kk c' H) (fun _ _=>rfl) (fun _ _=>rfl) (fun _ _ h=>h) (fun _ h=>h.elim) (fun _ _ _ _ _ _ h=>h)
  (fun c ch H hn=>by rw[hn] at H;cases H) (fun c ch H hn=>by rw[hn] at H;cases H) (fun c bX ch ch' b H _ hn=>by rw[hn] at H;cases H)
 refine⟨E,G,ρ,F,bN,fun s=>?_⟩;rcases Jb di s with h |h
 .exact ct.mono aY _ _ (fun _ _=>rfl) (vE h (av s))
 .rw[h];trivial
def bC.dV (c:Nat) (x:D):bC->bC
 | .own b=>match Nat.beq b c with
  |true=>.d x
  |false=>.own b
 |s=>s
def EJ (c:Nat) (x:D):List bC->List bC
 | []=>[]
 |s::l=>s.dV c x::EJ c x l
def dI.dV (c:Nat) (x:D):dI->dI
 | .one s=>.one (s.dV c x)
 | .agg l=>.agg (EJ c x l)
 | .jX u y=>.jX u y
def Jc (c:Nat) (x:D):List dI->List dI
 | []=>[]
 |s::l=>s.dV c x::Jc c x l
def aQ.dV (c:Nat) (x:D):aQ->aQ
 | .c s=>.c (s.dV c x)
 | .ce l=>.ce (Jc c x l)
 | .undef=>.undef
def EK (c:Nat) (x:D):a1->a1
 | []=>[]
 |(s,v)::K=>(s,v.dV c x)::EK c x K
def bd.dV (c:Nat) (x:D):bd->bd
 | .cells l=>.cells (EJ c x l)
 |ch=>ch
def p8 (c:Nat) (x:D):ay->ay
 | []=>[]
 |(b,ch)::B=>match Nat.beq b c with
  |true=>p8 c x B
  |false=>(b,ch.dV c x)::p8 c x B
theorem Pw {c:Nat} {x:D}: ∀(K:a1) (s:Nat),dA (EK c x K) s=(dA K s).dV c x
 | [],s=>rfl
 |(t,v)::K,s=>by
  simp only[EK];rw[kc,kc,Pw K s]
  split <;>rfl
theorem xi {c:Nat} {x:D}: ∀(B:ay) (d:Nat),ah (p8 c x B) d=if c=d then none else(ah B d).map (·.dV c x)
 | [],d=>by simp[p8,ah]
 |(b,ch)::B,d=>by
  unfold p8
  split
  .rename_i e;have:=ap6 e;subst this;rw[xi B d,ca]
   split <;>rfl
  .rename_i e;have ba:b≠c:=fun h=>by subst h;simp at e
   rw[ca,ca,xi B d]
   by_cases h:b=d
   .subst h;rw[if_pos rfl,if_pos rfl,if_neg (Ne.symm ba)];rfl
   .rw[if_neg h,if_neg h]
section
variable {I I':Nat->Prop} {c:Nat} {x:D}
theorem dS.dV (V:cd I w I' w) (hx:gE I' w x (ρ c).er) (s:bC) (v:Value) (h:dS ρ I w s v):dS ρ I' w (s.dV c x) v:=by
 cases s with
 |own b=>
  unfold bC.dV;simp only
  split
  .rename_i e;have:=ap6 e;subst this;rw[show v=_ from h];exact hx
  .exact h
 |d y=>exact dS.mono (ρ':=ρ) V (.d y) v (fun _ _=>rfl) h
 |el u y o=>exact dS.mono (ρ':=ρ) V (.el u y o) v (fun _ _=>rfl) h
 |cT f l=>exact dS.mono (ρ':=ρ) V (.cT f l) v (fun _ _=>rfl) h
 |_=>exact h
theorem b'.dV (V:cd I w I' w) (hx:gE I' w x (ρ c).er): ∀(l:List bC) (aD:List Value),b' ρ I w l aD->b' ρ I' w (EJ c x l) aD
 | [],_,h=>h
 |s::l,_,⟨v,r,e,E,G⟩=>⟨v,r,e,dS.dV V hx s v E,b'.dV V hx l r G⟩
theorem gy.dV (V:cd I w I' w) (hx:gE I' w x (ρ c).er) (s:dI) (v:Value) (h:gy ρ I w s v):gy ρ I' w (s.dV c x) v:=by
 cases s with
 |one s=>exact dS.dV V hx s v h
 |agg l=>obtain⟨aD,e,h⟩:=h;exact⟨aD,e,b'.dV V hx l aD h⟩
 |jX u y=>obtain⟨aD,e,E,G⟩:=h;exact⟨aD,e,E,cp.mono V u y _ _ (fun _ _ h=>h) G⟩
theorem iJ.dV (V:cd I w I' w) (hx:gE I' w x (ρ c).er): ∀(l:List dI) (aD:List Value),iJ ρ I w l aD->iJ ρ I' w (Jc c x l) aD
 | [],_,h=>h
 |s::l,_,⟨v,r,e,E,G⟩=>⟨v,r,e,gy.dV V hx s v E,iJ.dV V hx l r G⟩
theorem ct.dV (V:cd I w I' w) (hx:gE I' w x (ρ c).er) (s:aQ) (v:Value) (h:ct ρ I w s v):ct ρ I' w (s.dV c x) v:=by
 cases s with
 |c s=>exact gy.dV V hx s v h
 |ce l=>obtain⟨aD,e,h⟩:=h;exact⟨aD,e,iJ.dV V hx l aD h⟩
 |undef=>exact h
end
theorem Mem.dV (ar:Mem ids C B ρ F w) {c:Nat} {e:TypeId} {u:bx} {xs:List (Z u)} (H:ah B c=some (.row e u xs)):
  Mem ids C (p8 c (.ck u xs) B) ρ F w/\cd (bZ C B F w) w (bZ C (p8 c (.ck u xs) B) F w) w/\gE (bZ C (p8 c (.ck u xs) B) F w) w (.ck u xs) (ρ c).er:=by
 have bl:=ar.holds c _ H
 have zc: ∀b,bZ C B F w b->bZ C (p8 c (.ck u xs) B) F w b:=fun b ⟨E,G,al⟩=>⟨E,G,fun d ch J O=>by
  rw[xi] at J
  split at J
  .cases J
  .obtain⟨ch',dK,_⟩:=as0.1 J;exact al d ch' dK O⟩
 have r8: ∀b,F c b->bZ C (p8 c (.ck u xs) B) F w b:=fun b O=>by
  obtain⟨E,G⟩:=ar.own c _ H b O;refine⟨E,.inr G,fun d ch J dm=>?_⟩;rw[xi] at J
  split at J
  .cases J
  .rename_i ba;obtain⟨ch',dK,_⟩:=as0.1 J;exact ar.e9 c d _ ch' b H dK ba O dm
 have dt:gE (bZ C (p8 c (.ck u xs) B) F w) w (.ck u xs) (ρ c).er:=Bd bl zc r8;have aY:cd (bZ C B F w) w (bZ C (p8 c (.ck u xs) B) F w) w:=fun b O=>⟨zc b O,rfl⟩
 refine⟨⟨ar.fr,fun d ch J=>?_,fun d ch J=>?_,fun d cZ ch ch' b J dK=>?_,ar.ed,ar.kG⟩,aY,dt⟩
 .rw[xi] at J
  split at J
  .cases J
  .obtain⟨ch',dK,rfl⟩:=as0.1 J;have:=ar.holds d ch' dK
   cases ch' with
   |cells l=>
    obtain⟨E,aD,T,G,al⟩:=this;exact⟨E,aD,T,G,b'.dV aY dt l aD al⟩
   |row e u xs=>exact Holds.cg aY (fun _ _=>rfl) (ap0 _) _ (fun _ _=>rfl) this
   |map aJ aL es=>exact Holds.cg aY (fun _ _=>rfl) (ap0 _) _ (fun _ _=>rfl) this
   |val u x=>exact Holds.cg aY (fun _ _=>rfl) (ap0 _) _ (fun _ _=>rfl) this
   |aG o=>exact Holds.cg aY (fun _ _=>rfl) (ap0 _) _ (fun _ _=>rfl) this
   |co d o=>exact Holds.cg aY (fun _ _=>rfl) (ap0 _) (.co d o) (fun _ _=>rfl) this
 .rw[xi] at J
  split at J
  .cases J
  .obtain⟨ch',dK,_⟩:=as0.1 J;exact ar.own d ch' dK
 .rw[xi] at J dK
  split at J
  .cases J
  .split at dK
   .cases dK
   .obtain⟨cB,E,_⟩:=as0.1 J;obtain⟨cL,G,_⟩:=as0.1 dK;exact ar.e9 d cZ cB cL b E G
theorem af.dV (c:Nat) {e:TypeId} {u:bx} {xs:List (Z u)} (H:ah B c=some (.row e u xs)):af ids K B (EK c (.ck u xs) K) (p8 c (.ck u xs) B):=by
 rintro N C a w ⟨E,G,ρ,F,ar,av⟩;obtain⟨bN,aY,J⟩:=ar.dV H;exact⟨E,G,ρ,F,bN,fun s=>by rw[Pw];exact ct.dV aY J _ _ (av s)⟩
theorem af.nil (s c:Nat) (e:TypeId) (u:bx) (ax:dA K s= .c (.one .dD)) (hf:gW ids K B c=true):af ids K B ((s,.c (.one (.own c)))::K) ((c,.row e u [])::B):=by
 rintro N C a w ⟨E,G,ρ,F,ar,av⟩;have cz:=kK hf;obtain⟨bN,aY⟩:=ar.make (ch:=.row e u []) (w':=w) hf (Below.refl _ _) ⟨0,none,0,0⟩ (fun _=>False) (fun b h=>h.elim) (fun I _ _=>⟨fun b=>by simp[bo.er,Value.ownBlock],fun b O=>by simp[bo.er,Value.ownBlock] at O,[],World.ownsRow_nil _ _ _ _,gK.nil u⟩);refine⟨E,G,_,_,bN,fun t=>?_⟩;rw[kc]
 split
 .rename_i e;subst e;have:=av s;rw[ax] at this;rw[show a.tmps.getD s undef= .slice none 0 0 from this];simp only[ct,gy,dS,c6,bo.er]
 .exact ct.mono aY _ _ (fun d J=>de _ _ (fun e=>by subst e;rw[cz.1 t] at J;cases J)) (av t)
theorem af.vG (b j c:Nat) (e:TypeId) (u:bx) {l:List bC} (O:ah B b=some (.cells l)) (aa:l[j]? =some .dD) (hf:gW ids K B c=true):af ids K B K ((b,.cells (l.set j (.own c)))::(c,.row e u [])::B):=by
 rintro N C a w ⟨E,G,ρ,F,ar,av⟩;have cz:=kK hf;obtain⟨bN,aY⟩:=ar.make (ch:=.row e u []) (w':=w) hf (Below.refl _ _) ⟨0,none,0,0⟩ (fun _=>False) (fun b h=>h.elim) (fun I _ _=>⟨fun b=>by simp[bo.er,Value.ownBlock],fun b O=>by simp[bo.er,Value.ownBlock] at O,[],World.ownsRow_nil _ _ _ _,gK.nil u⟩);have EL:c≠b:=fun e=>by subst e;rw[cz.2.1] at O;cases O
 have dm:ah ((c,bd.row e u [])::B) b=some (.cells l):=by rw[ca,if_neg EL];exact O
 have bl:=bN.holds b _ dm
 obtain⟨iK,ul⟩:=bN.hN (ch:=.cells (l.set j (.own c))) dm (cJ.refl _ _) (fun I V=>by
  obtain⟨g1,aD,T,g2,cX⟩:=bl;refine⟨g1,aD,T,g2,?_⟩;have cX:=b'.mono (ρ':=c5 ρ c ⟨0,none,0,0⟩) V l aD (fun _ _=>rfl) cX
  have key: ∀(l:List bC) (aD:List Value) (j:Nat),l[j]? =some .dD->b' (c5 ρ c ⟨0,none,0,0⟩) I w l aD->b' (c5 ρ c ⟨0,none,0,0⟩) I w (l.set j (.own c)) aD:=fun l=>by
   induction l with
   |nil=>intro aD j aa;simp at aa
   |cons s l br=>
    rintro _ j aa ⟨v,r,rfl,cx,cA⟩
    match j with
    |0=>
     simp only[aq5,ap4] at aa;subst aa;refine⟨v,r,rfl,?_,cA⟩;rw[show v= .slice none 0 0 from cx];simp only[dS,c6,bo.er]
    |j+1=>exact⟨v,r,rfl,cx,br r j (by simpa using aa) cA⟩
  exact key l aD j aa cX)
 refine⟨E,G,_,_,iK,fun t=>?_⟩;exact ct.mono (aY.trans ul) _ _ (fun d J=>de _ _ (fun e=>by subst e;rw[cz.1 t] at J;cases J)) (av t)
def EM (c d:Nat):List kF->List kF
 | []=>[]
 | .p b o::l=>(match Nat.beq b c with
  |true=>.p d o
  |false=>.p b o)::EM c d l
 | .d x::l=>.d x::EM c d l
def bC.aX (c d:Nat):bC->bC
 | .ptr b o=>match Nat.beq b c with
  |true=>.ptr d o
  |false=>.ptr b o
 | .own b=>match Nat.beq b c with
  |true=>.own d
  |false=>.own b
 | .f1 b s i o=>match Nat.beq b c with
  |true=>.f1 d s i o
  |false=>.f1 b s i o
 | .os b s o n=>match Nat.beq b c with
  |true=>.os d s o n
  |false=>.os b s o n
 | .mp b=>match Nat.beq b c with
  |true=>.mp d
  |false=>.mp b
 | .cT f l=>.cT f (EM c d l)
 |s=>s
def EN (c d:Nat):List bC->List bC
 | []=>[]
 |s::l=>s.aX c d::EN c d l
def dI.aX (c d:Nat):dI->dI
 | .one s=>.one (s.aX c d)
 | .agg l=>.agg (EN c d l)
 | .jX u x=>.jX u x
def Jd (c d:Nat):List dI->List dI
 | []=>[]
 |s::l=>s.aX c d::Jd c d l
def aQ.aX (c d:Nat):aQ->aQ
 | .c s=>.c (s.aX c d)
 | .ce l=>.ce (Jd c d l)
 | .undef=>.undef
def EO (c d:Nat):a1->a1
 | []=>[]
 |(s,v)::K=>(s,v.aX c d)::EO c d K
def bd.aX (c d:Nat):bd->bd
 | .cells l=>.cells (EN c d l)
 | .co b o=>match Nat.beq b c with
  |true=>.co d o
  |false=>.co b o
 |ch=>ch
def vH (c d:Nat):ay->ay
 | []=>[]
 |(b,ch)::B=>match Nat.beq b c with
  |true=>(d,ch.aX c d)::vH c d B
  |false=>(b,ch.aX c d)::vH c d B
theorem Px {c d:Nat}: ∀(K:a1) (s:Nat),dA (EO c d K) s=(dA K s).aX c d
 | [],s=>rfl
 |(t,v)::K,s=>by
  simp only[EO];rw[kc,kc,Px K s]
  split <;>rfl
theorem Py {c d:Nat}: ∀(B:ay),ah B d=none-> ∀b,ah (vH c d B) b=if b=d then(ah B c).map (·.aX c d) else if b=c then none else(ah B b).map (·.aX c d)
 | [],_,b=>by simp[vH,ah]
 |(t,ch)::B,J,b=>by
  rw[ca] at J;have Pz:t≠d:=fun e=>by rw[if_pos e] at J;cases J
  rw[if_neg Pz] at J;have br:=Py (c:=c) B J b;unfold vH
  split
  .rename_i e;have:=ap6 e;subst this;rw[ca,ca,if_pos rfl,br,ca]
   by_cases E:b=d
   .subst E;simp
   .rw[if_neg (Ne.symm E),if_neg E,if_neg E]
    by_cases G:b=t
    .rw[if_pos G,if_pos G]
    .rw[if_neg G,if_neg G,if_neg (Ne.symm G)]
  .rename_i e;have ba:t≠c:=fun h=>by subst h;simp at e
   rw[ca,br,ca,ca,if_neg ba]
   by_cases E:b=d
   .subst E;rw[if_neg Pz,if_pos rfl,if_pos rfl]
   .rw[if_neg E,if_neg E]
    by_cases G:b=c
    .subst G;rw[if_neg ba,if_pos rfl,if_pos rfl]
    .rw[if_neg G,if_neg G]
     by_cases al:t=b
     .rw[if_pos al,if_pos al];rfl
     .rw[if_neg al,if_neg al]
section
variable {I:Nat->Prop} {c d:Nat}
theorem hM.aX: ∀(l:List kF) (aD:List Value),lY d l=false->hM ρ I w l aD->hM (c5 ρ d (ρ c)) I w (EM c d l) aD
 | [],_,_,h=>h
 | .p b o::l,_,J,⟨v,r,e,E,G⟩=>by
  simp only[lY,Bool.or_eq_false_iff] at J;refine⟨v,r,e,?_,hM.aX l r J.2 G⟩
  split
  .rename_i e;have:=ap6 e;subst this;simp only[wS,c6] at E⊢;exact E
  .simp only[wS] at E⊢;rw[de _ _ (fun e=>by subst e;simp at J)];exact E
 | .d x::l,_,J,⟨v,r,e,E,G⟩=>⟨v,r,e,E,hM.aX l r (by simpa[lY] using J) G⟩
theorem dS.aX (s:bC) (v:Value) (J:s.has d=false) (h:dS ρ I w s v):dS (c5 ρ d (ρ c)) I w (s.aX c d) v:=by
 have key: ∀b,Nat.beq b d=false->(match Nat.beq b c with |true=>c5 ρ d (ρ c) d=ρ b |false=>c5 ρ d (ρ c) b=ρ b):=fun b O=>by
  split
  .rename_i e;rw[c6,ap6 e]
  .exact de _ _ (fun e=>by subst e;simp at O)
 cases s with
 |ptr b o=>
  have:=key b J;unfold bC.aX;simp only
  split <;>rename_i e <;>rw[e] at this <;>simp only at this <;>simp only[dS] at h⊢ <;>rw[this] <;>exact h
 |own b=>
  have:=key b J;unfold bC.aX;simp only
  split <;>rename_i e <;>rw[e] at this <;>simp only at this <;>simp only[dS] at h⊢ <;>rw[this] <;>exact h
 |f1 b s i o=>
  have:=key b J;unfold bC.aX;simp only
  split <;>rename_i e <;>rw[e] at this <;>simp only at this <;>simp only[dS] at h⊢ <;>rw[this] <;>exact h
 |os b s o n=>
  have:=key b J;unfold bC.aX;simp only
  split <;>rename_i e <;>rw[e] at this <;>simp only at this <;>simp only[dS] at h⊢ <;>rw[this] <;>exact h
 |mp b=>
  have:=key b J;unfold bC.aX;simp only
  split <;>rename_i e <;>rw[e] at this <;>simp only at this <;>simp only[dS] at h⊢ <;>rw[this] <;>exact h
 |d y=>exact h
 |el u y o=>exact h
 |cT f l=>obtain⟨aD,e,h⟩:=h;exact⟨aD,e,hM.aX l aD J h⟩
 |dD=>exact h
 |bI v=>exact h
 |any=>exact h
theorem b'.aX: ∀(l:List bC) (aD:List Value),mq d l=false->b' ρ I w l aD->b' (c5 ρ d (ρ c)) I w (EN c d l) aD
 | [],_,_,h=>h
 |s::l,_,J,⟨v,r,e,E,G⟩=>by
  simp only[mq,Bool.or_eq_false_iff] at J;exact⟨v,r,e,dS.aX s v J.1 E,b'.aX l r J.2 G⟩
theorem gy.aX (s:dI) (v:Value) (J:s.has d=false) (h:gy ρ I w s v):gy (c5 ρ d (ρ c)) I w (s.aX c d) v:=by
 cases s with
 |one s=>exact dS.aX s v J h
 |agg l=>obtain⟨aD,e,h⟩:=h;exact⟨aD,e,b'.aX l aD J h⟩
 |jX u x=>exact h
theorem iJ.aX: ∀(l:List dI) (aD:List Value),sW d l=false->iJ ρ I w l aD->iJ (c5 ρ d (ρ c)) I w (Jd c d l) aD
 | [],_,_,h=>h
 |s::l,_,J,⟨v,r,e,E,G⟩=>by
  simp only[sW,Bool.or_eq_false_iff] at J;exact⟨v,r,e,gy.aX s v J.1 E,iJ.aX l r J.2 G⟩
theorem ct.aX (s:aQ) (v:Value) (J:s.has d=false) (h:ct ρ I w s v):ct (c5 ρ d (ρ c)) I w (s.aX c d) v:=by
 cases s with
 |c s=>exact gy.aX s v J h
 |ce l=>obtain⟨aD,e,h⟩:=h;exact⟨aD,e,iJ.aX l aD J h⟩
 |undef=>exact h
end
theorem af.aX (c d:Nat) (hf:gW ids K B d=true):af ids K B (EO c d K) (vH c d B):=by
 rintro N C a w ⟨E,G,ρ,F,ar,av⟩;obtain⟨h1,jn,f3,pj⟩:=kK hf;have Bk:=Py (c:=c) (d:=d) B jn
 have back: ∀b ch,ah (vH c d B) b=some ch-> ∃ew cw,ah B ew=some cw/\ch=cw.aX c d/\c5 F d (F c) b=F ew/\c5 ρ d (ρ c) b=ρ ew/\((b=d/\ew=c)\/(b≠d/\b≠c/\ew=b)):=fun b ch O=>by
  rw[Bk] at O
  split at O
  .rename_i e;subst e;obtain⟨cw,h,rfl⟩:=as0.1 O;exact⟨c,cw,h,rfl,c6 _ _ _,c6 _ _ _,.inl ⟨rfl,rfl⟩⟩
  .rename_i e
   split at O
   .cases O
   .rename_i ap;obtain⟨cw,h,rfl⟩:=as0.1 O;exact⟨b,cw,h,rfl,de _ _ e,de _ _ e,.inr ⟨e,ap,rfl⟩⟩
 have aY:cd (bZ C B F w) w (bZ C (vH c d B) (c5 F d (F c)) w) w:=fun b ⟨cx,cA,dy⟩=>⟨⟨cx,cA,fun e ch V bj=>by
  obtain⟨ew,cw,g1,_,g2,_⟩:=back e ch V;rw[g2] at bj;exact dy ew cw g1 bj⟩,rfl⟩
 refine⟨E,G,c5 ρ d (ρ c),c5 F d (F c),⟨ar.fr,fun b ch O=>?_,fun b ch O x hx=>?_,fun b dZ ch ch' x O dm ba hx dE=>?_,fun e V=>?_,ar.kG⟩,fun s=>?_⟩
 .obtain⟨ew,cw,g1,rfl,g2,cX,_⟩:=back b ch O;rw[g2,cX];have:=ar.holds ew cw g1;have e4:=f3 ew cw g1
  cases cw with
  |cells l=>
   obtain⟨cf,aD,T,cM,eb⟩:=this;exact⟨cf,aD,T,cM,b'.mono aY _ _ (fun _ _=>rfl) (b'.aX l aD e4 eb)⟩
  |row e u xs=>exact Holds.cg (ρ':=ρ) aY (fun _ _=>rfl) (ap0 _) (.row e u xs) (fun _ _=>rfl) this
  |map aJ aL es=>exact Holds.cg (ρ':=ρ) aY (fun _ _=>rfl) (ap0 _) (.map aJ aL es) (fun _ _=>rfl) this
  |val u x=>exact Holds.cg (ρ':=ρ) aY (fun _ _=>rfl) (ap0 _) (.val u x) (fun _ _=>rfl) this
  |aG o=>exact Holds.cg (ρ':=ρ) aY (fun _ _=>rfl) (ap0 _) (.aG o) (fun _ _=>rfl) this
  |co j o=>
   have G:=Holds.cg (ρ':=ρ) aY (fun _ _=>rfl) (ap0 _) (.co j o) (fun _ _=>rfl) this;unfold bd.aX;simp only
   split
   .rename_i e;have:=ap6 e;subst this;simp only[Holds,c6] at G⊢;exact G
   .have aa:j≠d:=fun e=>by subst e;simp[bd.has] at e4
    simp only[Holds] at G⊢;rw[de _ _ aa];exact G
 .obtain⟨ew,cw,g1,_,g2,_⟩:=back b ch O;rw[g2] at hx;exact ar.own ew cw g1 x hx
 .obtain⟨ew,cw,g1,_,g2,_,jo⟩:=back b ch O;obtain⟨b1,iT,cf,_,cM,_,eA⟩:=back dZ ch' dm;rw[g2] at hx;rw[cM] at dE;refine ar.e9 ew b1 cw iT x g1 cf (fun e=>?_) hx dE;subst e;rcases jo with⟨aj,ap⟩ |⟨aj,ap,bm⟩ <;>rcases eA with⟨c0,fQ⟩ |⟨c0,fQ,hO⟩
  .exact ba (aj.trans c0.symm)
  .exact fQ (hO.symm.trans ap)
  .exact ap (bm.symm.trans fQ)
  .exact ba (bm.symm.trans hO)
 .rw[de _ _ (fun b5=>by subst b5;exact pj V)];exact ar.ed e V
 .rw[Px];exact ct.mono aY _ _ (fun _ _=>rfl) (ct.aX _ _ (h1 s) (av s))
end
theorem bt.go {P:Program} {aU:dd} {N:Nat} {ids:List Nat} {K K':a1} {B B':ay} {Q:nG->a1->ay->Prop} {c:Code} (bn:d6 P aU) (b9:y8 P aU N ids) (stops:List Nat) (H:jr P N c=true) (h:af ids K B K' B') (cr:jm P aU N ids stops c K' B' Q):bt P N ids c K B Q:=
 bt.le h (y9 bn b9 stops c K' B' Q H cr)
end
section
section fold
variable {T mA Zo:Type} (get:mA->Nat->Zo) (jt:T->mA->mA) (um:T->Nat->Prop)
def fJ (m:Nat->Bool):Nat->List T->mA->mA
 |_,[],x=>x
 |i,t::l,x=>fJ m (i+1) l (if m i then jt t x else x)
variable (E: ∀t x s,¬um t s->get (jt t x) s=get x s) (G: ∀t x y s,get x s=get y s->get (jt t x) s=get (jt t y) s)
include E G in
theorem zd (m gm:Nat->Bool) (s:Nat): ∀(l:List T) (i:Nat) (x y:mA),(∀j t,l[j]? =some t->um t s->m (i+j)=gm (i+j))->get x s=get y s->get (fJ jt m i l x) s=get (fJ jt gm i l y) s
 | [],i,x,y,_,V=>V
 |t::l,i,x,y,h,V=>by
  unfold fJ;refine zd m gm s l (i+1) _ _ (fun j u aa a8=>by rw[show i+1+j=i+(j+1) by omega];exact h (j+1) u (by simpa using aa) a8) ?_
  by_cases cr:um t s
  .have:=h 0 t rfl cr;rw[Nat.add_zero] at this;rw[this]
   split
   .exact G t x y s V
   .exact V
  .have aj:get (if m i then jt t x else x) s=get x s:=by split;exact E t x s cr;rfl
   have ap:get (if gm i then jt t y else y) s=get y s:=by split;exact E t y s cr;rfl
   rw[aj,ap,V]
include E G in
theorem Je (m:Nat->Bool) (k:Nat) (s:Nat): ∀(l:List T) (i:Nat) (x:mA) (t:T),l[k]? =some t->m (i+k)=false->(∀j u,k < j->l[j]? =some u->m (i+j)=true->um t s-> ¬um u s)->
  get (fJ jt (fun j=>m j||j == i+k) i l x) s=get (jt t (fJ jt m i l x)) s
 | [],i,x,t,ab,_,_=>by simp at ab
 |u::l,i,x,t,ab,aA,aq=>by
  unfold fJ
  match k with
  |0=>
   simp only[aq5,ap4] at ab;subst ab;rw[Nat.add_zero] at aA;simp only[Nat.add_zero,aA,BEq.rfl,Bool.or_true,if_true,Bool.false_eq_true,if_false]
   by_cases cr:um u s
   .
    have aj: ∀y,get (fJ jt (fun j=>m j||j == i) (i+1) l y) s=get (fJ jt (fun _=>false) (i+1) l y) s:=fun y=>
     zd get jt um E G _ _ s l (i+1) y y (fun j v aa az=>by
      have ba:(i+1+j == i)=false:=by rw[beq_eq_false_iff_ne];omega
      rw[ba,Bool.or_false]
      cases nN:m (i+1+j) with
      |false=>rfl
      |true=>exact absurd az (aq (j+1) v au5 (by simpa using aa) (by rw[show i+(j+1)=i+1+j by omega];exact nN) cr)) rfl
    have ap: ∀y,get (fJ jt m (i+1) l y) s=get (fJ jt (fun _=>false) (i+1) l y) s:=fun y=>
     zd get jt um E G _ _ s l (i+1) y y (fun j v aa az=>by
      cases nN:m (i+1+j) with
      |false=>rfl
      |true=>exact absurd az (aq (j+1) v au5 (by simpa using aa) (by rw[show i+(j+1)=i+1+j by omega];exact nN) cr)) rfl
    have bm: ∀(l:List T) (i:Nat) (y:mA),fJ jt (fun _=>false) i l y=y:=fun l=>by
     induction l with
     |nil=>exact fun _ _=>rfl
     |cons v l br=>intro i y;unfold fJ;simp[br]
    rw[aj,bm];exact G u x _ s (by rw[ap,bm])
   .rw[E u _ s cr]
    exact zd get jt um E G _ _ s l (i+1) _ _ (fun j v aa az=>by
     have ba:(i+1+j == i)=false:=by rw[beq_eq_false_iff_ne];omega
     rw[ba,Bool.or_false]) (E u x s cr)
  |k+1=>
   have ba:(i == i+(k+1))=false:=by rw[beq_eq_false_iff_ne];omega
   simp only[ba,Bool.or_false];have:=Je m k s l (i+1) (if m i=true then jt u x else x) t (by simpa using ab) (by rw[show i+1+k=i+(k+1) by omega];exact aA) (fun j v aa az Zp cr=>aq (j+1) v au5 (by simpa using az) (by rw[show i+(j+1)=i+1+j by omega];exact Zp) cr);rw[<-this]
   have e:(fun j=>m j||j == i+1+k)=(fun j=>m j||j == i+(k+1)):=by
    funext j
    rw[show i+1+k=i+(k+1) by omega]
   rw[e]
end fold
section
variable {P:Program} {aU:dd} {N:Nat} {ids:List Nat}
abbrev hA:=Oper×kJ
def hB (t:hA) (K:a1):a1:=ms t.1.dst t.2.v K
def ju (t:hA) (B:ay):ay:=g9 t.2.e.hy B
def EP (t:hA) (s:Nat):Prop:=t.1.dst=some s
def PA (t:hA) (s:Nat):Prop:=s∈En t.2.e
theorem PB (t:hA) (K:a1) (s:Nat) (h: ¬EP t s):dA (hB t K) s=dA K s:=by
 unfold hB ms;unfold EP at h
 split
 .rename_i d e;rw[kc,if_neg (fun x=>h (by rw[e,x]))]
 .rfl
theorem PC (t:hA) (K K':a1) (s:Nat) (h:dA K s=dA K' s):dA (hB t K) s=dA (hB t K') s:=by
 unfold hB ms
 split
 .rw[kc,kc,h]
 .exact h
theorem EQ: ∀(l:List (Nat×Option bd)) (B B':ay) (s:Nat),ah B s=ah B' s->ah (g9 l B) s=ah (g9 l B') s
 | [],B,B',s,h=>h
 |(c,none)::l,B,B',s,h=>EQ l _ _ s (by rw[hk,hk,h])
 |(c,some ch)::l,B,B',s,h=>EQ l _ _ s (by rw[ca,ca,h])
theorem ER: ∀(l:List (Nat×Option bd)) (B:ay) (s:Nat),s∉l.map (·.1)->ah (g9 l B) s=ah B s
 | [],B,s,h=>rfl
 |(c,none)::l,B,s,h=>by
  simp only[aq4,ap3,not_or] at h;unfold g9;rw[ER l _ s h.2,hk,if_neg (Ne.symm h.1)]
 |(c,some ch)::l,B,s,h=>by
  simp only[aq4,ap3,not_or] at h;unfold g9;rw[ER l _ s h.2,ca,if_neg (Ne.symm h.1)]
theorem eX.congr {C:e8} {K K':a1} {B B':ay} {a:Act} {w:World} (di: ∀s,dA K' s=dA K s) (c': ∀c,ah B' c=ah B c) (h:eX N ids C K B a w):eX N ids C K' B' a w:=by
 obtain⟨E,G,ρ,F,ar,av⟩:=h
 have bb:bZ C B' F w=bZ C B F w:=by
  funext b
  simp only[bZ,c']
 refine⟨E,G,ρ,F,⟨ar.fr,fun c ch H=>?_,fun c ch H=>ar.own c ch (by rw[<-c'];exact H),fun c bX ch ch' b H cF=>ar.e9 c bX ch ch' b (by rw[<-c'];exact H) (by rw[<-c'];exact cF),ar.ed,ar.kG⟩,fun s=>?_⟩
 .rw[bb];exact ar.holds c ch (by rw[<-c'];exact H)
 .rw[bb,di];exact av s
def ES (P:Program) (N:Nat) (ids:List Nat) (all:List Oper) (t:hA) (K:a1) (B:ay):Prop:=
 (tZ all K t.1.guard=some false/\t.2.v= .undef/\t.2.e=bG)\/(tZ all K t.1.guard=some true/\bB P N ids t.1 K B t.2.v t.2.e/\ ∀c,c∈t.2.e.bf->gW ids K B c=true)
theorem bB.lit {o:Oper} {K:a1} {B:ay} {b:Bool} {e:fP} (h:bB P N ids o K B (.c (.one (.d (.bool b)))) e):bB P N ids o K B (.c (.one (.d (.lit b)))) e:=by
 intro K' B' g1 g2 cX C a w ax bw fC Q di;refine h K' B' g1 g2 cX C a w ax bw fC Q fun a' w' d1=>di a' w' ?_
 cases J:o.dst with
 |none=>rw[J] at d1;exact d1
 |some d=>rw[J] at d1;exact d1.lit
theorem bB.any {o:Oper} {K:a1} {B:ay} {v cU:aQ} {e:fP} (J:o.dst=none) (h:bB P N ids o K B v e):bB P N ids o K B cU e:=by
 intro K' B' g1 g2 cX C a w ax bw fC Q di;refine h K' B' g1 g2 cX C a w ax bw fC Q fun a' w' d1=>di a' w' ?_
 rw[J] at d1⊢;exact d1
def Bw (P:Program) (N:Nat) (ids:List Nat) (all:List Oper):List hA->a1->ay->Prop
 | [],_,_=>True
 |t::l,K,B=>ES P N ids all t K B/\Bw P N ids all l (hB t K) (ju t B)
def runK:List hA->a1->a1
 | [],K=>K
 |t::l,K=>runK l (hB t K)
def ze:List hA->ay->ay
 | [],B=>B
 |t::l,B=>ze l (ju t B)
theorem PD (bn:d6 P aU) (all:List Oper): ∀(l:List Oper) (i:Nat) (K:a1) (B:ay) (gi:List kJ) (k:a1->ay->List kJ->Prop),s0 P aU ids all i l K B gi k->
  ∃cq:List hA,cq.map (·.1)=l/\Bw P N ids all cq K B/\k (runK cq K) (ze cq B) ((cq.map (·.2)).reverse++gi)
 | [],i,K,B,gi,k,h=>⟨[],rfl,trivial,h⟩
 |o::l,i,K,B,gi,k,h=>by
  have q3: ∀(n:kJ),ES P N ids all (o,n) K B->s0 P aU ids all (i+1) l (hB (o,n) K) (ju (o,n) B) (n::gi) k-> ∃cq:List hA,cq.map (·.1)=o::l/\Bw P N ids all cq K B/\k (runK cq K) (ze cq B) ((cq.map (·.2)).reverse++gi):=fun n hn az=>by
   obtain⟨cq,E,G,al⟩:=PD bn all l (i+1) _ _ _ k az;exact⟨(o,n)::cq,by simp[E],⟨hn,G⟩,by simpa[runK,ze] using al⟩
  rw[Ov] at h;unfold El at h;simp only[H8] at h
  split at h
  .exact h.elim
  .rename_i hw
   split at h
   .rename_i d e;exact q3 ⟨i,.undef,bG⟩ (.inl ⟨hw,rfl,rfl⟩) (by simpa[hB,ju,ms,e,g9] using h)
   .rename_i e;exact q3 ⟨i,.undef,bG⟩ (.inl ⟨hw,rfl,rfl⟩) (by simpa[hB,ju,ms,e,g9] using h)
  .rename_i hw;obtain⟨v,e,h,aE,hf⟩:=I1 (N:=N) bn h
   split at h
   .rename_i ap;exact q3 ⟨i,.undef,e⟩ (.inr ⟨hw,bB.any ap aE,hf⟩) (by simpa[hB,ju,ms,ap] using h)
   .rename_i d ap
    split at h
    .rename_i b a6
     cases b with
     |true=>exact q3 ⟨i,.c (.one (.d (.lit true))),e⟩ (.inr ⟨hw,aE.lit,hf⟩) (by simpa[hB,ju,ms,ap] using h.1 rfl)
     |false=>exact q3 ⟨i,.c (.one (.d (.lit false))),e⟩ (.inr ⟨hw,aE.lit,hf⟩) (by simpa[hB,ju,ms,ap] using h.2 rfl)
    .exact q3 ⟨i,_,e⟩ (.inr ⟨hw,aE,hf⟩) (by simpa[hB,ju,ms,ap] using h)
theorem PE {all:List Oper}: ∀(cq:List hA) (i:Nat) (K:a1) (B:ay),Bw P N ids all cq K B-> ∀(p:Nat) (t:hA),cq[p]? =some t->ES P N ids all t (fJ hB (fun j=>decide (j < i+p)) i cq K) (fJ ju (fun j=>decide (j < i+p)) i cq B)
 | [],i,K,B,_,p,t,ag=>by simp at ag
 |u::cq,i,K,B,h,0,t,ag=>by
  simp only[aq5,ap4] at ag;subst ag
  have bm: ∀{mA:Type} (jt:hA->mA->mA) (l:List hA) (q:Nat) (y:mA),i<=q->fJ jt (fun j=>decide (j < i+0)) q l y=y:=fun {mA} jt l=>by
   induction l with
   |nil=>exact fun _ _ _=>rfl
   |cons v l br=>
    intro q y aV;unfold fJ;rw[br (q+1) _ au5];simp only[ar5];rw[if_neg au5]
  rw[bm hB _ i K (ap0 _),bm ju _ i B (ap0 _)];exact h.1
 |u::cq,i,K,B,h,p+1,t,ag=>by
  have:=PE cq (i+1) _ _ h.2 p t (by simpa using ag);unfold fJ;simp only[ar5];rw[if_pos au5,if_pos au5];rw[show i+(p+1)=i+1+p by omega];exact this
theorem PF: ∀(cq:List hA) (i:Nat) (m:Nat->Bool) (K:a1),(∀j,j < cq.length->m (i+j)=true)->runK cq K=fJ hB m i cq K
 | [],_,_,_,_=>rfl
 |t::cq,i,m,K,h=>by
  unfold runK fJ;rw[if_pos (by simpa using h 0 au7)];exact PF cq (i+1) m _ fun j aa=>by rw[show i+1+j=i+(j+1) by omega];exact h (j+1) (by simpa using aa)
theorem PG: ∀(cq:List hA) (i:Nat) (m:Nat->Bool) (B:ay),(∀j,j < cq.length->m (i+j)=true)->ze cq B=fJ ju m i cq B
 | [],_,_,_,_=>rfl
 |t::cq,i,m,B,h=>by
  unfold ze fJ;rw[if_pos (by simpa using h 0 au7)];exact PG cq (i+1) m _ fun j aa=>by rw[show i+1+j=i+(j+1) by omega];exact h (j+1) (by simpa using aa)
theorem PH {c:Nat}: ∀(cq:List hA) (i:Nat) (m:Nat->Bool) (K:a1),tV c K=true->(∀(j:Nat) (t:hA),cq[j]? =some t->m (i+j)=true->named t.2 c=false)->tV c (fJ hB m i cq K)=true
 | [],_,_,_,h,_=>h
 |t::cq,i,m,K,h,aA=>by
  unfold fJ;refine PH cq (i+1) m _ ?_ fun j u aa a8=>aA (j+1) u (by simpa using aa) (by rw[show i+(j+1)=i+1+j by omega];exact a8)
  split
  .rename_i aI;have:=aA 0 t rfl (by simpa using aI);simp only[named,Bool.or_eq_false_iff] at this;unfold hB ms
   split
   .simp[tV,this.1,h]
   .exact h
  .exact h
theorem Jf {c:Nat}: ∀(B:ay) (d:Nat),kh c B=true->kh c (gL B d)=true
 | [],d,h=>h
 |(t,v)::B,d,h=>by
  simp only[kh,vj] at h;unfold gL
  split
  .exact Jf B d h.2
  .simp[kh,h.1,Jf B d h.2]
theorem Jg {c:Nat}: ∀(l:List (Nat×Option bd)) (B:ay),yV c l=false->kh c B=true->kh c (g9 l B)=true
 | [],B,_,h=>h
 |(d,none)::l,B,aq,h=>by
  simp only[yV,Bool.or_eq_false_iff] at aq;exact Jg l _ aq.2 (Jf B d h)
 |(d,some ch)::l,B,aq,h=>by
  simp only[yV,Bool.or_eq_false_iff] at aq;exact Jg l _ aq.2 (by simp[kh,aq.1.1,aq.1.2,h])
theorem PI {c:Nat}: ∀(cq:List hA) (i:Nat) (m:Nat->Bool) (B:ay),kh c B=true->(∀(j:Nat) (t:hA),cq[j]? =some t->m (i+j)=true->named t.2 c=false)->kh c (fJ ju m i cq B)=true
 | [],_,_,_,h,_=>h
 |t::cq,i,m,B,h,aA=>by
  unfold fJ;refine PI cq (i+1) m _ ?_ fun j u aa a8=>aA (j+1) u (by simpa using aa) (by rw[show i+(j+1)=i+1+j by omega];exact a8)
  split
  .rename_i aI;have:=aA 0 t rfl (by simpa using aI);simp only[named,Bool.or_eq_false_iff] at this;exact Jg _ _ this.2 h
  .exact h
def xj (all:List Oper) (m:Nat->Bool):Prop:= ∀(j:Nat) (o:Oper),all[j]? =some o->m j=true-> ∀d∈p1 o,m d=true
theorem PJ (all:List Oper): ∀(l Bx:List Oper) (acc:List (List Nat)),all=Bx++l->acc.length=Bx.length->(∀j a,a∈acc.getD j []-> ∀m,xj all m->m j=true->m a=true)-> ∀j a,a∈(yT l acc).getD j []-> ∀m,xj all m->m j=true->m a=true
 | [],Bx,acc,_,_,h=>h
 |o::l,Bx,acc,V,aq,h=>by
  unfold yT;refine PJ all l (Bx++[o]) _ (by simp[V]) (by simp[aq]) ?_;intro j a ha m aA aa;rw[ap9] at ha;rcases Nat.lt_trichotomy j acc.length with bw |r0 |uc
  .rw[ar7 bw,<-ap9] at ha;exact h j a ha m aA aa
  .subst r0;rw[ar9 (ap0 _)] at ha;simp only[Nat.sub_self,aq5,Option.getD_some,aq8,List.mem_flatMap] at ha;have ai:all[acc.length]? =some o:=by rw[V,aq];simp
   rcases ha with ha |⟨d,J,ha⟩
   .exact aA _ o ai aa a ha
   .exact h d a ha m aA (aA _ o ai aa d J)
  .rw[at6 (by simp;omega)] at ha;simp at ha
theorem Jh {all:List Oper} {an:List (List Nat)}: ∀(L:List (Oper×kJ×Nat)),t2 all an L=true-> ∀(i j:Nat) (x y:Oper×kJ×Nat),i < j->L[i]? =some x->L[j]? =some y->((an.getD y.2.2 []).contains x.2.2&& !y.2.1.e.bf.any (named x.2.1)||apart all x.1 y.1 x.2.1 y.2.1)=true
 | [],_,i,j,x,y,_,hx,_=>by simp at hx
 |aB::L,h,0,j+1,x,y,_,hx,aC=>by
  simp only[aq5,ap4] at hx;subst hx;obtain⟨o,n,i⟩:=aB;simp only[t2,vj] at h;have:=ar4.1 h.1 y (List.mem_of_getElem? (by simpa using aC));obtain⟨p,m,q5⟩:=y;exact this
 |aB::L,h,i+1,j+1,x,y,bw,hx,aC=>by
  obtain⟨o,n,k⟩:=aB;simp only[t2,vj] at h;exact Jh L h.2 i j x y au5 (by simpa using hx) (by simpa using aC)
 |aB::L,h,i,0,x,y,bw,hx,aC=>by omega
theorem zf {a b:List Nat} (h:yU a b=false) {x:Nat} (E:x∈a) (G:x∈b):False:=by
 unfold yU at h;rw[List.any_eq_false] at h;have:=h x E;simp at this;exact this G
theorem PK {a:List Nat} {f:Nat->Bool} (h:a.any f=false) {x:Nat} (E:x∈a):f x=false:=by
 rw[List.any_eq_false] at h;simpa using h x E
theorem Zq {all:List Oper} {lw:a1} {mB:ay} {cq:List hA} (jq:cq.map (·.1)=all) (eB:Bw P N ids all cq lw mB) (fq:vu lw mB all ((cq.map (·.2)).reverse++[])=true) {m:Nat->Bool} (aA:xj all m) {i:Nat} {t:hA} (aI:cq[i]? =some t) (zg:m i=false) (ET: ∀d∈p1 t.1,m d=true):
  ES P N ids all t (fJ hB m 0 cq lw) (fJ ju m 0 cq mB)/\(∀s,dA (fJ hB (fun j=>m j||j == i) 0 cq lw) s=dA (hB t (fJ hB m 0 cq lw)) s)/\(∀s,ah (fJ ju (fun j=>m j||j == i) 0 cq mB) s=ah (ju t (fJ ju m 0 cq mB)) s)/\
  (∀d∈p1 t.1,d < i):=by
 simp only[vu,as5,List.reverse_reverse,vj] at fq;obtain⟨⟨Zr,Zs⟩,PL⟩:=fq;have un: ∀(j:Nat) (u:hA),cq[j]? =some u->all[j]? =some u.1:=fun j u aa=>by rw[<-jq,ar0,aa];rfl
 have cW: ∀(j:Nat) (u:hA),cq[j]? =some u->(((all.zip (cq.map (·.2))).zipIdx).map fun((o,n),i)=>(o,n,i))[j]? =some (u.1,u.2,j):=fun j u aa=>by
  have aR:(all.zip (cq.map (·.2)))[j]? =some (u.1,u.2):=by
   rw[List.getElem?_zip_eq_some];exact⟨un j u aa,by rw[ar0,aa];rfl⟩
  rw[ar0,List.getElem?_zipIdx,aR];simp
 have Zt: ∀d∈p1 t.1,d < i:=fun d J=>by
  have k4:(t.1,i)∈all.zipIdx:=by
   rw[List.mem_iff_getElem?];exact⟨i,by rw[List.getElem?_zipIdx,un i t aI];simp⟩
  have:=ar4.1 Zr _ k4;have:=ar4.1 this d J;simpa[Nat.blt_eq] using this
 have PM:=PJ all all [] [] au7 rfl (fun j a ha=>by simp at ha)
 have Zu:xj all (fun j=>m j||j == i):=fun j o ai aa d J=>by
  simp only[Bool.or_eq_true,beq_iff_eq] at aa⊢;rcases aa with aa |rfl
  .exact .inl (aA j o ai aa d J)
  .rw[un j t aI] at ai;injection ai with ai
   subst ai;exact .inl (ET d J)
 have Ji: ∀(j:Nat) (u:hA),cq[j]? =some u->j < i->(apart all u.1 t.1 u.2 t.2=true\/m j=true)/\t.2.e.bf.any (named u.2)=false:=fun j u aa bw=>by
  have:=Jh _ PL j i _ _ bw (cW j u aa) (cW i t aI);simp only[Bool.or_eq_true,vj,Bool.not_eq_true',ar6] at this;rcases this with⟨E,G⟩ |h
  .refine⟨.inr ?_,G⟩;have:=PM i j E _ Zu au7;simp only[Bool.or_eq_true,beq_iff_eq] at this;rcases this with h |h
   .exact h
   .omega
  .refine⟨.inl h,?_⟩;simp only[apart,vj,Bool.not_eq_true'] at h;exact h.2
 have By: ∀(j:Nat) (u:hA),cq[j]? =some u->i < j->apart all t.1 u.1 t.2 u.2=true\/m j=false:=fun j u aa bw=>by
  have:=Jh _ PL i j _ _ bw (cW i t aI) (cW j u aa);simp only[Bool.or_eq_true,vj,ar6] at this;rcases this with⟨E,_⟩ |h
  .right
   cases nN:m j with
   |false=>rfl
   |true=>have:=PM j i E m aA nN;rw[zg] at this;cases this
  .exact .inl h
 have PN: ∀s,s∈Em all t.1->dA (fJ hB m 0 cq lw) s=dA (fJ hB (fun j=>decide (j < 0+i)) 0 cq lw) s:=fun s ax=>
  zd dA hB EP PB PC _ _ s cq 0 lw lw (fun j u aa a8=>by
   rw[Nat.zero_add,Nat.zero_add];have PO:s∈u.1.dst.toList:=by rw[show u.1.dst=some s from a8];simp
   rcases Nat.lt_trichotomy j i with h |h |h
   .simp only[h,decide_true];refine((Ji j u aa h).1).resolve_left fun ha=>?_
    simp only[apart,vj,Bool.not_eq_true'] at ha;exact zf ha.1.1.1.1.1 PO (List.mem_append_left _ ax)
   .subst h;simp[zg]
   .rw[show decide (j < i)=false by simp;omega];refine(By j u aa h).resolve_left fun ha=>?_
    simp only[apart,vj,Bool.not_eq_true'] at ha;exact zf ha.1.1.1.1.2 PO ax) rfl
 have Zv: ∀c,c∈t.2.e.ig->ah (fJ ju m 0 cq mB) c=ah (fJ ju (fun j=>decide (j < 0+i)) 0 cq mB) c:=fun c H=>
  zd ah ju PA (fun t x s h=>ER _ _ _ h) (fun t x y s h=>EQ _ _ _ _ h) _ _ c cq 0 mB mB (fun j u aa a8=>by
   rw[Nat.zero_add,Nat.zero_add];rcases Nat.lt_trichotomy j i with h |h |h
   .simp only[h,decide_true];refine((Ji j u aa h).1).resolve_left fun ha=>?_
    simp only[apart,vj,Bool.not_eq_true'] at ha;exact zf ha.1.1.1.2 a8 (List.mem_append_left _ H)
   .subst h;simp[zg]
   .rw[show decide (j < i)=false by simp;omega];refine(By j u aa h).resolve_left fun ha=>?_
    simp only[apart,vj,Bool.not_eq_true'] at ha;exact zf ha.1.1.2 a8 H) rfl
 refine⟨?_,fun s=>?_,fun s=>?_,Zt⟩
 .have vI:=PE cq 0 lw mB eB i t aI
  have hw:tZ all (fJ hB m 0 cq lw) t.1.guard=tZ all (fJ hB (fun j=>decide (j < 0+i)) 0 cq lw) t.1.guard:=by
   unfold tZ
   cases a6:t.1.guard with
   |none=>rfl
   |some p=>
    obtain⟨j,want⟩:=p;simp only
    cases ax:A4 all j with
    |none=>rfl
    |some s=>
     simp only;rw[PN s (by unfold Em;rw[a6];simp[ax])]
  rcases vI with⟨E,G,al⟩ |⟨E,G,al⟩
  .exact .inl ⟨hw.trans E,G,al⟩
  .refine .inr ⟨hw.trans E,?_,fun c H=>?_⟩
   .intro K' B' g1 g2 cX;refine G K' B' (fun x hx=>(g1 x hx).trans ?_) (fun c H=>(g2 c H).trans (Zv c H)) cX
    cases x with
    |tmp s=>exact PN s (List.mem_append_left _ (List.mem_filterMap.2 ⟨.tmp s,by simpa using hx,rfl⟩))
    |_=>rfl
   .have hf:=al c H;simp only[gW,vj] at hf⊢;have w8:=ar4.1 Zs t.2 (ar2.2 ⟨t,List.mem_of_getElem? aI,rfl⟩);have w8:=ar4.1 w8 c H;simp only[vj] at w8
    have e4: ∀(j:Nat) (u:hA),cq[j]? =some u->m (0+j)=true->named u.2 c=false:=fun j u aa nN=>by
     rw[Nat.zero_add] at nN;rcases Nat.lt_trichotomy j i with h |h |h
     .exact PK (Ji j u aa h).2 H
     .subst h;rw[zg] at nN;cases nN
     .rcases By j u aa h with ha |ha
      .simp only[apart,vj,Bool.not_eq_true'] at ha;exact PK ha.1.2 H
      .rw[nN] at ha;cases ha
    exact⟨⟨PH cq 0 m lw w8.1 e4,PI cq 0 m mB w8.2 e4⟩,hf.2⟩
 .have:=Je dA hB EP PB PC m i s cq 0 lw t aI (by simpa using zg) (fun j u bw aa nN E G=>by
   rw[Nat.zero_add] at nN;rcases By j u aa bw with ha |ha
   .simp only[apart,vj,Bool.not_eq_true'] at ha;exact zf (x:=s) ha.1.1.1.1.1 (by rw[show t.1.dst=some s from E];simp) (List.mem_append_right _ (by rw[show u.1.dst=some s from G];simp))
   .rw[nN] at ha;cases ha)
  simpa using this
 .have:=Je ah ju PA (fun t x s h=>ER _ _ _ h) (fun t x y s h=>EQ _ _ _ _ h) m i s cq 0 mB t aI (by simpa using zg) (fun j u bw aa nN E G=>by
   rw[Nat.zero_add] at nN;rcases By j u aa bw with ha |ha
   .simp only[apart,vj,Bool.not_eq_true'] at ha;exact zf ha.1.1.1.2 E (List.mem_append_right _ G)
   .rw[nN] at ha;cases ha)
  simpa using this
theorem zh (bn:d6 P aU):y8 P aU N ids:=by
 intro id c9 lw mB k J Zw h C a w ax rd Q Bz;refine wpIn_region_any Zw ?_;obtain⟨cq,jq,eB,fq,ab⟩:=PD (N:=N) bn c9.toList c9.toList 0 lw mB [] _ h
 have b6:cq.length=c9.size:=by
  have:=congrArg List.length jq;simpa using this
 have un: ∀(j:Nat) (u:hA),cq[j]? =some u->c9.toList[j]? =some u.1:=fun j u aa=>by rw[<-jq,ar0,aa];rfl
 have PP: ∀(j:Nat) (u:hA),cq[j]? =some u->(∀d,u.1.dst=some d->d < N)/\ ∀c,u.1.op≠ .defer c:=fun j u aa=>by
  have key: ∀(l:List Oper),tb N l=true-> ∀o∈l,(∀d,o.dst=some d->d < N)/\ ∀c,o.op≠ .defer c:=fun l=>by
   induction l with
   |nil=>intro _ o ai;cases ai
   |cons x l br=>
    intro hx o ai;simp only[tb,vj] at hx;rcases ap3.1 ai with rfl |ai
    .exact⟨fun d J=>by have hx:=hx.1.1;rw[J] at hx;simpa[Nat.blt_eq] using hx,I3 hx.1.2⟩
    .exact br hx.2 o ai
  exact key _ J u.1 (List.mem_of_getElem? (un j u aa))
 have bw: ∀(j:Nat) (u:hA),cq[j]? =some u-> ∀d,u.1.dst=some d->d < N:=fun j u aa=>(PP j u aa).1
 have rY: ∀(fuel:Nat) (gn:Array Bool) (a:Act) (w:World),gn.size=c9.size->gn.toList.count false<=fuel->xj c9.toList (fun j=>gn.getD j false)->
   eX N ids C (fJ hB (fun j=>gn.getD j false) 0 cq lw) (fJ ju (fun j=>gn.getD j false) 0 cq mB) a w->wpAnyIn (oB rd) 0 P .any c9 Q fuel gn a w:=by
  intro fuel
  have done: ∀(gn:Array Bool) (a:Act) (w:World),gn.size=c9.size->(∀j,j < c9.size->gn.getD j false=true)->eX N ids C (fJ hB (fun j=>gn.getD j false) 0 cq lw) (fJ ju (fun j=>gn.getD j false) 0 cq mB) a w->Q .normal a w:=fun gn a w cQ BA d1=>by
   rw[<-PF cq 0 _ lw (fun j aa=>by simpa using BA j au5),<-PG cq 0 _ mB (fun j aa=>by simpa using BA j au5)] at d1;exact Bz _ _ ab a w d1
  have Zx: ∀(gn:Array Bool),gn.size=c9.size->xj c9.toList (fun j=>gn.getD j false)->Region.ready .any c9 gn=[]-> ∀j,j < c9.size->gn.getD j false=true:=fun gn cQ dJ aF=>by
   intro j
   induction j using Nat.strongRecOn with
   |_ j br=>
    intro aa;obtain⟨u,a8⟩: ∃u,cq[j]? =some u:=⟨_,oj au5⟩
    cases vJ:gn.getD j false with
    |true=>rfl
    |false=>
     exfalso
     have k4:j∈Region.ready .any c9 gn:=by
      unfold Region.ready;rw[at5];refine⟨List.mem_range.2 aa,?_⟩
      have rR:gn.getD j true=false:=by
       rw[Array.getD_eq_getD_getElem?] at vJ⊢;rw[Array.getElem?_eq_getElem au5] at vJ⊢;simpa using vJ
      have ai:c9[j]? =some u.1:=by simpa using un j u a8
      simp only[rR,Bool.not_false,Bool.true_and,ai,at2,Option.getD_some];rw[Array.all_eq_true_iff_forall_mem];intro e V
      cases O:Region.binds .any e with
      |false=>rfl
      |true=>
       simp only[Bool.not_true,Bool.false_or]
       have eo:e.on∈p1 u.1:=by
        unfold p1;exact ar2.2 ⟨e,at5.2 ⟨by simpa using V,O⟩,rfl⟩
       have Jj:e.on < j:=by
        have dW:=fq;simp only[vu,as5,List.reverse_reverse,vj] at dW
        have k4:(u.1,j)∈c9.toList.zipIdx:=by
         rw[List.mem_iff_getElem?];exact⟨j,by rw[List.getElem?_zipIdx,un j u a8];simp⟩
        have:=ar4.1 dW.1.1 _ k4;have:=ar4.1 this _ eo;simpa[Nat.blt_eq] using this
       exact br e.on Jj au5
     rw[aF] at k4
     cases k4
  induction fuel with
  |zero=>
   intro gn a w cQ H dJ d1
   have BA: ∀j,j < c9.size->gn.getD j false=true:=fun j aa=>by
    cases vJ:gn.getD j false with
    |true=>rfl
    |false=>
     exfalso
     have k4:false∈gn.toList:=by
      rw[Array.getD_eq_getD_getElem?,Array.getElem?_eq_getElem au5] at vJ;simp only[Option.getD_some] at vJ;rw[<-vJ];simp
     have:=List.count_pos_iff.2 k4;omega
   refine⟨?_,done gn a w cQ BA d1⟩;unfold Region.ready;rw[List.filter_eq_nil_iff];intro j aa;have aa:=List.mem_range.1 aa;have:=BA j aa;rw[Array.getD_eq_getD_getElem?,Array.getElem?_eq_getElem au5] at this;simp only[Option.getD_some] at this;simp[Array.getElem?_eq_getElem (show j < gn.size by omega),this]
  |succ fuel br=>
   intro gn a w cQ H dJ d1;refine⟨fun aF=>done gn a w cQ (Zx gn cQ dJ aF) d1,fun i aI=>?_⟩;obtain⟨PQ,o,ai,Zy⟩:=mem_ready.1 aI;have aoM:i < c9.size:=(Array.getElem?_eq_some_iff.1 ai).1;obtain⟨t,cr⟩: ∃t,cq[i]? =some t:=⟨_,oj au5⟩
   have Zz:o=t.1:=by
    have:=un i t cr;rw[Array.getElem?_toList,ai] at this;injection this
   subst Zz
   have Jk:gn.getD i false=false:=by
    rw[Array.getD_eq_getD_getElem?,Array.getElem?_eq_getElem au5] at PQ⊢;simpa using PQ
   have ET: ∀d∈p1 t.1,gn.getD d false=true:=fun d J=>by
    unfold p1 at J;obtain⟨e,V,rfl⟩:=ar2.1 J;obtain⟨i6,gA⟩:=at5.1 V;exact Zy e (by simpa using i6) gA
   obtain⟨vI,ZA,ZB,_⟩:=Zq (m:=fun j=>gn.getD j false) jq eB fq dJ cr Jk ET
   have gN:(fun j=>(gn.setIfInBounds i true).getD j false)=(fun j=>(gn.getD j false||j == i)):=by
    funext j
    by_cases e:j=i
    .subst e;simp[Array.getElem?_setIfInBounds,show j < gn.size by omega]
    .simp[Array.getElem?_setIfInBounds,Ne.symm e,e]
   have ZC:xj c9.toList (fun j=>(gn.setIfInBounds i true).getD j false):=by
    rw[gN];intro j o' sX aa d J;simp only[Bool.or_eq_true,beq_iff_eq] at aa⊢;rcases aa with aa |rfl
    .exact .inl (dJ j o' sX aa d J)
    .rw[un j t cr] at sX;injection sX with sX
     subst sX;exact .inl (ET d J)
   have ZD:(gn.setIfInBounds i true).toList.count false<=fuel:=by
    rw[Array.toList_setIfInBounds,List.count_set (by simp;omega)]
    have mw:gn.toList[i]'(by simp;omega)=false:=by
     rw[Array.getD_eq_getD_getElem?,Array.getElem?_eq_getElem au5] at Jk;simpa using Jk
    rw[mw];simp only[BEq.rfl,if_true,show(true == false)=false from rfl,Bool.false_eq_true,if_false];omega
   have next: ∀a' w',eX N ids C (hB t (fJ hB (fun j=>gn.getD j false) 0 cq lw)) (ju t (fJ ju (fun j=>gn.getD j false) 0 cq mB)) a' w'->wpAnyIn (oB rd) 0 P .any c9 Q fuel (gn.setIfInBounds i true) a' w':=fun a' w' f'=>by
    refine br _ a' w' (by simp[cQ]) ZD ZC ?_;rw[gN];exact f'.congr ZA ZB
   have ZE:=d1;obtain⟨_,_,ρ,F,ar,av⟩:=ZE;unfold wpOpIn;simp only[ai];rcases vI with⟨hw,az,V⟩ |⟨hw,aE,hf⟩
   .have BB:=y7 hw av;simp only[Array.toArray_toList] at BB;rw[if_neg (by rw[BB];simp)];refine⟨fun _ _=>trivial,next _ _ ?_⟩;have:=d1.undef t.1.dst (bw i t cr);unfold hB ju;rw[az,V];exact this
   .have BB:=y7 hw av;simp only[Array.toArray_toList] at BB;rw[if_pos BB];exact Bp (PP i t cr).2 (aE _ _ (fun _ _=>rfl) (fun _ _=>rfl) hf C a w d1 (bw i t cr) _ Q fun a' w' f'=>next a' w' f')
 refine rY c9.size _ a _ au7 (by simp[List.count_replicate]) (fun j o ai aa=>?_) ?_
 .simp only[Array.getD_eq_getD_getElem?,Array.getElem?_replicate] at aa
  split at aa <;>simp at aa
 .have aR:(fun j=>(Array.replicate c9.size false).getD j false)=fun _=>false:=by
   funext j
   rw[Array.getD_eq_getD_getElem?];simp only[Array.getElem?_replicate]
   split <;>rfl
  rw[aR]
  have bm: ∀{mA:Type} (jt:hA->mA->mA) (l:List hA) (q:Nat) (y:mA),fJ jt (fun _=>false) q l y=y:=fun {mA} jt l=>by
   induction l with
   |nil=>exact fun _ _=>rfl
   |cons v l br=>intro q y;unfold fJ;simp[br]
  rw[bm,bm];obtain⟨E,G,ρ,F,ar,av⟩:=ax;obtain⟨bN,aY⟩:=ar.below (w':={w with drawn:=w.drawn+1}) (Xf w);exact⟨E,G,ρ,F,bN,av.mono aY fun _ _ _=>rfl⟩
end
end
section
def BC (a b c:Nat):Nat:=match Nat.beq c a with
 |true=>b
 |false=>match Nat.beq c b with
  |true=>a
  |false=>c
theorem EU {a b:Nat} (h:a≠b):Nat.beq a b=false:=by rw[at4];exact fun e=>h (ap6 e)
theorem PR (a b c:Nat):BC a b (BC a b c)=c:=by
 unfold BC
 by_cases E:c=a
 .subst E;simp only[Nat.beq_refl]
  by_cases G:b=c
  .subst G;simp
  .simp[EU G]
 .simp only[EU E]
  by_cases G:c=b
  .subst G;simp
  .simp[EU G,EU E]
def en:List (Nat×Nat)->Nat->Nat
 | [],c=>c
 |(a,b)::l,c=>en l (BC a b c)
def zi:List (Nat×Nat)->Nat->Nat
 | [],c=>c
 |(a,b)::l,c=>BC a b (zi l c)
theorem EV: ∀(l:List (Nat×Nat)) (c:Nat),zi l (en l c)=c
 | [],c=>rfl
 |(a,b)::l,c=>by simp only[en,zi,EV l,PR]
theorem EW: ∀(l:List (Nat×Nat)) (c:Nat),en l (zi l c)=c
 | [],c=>rfl
 |(a,b)::l,c=>by simp only[en,zi,PR,EW l]
def k5:List (Nat×Nat)->List (Nat×Nat)->List (Nat×Nat)
 | [],acc=>acc
 |(a,b)::l,acc=>k5 l (acc++[(en acc a,b)])
section
variable (f:Nat->Nat)
def zj:List kF->List kF
 | []=>[]
 | .p c o::l=>.p (f c) o::zj l
 | .d x::l=>.d x::zj l
def bC.en:bC->bC
 | .ptr c o=>.ptr (f c) o
 | .own c=>.own (f c)
 | .f1 c s i o=>.f1 (f c) s i o
 | .os c s o n=>.os (f c) s o n
 | .mp c=>.mp (f c)
 | .cT g l=>.cT g (zj f l)
 | .d x=>.d x
 | .el u x o=>.el u x o
 | .dD=>.dD
 | .bI v=>.bI v
 | .any=>.any
def zk:List bC->List bC
 | []=>[]
 |s::l=>s.en f::zk l
def dI.en:dI->dI
 | .one s=>.one (s.en f)
 | .agg l=>.agg (zk f l)
 | .jX u x=>.jX u x
def EX:List dI->List dI
 | []=>[]
 |s::l=>s.en f::EX l
def aQ.en:aQ->aQ
 | .c s=>.c (s.en f)
 | .ce l=>.ce (EX f l)
 | .undef=>.undef
def xk:List aQ->List aQ
 | []=>[]
 |s::l=>s.en f::xk l
def bd.en:bd->bd
 | .cells l=>.cells (zk f l)
 | .row e u xs=>.row e u xs
 | .map aJ aL es=>.map aJ aL es
 | .val u x=>.val u x
 | .aG o=>.aG o
 | .co d o=>.co (f d) o
def j1:ay->ay
 | []=>[]
 |(c,ch)::B=>(f c,ch.en f)::j1 B
def zl:List Nat->List Nat
 | []=>[]
 |c::l=>f c::zl l
end
section
variable {f g:Nat->Nat} {ρ:Nat->bo} {I:Nat->Prop} {w:World}
theorem Jl: ∀(l:List kF) (aD:List Value),hM ρ I w (zj f l) aD=hM (fun c=>ρ (f c)) I w l aD
 | [],aD=>rfl
 | .p c o::l,aD=>by simp only[zj,hM,wS,Jl l]
 | .d x::l,aD=>by simp only[zj,hM,wS,Jl l]
theorem PS (s:bC) (v:Value):dS ρ I w (s.en f) v=dS (fun c=>ρ (f c)) I w s v:=by
 cases s with
 |cT g l=>simp only[bC.en,dS,Jl]
 |_=>rfl
theorem Jm: ∀(l:List bC) (aD:List Value),b' ρ I w (zk f l) aD=b' (fun c=>ρ (f c)) I w l aD
 | [],aD=>rfl
 |s::l,aD=>by simp only[zk,b',PS,Jm l]
theorem PT (s:dI) (v:Value):gy ρ I w (s.en f) v=gy (fun c=>ρ (f c)) I w s v:=by
 cases s with
 |one s=>exact PS s v
 |agg l=>simp only[dI.en,gy,Jm]
 |jX u x=>rfl
theorem PU: ∀(l:List dI) (aD:List Value),iJ ρ I w (EX f l) aD=iJ (fun c=>ρ (f c)) I w l aD
 | [],aD=>rfl
 |s::l,aD=>by simp only[EX,iJ,PT,PU l]
theorem EY (s:aQ) (v:Value):ct ρ I w (s.en f) v=ct (fun c=>ρ (f c)) I w s v:=by
 cases s with
 |c s=>exact PT s v
 |ce l=>simp only[aQ.en,ct,PU]
 |undef=>rfl
theorem BD {F:Nat->Prop} {p:bo} (ch:bd):Holds ρ I F w p (ch.en f)=Holds (fun c=>ρ (f c)) I F w p ch:=by
 cases ch with
 |cells l=>simp only[bd.en,Holds,Jm]
 |row e u xs=>rfl
 |map aJ aL es=>rfl
 |val u x=>rfl
 |aG o=>rfl
 |co d o=>rfl
theorem BE (a6: ∀c,g (f c)=c): ∀(B:ay) (c:Nat),ah (j1 f B) (f c)=(ah B c).map (·.en f)
 | [],c=>rfl
 |(d,ch)::B,c=>by
  simp only[j1];rw[ca,ca,BE a6 B c]
  by_cases h:d=c
  .subst h;rw[if_pos rfl,if_pos rfl];rfl
  .rw[if_neg h,if_neg fun e=>h (by rw[<-a6 d,e,a6])]
theorem Jn: ∀(l:List aQ),xk f l=l.map (·.en f)
 | []=>rfl
 |s::l=>by simp only[xk,aq4,Jn l]
theorem Jo: ∀(l:List Nat) (c:Nat),c∈l->f c∈zl f l
 | [],c,h=>by cases h
 |d::l,c,h=>by
  rcases ap3.1 h with rfl |h
  .exact aq1
  .exact ap2 _ (Jo l c h)
end
theorem Fn.Jp {P:Program} {fn:FuncId} {f g:Nat->Nat} (a6: ∀c,g (f c)=c) (hf: ∀c,f (g c)=c) {args:List aQ} {aK:ay} {bf:List Nat} {res:aQ} {aP:ay} (h:Fn P fn args aK bf res aP):
  Fn P fn (xk f args) (j1 f aK) (zl f bf) (res.en f) (j1 f aP):=by
 refine⟨h.1,?_⟩;intro ρ F I w bW bb cV bj eo b6 dt;have l3: ∀(B:ay) c,ah (j1 f B) (f c)=(ah B c).map (·.en f):=BE a6;have oK: ∀{B:ay} {c ch},ah B c=some ch->ah (j1 f B) (f c)=some (ch.en f):=fun {B c ch} h=>by rw[l3,h];rfl
 have uo: ∀{B:ay} {c ch},ah (j1 f B) c=some ch-> ∃cw,ah B (g c)=some cw/\ch=cw.en f:=fun {B c ch} h=>by
  have e:=l3 B (g c);rw[hf,h] at e;obtain⟨cw,E,G⟩:=as0.1 e.symm;exact⟨cw,E,G.symm⟩
 rw[Jn] at b6 dt
 have H:=h.2 (fun c=>ρ (f c)) (fun c=>F (f c)) I w bW bb
  (fun c ch H=>by rw[<-BD];exact cV _ _ (oK H))
  (fun c ch H=>bj _ _ (oK H))
  (fun c bX ch ch' b E G ba=>eo _ _ _ _ b (oK E) (oK G) fun e=>ba (by rw[<-a6 c,e,a6]))
  (by simpa using b6)
  (fun i v x az hx=>by rw[<-EY];exact dt i _ x (by rw[ar0,az];rfl) hx)
 refine H.mono ?_;rintro e w' ⟨x,ρ',F',rfl,cz,dl,I',i6,gA,lz,aE,h2,hx⟩;have xl:(fun c=>ρ' (g (f c)))=ρ':=funext fun c=>by rw[a6]
 refine⟨x,fun c=>ρ' (g c),fun c=>F' (g c),rfl,?_,?_,I',i6,?_,?_,?_,?_,?_⟩
 .exact cz.mono fun b _ ⟨c,ch,E,G⟩=>⟨f c,_,oK E,G⟩
 .intro c H;show ρ' (g c)=ρ c;rw[dl (g c) (fun aA=>H (by have:=Jo (f:=f) _ _ aA;rwa[hf] at this)),hf]
 .intro b O;obtain⟨E,G⟩:=gA b O;refine⟨E,?_⟩;rcases G with G |⟨c,ch,G,al⟩ |G
  .exact .inl G
  .exact .inr (.inl ⟨f c,_,oK G,al⟩)
  .exact .inr (.inr G)
 .intro c ch H;obtain⟨cw,E,rfl⟩:=uo H;rw[BD,xl];exact lz _ _ E
 .intro c ch H b O;obtain⟨cw,E,rfl⟩:=uo H;obtain⟨cx,cA,dy⟩:=aE _ _ E b O;refine⟨cx,cA,?_⟩;rcases dy with⟨gV,cw,dy,fa⟩ |dy
  .exact .inl ⟨f gV,_,oK dy,fa⟩
  .exact .inr dy
 .intro c bX ch ch' b H cF ba;obtain⟨cw,E,rfl⟩:=uo H;obtain⟨iT,G,rfl⟩:=uo cF;exact h2 _ _ _ _ b E G fun e=>ba (by rw[<-hf c,e,hf])
 .rw[EY,xl];exact hx
theorem Fn.aX {P:Program} {fn:FuncId} (l:List (Nat×Nat)) {args:List aQ} {aK:ay} {bf:List Nat} {res:aQ} {aP:ay} (h:Fn P fn args aK bf res aP):
  Fn P fn (xk (en (k5 l [])) args) (j1 (en (k5 l [])) aK) (zl (en (k5 l [])) bf) (res.en (en (k5 l []))) (j1 (en (k5 l [])) aP):=
 Fn.Jp (EV _) (EW _) h
end
end Go.Proofs.YthnboghbhgapcaaGreat
