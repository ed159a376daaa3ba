/-
A part of the proof of this claim: lemmas, with no condition beyond what each says.
-/
import Derived.Deep.LoopGhost
import Derived.Orders
import Derived.OrdersIn
import Derived.TacticsIn
import Derived.Sort.LoopGhostIn
import Derived.RangeFuncRecord
import Derived.Scope
import Derived.Test.YtkfbeijmgggkmaaGreatZd5
set_option linter.unusedVariables false
set_option linter.unusedSimpArgs false
set_option maxRecDepth 10000
set_option maxHeartbeats 4000000
namespace Go.Proofs.YtkfbeijmgggkmaaGreat
open Go.RowKit Go.Proofs
section
def tu (N:Nat):List Oper->Bool
 | []=>true
 |o::l=>(match o.dst with
  |some d=>Nat.blt d N
  |none=>true)&&(match o.op with
  | .defer _=>false
  |_=>true)&&tu N l
section
variable {P:Program} {b:Frame} {a:Act} {k:List Item} {cs:List Frame} {w:World}
theorem zz {c:Code}:step P (lone (b.atR a (.code (.scope c)::k)) cs w)= .next (lone (b.atR a (.code c:: .inScope c::k)) cs w):=
 step_lone_go (by simp[stepG,stepG.exec,Frame.atR])
theorem Z7 {c:Code}:step P (lone (b.atR a (.inScope c::k)) cs w)= .next (lone (b.atR a k) cs w):=
 step_lone_go (by simp[stepG,stepG.exec,Frame.atR])
theorem Z8 {F:Fence} {n:Nat} {Q:Exit->Act->World->Prop} {c:Code} (h:c.wpIn F n P (Exit.noGoto Q) a w):(Code.scope c).wpIn F n P Q a w:=by
 intro b k cs Z9 O ax;have au:(lone (b.atR a (.code (.scope c)::k)) cs w).fenced P F:=fenced_calm O ax rfl;obtain⟨e,B0,B1,aT,zA⟩:=h b (.inScope c::k) cs Z9 O ax
 cases e with
 |normal=>exact⟨.normal,B0,B1,aT,.head au zz (StepsIn.trans zA (.one (fenced_calm O ax rfl) Z7))⟩
 |exit id=>
  have hx:exitTo id (.inScope c::k)=exitTo id k:=by simp[exitTo]
  exact⟨.exit id,B0,B1,aT,fun dZ aa=>.head au zz (zA.1 dZ (by rw[hx];exact aa)),fun JK aa=>let⟨k₁,E,G⟩:=zA.2 JK (by rw[hx];exact aa);⟨k₁,E,.head au zz G⟩⟩
 |goto l=>exact aT.elim
 |ret=>exact⟨_,B0,B1,aT,.of_steps (.one au zz) zA⟩
 |panic ch=>exact⟨_,B0,B1,aT,.of_steps (.one au zz) zA⟩
 |outgrown=>exact⟨_,B0,B1,aT,.of_steps (.one au zz) zA⟩
end
def jF (P:Program) (N:Nat):Code->Bool
 | .skip=>true
 | .region _ c' draw=>tu N c'.toList&&(!draw||P.follows .mixedOrders)
 | .seq a b=>jF P N a&&jF P N b
 | .cond _ x y=>jF P N x&&jF P N y
 | .block _ b=>jF P N b
 | .loop b=>jF P N b
 | .rangeFunc _ _ a b=>jF P N a&&jF P N b
 | .scope b=>jF P N b
 | .label _=>true
 | .exit _=>true
 | .ret=>true
 |_=>false
section
variable {P:Program} {aS:dg} {N:Nat} {ids:aC4}
theorem B2 {c':Array Oper} {a:Act} {j s:Nat} (aw:(c'[j]?).bind (·.dst)=some s) {v:Value} (ay:a.tmps.getD s undef=v):
  (∀b,v= .bool b->yielded c' a.tmps j=some b)/\((∀b,v≠ .bool b)->yielded c' a.tmps j=none):=by
 unfold yielded;rw[aw];simp only[Option.bind_some]
 cases cq:a.tmps[s]? with
 |none=>
  have ay:v=undef:=by rw[<-ay];simp[cq]
  subst ay;exact⟨fun b O=>(by simp[undef] at O),fun _=>rfl⟩
 |some x=>
  have ay:v=x:=by rw[<-ay];simp[cq]
  subst ay;refine⟨fun b O=>by rw[O],fun h=>?_⟩
  cases v <;>first |rfl |exact absurd rfl (h _)
theorem Z' {all:List Oper} {j s:Nat} (h:BH all j=some s):((all.toArray)[j]?).bind (·.dst)=some s:=by
 unfold BH at h;simp only[List.getElem?_toArray]
 split at h
 .rename_i o ah;rw[ah];exact h
 .cases h
theorem zB {all:List Oper} {K:aY} {o:Oper} {t:Bool} (h:um all K o.guard=some t) {ρ:Nat->bn} {I:Nat->Prop} {a:Act} {w:World} (ar:eq K ρ I a w):Region.wanted o (yielded all.toArray a.tmps)=t:=by
 unfold um at h;unfold Region.wanted
 split at h
 .rename_i aZ;injection h with h
  simp[aZ,h]
 .rename_i j want aZ;simp only[aZ]
  split at h
  .cases h
  .rename_i s aw;have aw:=Z' aw;have ay:=ar s
   split at h
   .rename_i ak;rw[ak] at ay;have:=(B2 (a:=a) aw (show a.tmps.getD s undef= .bool true from ay)).1 true rfl;injection h with h
    rw[this,<-h];rfl
   .rename_i ak;rw[ak] at ay;have:=(B2 (a:=a) aw (show a.tmps.getD s undef= .bool true from ay)).1 true rfl;injection h with h
    rw[this,<-h];rfl
   .rename_i ak;rw[ak] at ay;have:=(B2 (a:=a) aw (show a.tmps.getD s undef= .bool false from ay)).1 false rfl;injection h with h
    rw[this,<-h];rfl
   .rename_i ak;rw[ak] at ay;have:=(B2 (a:=a) aw (show a.tmps.getD s undef= .bool false from ay)).1 false rfl;injection h with h
    rw[this,<-h];rfl
   .rename_i ak;rw[ak] at ay;have:=(B2 (a:=a) aw (show a.tmps.getD s undef=undef from ay)).2 (by simp[undef]);injection h with h
    rw[this,<-h];simp
   .cases h
theorem e2.undef {C:fg} {K:aY} {B:az} {a:Act} {w:World} (h:e2 N ids C K B a w) (d:Option Nat) (H: ∀e,d=some e->e < N):e2 N ids C (mD d .undef K) B (a.put d undef) w:=by
 obtain⟨E,G,ρ,F,aj,ar⟩:=h;exact⟨ki.trans E,kj.trans G,ρ,F,aj,ar.kk (fun e U=>by rw[E];exact H e U) rfl⟩
theorem e2.lit {C:fg} {K:aY} {B:az} {a:Act} {w:World} {d:Nat} {b:Bool} (h:e2 N ids C ((d,.c (.one (.d (.bool b))))::K) B a w):e2 N ids C ((d,.c (.one (.d (.lit b))))::K) B a w:=by
 obtain⟨E,G,ρ,F,aj,ar⟩:=h;refine⟨E,G,ρ,F,aj,fun s=>?_⟩;have:=ar s;rw[kD] at this⊢
 split at this
 .rw[if_pos ‹_›];exact this
 .rw[if_neg ‹_›];exact this
theorem Qi {n:Nat} {r:Option Nat} {f:FuncId} {args:Array Value} {w:World} {bo:Ending->World->Prop} (h:Calls P f args w bo):CallsIn (oQ r) n P f args w bo:=(callsIn_wide (n:=n)).2 h
theorem Qj {n:Nat} {r:Option Nat} {f:FuncId} {args:Array Value} {w:World} {bo:Ending->World->Prop} (h:CallsIn (oQ r) n P f args w bo):Calls P f args w bo:=(callsIn_wide (n:=n)).1 h
theorem aaa {n:Nat} {r:Option Nat} {row:String} {args:Array Value} {w:World} {bo:Value->World->Prop} (h:Rows P row args w bo):RowsIn (oQ r) n P row args w bo:=fun c cs _=>by
 obtain⟨v,w',E,G⟩:=h c cs;exact⟨v,w',E,stepsIn_wide.2 G⟩
theorem JL {o:Oper} (h:(match o.op with
 | .defer _=>false
 |_=>true)=true): ∀c,o.op≠ .defer c:=fun c e=>by rw[e] at h;cases h
theorem B3 {r:Option Nat} {o:Oper} (dC: ∀c,o.op≠ .defer c) {a:Act} {w:World} {next:Act->World->Prop} {Q:Exit->Act->World->Prop} (h:o.wp P a w next Q):o.wpIn (oQ r) 0 P a w next Q:=by
 refine⟨fun _ _=>trivial,?_⟩;rw[Oper.semAt_eq _ _ _ dC];unfold Oper.wp at h;generalize(execOp a.eval o).run P w=q at*
 cases q with
 |ok x w'=>
  cases x <;>simp only[Oper.upon,Oper.uponIn] at h⊢ <;>
   first
    |exact h
    |exact h.elim
    |exact⟨fun aw=>absurd aw ay6,Qi h⟩
    |exact⟨fun aw=>absurd aw ay6,aaa h⟩
 |halt x w'=>cases x <;>simp only[Oper.upon,Oper.uponIn] at h⊢ <;>exact h
theorem xD (bl:ec P aS) (all:List Oper): ∀(l:List Oper) (i:Nat) (K:aY) (B:az) (gr:List k3) (k:aY->az->List k3->Prop),tu N l=true->th P aS ids all i l K B gr k-> ∀(C:fg) (a:Act) (w:World),e2 N ids C K B a w->
  ∀(r:Option Nat) (Q:Exit->Act->World->Prop),(∀K' B' aab,k K' B' aab-> ∀a' w',e2 N ids C K' B' a' w'->Q .normal a' w')->wpListIn (oQ r) 0 P all.toArray Q l a w
 | [],i,K,B,gr,k,_,h,C,a,w,aw,r,Q,aa=>wpListIn_nil (aa K B gr h a w aw)
 |o::l,i,K,B,gr,k,H,h,C,a,w,aw,r,Q,aa=>by
  simp only[tu,vj] at H;obtain⟨⟨v7,dC⟩,dm⟩:=H;have dC:=JL dC;have bt: ∀d,o.dst=some d->d < N:=fun d e=>by rw[e] at v7;simpa[Nat.blt_eq] using v7
  have d6:=aw;obtain⟨_,_,ρ,F,aj,ar⟩:=d6;rw[Ps] at h;unfold EY at h;simp only[IN] at h;refine wpListIn_step fun fJ B4=>?_
  split at h
  .exact h.elim
  .rename_i hw;rw[if_neg (by rw[zB hw ar];simp)];refine⟨fun _ _=>trivial,B4 _ _ ?_⟩;have a6:=aw.undef o.dst bt
   split at h
   .rename_i d e;rw[e] at a6⊢;exact xD bl all l _ _ _ _ k dm h C _ w a6 r Q aa
   .rename_i e;rw[e] at a6⊢;exact xD bl all l _ _ _ _ k dm h C _ w a6 r Q aa
  .rename_i hw;rw[if_pos (zB hw ar)];obtain⟨v,e,h,ap,hf⟩:=JJ bl h;refine B3 dC (ap K B (fun _ _=>rfl) (fun _ _=>rfl) hf C a w aw bt fJ Q fun a' w' fS=>B4 _ _ ?_)
   split at h
   .rename_i ao;rw[ao] at fS;exact xD bl all l _ _ _ _ k dm h C _ w' fS r Q aa
   .rename_i d ao;rw[ao] at fS
    split at h
    .rename_i b aZ
     cases b with
     |true=>exact xD bl all l _ _ _ _ k dm (h.1 rfl) C _ w' fS.lit r Q aa
     |false=>exact xD bl all l _ _ _ _ k dm (h.2 rfl) C _ w' fS.lit r Q aa
    .exact xD bl all l _ _ _ _ k dm h C _ w' fS r Q aa
def zC (P:Program) (aS:dg) (N:Nat) (ids:aC4):Prop:= ∀(id:Nat) (c':Array Oper) (K:aY) (B:az) (k:aY->az->Prop),tu N c'.toList=true->P.follows .mixedOrders=true->
 th P aS ids c'.toList 0 c'.toList K B [] (fun K' B' gr=>vT K B c'.toList gr=true/\k K' B')-> ∀(C:fg) (a:Act) (w:World),e2 N ids C K B a w->
 ∀(r:Option Nat) (Q:Exit->Act->World->Prop),(∀K' B',k K' B'-> ∀a' w',e2 N ids C K' B' a' w'->Q .normal a' w')->(Code.region id c' true).wpIn (oQ r) 0 P Q a w
theorem e2.eval {C:fg} {K:aY} {B:az} {a:Act} {w:World} (h:e2 N ids C K B a w) {c:Operand} {b:Bool} (J:a2 K c= .c (.one (.d (.lit b)))\/a2 K c= .c (.one (.d (.bool b)))):a.eval c= .bool b:=by
 obtain⟨_,_,ρ,F,aj,ar⟩:=h;rcases J with J |J
 .exact ar.lit J
 .exact ar.bool J
theorem zD (bl:ec P aS) (cf:zC P aS N ids) (stops:aC4): ∀(c:Code) (K:aY) (B:az) (Q:oP->aY->az->Prop),jF P N c=true->jB P aS N ids stops c K B Q->bw P N ids c K B Q:=by
 intro c
 induction c with
 |skip=>exact fun K B Q _ h r ax C iK aT a w aw=>wpIn_skip (aT .g7 K B C.ds (fun _=>rfl) h a w aw)
 |region id c' draw=>
  intro K B Q J h;rw[YC] at h;simp only[jF,vj,av5,Bool.not_eq_true'] at J
  split at h
  .exact h
  .split at h
   .intro r ax C iK aT a w aw;refine wpIn_region_list ?_;have:=xD bl c'.toList c'.toList 0 K B [] _ J.1 h C a w aw r iK (fun K' B' _ aa a' w' d6=>aT .g7 K' B' C.ds (fun _=>rfl) aa a' w' d6);simpa using this
   .intro r ax C iK aT a w aw;exact cf id c' K B (Q .g7) J.1 (J.2.resolve_left ay6) h C a w aw r iK (fun K' B' aa a' w' d6=>aT .g7 K' B' C.ds (fun _=>rfl) aa a' w' d6)
 |seq x y oL oM=>
  intro K B Q J h r ax C iK aT a w aw;simp only[jF,vj] at J;rw[YD] at h;refine wpIn_seq (oL K B _ J.1 h r ax C _ ?_ a w aw);intro e K' B' ds hX U a' w' d6
  cases e with
  |g7=>exact oM K' B' Q J.2 U r ax (C.at ds) iK (fun e K B xE JM=>aT e K B xE fun aF=>(JM aF).trans (hX aF)) a' w' d6
  |ex i=>exact aT (.ex i) K' B' ds hX U a' w' d6
  |ret=>exact aT .ret K' B' ds hX U a' w' d6
 |cond c x y oL oM=>
  intro K B Q J h r ax C iK aT a w aw;simp only[jF,vj] at J;rw[YE] at h
  split at h
  .rename_i ak;exact wpIn_cond_true (aw.eval (.inl ak)) (oL K B Q J.1 h r ax C iK aT a w aw)
  .rename_i ak;exact wpIn_cond_false (aw.eval (.inl ak)) (oM K B Q J.2 h r ax C iK aT a w aw)
  .rename_i b ak
   cases b with
   |true=>exact wpIn_cond_true (aw.eval (.inr ak)) (oL K B Q J.1 (h.1 rfl) r ax C iK aT a w aw)
   |false=>exact wpIn_cond_false (aw.eval (.inr ak)) (oM K B Q J.2 (h.2 rfl) r ax C iK aT a w aw)
  .exact h.elim
 |block i b bq=>
  intro K B Q J h r ax C iK aT a w aw;rw[YF] at h;refine wpIn_block (bq K B _ J h r ax C _ ?_ a w aw);intro e K' B' ds hX U a' w' d6
  cases e with
  |g7=>exact aT .g7 K' B' ds hX U a' w' d6
  |ret=>exact aT .ret K' B' ds hX U a' w' d6
  |ex j=>
   simp only[oP.to,Exit.inBlock] at U⊢
   split at U
   .rename_i e;have:=aq6 e;subst this;rw[if_pos rfl];exact aT .g7 K' B' ds hX U a' w' d6
   .rename_i e;rw[if_neg (fun x=>by subst x;simp at e)];exact aT (.ex j) K' B' ds hX U a' w' d6
 |loop b bq=>exact fun K B Q J h=>h
 |rangeFunc f bD x b oL oM=>exact fun K B Q J h=>h
 |scope b bq=>
  intro K B Q J h r ax C iK aT a w aw;rw[YG] at h;refine Z8 (bq K B _ J h r ax C _ ?_ a w aw);intro e K' B' ds hX U a' w' d6
  cases e with
  |g7=>exact aT .g7 K' B' ds hX U a' w' d6
  |ret=>exact aT .ret K' B' ds hX U a' w' d6
  |ex j=>exact aT (.ex j) K' B' ds hX U a' w' d6
 |label l=>exact fun K B Q J h r ax C iK aT a w aw=>wpIn_label (aT .g7 K B C.ds (fun _=>rfl) h a w aw)
 |exit i=>exact fun K B Q J h r ax C iK aT a w aw=>wpIn_exit (aT (.ex i) K B C.ds (fun _=>rfl) h a w aw)
 |ret=>exact fun K B Q J h r ax C iK aT a w aw=>wpIn_ret (aT .ret K B C.ds (fun _=>rfl) h a w aw)
 |_=>intro K B Q J h;simp[jF] at J
def ac (ids:aC4) (K:aY) (B:az) (K':aY) (B':az):Prop:= ∀(N:Nat) (C:fg) (a:Act) (w:World),e2 N ids C K B a w->e2 N ids C K' B' a w
theorem ac.refl (K:aY) (B:az):ac ids K B K B:=fun _ _ _ _ h=>h
theorem ac.trans {K K' Qk:aY} {B B' Ql:az} (h:ac ids K B K' B') (h':ac ids K' B' Qk Ql):ac ids K B Qk Ql:=fun N C a w aw=>h' N C a w (h N C a w aw)
theorem bw.le {c:Code} {K K':aY} {B B':az} {Q:oP->aY->az->Prop} (h:ac ids K B K' B') (cq:bw P N ids c K' B' Q):bw P N ids c K B Q:=fun r ax C iK aT a w aw=>cq r ax C iK aT a w (h N C a w aw)
theorem bw.loop (bl:ec P aS) (cf:zC P aS N ids) (stops:aC4) {b:Code} (J:jF P N b=true) {X:Type} (la:X->aY) (g9:X->az) (inv:X->Prop) (uC:X->Nat) (h0:X) {K:aY} {B:az} {Q:oP->aY->az->Prop} (au:inv h0) (g8:ac ids K B (la h0) (g9 h0))
  (h: ∀x,inv x->jB P aS N ids stops b (la x) (g9 x) (fun e K B=>match e with
   | .g7=> ∃y,inv y/\uC y < uC x/\ac ids K B (la y) (g9 y)
   | .ex i=>Q (.ex i) K B
   | .ret=>Q .ret K B)):bw P N ids (.loop b) K B Q:=by
 intro r ax C iK aT a w aw;refine wpIn_loop_ghost (fun n a w=> ∃x ds,(un ids=true->ds=C.ds)/\inv x/\uC x=n/\e2 N ids (C.at ds) (la x) (g9 x) a w) (uC h0) ⟨h0,C.ds,fun _=>rfl,au,rfl,g8 N C a w aw⟩ ?_;rintro n a w ⟨x,ds,hX,hx,rfl,aw⟩;refine zD bl cf stops b _ _ _ J (h x hx) r ax (C.at ds) _ ?_ a w aw;intro e K' B' xE JM U a' w' d6;have JN:un ids=true->xE=C.ds:=fun aF=>(JM aF).trans (hX aF)
 cases e with
 |g7=>
  obtain⟨y,aD,bt,aac⟩:=U;exact⟨uC y,bt,y,xE,JN,aD,rfl,aac N (C.at xE) a' w' d6⟩
 |ex i=>exact aT (.ex i) K' B' xE JN U a' w' d6
 |ret=>exact aT .ret K' B' xE JN U a' w' d6
def oY:Nat->List aP->aY
 |_,[]=>[]
 |i,v::l=>(i,v)::oY (i+1) l
theorem B5: ∀(l:List aP) (i s:Nat),dI (oY i l) s=(if i<=s then(l[s - i]?).getD (.c (.one .any)) else .c (.one .any))
 | [],i,s=>by simp[oY,dI]
 |v::l,i,s=>by
  simp only[oY];rw[kD,B5 l (i+1) s]
  by_cases h:i=s
  .subst h;simp
  .rw[if_neg h]
   by_cases G:i<=s
   .rw[if_pos ay4,if_pos G,show s - i=(s - (i+1))+1 by omega];rfl
   .rw[if_neg ay4,if_neg G]
def xF (aS:dg) (K:aY) (B:az):List ResultVar->Option (List dP)
 | []=>some []
 | .tmp t::l=>match dI K t,xF aS K B l with
  | .c x,some r=>some (x::r)
  |_,_=>none
 | .cell t T::l=>match dI K t,xF aS K B l,aS.find T with
  | .c (.one (.ptr c o)),some r,some ti=>match ag B c with
   |some (.cells m)=>match ti.row with
    |true=>match Nat.ble (o+ti.size) m.length with
     |true=>some (.agg ((m.drop o).take ti.size)::r)
     |false=>none
    |false=>match m[o]? with
     |some s=>some (.one s::r)
     |none=>none
   |_=>none
  |_,_,_=>none
def tv (tmps:Array Value) (r:ResultVar):Sem Value:=match r with
 | .tmp t=>pure (tmps.getD t undef)
 | .cell ad t=>do loadVar t (<-asAddr (tmps.getD ad undef))
def JO:List dP->aP
 | [x]=>.c x
 |l=>.ci l
theorem Fm (bl:ec P aS) {ρ:Nat->bn} {F:Nat->Nat->Prop} {C:fg} {K:aY} {B:az} {a:Act} {w:World} (aj:Mem ids C B ρ F w) (ar:eq K ρ (bX C B F w) a w): ∀(l:List ResultVar) (r:List dP),xF aS K B l=some r->
  ∃aE:List Value,(l.mapM (tv a.tmps)).run P w= .ok aE w/\iU ρ (bX C B F w) w r aE
 | [],r,h=>by
  simp only[xF,aq4] at h;subst h;exact⟨[],ay6,rfl⟩
 | .tmp t::l,r,h=>by
  unfold xF at h
  split at h
  .rename_i x Fo hx ax;injection h with h
   subst h;obtain⟨aE,E,G⟩:=Fm bl aj ar l Fo ax;have ay:=ar t;rw[hx] at ay;exact⟨_::aE,by simp[List.mapM_cons,E,tv],_,aE,rfl,ay,G⟩
  .cases h
 | .cell t T::l,r,h=>by
  unfold xF at h
  split at h
  .rename_i c o Fo ti hx ax gD;obtain⟨i,d,bv⟩:=bl.at_ gD;obtain⟨aE,E,G⟩:=Fm bl aj ar l Fo ax;have ay:=ar t;rw[hx] at ay;have ay:a.tmps.getD t undef= .pointer (some ⟨(ρ c).bk,o,none⟩):=ay
   split at h
   .rename_i m ak;obtain⟨bh,us,eJ,O,H⟩:=aj.holds c _ ak
    split at h
    .rename_i fK
     split at h
     .rename_i g8;have g8:=aw8 g8;injection h with h
      subst h;have k6:=cc.E1 ti.size _ _ (cc.nT o _ _ H)
      have dN:=run_loadVar_mid (P:=P) w (ρ c).bk o T ((us.drop o).take ti.size) d (fun j u V=>by
       rw[au6] at V
       split at V
       .rw[List.getElem?_drop] at V;exact oS O V
       .cases V) bv.nS (bv.row.trans fK) (by rw[bv.jY,av4,bv.size,cc.length _ _ k6,aq9,au9];congr 1;omega)
      exact⟨_::aE,by simp[List.mapM_cons,tv,ay,asAddr,dN,E],_,aE,rfl,⟨_,rfl,k6⟩,G⟩
     .cases h
    .rename_i fK
     split at h
     .rename_i s aw;injection h with h
      subst h;obtain⟨v,tw,k6⟩:=cc.get _ _ H o s aw;have dN:=PH (P:=P) (T:=T) bv.nS (bv.row.trans fK) (oS O tw);exact⟨_::aE,by simp[List.mapM_cons,tv,ay,asAddr,dN,E],_,aE,rfl,k6,G⟩
     .cases h
   .cases h
  .cases h
def zE (l:aC4):List kZ->Bool
 | []=>true
 | .p b _::m=>l.contains b&&zE l m
 | .d _::m=>zE l m
theorem JP {l:aC4} {c:Nat}: ∀{m:List kZ},zE l m=true->l5 c m=true->c∈l
 | [],_,J=>by simp[l5] at J
 | .p b o::m,h,J=>by
  simp only[zE,vj,as7] at h;simp only[l5,av5] at J;rcases J with J |J
  .have:=aq6 J;subst this;exact h.1
  .exact JP h.2 J
 | .d x::m,h,J=>JP (m:=m) (by simpa[zE] using h) (by simpa[l5] using J)
def bB.i7 (l:aC4):bB->Bool
 | .ptr b _=>l.contains b
 | .own b=>l.contains b
 | .gc b _ _ _=>l.contains b
 | .os b _ _ _=>l.contains b
 | .mp b=>l.contains b
 | .cY _ m=>zE l m
 |_=>true
def B6 (l:aC4):List bB->Bool
 | []=>true
 |s::m=>s.i7 l&&B6 l m
def dP.i7 (l:aC4):dP->Bool
 | .one s=>s.i7 l
 | .agg m=>B6 l m
 | .kh _ _=>true
def Fp (l:aC4):List dP->Bool
 | []=>true
 |s::m=>s.i7 l&&Fp l m
def aP.i7 (l:aC4):aP->Bool
 | .c x=>x.i7 l
 | .ci m=>Fp l m
 | .undef=>true
def ba.i7 (l:aC4):ba->Bool
 | .cells m=>B6 l m
 | .b5 d _=>l.contains d
 |_=>true
def v8 (l:aC4):az->Bool
 | []=>true
 |(_,ch)::B=>ch.i7 l&&v8 l B
theorem bB.kK {l:aC4} {s:bB} (h:s.i7 l=true) {c:Nat} (J:s.has c=true):c∈l:=by
 cases s <;>simp only[bB.i7,bB.has,as7,Bool.false_eq_true] at h J
 all_goals first |exact JP h J |(have:=aq6 J;subst this;exact h)
theorem JQ {l:aC4} {c:Nat}: ∀{m:List bB},B6 l m=true->mB c m=true->c∈l
 | [],_,J=>by simp[mB] at J
 |s::m,h,J=>by
  simp only[B6,vj] at h;simp only[mB,av5] at J;exact J.elim (bB.kK h.1) (JQ h.2)
theorem dP.kK {l:aC4} {s:dP} (h:s.i7 l=true) {c:Nat} (J:s.has c=true):c∈l:=by
 cases s with
 |one s=>exact bB.kK h J
 |agg m=>exact JQ h J
 |kh u x=>cases J
theorem Qm {l:aC4} {c:Nat}: ∀{m:List dP},Fp l m=true->tc c m=true->c∈l
 | [],_,J=>by simp[tc] at J
 |s::m,h,J=>by
  simp only[Fp,vj] at h;simp only[tc,av5] at J;exact J.elim (dP.kK h.1) (Qm h.2)
theorem aP.kK {l:aC4} {s:aP} (h:s.i7 l=true) {c:Nat} (J:s.has c=true):c∈l:=by
 cases s with
 |c s=>exact dP.kK h J
 |ci m=>exact Qm h J
 |undef=>cases J
theorem ba.kK {l:aC4} {s:ba} (h:s.i7 l=true) {c:Nat} (J:s.has c=true):c∈l:=by
 cases s with
 |cells m=>exact JQ h J
 |row e u xs=>cases J
 |map aI aK es=>cases J
 |val u x=>cases J
 |aG o=>cases J
 |b5 d o=>rw[<-aq6 J];exact as7.1 h
theorem xG {l:aC4}: ∀{B:az},v8 l B=true-> ∀{c ch},ag B c=some ch->ch.i7 l=true
 | [],_,c,ch,h=>by cases h
 |(d,x)::B,h,c,ch,J=>by
  simp only[v8,vj] at h;rw[cd] at J
  split at J
  .injection J with J;subst J;exact h.1
  .exact xG h.2 J
section
variable {ρ:Nat->bn} {I:Nat->Prop} {w:World}
theorem aad: ∀{x y:D} {v:Value},IP x y->gK I w x v->gK I w y v:=by
 intro x y v h ay;unfold IP at h
 split at h
 .split at h
  .rename_i e;have:=nR e;subst this h;exact ay
  .exact h.elim
 .subst h;exact ay
 .subst h;exact ay
 .subst h;exact ay
 .subst h;exact ay
 .subst h;exact ay
 .subst h;exact ay
 .subst h;exact ay
 .split at h
  .rename_i e _;subst e;have h:_=_:=h;subst h;exact ay
  .exact h.elim
 .exact h.elim
theorem Qn {s t:bB} {v:Value} (h:EH s t) (ay:dY ρ I w s v):dY ρ I w t v:=by
 unfold EH at h
 split at h
 .trivial
 .exact aad h ay
 .subst h;rw[show v=_ from ay];exact⟨none,0,rfl,aq0 _,aq8 _,fun h=>absurd h (Nat.lt_irrefl 0)⟩
 .subst h;exact ay
theorem JR: ∀{l m:List bB} {aE:List Value},EI l m->cc ρ I w l aE->cc ρ I w m aE
 | [],[],_,_,h=>h
 |s::l,t::m,_,⟨E,G⟩,⟨v,r,e,g1,g2⟩=>⟨v,r,e,Qn E g1,JR G g2⟩
 | [],_::_,_,h,_=>h.elim
 |_::_,[],_,h,_=>h.elim
theorem Qo {s t:dP} {v:Value} (h:EJ s t) (ay:gC ρ I w s v):gC ρ I w t v:=by
 unfold EJ at h
 split at h
 .exact Qn h ay
 .obtain⟨aE,e,ay⟩:=ay;exact⟨aE,e,JR h ay⟩
 .trivial
 .split at h
  .rename_i a6 _;subst a6;have h:_=_:=h;subst h;exact ay
  .exact h.elim
 .trivial
 .exact h.elim
theorem Qp: ∀{l m:List dP} {aE:List Value},IQ l m->iU ρ I w l aE->iU ρ I w m aE
 | [],[],_,_,h=>h
 |s::l,t::m,_,⟨E,G⟩,⟨v,r,e,g1,g2⟩=>⟨v,r,e,Qo E g1,Qp G g2⟩
 | [],_::_,_,h,_=>h.elim
 |_::_,[],_,h,_=>h.elim
theorem v' {s t:aP} {v:Value} (h:tg s t) (ay:cw ρ I w s v):cw ρ I w t v:=by
 unfold tg at h
 split at h
 .exact Qo h ay
 .obtain⟨aE,e,ay⟩:=ay;exact⟨aE,e,Qp h ay⟩
 .exact ay
 .trivial
 .exact h.elim
theorem JS: ∀{l m:List aP},EK l m->l.length=m.length/\ ∀(i:Nat) (t:aP),m[i]? =some t-> ∃s,l[i]? =some s/\tg s t
 | [],[],_=>⟨rfl,fun i t h=>by simp at h⟩
 |s::l,t::m,⟨E,G⟩=>by
  obtain⟨g1,g2⟩:=JS G;refine⟨by simp[g1],fun i u a6=>?_⟩
  match i with
  |0=>
   simp only[ar3,aq4] at a6;subst a6;exact⟨s,rfl,E⟩
  |i+1=>exact g2 i u (by simpa using a6)
 | [],_::_,h=>h.elim
 |_::_,[],h=>h.elim
end
theorem Fn.arg {P:Program} {f:FuncId} {args args':List aP} {aJ:az} {bb:aC4} {res:aP} {aO:az} (h:Fn P f args' aJ bb res aO) (ak:EK args args'):Fn P f args aJ bb res aO:=by
 obtain⟨E,G⟩:=JS ak;refine⟨h.1,fun ρ F I w bU bZ cg a3 a4 a5 gB=>h.2 ρ F I w bU bZ cg a3 a4 (a5.trans E) fun i v x ay hx=>?_⟩;obtain⟨s,g1,g2⟩:=G i v ay;exact v' g2 (gB i s x g1 hx)
theorem aae {C:fg} {ds:aC4} {B:az} {ρ:Nat->bn} {F:Nat->Nat->Prop} {w w':World} (h:Mem ids (C.at ds) B ρ F w) (cy:cS (fun D=>D∈ds) w w'):
  Mem ids (C.at []) B ρ F w'/\cm (bX (C.at ds) B F w) w (bX (C.at []) B F w') w':=by
 have hX: ∀b,(C.zb b\/C.qd b\/C.fZ.heap.size<=b/\b∉ds)->b∉ds:=fun b O H=>by
  have cX:C.fZ.heap.size<=b:=(h.k0.2.2 b H).2.2;rcases O with O |O |O
  .have jD:b < C.fZ.heap.size:=h.k0.2.1 b (.inl O);omega
  .have jD:b < C.fZ.heap.size:=h.k0.2.1 b (.inr O);omega
  .exact O.2 H
 have a1:cm (bX (C.at ds) B F w) w (bX (C.at []) B F w') w':=fun b O=>
  ⟨⟨ar6 O.1 cy.size,O.2.1.imp id fun x=>x.imp id fun x=>⟨x.1,ay6⟩,O.2.2⟩,cy.block b O.1 (hX b O.2.1)⟩
 have bh: ∀c ch,ag B c=some ch-> ∀b,F c b->w'.heap[b]? =w.heap[b]? :=fun c ch J b O=>by
  obtain⟨cA,cF⟩:=h.own c ch J b O;exact cy.block b cA (hX b (.inr cF))
 refine⟨⟨h.fr.trans cy fun i aF H=>?_,fun c ch J=>Holds.cp a1 (bh c ch J) cy.size ch (fun _ _=>rfl) (h.holds c ch J),fun c ch J b O=>?_,h.fh,h.eI,av8,h.k0.2.1,fun D cf=>by cases cf⟩,a1⟩
 .have af:C.fZ.heap.size<=i:=(h.k0.2.2 i H).2.2;have aF:i < C.fZ.heap.size:=aF;omega
 .obtain⟨cA,cF⟩:=h.own c ch J b O;exact⟨ar6 cA cy.size,cF.imp id fun x=>⟨x.1,ay6⟩⟩
theorem Qq {F:Fence} {n:Nat} {fn:Func} {tmps:Array Value} {bo:Ending->World->Prop}: ∀(ds:aC4) (w:World),ds.Nodup->(∀D,D∈ds->D < w.heap.size/\w.heap[D]? =some (.deferred (some [])))->
  (∀w',cS (fun D=>D∈ds) w w'->LeavesIn F n P fn tmps bo [] .returning w')->LeavesInM F n P fn tmps bo (ds.map xi) .returning w
 | [],w,_,_,h=>h w (cS.refl _ w)
 |D::ds,w,hn,H,h=>by
  obtain⟨cU,dU⟩:=as8.1 hn;obtain⟨hJ,jj⟩:=H D (ar2 ..);have hf:cS (fun b=>b=D) w (w.putObj D (.deferred none)):=⟨rfl,rfl,rfl,Nat.le_of_eq (World.putObj_size).symm,fun k _ aa=>World.putObj_heap_other aa⟩;refine⟨fun e=>(by cases e),.inl ⟨D,w.putObj D (.deferred none),rfl,run_takeDeferred jj,Qq ds _ dU (fun uy a1=>?_) fun w' qj=>h w' ?_⟩⟩
  .obtain⟨cA,cF⟩:=H uy (aq2 _ a1);exact⟨by rw[World.putObj_size];exact cA,(World.putObj_heap_other (r:=D) (k:=uy) fun e=>cU (e▸a1)).trans cF⟩
  .exact(hf.mono fun i _ (aF:i=D)=>by rw[aF];exact ar2 ..).trans qj fun i _ aF=>aq2 _ aF
theorem Qr {F:Fence} {n:Nat} {fn:Func} {bo:Ending->World->Prop} {C:fg} {ds:aC4} {K:aY} {B:az} {a:Act} {w:World} (aw:e2 N ids (C.at ds) K B a w)
  (h: ∀w',e2 N ids (C.at []) K B {a with defers:=[]} w'-> ∃v,(results fn a.tmps).run P w'= .ok v w'/\bo (.returned v) w'):LeavesInM F n P fn a.tmps bo a.defers .returning w:=by
 obtain⟨E,G,ρ,ce,aj,ar⟩:=aw;rw[G];refine Qq ds w aj.k0.1 (fun D cf=>⟨(aj.k0.2.2 D cf).1,(aj.k0.2.2 D cf).2.1⟩) fun w' qj=>h w' ?_
 obtain⟨bI,a1⟩:=aae aj qj;exact⟨E,rfl,ρ,ce,bI,ar.mono a1 fun _ _ _=>rfl⟩
def Fq (aS:dg) (ids bb:aC4) (jl:List ResultVar) (res:aP) (aO:az) (e:oP) (K:aY) (B:az):Prop:=match e with
 | .ex _=>False
 |_=> ∃K' B' r,ac ids K B K' B'/\xF aS K' B' jl=some r/\tg (JO r) res/\k2 B' aO/\(res.i7 (ids++bb)&&v8 (ids++bb) aO&&(cr aO).all (fun c=>(ids++bb).contains c))=true
theorem Fn.of (bl:ec P aS) {f:FuncId} {fn:Func} {c:Code} (stops:aC4) (args:List aP) (aJ:az) (bb:aC4) (res:aP) (aO:az) (hf:P.funcs[f]? =some fn) (O:fn.body=some c) (hn:fn.ntmps=N) (fT:jA P f=true) (J:jF P N c=true) (e9:Nat.ble args.length N=true) (cf:zC P aS N (cr aJ)) {jl:List ResultVar} (xH:fn.results.toList=jl)
  (h:jB P aS N (cr aJ) stops c (oY 0 args) aJ (Fq aS (cr aJ) bb jl res aO)):Fn P f args aJ bb res aO:=by
 refine⟨fT,?_⟩;intro ρ F I w bU a8 cZ bh eE bV dy;have e9:=aw8 e9;refine Qj (r:=none) (n:=0) (callsIn_of_wp_marks hf O trivial ?_)
 let C:fg:=⟨w,I,fun b=> ∃c ch,ag aJ c=some ch/\F c b,ρ,[]⟩
 have sq:cm I w (bX C aJ F w) w:=fun b O=>⟨⟨a8 b O,.inl O,fun c ch J qk=>(bh c ch J b qk).2 O⟩,rfl⟩
 have aj:Mem (cr aJ) C aJ ρ F w:=⟨cS.refl _ _,fun c ch J=>Holds.cp sq (fun _ _=>rfl) (aq0 _) ch (fun _ _=>rfl) (cZ c ch J),fun c ch J b O=>⟨(bh c ch J b O).1,.inl ⟨c,ch,J,O⟩⟩,eE,fun c _=>rfl,av8,fun b O=>O.elim (a8 b) fun⟨c,ch,J,B7⟩=>(bh c ch J b B7).1,fun D cf=>by cases cf⟩;refine zD bl cf stops c _ _ _ J h none (fun _=>rfl) C _ ?_ _ w ⟨by simp[bV,hn];omega,rfl,ρ,F,aj,fun s=>?_⟩
 .intro e K' B' ds _ U a' w' d6
  cases e with
  |ex i=>exact U.elim
  |_=>
   obtain⟨Qs,jG,r,g8,ax,ai,hZ,pB⟩:=U;refine Qr d6 fun w' d6=>?_
   obtain⟨hC,k6,ρ',F',bI,B8⟩:=g8 N C _ w' d6;obtain⟨aE,dN,hD⟩: ∃aE:List Value,(jl.mapM (tv a'.tmps)).run P w'= .ok aE w'/\iU ρ' (bX C jG F' w') w' r aE:=Fm bl bI B8 jl r ax
   have jm: ∃x,(results fn a'.tmps).run P w'= .ok x w'/\cw ρ' (bX C jG F' w') w' (JO r) x:=by
    have E:fn.results=jl.toArray:=by rw[<-xH]
    have G:(fn.results.mapM (tv a'.tmps)).run P w'= .ok (List.toArray aE) w':=by
     rw[E,List.mapM_toArray];simp[dN]
    have af:results fn a'.tmps=(do let aE<-fn.results.mapM (tv a'.tmps);pure (if h:aE.size=1 then aE[0] else .tuple aE)):=rfl;rw[af]
    match r,aE,hD,G with
    | [],_,e,G=>rw[show _=[] from e] at G;exact⟨.tuple #[],by simp[G],[],rfl,rfl⟩
    | [x],_,⟨v,s,e,ay,aw⟩,G=>
     have aw:s=[]:=aw;subst aw e;exact⟨v,by simp[G],ay⟩
    |x::y::r,_,⟨v,s,e,ay,v2,bC,ao,tw,fS⟩,G=>
     subst ao e;exact⟨.tuple (List.toArray (v::v2::bC)),by simp[G],_,rfl,v,_,rfl,ay,v2,bC,rfl,tw,fS⟩
   obtain⟨x,hx,qi⟩:=jm;have qi:=v' ai qi;simp only[vj] at pB
   let uD:Nat->bn:=fun c=>if c∈bb then ρ' c else ρ c
   have ri: ∀c,c∈cr aJ++bb->uD c=ρ' c:=fun c J=>by
    show(if c∈bb then ρ' c else ρ c)=ρ' c
    split
    .rfl
    .rename_i hn;rcases as1.1 J with h |h
     .exact(bI.eI c h).symm
     .exact absurd h hn
   refine⟨x,hx,x,uD,F',rfl,bI.fr,fun c J=>if_neg J,bX C jG F' w',?_,fun b O=>⟨O.1,?_⟩,?_,?_,?_,?_⟩
   .intro b O;have wa: ¬C.qd b:=fun⟨c,ch,E,G⟩=>(bh c ch E b G).2 O
    refine⟨⟨ar6 (a8 b O) bI.fr.size,.inl O,fun c ch J qk=>?_⟩,bI.fr.block b (a8 b O) wa⟩;rcases(bI.own c ch J b qk).2 with h |h
    .exact wa h
    .have:=a8 b O;exact absurd h.1 (Nat.not_le.2 this)
   .rcases O.2.1 with h |h |h
    .exact .inl h
    .exact .inr (.inl h)
    .exact .inr (.inr h.1)
   .intro c ch J
    have aa:c∈cr aJ++bb:=by
     have:=as4.1 pB.2 c (gv.2 ⟨ch,J⟩);simpa only[as7] using this
    rw[ri c aa];exact Holds.cp (cm.refl _ _) (fun _ _=>rfl) (aq0 _) ch (fun d H=>ri d (ba.kK (xG pB.1.2 J) H)) (bI.holds c ch (kI hZ J))
   .intro c ch J b O;have cK:=kI hZ J;exact⟨(bI.own c ch cK b O).1,fun aF=>aF.2.2 c ch cK O,(bI.own c ch cK b O).2.imp id fun x=>x.1⟩
   .exact fun c b9 ch ch' b E G=>bI.fh c b9 ch ch' b (kI hZ E) (kI hZ G)
   .exact cw.mono (cm.refl _ _) res x (fun c J=>ri c (aP.kK pB.1.1 J)) qi
 .rw[B5];simp only[aq8,if_true,Nat.sub_zero]
  cases aw:args[s]? with
  |none=>trivial
  |some v=>
   have bt:s < bU.length:=by rw[bV];exact(aq7.1 aw).1
   simp only[av9];have hx:bU[s]? =some bU[s]:=oj bt;have:=cw.mono sq v _ (fun _ _=>rfl) (dy s v _ aw hx);simpa[Array.getElem?_append,bt,hx] using this
end
end
section
section
variable {ids:aC4} {K:aY} {B:az} {C:fg} {ρ:Nat->bn} {F:Nat->Nat->Prop} {w:World}
def zF (K:aY):aY->Prop
 | []=>True
 |(s,v)::l=>tg (dI K s) v/\zF K l
theorem JT: ∀{K' K:aY},zF K K'-> ∀s,tg (dI K s) (dI K' s)\/dI K' s= .c (.one .any)
 | [],K,h,s=>.inr rfl
 |(t,v)::K',K,h,s=>by
  rw[kD]
  split
  .rename_i e;subst e;exact .inl h.1
  .exact JT h.2 s
theorem ac.sub {K':aY} {B':az} (cV:zF K K') (c5:k2 B B'):ac ids K B K' B':=by
 rintro N C a w ⟨E,G,ρ,F,aj,ar⟩
 obtain⟨bI,a1⟩:=aj.step (B':=B') (ρ':=ρ) (F':=F) (w':=w) (fun c=>ag B' c=none) (fun _=>False) (cS.refl _ _) (fun c ch J _=>kI c5 J) (fun _ _=>rfl) (fun _ _=>rfl) (fun _ _ h=>h) (fun _ h=>h.elim) (fun _ _ _ _ _ _ h=>h)
  (fun c ch J hn=>by rw[hn] at J;cases J) (fun c ch J hn=>by rw[hn] at J;cases J) (fun c b9 ch ch' b J _ hn=>by rw[hn] at J;cases J)
 refine⟨E,G,ρ,F,bI,fun s=>?_⟩;rcases JT cV s with h |h
 .exact cw.mono a1 _ _ (fun _ _=>rfl) (v' h (ar s))
 .rw[h];trivial
def bB.d0 (c:Nat) (x:D):bB->bB
 | .own b=>match Nat.beq b c with
  |true=>.d x
  |false=>.own b
 |s=>s
def Fr (c:Nat) (x:D):List bB->List bB
 | []=>[]
 |s::l=>s.d0 c x::Fr c x l
def dP.d0 (c:Nat) (x:D):dP->dP
 | .one s=>.one (s.d0 c x)
 | .agg l=>.agg (Fr c x l)
 | .kh u y=>.kh u y
def JU (c:Nat) (x:D):List dP->List dP
 | []=>[]
 |s::l=>s.d0 c x::JU c x l
def aP.d0 (c:Nat) (x:D):aP->aP
 | .c s=>.c (s.d0 c x)
 | .ci l=>.ci (JU c x l)
 | .undef=>.undef
def Fs (c:Nat) (x:D):aY->aY
 | []=>[]
 |(s,v)::K=>(s,v.d0 c x)::Fs c x K
def ba.d0 (c:Nat) (x:D):ba->ba
 | .cells l=>.cells (Fr c x l)
 |ch=>ch
def ql (c:Nat) (x:D):az->az
 | []=>[]
 |(b,ch)::B=>match Nat.beq b c with
  |true=>ql c x B
  |false=>(b,ch.d0 c x)::ql c x B
theorem Qt {c:Nat} {x:D}: ∀(K:aY) (s:Nat),dI (Fs c x K) s=(dI K s).d0 c x
 | [],s=>rfl
 |(t,v)::K,s=>by
  simp only[Fs];rw[kD,kD,Qt K s]
  split <;>rfl
theorem xI {c:Nat} {x:D}: ∀(B:az) (d:Nat),ag (ql c x B) d=if c=d then none else(ag B d).map (·.d0 c x)
 | [],d=>by simp[ql,ag]
 |(b,ch)::B,d=>by
  unfold ql
  split
  .rename_i e;have:=aq6 e;subst this;rw[xI B d,cd]
   split <;>rfl
  .rename_i e;have a7:b≠c:=fun h=>by subst h;simp at e
   rw[cd,cd,xI B d]
   by_cases h:b=d
   .subst h;rw[if_pos rfl,if_pos rfl,if_neg (Ne.symm a7)];rfl
   .rw[if_neg h,if_neg h]
section
variable {I I':Nat->Prop} {c:Nat} {x:D}
theorem dY.d0 (U:cm I w I' w) (hx:gK I' w x (ρ c).ef) (s:bB) (v:Value) (h:dY ρ I w s v):dY ρ I' w (s.d0 c x) v:=by
 cases s with
 |own b=>
  unfold bB.d0;simp only
  split
  .rename_i e;have:=aq6 e;subst this;rw[show v=_ from h];exact hx
  .exact h
 |d y=>exact dY.mono (ρ':=ρ) U (.d y) v (fun _ _=>rfl) h
 |el u y o=>exact dY.mono (ρ':=ρ) U (.el u y o) v (fun _ _=>rfl) h
 |cY f l=>exact dY.mono (ρ':=ρ) U (.cY f l) v (fun _ _=>rfl) h
 |_=>exact h
theorem cc.d0 (U:cm I w I' w) (hx:gK I' w x (ρ c).ef): ∀(l:List bB) (aE:List Value),cc ρ I w l aE->cc ρ I' w (Fr c x l) aE
 | [],_,h=>h
 |s::l,_,⟨v,r,e,E,G⟩=>⟨v,r,e,dY.d0 U hx s v E,cc.d0 U hx l r G⟩
theorem gC.d0 (U:cm I w I' w) (hx:gK I' w x (ρ c).ef) (s:dP) (v:Value) (h:gC ρ I w s v):gC ρ I' w (s.d0 c x) v:=by
 cases s with
 |one s=>exact dY.d0 U hx s v h
 |agg l=>obtain⟨aE,e,h⟩:=h;exact⟨aE,e,cc.d0 U hx l aE h⟩
 |kh u y=>obtain⟨aE,e,E,G⟩:=h;exact⟨aE,e,E,cu.mono U u y _ _ (fun _ _ h=>h) G⟩
theorem iU.d0 (U:cm I w I' w) (hx:gK I' w x (ρ c).ef): ∀(l:List dP) (aE:List Value),iU ρ I w l aE->iU ρ I' w (JU c x l) aE
 | [],_,h=>h
 |s::l,_,⟨v,r,e,E,G⟩=>⟨v,r,e,gC.d0 U hx s v E,iU.d0 U hx l r G⟩
theorem cw.d0 (U:cm I w I' w) (hx:gK I' w x (ρ c).ef) (s:aP) (v:Value) (h:cw ρ I w s v):cw ρ I' w (s.d0 c x) v:=by
 cases s with
 |c s=>exact gC.d0 U hx s v h
 |ci l=>obtain⟨aE,e,h⟩:=h;exact⟨aE,e,iU.d0 U hx l aE h⟩
 |undef=>exact h
end
theorem Mem.d0 (aj:Mem ids C B ρ F w) {c:Nat} {e:TypeId} {u:bz} {xs:List (Z u)} (J:ag B c=some (.row e u xs)):
  Mem ids C (ql c (.co u xs) B) ρ F w/\cm (bX C B F w) w (bX C (ql c (.co u xs) B) F w) w/\gK (bX C (ql c (.co u xs) B) F w) w (.co u xs) (ρ c).ef:=by
 have bf:=aj.holds c _ J
 have zG: ∀b,bX C B F w b->bX C (ql c (.co u xs) B) F w b:=fun b ⟨E,G,af⟩=>⟨E,G,fun d ch H O=>by
  rw[xI] at H
  split at H
  .cases H
  .obtain⟨ch',dq,_⟩:=at3.1 H;exact af d ch' dq O⟩
 have so: ∀b,F c b->bX C (ql c (.co u xs) B) F w b:=fun b O=>by
  obtain⟨E,G⟩:=aj.own c _ J b O;refine⟨E,.inr G,fun d ch H dp=>?_⟩;rw[xI] at H
  split at H
  .cases H
  .rename_i a7;obtain⟨ch',dq,_⟩:=at3.1 H;exact aj.fh c d _ ch' b J dq a7 O dp
 have dy:gK (bX C (ql c (.co u xs) B) F w) w (.co u xs) (ρ c).ef:=BQ bf zG so;have a1:cm (bX C B F w) w (bX C (ql c (.co u xs) B) F w) w:=fun b O=>⟨zG b O,rfl⟩
 refine⟨⟨aj.fr,fun d ch H=>?_,fun d ch H=>?_,fun d c3 ch ch' b H dq=>?_,aj.eI,aj.k0⟩,a1,dy⟩
 .rw[xI] at H
  split at H
  .cases H
  .obtain⟨ch',dq,rfl⟩:=at3.1 H;have:=aj.holds d ch' dq
   cases ch' with
   |cells l=>
    obtain⟨E,aE,T,G,af⟩:=this;exact⟨E,aE,T,G,cc.d0 a1 dy l aE af⟩
   |row e u xs=>exact Holds.cp a1 (fun _ _=>rfl) (aq0 _) _ (fun _ _=>rfl) this
   |map aI aK es=>exact Holds.cp a1 (fun _ _=>rfl) (aq0 _) _ (fun _ _=>rfl) this
   |val u x=>exact Holds.cp a1 (fun _ _=>rfl) (aq0 _) _ (fun _ _=>rfl) this
   |aG o=>exact Holds.cp a1 (fun _ _=>rfl) (aq0 _) _ (fun _ _=>rfl) this
   |b5 d o=>exact Holds.cp a1 (fun _ _=>rfl) (aq0 _) (.b5 d o) (fun _ _=>rfl) this
 .rw[xI] at H
  split at H
  .cases H
  .obtain⟨ch',dq,_⟩:=at3.1 H;exact aj.own d ch' dq
 .rw[xI] at H dq
  split at H
  .cases H
  .split at dq
   .cases dq
   .obtain⟨cI,E,_⟩:=at3.1 H;obtain⟨cE,G,_⟩:=at3.1 dq;exact aj.fh d c3 cI cE b E G
theorem ac.d0 (c:Nat) {e:TypeId} {u:bz} {xs:List (Z u)} (J:ag B c=some (.row e u xs)):ac ids K B (Fs c (.co u xs) K) (ql c (.co u xs) B):=by
 rintro N C a w ⟨E,G,ρ,F,aj,ar⟩;obtain⟨bI,a1,H⟩:=aj.d0 J;exact⟨E,G,ρ,F,bI,fun s=>by rw[Qt];exact cw.d0 a1 H _ _ (ar s)⟩
theorem ac.nil (s c:Nat) (e:TypeId) (u:bz) (aw:dI K s= .c (.one .dK)) (hf:g6 ids K B c=true):ac ids K B ((s,.c (.one (.own c)))::K) ((c,.row e u [])::B):=by
 rintro N C a w ⟨E,G,ρ,F,aj,ar⟩;have cy:=k4 hf;obtain⟨bI,a1⟩:=aj.make (ch:=.row e u []) (w':=w) hf (Below.refl _ _) ⟨0,none,0,0⟩ (fun _=>False) (fun b h=>h.elim) (fun I _ _=>⟨fun b=>by simp[bn.ef,Value.ownBlock],fun b O=>by simp[bn.ef,Value.ownBlock] at O,[],World.ownsRow_nil _ _ _ _,gR.nil u⟩);refine⟨E,G,_,_,bI,fun t=>?_⟩;rw[kD]
 split
 .rename_i e;subst e;have:=ar s;rw[aw] at this;rw[show a.tmps.getD s undef= .slice none 0 0 from this];simp only[cw,gC,dY,c7,bn.ef]
 .exact cw.mono a1 _ _ (fun d H=>dh _ _ (fun e=>by subst e;rw[cy.1 t] at H;cases H)) (ar t)
theorem ac.wb (b j c:Nat) (e:TypeId) (u:bz) {l:List bB} (O:ag B b=some (.cells l)) (V:l[j]? =some .dK) (hf:g6 ids K B c=true):ac ids K B K ((b,.cells (l.set j (.own c)))::(c,.row e u [])::B):=by
 rintro N C a w ⟨E,G,ρ,F,aj,ar⟩;have cy:=k4 hf;obtain⟨bI,a1⟩:=aj.make (ch:=.row e u []) (w':=w) hf (Below.refl _ _) ⟨0,none,0,0⟩ (fun _=>False) (fun b h=>h.elim) (fun I _ _=>⟨fun b=>by simp[bn.ef,Value.ownBlock],fun b O=>by simp[bn.ef,Value.ownBlock] at O,[],World.ownsRow_nil _ _ _ _,gR.nil u⟩);have Ft:c≠b:=fun e=>by subst e;rw[cy.2.1] at O;cases O
 have dp:ag ((c,ba.row e u [])::B) b=some (.cells l):=by rw[cd,if_neg Ft];exact O
 have bf:=bI.holds b _ dp
 obtain⟨iW,uE⟩:=bI.hI (ch:=.cells (l.set j (.own c))) dp (cS.refl _ _) (fun I U=>by
  obtain⟨g1,aE,T,g2,cX⟩:=bf;refine⟨g1,aE,T,g2,?_⟩;have cX:=cc.mono (ρ':=da ρ c ⟨0,none,0,0⟩) U l aE (fun _ _=>rfl) cX
  have key: ∀(l:List bB) (aE:List Value) (j:Nat),l[j]? =some .dK->cc (da ρ c ⟨0,none,0,0⟩) I w l aE->cc (da ρ c ⟨0,none,0,0⟩) I w (l.set j (.own c)) aE:=fun l=>by
   induction l with
   |nil=>intro aE j V;simp at V
   |cons s l bq=>
    rintro _ j V ⟨v,r,rfl,cA,cF⟩
    match j with
    |0=>
     simp only[ar3,aq4] at V;subst V;refine⟨v,r,rfl,?_,cF⟩;rw[show v= .slice none 0 0 from cA];simp only[dY,c7,bn.ef]
    |j+1=>exact⟨v,r,rfl,cA,bq r j aA5 cF⟩
  exact key l aE j V cX)
 refine⟨E,G,_,_,iW,fun t=>?_⟩;exact cw.mono (a1.trans uE) _ _ (fun d H=>dh _ _ (fun e=>by subst e;rw[cy.1 t] at H;cases H)) (ar t)
def Fu (c d:Nat):List kZ->List kZ
 | []=>[]
 | .p b o::l=>(match Nat.beq b c with
  |true=>.p d o
  |false=>.p b o)::Fu c d l
 | .d x::l=>.d x::Fu c d l
def bB.aV (c d:Nat):bB->bB
 | .ptr b o=>match Nat.beq b c with
  |true=>.ptr d o
  |false=>.ptr b o
 | .own b=>match Nat.beq b c with
  |true=>.own d
  |false=>.own b
 | .gc b s i o=>match Nat.beq b c with
  |true=>.gc d s i o
  |false=>.gc b s i o
 | .os b s o n=>match Nat.beq b c with
  |true=>.os d s o n
  |false=>.os b s o n
 | .mp b=>match Nat.beq b c with
  |true=>.mp d
  |false=>.mp b
 | .cY f l=>.cY f (Fu c d l)
 |s=>s
def Fv (c d:Nat):List bB->List bB
 | []=>[]
 |s::l=>s.aV c d::Fv c d l
def dP.aV (c d:Nat):dP->dP
 | .one s=>.one (s.aV c d)
 | .agg l=>.agg (Fv c d l)
 | .kh u x=>.kh u x
def JV (c d:Nat):List dP->List dP
 | []=>[]
 |s::l=>s.aV c d::JV c d l
def aP.aV (c d:Nat):aP->aP
 | .c s=>.c (s.aV c d)
 | .ci l=>.ci (JV c d l)
 | .undef=>.undef
def Fw (c d:Nat):aY->aY
 | []=>[]
 |(s,v)::K=>(s,v.aV c d)::Fw c d K
def ba.aV (c d:Nat):ba->ba
 | .cells l=>.cells (Fv c d l)
 | .b5 b o=>match Nat.beq b c with
  |true=>.b5 d o
  |false=>.b5 b o
 |ch=>ch
def wc (c d:Nat):az->az
 | []=>[]
 |(b,ch)::B=>match Nat.beq b c with
  |true=>(d,ch.aV c d)::wc c d B
  |false=>(b,ch.aV c d)::wc c d B
theorem Qu {c d:Nat}: ∀(K:aY) (s:Nat),dI (Fw c d K) s=(dI K s).aV c d
 | [],s=>rfl
 |(t,v)::K,s=>by
  simp only[Fw];rw[kD,kD,Qu K s]
  split <;>rfl
theorem Qv {c d:Nat}: ∀(B:az),ag B d=none-> ∀b,ag (wc c d B) b=if b=d then(ag B c).map (·.aV c d) else if b=c then none else(ag B b).map (·.aV c d)
 | [],_,b=>by simp[wc,ag]
 |(t,ch)::B,H,b=>by
  rw[cd] at H;have Qw:t≠d:=fun e=>by rw[if_pos e] at H;cases H
  rw[if_neg Qw] at H;have bq:=Qv (c:=c) B H b;unfold wc
  split
  .rename_i e;have:=aq6 e;subst this;rw[cd,cd,if_pos rfl,bq,cd]
   by_cases E:b=d
   .subst E;simp
   .rw[if_neg (Ne.symm E),if_neg E,if_neg E]
    by_cases G:b=t
    .rw[if_pos G,if_pos G]
    .rw[if_neg G,if_neg G,if_neg (Ne.symm G)]
  .rename_i e;have a7:t≠c:=fun h=>by subst h;simp at e
   rw[cd,bq,cd,cd,if_neg a7]
   by_cases E:b=d
   .subst E;rw[if_neg Qw,if_pos rfl,if_pos rfl]
   .rw[if_neg E,if_neg E]
    by_cases G:b=c
    .subst G;rw[if_neg a7,if_pos rfl,if_pos rfl]
    .rw[if_neg G,if_neg G]
     by_cases af:t=b
     .rw[if_pos af,if_pos af];rfl
     .rw[if_neg af,if_neg af]
section
variable {I:Nat->Prop} {c d:Nat}
theorem hW.aV: ∀(l:List kZ) (aE:List Value),l5 d l=false->hW ρ I w l aE->hW (da ρ d (ρ c)) I w (Fu c d l) aE
 | [],_,_,h=>h
 | .p b o::l,_,H,⟨v,r,e,E,G⟩=>by
  simp only[l5,au4] at H;refine⟨v,r,e,?_,hW.aV l r H.2 G⟩
  split
  .rename_i e;have:=aq6 e;subst this;simp only[xh,c7] at E⊢;exact E
  .simp only[xh] at E⊢;rw[dh _ _ (fun e=>by subst e;simp at H)];exact E
 | .d x::l,_,H,⟨v,r,e,E,G⟩=>⟨v,r,e,E,hW.aV l r (by simpa[l5] using H) G⟩
theorem dY.aV (s:bB) (v:Value) (H:s.has d=false) (h:dY ρ I w s v):dY (da ρ d (ρ c)) I w (s.aV c d) v:=by
 have key: ∀b,Nat.beq b d=false->(match Nat.beq b c with |true=>da ρ d (ρ c) d=ρ b |false=>da ρ d (ρ c) b=ρ b):=fun b O=>by
  split
  .rename_i e;rw[c7,aq6 e]
  .exact dh _ _ (fun e=>by subst e;simp at O)
 cases s with
 |ptr b o=>
  have:=key b H;unfold bB.aV;simp only
  split <;>rename_i e <;>rw[e] at this <;>simp only at this <;>simp only[dY] at h⊢ <;>rw[this] <;>exact h
 |own b=>
  have:=key b H;unfold bB.aV;simp only
  split <;>rename_i e <;>rw[e] at this <;>simp only at this <;>simp only[dY] at h⊢ <;>rw[this] <;>exact h
 |gc b s i o=>
  have:=key b H;unfold bB.aV;simp only
  split <;>rename_i e <;>rw[e] at this <;>simp only at this <;>simp only[dY] at h⊢ <;>rw[this] <;>exact h
 |os b s o n=>
  have:=key b H;unfold bB.aV;simp only
  split <;>rename_i e <;>rw[e] at this <;>simp only at this <;>simp only[dY] at h⊢ <;>rw[this] <;>exact h
 |mp b=>
  have:=key b H;unfold bB.aV;simp only
  split <;>rename_i e <;>rw[e] at this <;>simp only at this <;>simp only[dY] at h⊢ <;>rw[this] <;>exact h
 |d y=>exact h
 |el u y o=>exact h
 |cY f l=>obtain⟨aE,e,h⟩:=h;exact⟨aE,e,hW.aV l aE H h⟩
 |dK=>exact h
 |bJ v=>exact h
 |any=>exact h
theorem cc.aV: ∀(l:List bB) (aE:List Value),mB d l=false->cc ρ I w l aE->cc (da ρ d (ρ c)) I w (Fv c d l) aE
 | [],_,_,h=>h
 |s::l,_,H,⟨v,r,e,E,G⟩=>by
  simp only[mB,au4] at H;exact⟨v,r,e,dY.aV s v H.1 E,cc.aV l r H.2 G⟩
theorem gC.aV (s:dP) (v:Value) (H:s.has d=false) (h:gC ρ I w s v):gC (da ρ d (ρ c)) I w (s.aV c d) v:=by
 cases s with
 |one s=>exact dY.aV s v H h
 |agg l=>obtain⟨aE,e,h⟩:=h;exact⟨aE,e,cc.aV l aE H h⟩
 |kh u x=>exact h
theorem iU.aV: ∀(l:List dP) (aE:List Value),tc d l=false->iU ρ I w l aE->iU (da ρ d (ρ c)) I w (JV c d l) aE
 | [],_,_,h=>h
 |s::l,_,H,⟨v,r,e,E,G⟩=>by
  simp only[tc,au4] at H;exact⟨v,r,e,gC.aV s v H.1 E,iU.aV l r H.2 G⟩
theorem cw.aV (s:aP) (v:Value) (H:s.has d=false) (h:cw ρ I w s v):cw (da ρ d (ρ c)) I w (s.aV c d) v:=by
 cases s with
 |c s=>exact gC.aV s v H h
 |ci l=>obtain⟨aE,e,h⟩:=h;exact⟨aE,e,iU.aV l aE H h⟩
 |undef=>exact h
end
theorem ac.aV (c d:Nat) (hf:g6 ids K B d=true):ac ids K B (Fw c d K) (wc c d B):=by
 rintro N C a w ⟨E,G,ρ,F,aj,ar⟩;obtain⟨ib,jC,f3,px⟩:=k4 hf;have BY:=Qv (c:=c) (d:=d) B jC
 have back: ∀b ch,ag (wc c d B) b=some ch-> ∃eK cz,ag B eK=some cz/\ch=cz.aV c d/\da F d (F c) b=F eK/\da ρ d (ρ c) b=ρ eK/\((b=d/\eK=c)\/(b≠d/\b≠c/\eK=b)):=fun b ch O=>by
  rw[BY] at O
  split at O
  .rename_i e;subst e;obtain⟨cz,h,rfl⟩:=at3.1 O;exact⟨c,cz,h,rfl,c7 _ _ _,c7 _ _ _,.inl ⟨rfl,rfl⟩⟩
  .rename_i e
   split at O
   .cases O
   .rename_i ao;obtain⟨cz,h,rfl⟩:=at3.1 O;exact⟨b,cz,h,rfl,dh _ _ e,dh _ _ e,.inr ⟨e,ao,rfl⟩⟩
 have a1:cm (bX C B F w) w (bX C (wc c d B) (da F d (F c)) w) w:=fun b ⟨cA,cF,dF⟩=>⟨⟨cA,cF,fun e ch U bh=>by
  obtain⟨eK,cz,g1,_,g2,_⟩:=back e ch U;rw[g2] at bh;exact dF eK cz g1 bh⟩,rfl⟩
 refine⟨E,G,da ρ d (ρ c),da F d (F c),⟨aj.fr,fun b ch O=>?_,fun b ch O x hx=>?_,fun b d5 ch ch' x O dp a7 hx dO=>?_,fun e U=>?_,aj.k0⟩,fun s=>?_⟩
 .obtain⟨eK,cz,g1,rfl,g2,cX,_⟩:=back b ch O;rw[g2,cX];have:=aj.holds eK cz g1;have fU:=f3 eK cz g1
  cases cz with
  |cells l=>
   obtain⟨cj,aE,T,cT,eg⟩:=this;exact⟨cj,aE,T,cT,cc.mono a1 _ _ (fun _ _=>rfl) (cc.aV l aE fU eg)⟩
  |row e u xs=>exact Holds.cp (ρ':=ρ) a1 (fun _ _=>rfl) (aq0 _) (.row e u xs) (fun _ _=>rfl) this
  |map aI aK es=>exact Holds.cp (ρ':=ρ) a1 (fun _ _=>rfl) (aq0 _) (.map aI aK es) (fun _ _=>rfl) this
  |val u x=>exact Holds.cp (ρ':=ρ) a1 (fun _ _=>rfl) (aq0 _) (.val u x) (fun _ _=>rfl) this
  |aG o=>exact Holds.cp (ρ':=ρ) a1 (fun _ _=>rfl) (aq0 _) (.aG o) (fun _ _=>rfl) this
  |b5 j o=>
   have G:=Holds.cp (ρ':=ρ) a1 (fun _ _=>rfl) (aq0 _) (.b5 j o) (fun _ _=>rfl) this;unfold ba.aV;simp only
   split
   .rename_i e;have:=aq6 e;subst this;simp only[Holds,c7] at G⊢;exact G
   .have V:j≠d:=fun e=>by subst e;simp[ba.has] at fU
    simp only[Holds] at G⊢;rw[dh _ _ V];exact G
 .obtain⟨eK,cz,g1,_,g2,_⟩:=back b ch O;rw[g2] at hx;exact aj.own eK cz g1 x hx
 .obtain⟨eK,cz,g1,_,g2,_,jD⟩:=back b ch O;obtain⟨b1,i4,cj,_,cT,_,eR⟩:=back d5 ch' dp;rw[g2] at hx;rw[cT] at dO;refine aj.fh eK b1 cz i4 x g1 cj (fun e=>?_) hx dO;subst e;rcases jD with⟨ae,ao⟩ |⟨ae,ao,bm⟩ <;>rcases eR with⟨c0,fQ⟩ |⟨c0,fQ,hY⟩
  .exact a7 (ae.trans c0.symm)
  .exact fQ (hY.symm.trans ao)
  .exact ao (bm.symm.trans fQ)
  .exact a7 (bm.symm.trans hY)
 .rw[dh _ _ (fun b7=>by subst b7;exact px U)];exact aj.eI e U
 .rw[Qu];exact cw.mono a1 _ _ (fun _ _=>rfl) (cw.aV _ _ (ib s) (ar s))
end
theorem bw.go {P:Program} {aS:dg} {N:Nat} {ids:aC4} {K K':aY} {B B':az} {Q:oP->aY->az->Prop} {c:Code} (bl:ec P aS) (cf:zC P aS N ids) (stops:aC4) (J:jF P N c=true) (h:ac ids K B K' B') (cq:jB P aS N ids stops c K' B' Q):bw P N ids c K B Q:=
 bw.le h (zD bl cf stops c K' B' Q J cq)
end
section
section fold
variable {T mK aaf:Type} (get:mK->Nat->aaf) (jH:T->mK->mK) (uF:T->Nat->Prop)
def fL (m:Nat->Bool):Nat->List T->mK->mK
 |_,[],x=>x
 |i,t::l,x=>fL m (i+1) l (if m i then jH t x else x)
variable (E: ∀t x s,¬uF t s->get (jH t x) s=get x s) (G: ∀t x y s,get x s=get y s->get (jH t x) s=get (jH t y) s)
include E G in
theorem zH (m gw:Nat->Bool) (s:Nat): ∀(l:List T) (i:Nat) (x y:mK),(∀j t,l[j]? =some t->uF t s->m (i+j)=gw (i+j))->get x s=get y s->get (fL jH m i l x) s=get (fL jH gw i l y) s
 | [],i,x,y,_,U=>U
 |t::l,i,x,y,h,U=>by
  unfold fL;refine zH m gw s l (i+1) _ _ (fun j u V a6=>by rw[show i+1+j=i+(j+1) by omega];exact h (j+1) u aA5 a6) ?_
  by_cases cq:uF t s
  .have:=h 0 t rfl cq;rw[aw3] at this;rw[this]
   split
   .exact G t x y s U
   .exact U
  .have ae:get (if m i then jH t x else x) s=get x s:=by split;exact E t x s cq;rfl
   have ao:get (if gw i then jH t y else y) s=get y s:=by split;exact E t y s cq;rfl
   rw[ae,ao,U]
include E G in
theorem JW (m:Nat->Bool) (k:Nat) (s:Nat): ∀(l:List T) (i:Nat) (x:mK) (t:T),l[k]? =some t->m (i+k)=false->(∀j u,k < j->l[j]? =some u->m (i+j)=true->uF t s-> ¬uF u s)->
  get (fL jH (fun j=>m j||j == i+k) i l x) s=get (jH t (fL jH m i l x)) s
 | [],i,x,t,aa,_,_=>by simp at aa
 |u::l,i,x,t,aa,aA,ak=>by
  unfold fL
  match k with
  |0=>
   simp only[ar3,aq4] at aa;subst aa;rw[aw3] at aA;simp only[aw3,aA,BEq.rfl,Bool.or_true,if_true,Bool.false_eq_true,if_false]
   by_cases cq:uF u s
   .
    have ae: ∀y,get (fL jH (fun j=>m j||j == i) (i+1) l y) s=get (fL jH (fun _=>false) (i+1) l y) s:=fun y=>
     zH get jH uF E G _ _ s l (i+1) y y (fun j v V ay=>by
      have a7:(i+1+j == i)=false:=by rw[beq_eq_false_iff_ne];omega
      rw[a7,Bool.or_false]
      cases nX:m (i+1+j) with
      |false=>rfl
      |true=>exact absurd ay (ak (j+1) v ay4 aA5 (by rw[show i+(j+1)=i+1+j by omega];exact nX) cq)) rfl
    have ao: ∀y,get (fL jH m (i+1) l y) s=get (fL jH (fun _=>false) (i+1) l y) s:=fun y=>
     zH get jH uF E G _ _ s l (i+1) y y (fun j v V ay=>by
      cases nX:m (i+1+j) with
      |false=>rfl
      |true=>exact absurd ay (ak (j+1) v ay4 aA5 (by rw[show i+(j+1)=i+1+j by omega];exact nX) cq)) rfl
    have bm: ∀(l:List T) (i:Nat) (y:mK),fL jH (fun _=>false) i l y=y:=fun l=>by
     induction l with
     |nil=>exact fun _ _=>rfl
     |cons v l bq=>intro i y;unfold fL;simp[bq]
    rw[ae,bm];exact G u x _ s (by rw[ao,bm])
   .rw[E u _ s cq]
    exact zH get jH uF E G _ _ s l (i+1) _ _ (fun j v V ay=>by
     have a7:(i+1+j == i)=false:=by rw[beq_eq_false_iff_ne];omega
     rw[a7,Bool.or_false]) (E u x s cq)
  |k+1=>
   have a7:(i == i+(k+1))=false:=by rw[beq_eq_false_iff_ne];omega
   simp only[a7,Bool.or_false];have:=JW m k s l (i+1) (if m i=true then jH u x else x) t (by simpa using aa) (by rw[show i+1+k=i+(k+1) by omega];exact aA) (fun j v V ay aag cq=>ak (j+1) v ay4 aA6 (by rw[show i+(j+1)=i+1+j by omega];exact aag) cq);rw[<-this]
   have e:(fun j=>m j||j == i+1+k)=(fun j=>m j||j == i+(k+1)):=by
    funext j
    rw[show i+1+k=i+(k+1) by omega]
   rw[e]
end fold
section
variable {P:Program} {aS:dg} {N:Nat} {ids:aC4}
abbrev hK:=Oper×k3
def hL (t:hK) (K:aY):aY:=mD t.1.dst t.2.v K
def jI (t:hK) (B:az):az:=hk t.2.e.iH B
def Fx (t:hK) (s:Nat):Prop:=t.1.dst=some s
def Qx (t:hK) (s:Nat):Prop:=s∈E0 t.2.e
theorem Qy (t:hK) (K:aY) (s:Nat) (h: ¬Fx t s):dI (hL t K) s=dI K s:=by
 unfold hL mD;unfold Fx at h
 split
 .rename_i d e;rw[kD,if_neg (fun x=>h (by rw[e,x]))]
 .rfl
theorem Qz (t:hK) (K K':aY) (s:Nat) (h:dI K s=dI K' s):dI (hL t K) s=dI (hL t K') s:=by
 unfold hL mD
 split
 .rw[kD,kD,h]
 .exact h
theorem Fy: ∀(l:List (Nat×Option ba)) (B B':az) (s:Nat),ag B s=ag B' s->ag (hk l B) s=ag (hk l B') s
 | [],B,B',s,h=>h
 |(c,none)::l,B,B',s,h=>Fy l _ _ s (by rw[hA,hA,h])
 |(c,some ch)::l,B,B',s,h=>Fy l _ _ s (by rw[cd,cd,h])
theorem Fz: ∀(l:List (Nat×Option ba)) (B:az) (s:Nat),s∉l.map (·.1)->ag (hk l B) s=ag B s
 | [],B,s,h=>rfl
 |(c,none)::l,B,s,h=>by
  simp only[ar4,aq5,not_or] at h;unfold hk;rw[Fz l _ s h.2,hA,if_neg (Ne.symm h.1)]
 |(c,some ch)::l,B,s,h=>by
  simp only[ar4,aq5,not_or] at h;unfold hk;rw[Fz l _ s h.2,cd,if_neg (Ne.symm h.1)]
theorem e2.congr {C:fg} {K K':aY} {B B':az} {a:Act} {w:World} (cV: ∀s,dI K' s=dI K s) (c5: ∀c,ag B' c=ag B c) (h:e2 N ids C K B a w):e2 N ids C K' B' a w:=by
 obtain⟨E,G,ρ,F,aj,ar⟩:=h
 have a8:bX C B' F w=bX C B F w:=by
  funext b
  simp only[bX,c5]
 refine⟨E,G,ρ,F,⟨aj.fr,fun c ch J=>?_,fun c ch J=>aj.own c ch (by rw[<-c5];exact J),fun c b9 ch ch' b J cK=>aj.fh c b9 ch ch' b (by rw[<-c5];exact J) (by rw[<-c5];exact cK),aj.eI,aj.k0⟩,fun s=>?_⟩
 .rw[a8];exact aj.holds c ch (by rw[<-c5];exact J)
 .rw[a8,cV];exact ar s
def FA (P:Program) (N:Nat) (ids:aC4) (all:List Oper) (t:hK) (K:aY) (B:az):Prop:=
 (um all K t.1.guard=some false/\t.2.v= .undef/\t.2.e=bF)\/(um all K t.1.guard=some true/\bA P N ids t.1 K B t.2.v t.2.e/\ ∀c,c∈t.2.e.bb->g6 ids K B c=true)
theorem bA.lit {o:Oper} {K:aY} {B:az} {b:Bool} {e:fP} (h:bA P N ids o K B (.c (.one (.d (.bool b)))) e):bA P N ids o K B (.c (.one (.d (.lit b)))) e:=by
 intro K' B' g1 g2 cX C a w aw bt fJ Q cV;refine h K' B' g1 g2 cX C a w aw bt fJ Q fun a' w' d6=>cV a' w' ?_
 cases H:o.dst with
 |none=>rw[H] at d6;exact d6
 |some d=>rw[H] at d6;exact d6.lit
theorem bA.any {o:Oper} {K:aY} {B:az} {v df:aP} {e:fP} (H:o.dst=none) (h:bA P N ids o K B v e):bA P N ids o K B df e:=by
 intro K' B' g1 g2 cX C a w aw bt fJ Q cV;refine h K' B' g1 g2 cX C a w aw bt fJ Q fun a' w' d6=>cV a' w' ?_
 rw[H] at d6⊢;exact d6
def B9 (P:Program) (N:Nat) (ids:aC4) (all:List Oper):List hK->aY->az->Prop
 | [],_,_=>True
 |t::l,K,B=>FA P N ids all t K B/\B9 P N ids all l (hL t K) (jI t B)
def runK:List hK->aY->aY
 | [],K=>K
 |t::l,K=>runK l (hL t K)
def zI:List hK->az->az
 | [],B=>B
 |t::l,B=>zI l (jI t B)
theorem QA (bl:ec P aS) (all:List Oper): ∀(l:List Oper) (i:Nat) (K:aY) (B:az) (gr:List k3) (k:aY->az->List k3->Prop),th P aS ids all i l K B gr k->
  ∃cv:List hK,cv.map (·.1)=l/\B9 P N ids all cv K B/\k (runK cv K) (zI cv B) ((cv.map (·.2)).reverse++gr)
 | [],i,K,B,gr,k,h=>⟨[],rfl,trivial,h⟩
 |o::l,i,K,B,gr,k,h=>by
  have rh: ∀(n:k3),FA P N ids all (o,n) K B->th P aS ids all (i+1) l (hL (o,n) K) (jI (o,n) B) (n::gr) k-> ∃cv:List hK,cv.map (·.1)=o::l/\B9 P N ids all cv K B/\k (runK cv K) (zI cv B) ((cv.map (·.2)).reverse++gr):=fun n hn ay=>by
   obtain⟨cv,E,G,af⟩:=QA bl all l (i+1) _ _ _ k ay;exact⟨(o,n)::cv,by simp[E],⟨hn,G⟩,by simpa[runK,zI] using af⟩
  rw[Ps] at h;unfold EY at h;simp only[IN] at h
  split at h
  .exact h.elim
  .rename_i hw
   split at h
   .rename_i d e;exact rh ⟨i,.undef,bF⟩ (.inl ⟨hw,rfl,rfl⟩) (by simpa[hL,jI,mD,e,hk] using h)
   .rename_i e;exact rh ⟨i,.undef,bF⟩ (.inl ⟨hw,rfl,rfl⟩) (by simpa[hL,jI,mD,e,hk] using h)
  .rename_i hw;obtain⟨v,e,h,ap,hf⟩:=JJ (N:=N) bl h
   split at h
   .rename_i ao;exact rh ⟨i,.undef,e⟩ (.inr ⟨hw,bA.any ao ap,hf⟩) (by simpa[hL,jI,mD,ao] using h)
   .rename_i d ao
    split at h
    .rename_i b aZ
     cases b with
     |true=>exact rh ⟨i,.c (.one (.d (.lit true))),e⟩ (.inr ⟨hw,ap.lit,hf⟩) (by simpa[hL,jI,mD,ao] using h.1 rfl)
     |false=>exact rh ⟨i,.c (.one (.d (.lit false))),e⟩ (.inr ⟨hw,ap.lit,hf⟩) (by simpa[hL,jI,mD,ao] using h.2 rfl)
    .exact rh ⟨i,_,e⟩ (.inr ⟨hw,ap,hf⟩) (by simpa[hL,jI,mD,ao] using h)
theorem QB {all:List Oper}: ∀(cv:List hK) (i:Nat) (K:aY) (B:az),B9 P N ids all cv K B-> ∀(p:Nat) (t:hK),cv[p]? =some t->FA P N ids all t (fL hL (fun j=>decide (j < i+p)) i cv K) (fL jI (fun j=>decide (j < i+p)) i cv B)
 | [],i,K,B,_,p,t,ai=>by simp at ai
 |u::cv,i,K,B,h,0,t,ai=>by
  simp only[ar3,aq4] at ai;subst ai
  have bm: ∀{mK:Type} (jH:hK->mK->mK) (l:List hK) (q:Nat) (y:mK),i<=q->fL jH (fun j=>decide (j < i+0)) q l y=y:=fun {mK} jH l=>by
   induction l with
   |nil=>exact fun _ _ _=>rfl
   |cons v l bq=>
    intro q y aT;unfold fL;rw[bq (q+1) _ ay4];simp only[as5];rw[if_neg ay4]
  rw[bm hL _ i K (aq0 _),bm jI _ i B (aq0 _)];exact h.1
 |u::cv,i,K,B,h,p+1,t,ai=>by
  have:=QB cv (i+1) _ _ h.2 p t (by simpa using ai);unfold fL;simp only[as5];rw[if_pos ay4,if_pos ay4];rw[show i+(p+1)=i+1+p by omega];exact this
theorem QC: ∀(cv:List hK) (i:Nat) (m:Nat->Bool) (K:aY),(∀j,j < cv.length->m (i+j)=true)->runK cv K=fL hL m i cv K
 | [],_,_,_,_=>rfl
 |t::cv,i,m,K,h=>by
  unfold runK fL;rw[if_pos (by simpa using h 0 ay6)];exact QC cv (i+1) m _ fun j V=>by rw[show i+1+j=i+(j+1) by omega];exact h (j+1) aA5
theorem QD: ∀(cv:List hK) (i:Nat) (m:Nat->Bool) (B:az),(∀j,j < cv.length->m (i+j)=true)->zI cv B=fL jI m i cv B
 | [],_,_,_,_=>rfl
 |t::cv,i,m,B,h=>by
  unfold zI fL;rw[if_pos (by simpa using h 0 ay6)];exact QD cv (i+1) m _ fun j V=>by rw[show i+1+j=i+(j+1) by omega];exact h (j+1) aA5
theorem QE {c:Nat}: ∀(cv:List hK) (i:Nat) (m:Nat->Bool) (K:aY),ui c K=true->(∀(j:Nat) (t:hK),cv[j]? =some t->m (i+j)=true->named t.2 c=false)->ui c (fL hL m i cv K)=true
 | [],_,_,_,h,_=>h
 |t::cv,i,m,K,h,aA=>by
  unfold fL;refine QE cv (i+1) m _ ?_ fun j u V a6=>aA (j+1) u aA5 (by rw[show i+(j+1)=i+1+j by omega];exact a6)
  split
  .rename_i aF;have:=aA 0 t rfl (by simpa using aF);simp only[named,au4] at this;unfold hL mD
   split
   .simp[ui,this.1,h]
   .exact h
  .exact h
theorem JX {c:Nat}: ∀(B:az) (d:Nat),kF c B=true->kF c (gS B d)=true
 | [],d,h=>h
 |(t,v)::B,d,h=>by
  simp only[kF,vj] at h;unfold gS
  split
  .exact JX B d h.2
  .simp[kF,h.1,JX B d h.2]
theorem JY {c:Nat}: ∀(l:List (Nat×Option ba)) (B:az),zp c l=false->kF c B=true->kF c (hk l B)=true
 | [],B,_,h=>h
 |(d,none)::l,B,ak,h=>by
  simp only[zp,au4] at ak;exact JY l _ ak.2 (JX B d h)
 |(d,some ch)::l,B,ak,h=>by
  simp only[zp,au4] at ak;exact JY l _ ak.2 (by simp[kF,ak.1.1,ak.1.2,h])
theorem QF {c:Nat}: ∀(cv:List hK) (i:Nat) (m:Nat->Bool) (B:az),kF c B=true->(∀(j:Nat) (t:hK),cv[j]? =some t->m (i+j)=true->named t.2 c=false)->kF c (fL jI m i cv B)=true
 | [],_,_,_,h,_=>h
 |t::cv,i,m,B,h,aA=>by
  unfold fL;refine QF cv (i+1) m _ ?_ fun j u V a6=>aA (j+1) u aA5 (by rw[show i+(j+1)=i+1+j by omega];exact a6)
  split
  .rename_i aF;have:=aA 0 t rfl (by simpa using aF);simp only[named,au4] at this;exact JY _ _ this.2 h
  .exact h
def xJ (all:List Oper) (m:Nat->Bool):Prop:= ∀(j:Nat) (o:Oper),all[j]? =some o->m j=true-> ∀d∈qe o,m d=true
theorem QG (all:List Oper): ∀(l Ca:List Oper) (acc:List aC4),all=Ca++l->acc.length=Ca.length->(∀j a,a∈acc.getD j []-> ∀m,xJ all m->m j=true->m a=true)-> ∀j a,a∈(zn l acc).getD j []-> ∀m,xJ all m->m j=true->m a=true
 | [],Ca,acc,_,_,h=>h
 |o::l,Ca,acc,U,ak,h=>by
  unfold zn;refine QG all l (Ca++[o]) _ aB8 (by simp[ak]) ?_;intro j a ha m aA V;rw[aq3] at ha;rcases Nat.lt_trichotomy j acc.length with bt |sk |uw
  .rw[as6 bt,<-aq3] at ha;exact h j a ha m aA V
  .subst sk;rw[at1 (aq0 _)] at ha;simp only[Nat.sub_self,ar3,av9,as1,List.mem_flatMap] at ha;have ah:all[acc.length]? =some o:=by rw[U,ak];simp
   rcases ha with ha |⟨d,H,ha⟩
   .exact aA _ o ah V a ha
   .exact h d a ha m aA (aA _ o ah V d H)
  .rw[ax1 az8] at ha;simp at ha
theorem JZ {all:List Oper} {an:List aC4}: ∀(L:List (Oper×k3×Nat)),uo all an L=true-> ∀(i j:Nat) (x y:Oper×k3×Nat),i < j->L[i]? =some x->L[j]? =some y->((an.getD y.2.2 []).contains x.2.2&& !y.2.1.e.bb.any (named x.2.1)||apart all x.1 y.1 x.2.1 y.2.1)=true
 | [],_,i,j,x,y,_,hx,_=>by simp at hx
 |aB::L,h,0,j+1,x,y,_,hx,aD=>by
  simp only[ar3,aq4] at hx;subst hx;obtain⟨o,n,i⟩:=aB;simp only[uo,vj] at h;have:=as4.1 h.1 y (au5 (by simpa using aD));obtain⟨p,m,rj⟩:=y;exact this
 |aB::L,h,i+1,j+1,x,y,bt,hx,aD=>by
  obtain⟨o,n,k⟩:=aB;simp only[uo,vj] at h;exact JZ L h.2 i j x y ay4 aB9 (by simpa using aD)
 |aB::L,h,i,0,x,y,bt,hx,aD=>by omega
theorem zJ {a b:aC4} (h:zo a b=false) {x:Nat} (E:x∈a) (G:x∈b):False:=by
 unfold zo at h;rw[List.any_eq_false] at h;have:=h x E;simp at this;exact this G
theorem QH {a:aC4} {f:Nat->Bool} (h:a.any f=false) {x:Nat} (E:x∈a):f x=false:=by
 rw[List.any_eq_false] at h;simpa using h x E
theorem aah {all:List Oper} {lJ:aY} {mL:az} {cv:List hK} (iV:cv.map (·.1)=all) (dB:B9 P N ids all cv lJ mL) (eb:vT lJ mL all ((cv.map (·.2)).reverse++[])=true) {m:Nat->Bool} (aA:xJ all m) {i:Nat} {t:hK} (aF:cv[i]? =some t) (zK:m i=false) (FB: ∀d∈qe t.1,m d=true):
  FA P N ids all t (fL hL m 0 cv lJ) (fL jI m 0 cv mL)/\(∀s,dI (fL hL (fun j=>m j||j == i) 0 cv lJ) s=dI (hL t (fL hL m 0 cv lJ)) s)/\(∀s,ag (fL jI (fun j=>m j||j == i) 0 cv mL) s=ag (jI t (fL jI m 0 cv mL)) s)/\
  (∀d∈qe t.1,d < i):=by
 simp only[vT,at6,List.reverse_reverse,vj] at eb;obtain⟨⟨aai,qm⟩,QI⟩:=eb;have uG: ∀(j:Nat) (u:hK),cv[j]? =some u->all[j]? =some u.1:=fun j u V=>by rw[<-iV,as0,V];rfl
 have cL: ∀(j:Nat) (u:hK),cv[j]? =some u->(((all.zip (cv.map (·.2))).zipIdx).map fun((o,n),i)=>(o,n,i))[j]? =some (u.1,u.2,j):=fun j u V=>by
  have aN:(all.zip (cv.map (·.2)))[j]? =some (u.1,u.2):=by
   rw[List.getElem?_zip_eq_some];exact⟨uG j u V,by rw[as0,V];rfl⟩
  rw[as0,List.getElem?_zipIdx,aN];simp
 have aaj: ∀d∈qe t.1,d < i:=fun d H=>by
  have lm:(t.1,i)∈all.zipIdx:=by
   rw[List.mem_iff_getElem?];exact⟨i,by rw[List.getElem?_zipIdx,uG i t aF];simp⟩
  have:=as4.1 aai _ lm;have:=as4.1 this d H;simpa[Nat.blt_eq] using this
 have QJ:=QG all all [] [] ay6 rfl (fun j a ha=>by simp at ha)
 have aak:xJ all (fun j=>m j||j == i):=fun j o ah V d H=>by
  simp only[av5,beq_iff_eq] at V⊢;rcases V with V |rfl
  .exact .inl (aA j o ah V d H)
  .rw[uG j t aF] at ah;injection ah with ah
   subst ah;exact .inl (FB d H)
 have J0: ∀(j:Nat) (u:hK),cv[j]? =some u->j < i->(apart all u.1 t.1 u.2 t.2=true\/m j=true)/\t.2.e.bb.any (named u.2)=false:=fun j u V bt=>by
  have:=JZ _ QI j i _ _ bt (cL j u V) (cL i t aF);simp only[av5,vj,Bool.not_eq_true',as7] at this;rcases this with⟨E,G⟩ |h
  .refine⟨.inr ?_,G⟩;have:=QJ i j E _ aak ay6;simp only[av5,beq_iff_eq] at this;rcases this with h |h
   .exact h
   .omega
  .refine⟨.inl h,?_⟩;simp only[apart,vj,Bool.not_eq_true'] at h;exact h.2
 have Cb: ∀(j:Nat) (u:hK),cv[j]? =some u->i < j->apart all t.1 u.1 t.2 u.2=true\/m j=false:=fun j u V bt=>by
  have:=JZ _ QI i j _ _ bt (cL i t aF) (cL j u V);simp only[av5,vj,as7] at this;rcases this with⟨E,_⟩ |h
  .right
   cases nX:m j with
   |false=>rfl
   |true=>have:=QJ j i E m aA nX;rw[zK] at this;cases this
  .exact .inl h
 have QK: ∀s,s∈EZ all t.1->dI (fL hL m 0 cv lJ) s=dI (fL hL (fun j=>decide (j < 0+i)) 0 cv lJ) s:=fun s aw=>
  zH dI hL Fx Qy Qz _ _ s cv 0 lJ lJ (fun j u V a6=>by
   rw[au1,au1];have QL:s∈u.1.dst.toList:=by rw[show u.1.dst=some s from a6];simp
   rcases Nat.lt_trichotomy j i with h |h |h
   .simp only[h,decide_true];refine((J0 j u V h).1).resolve_left fun ha=>?_
    simp only[apart,vj,Bool.not_eq_true'] at ha;exact zJ ha.1.1.1.1.1 QL (List.mem_append_left _ aw)
   .subst h;simp[zK]
   .rw[show decide (j < i)=false by simp;omega];refine(Cb j u V h).resolve_left fun ha=>?_
    simp only[apart,vj,Bool.not_eq_true'] at ha;exact zJ ha.1.1.1.1.2 QL aw) rfl
 have aal: ∀c,c∈t.2.e.jg->ag (fL jI m 0 cv mL) c=ag (fL jI (fun j=>decide (j < 0+i)) 0 cv mL) c:=fun c J=>
  zH ag jI Qx (fun t x s h=>Fz _ _ _ h) (fun t x y s h=>Fy _ _ _ _ h) _ _ c cv 0 mL mL (fun j u V a6=>by
   rw[au1,au1];rcases Nat.lt_trichotomy j i with h |h |h
   .simp only[h,decide_true];refine((J0 j u V h).1).resolve_left fun ha=>?_
    simp only[apart,vj,Bool.not_eq_true'] at ha;exact zJ ha.1.1.1.2 a6 (List.mem_append_left _ J)
   .subst h;simp[zK]
   .rw[show decide (j < i)=false by simp;omega];refine(Cb j u V h).resolve_left fun ha=>?_
    simp only[apart,vj,Bool.not_eq_true'] at ha;exact zJ ha.1.1.2 a6 J) rfl
 refine⟨?_,fun s=>?_,fun s=>?_,aaj⟩
 .have wd:=QB cv 0 lJ mL dB i t aF
  have hw:um all (fL hL m 0 cv lJ) t.1.guard=um all (fL hL (fun j=>decide (j < 0+i)) 0 cv lJ) t.1.guard:=by
   unfold um
   cases aZ:t.1.guard with
   |none=>rfl
   |some p=>
    obtain⟨j,want⟩:=p;simp only
    cases aw:BH all j with
    |none=>rfl
    |some s=>
     simp only;rw[QK s (by unfold EZ;rw[aZ];simp[aw])]
  rcases wd with⟨E,G,af⟩ |⟨E,G,af⟩
  .exact .inl ⟨hw.trans E,G,af⟩
  .refine .inr ⟨hw.trans E,?_,fun c J=>?_⟩
   .intro K' B' g1 g2 cX;refine G K' B' (fun x hx=>(g1 x hx).trans ?_) (fun c J=>(g2 c J).trans (aal c J)) cX
    cases x with
    |tmp s=>exact QK s (List.mem_append_left _ (List.mem_filterMap.2 ⟨.tmp s,by simpa using hx,rfl⟩))
    |_=>rfl
   .have hf:=af c J;simp only[g6,vj] at hf⊢;have xy:=as4.1 qm t.2 (as9.2 ⟨t,au5 aF,rfl⟩);have xy:=as4.1 xy c J;simp only[vj] at xy
    have fU: ∀(j:Nat) (u:hK),cv[j]? =some u->m (0+j)=true->named u.2 c=false:=fun j u V nX=>by
     rw[au1] at nX;rcases Nat.lt_trichotomy j i with h |h |h
     .exact QH (J0 j u V h).2 J
     .subst h;rw[zK] at nX;cases nX
     .rcases Cb j u V h with ha |ha
      .simp only[apart,vj,Bool.not_eq_true'] at ha;exact QH ha.1.2 J
      .rw[nX] at ha;cases ha
    exact⟨⟨QE cv 0 m lJ xy.1 fU,QF cv 0 m mL xy.2 fU⟩,hf.2⟩
 .have:=JW dI hL Fx Qy Qz m i s cv 0 lJ t aF (by simpa using zK) (fun j u bt V nX E G=>by
   rw[au1] at nX;rcases Cb j u V bt with ha |ha
   .simp only[apart,vj,Bool.not_eq_true'] at ha;exact zJ (x:=s) ha.1.1.1.1.1 (by rw[show t.1.dst=some s from E];simp) (List.mem_append_right _ (by rw[show u.1.dst=some s from G];simp))
   .rw[nX] at ha;cases ha)
  simpa using this
 .have:=JW ag jI Qx (fun t x s h=>Fz _ _ _ h) (fun t x y s h=>Fy _ _ _ _ h) m i s cv 0 mL t aF (by simpa using zK) (fun j u bt V nX E G=>by
   rw[au1] at nX;rcases Cb j u V bt with ha |ha
   .simp only[apart,vj,Bool.not_eq_true'] at ha;exact zJ ha.1.1.1.2 E (List.mem_append_right _ G)
   .rw[nX] at ha;cases ha)
  simpa using this
theorem zL (bl:ec P aS):zC P aS N ids:=by
 intro id c' lJ mL k H aam h C a w aw rd Q Cc;refine wpIn_region_any aam ?_;obtain⟨cv,iV,dB,eb,aa⟩:=QA (N:=N) bl c'.toList c'.toList 0 lJ mL [] _ h
 have bV:cv.length=c'.size:=by
  have:=congrArg List.length iV;simpa using this
 have uG: ∀(j:Nat) (u:hK),cv[j]? =some u->c'.toList[j]? =some u.1:=fun j u V=>by rw[<-iV,as0,V];rfl
 have QM: ∀(j:Nat) (u:hK),cv[j]? =some u->(∀d,u.1.dst=some d->d < N)/\ ∀c,u.1.op≠ .defer c:=fun j u V=>by
  have key: ∀(l:List Oper),tu N l=true-> ∀o∈l,(∀d,o.dst=some d->d < N)/\ ∀c,o.op≠ .defer c:=fun l=>by
   induction l with
   |nil=>intro _ o ah;cases ah
   |cons x l bq=>
    intro hx o ah;simp only[tu,vj] at hx;rcases aq5.1 ah with rfl |ah
    .exact⟨fun d H=>by have hx:=hx.1.1;rw[H] at hx;simpa[Nat.blt_eq] using hx,JL hx.1.2⟩
    .exact bq hx.2 o ah
  exact key _ H u.1 (au5 (uG j u V))
 have bt: ∀(j:Nat) (u:hK),cv[j]? =some u-> ∀d,u.1.dst=some d->d < N:=fun j u V=>(QM j u V).1
 have si: ∀(fuel:Nat) (gx:Array Bool) (a:Act) (w:World),gx.size=c'.size->gx.toList.count false<=fuel->xJ c'.toList (fun j=>gx.getD j false)->
   e2 N ids C (fL hL (fun j=>gx.getD j false) 0 cv lJ) (fL jI (fun j=>gx.getD j false) 0 cv mL) a w->wpAnyIn (oQ rd) 0 P .any c' Q fuel gx a w:=by
  intro fuel
  have done: ∀(gx:Array Bool) (a:Act) (w:World),gx.size=c'.size->(∀j,j < c'.size->gx.getD j false=true)->e2 N ids C (fL hL (fun j=>gx.getD j false) 0 cv lJ) (fL jI (fun j=>gx.getD j false) 0 cv mL) a w->Q .normal a w:=fun gx a w cC Cd d6=>by
   rw[<-QC cv 0 _ lJ (fun j V=>by simpa using Cd j ay4),<-QD cv 0 _ mL (fun j V=>by simpa using Cd j ay4)] at d6;exact Cc _ _ aa a w d6
  have aan: ∀(gx:Array Bool),gx.size=c'.size->xJ c'.toList (fun j=>gx.getD j false)->Region.ready .any c' gx=[]-> ∀j,j < c'.size->gx.getD j false=true:=fun gx cC dH ax=>by
   intro j
   induction j using Nat.strongRecOn with
   |_ j bq=>
    intro V;obtain⟨u,a6⟩: ∃u,cv[j]? =some u:=⟨_,oj ay4⟩
    cases we:gx.getD j false with
    |true=>rfl
    |false=>
     exfalso
     have lm:j∈Region.ready .any c' gx:=by
      unfold Region.ready;rw[ax3];refine⟨List.mem_range.2 V,?_⟩
      have sb:gx.getD j true=false:=by
       rw[Array.getD_eq_getD_getElem?] at we⊢;rw[Array.getElem?_eq_getElem ay4] at we⊢;simpa using we
      have ah:c'[j]? =some u.1:=by simpa using uG j u a6
      simp only[sb,Bool.not_false,Bool.true_and,ah,av4,av9];rw[Array.all_eq_true_iff_forall_mem];intro e U
      cases O:Region.binds .any e with
      |false=>rfl
      |true=>
       simp only[Bool.not_true,Bool.false_or]
       have eE:e.on∈qe u.1:=by
        unfold qe;exact as9.2 ⟨e,ax3.2 ⟨by simpa using U,O⟩,rfl⟩
       have J1:e.on < j:=by
        have d1:=eb;simp only[vT,at6,List.reverse_reverse,vj] at d1
        have lm:(u.1,j)∈c'.toList.zipIdx:=by
         rw[List.mem_iff_getElem?];exact⟨j,by rw[List.getElem?_zipIdx,uG j u a6];simp⟩
        have:=as4.1 d1.1.1 _ lm;have:=as4.1 this _ eE;simpa[Nat.blt_eq] using this
       exact bq e.on J1 ay4
     rw[ax] at lm
     cases lm
  induction fuel with
  |zero=>
   intro gx a w cC J dH d6
   have Cd: ∀j,j < c'.size->gx.getD j false=true:=fun j V=>by
    cases we:gx.getD j false with
    |true=>rfl
    |false=>
     exfalso
     have lm:false∈gx.toList:=by
      rw[Array.getD_eq_getD_getElem?,Array.getElem?_eq_getElem ay4] at we;simp only[av9] at we;rw[<-we];simp
     have:=List.count_pos_iff.2 lm;omega
   refine⟨?_,done gx a w cC Cd d6⟩;unfold Region.ready;rw[List.filter_eq_nil_iff];intro j V;have V:=List.mem_range.1 V;have:=Cd j V;rw[Array.getD_eq_getD_getElem?,Array.getElem?_eq_getElem ay4] at this;simp only[av9] at this;simp[Array.getElem?_eq_getElem (show j < gx.size by omega),this]
  |succ fuel bq=>
   intro gx a w cC J dH d6;refine⟨fun ax=>done gx a w cC (aan gx cC dH ax) d6,fun i aF=>?_⟩;obtain⟨QN,o,ah,aao⟩:=mem_ready.1 aF;have ap5:i < c'.size:=(aw5.1 ah).1;obtain⟨t,cq⟩: ∃t,cv[i]? =some t:=⟨_,oj ay4⟩
   have aap:o=t.1:=by
    have:=uG i t cq;rw[Array.getElem?_toList,ah] at this;injection this
   subst aap
   have J2:gx.getD i false=false:=by
    rw[Array.getD_eq_getD_getElem?,Array.getElem?_eq_getElem ay4] at QN⊢;simpa using QN
   have FB: ∀d∈qe t.1,gx.getD d false=true:=fun d H=>by
    unfold qe at H;obtain⟨e,U,rfl⟩:=as9.1 H;obtain⟨jk,gE⟩:=ax3.1 U;exact aao e (by simpa using jk) gE
   obtain⟨wd,aaq,aar,_⟩:=aah (m:=fun j=>gx.getD j false) iV dB eb dH cq J2 FB
   have gV:(fun j=>(gx.setIfInBounds i true).getD j false)=(fun j=>(gx.getD j false||j == i)):=by
    funext j
    by_cases e:j=i
    .subst e;simp[Array.getElem?_setIfInBounds,show j < gx.size by omega]
    .simp[Array.getElem?_setIfInBounds,Ne.symm e,e]
   have aas:xJ c'.toList (fun j=>(gx.setIfInBounds i true).getD j false):=by
    rw[gV];intro j o' td V d H;simp only[av5,beq_iff_eq] at V⊢;rcases V with V |rfl
    .exact .inl (dH j o' td V d H)
    .rw[uG j t cq] at td;injection td with td
     subst td;exact .inl (FB d H)
   have aat:(gx.setIfInBounds i true).toList.count false<=fuel:=by
    rw[Array.toList_setIfInBounds,List.count_set az8]
    have mG:gx.toList[i]'az8=false:=by
     rw[Array.getD_eq_getD_getElem?,Array.getElem?_eq_getElem ay4] at J2;simpa using J2
    rw[mG];simp only[BEq.rfl,if_true,show(true == false)=false from rfl,Bool.false_eq_true,if_false];omega
   have next: ∀a' w',e2 N ids C (hL t (fL hL (fun j=>gx.getD j false) 0 cv lJ)) (jI t (fL jI (fun j=>gx.getD j false) 0 cv mL)) a' w'->wpAnyIn (oQ rd) 0 P .any c' Q fuel (gx.setIfInBounds i true) a' w':=fun a' w' fS=>by
    refine bq _ a' w' (by simp[cC]) aat aas ?_;rw[gV];exact fS.congr aaq aar
   have aau:=d6;obtain⟨_,_,ρ,F,aj,ar⟩:=aau;unfold wpOpIn;simp only[ah];rcases wd with⟨hw,ay,U⟩ |⟨hw,ap,hf⟩
   .have Ce:=zB hw ar;simp only[Array.toArray_toList] at Ce;rw[if_neg (by rw[Ce];simp)];refine⟨fun _ _=>trivial,next _ _ ?_⟩;have:=d6.undef t.1.dst (bt i t cq);unfold hL jI;rw[ay,U];exact this
   .have Ce:=zB hw ar;simp only[Array.toArray_toList] at Ce;rw[if_pos Ce];exact B3 (QM i t cq).2 (ap _ _ (fun _ _=>rfl) (fun _ _=>rfl) hf C a w d6 (bt i t cq) _ Q fun a' w' fS=>next a' w' fS)
 refine si c'.size _ a _ ay6 (by simp[List.count_replicate]) (fun j o ah V=>?_) ?_
 .simp only[Array.getD_eq_getD_getElem?,Array.getElem?_replicate] at V
  split at V <;>simp at V
 .have aN:(fun j=>(Array.replicate c'.size false).getD j false)=fun _=>false:=by
   funext j
   rw[Array.getD_eq_getD_getElem?];simp only[Array.getElem?_replicate]
   split <;>rfl
  rw[aN]
  have bm: ∀{mK:Type} (jH:hK->mK->mK) (l:List hK) (q:Nat) (y:mK),fL jH (fun _=>false) q l y=y:=fun {mK} jH l=>by
   induction l with
   |nil=>exact fun _ _=>rfl
   |cons v l bq=>intro q y;unfold fL;simp[bq]
  rw[bm,bm];obtain⟨E,G,ρ,F,aj,ar⟩:=aw;obtain⟨bI,a1⟩:=aj.below (w':={w with drawn:=w.drawn+1}) (Yf w);exact⟨E,G,ρ,F,bI,ar.mono a1 fun _ _ _=>rfl⟩
end
end
section
def Cf (a b c:Nat):Nat:=match Nat.beq c a with
 |true=>b
 |false=>match Nat.beq c b with
  |true=>a
  |false=>c
theorem FC {a b:Nat} (h:a≠b):Nat.beq a b=false:=by rw[aw7];exact fun e=>h (aq6 e)
theorem QO (a b c:Nat):Cf a b (Cf a b c)=c:=by
 unfold Cf
 by_cases E:c=a
 .subst E;simp only[Nat.beq_refl]
  by_cases G:b=c
  .subst G;simp
  .simp[FC G]
 .simp only[FC E]
  by_cases G:c=b
  .subst G;simp
  .simp[FC G,FC E]
def eC:List (Nat×Nat)->Nat->Nat
 | [],c=>c
 |(a,b)::l,c=>eC l (Cf a b c)
def zM:List (Nat×Nat)->Nat->Nat
 | [],c=>c
 |(a,b)::l,c=>Cf a b (zM l c)
theorem FD: ∀(l:List (Nat×Nat)) (c:Nat),zM l (eC l c)=c
 | [],c=>rfl
 |(a,b)::l,c=>by simp only[eC,zM,FD l,QO]
theorem FE: ∀(l:List (Nat×Nat)) (c:Nat),eC l (zM l c)=c
 | [],c=>rfl
 |(a,b)::l,c=>by simp only[eC,zM,QO,FE l]
def ln:List (Nat×Nat)->List (Nat×Nat)->List (Nat×Nat)
 | [],acc=>acc
 |(a,b)::l,acc=>ln l (acc++[(eC acc a,b)])
section
variable (f:Nat->Nat)
def zN:List kZ->List kZ
 | []=>[]
 | .p c o::l=>.p (f c) o::zN l
 | .d x::l=>.d x::zN l
def bB.eC:bB->bB
 | .ptr c o=>.ptr (f c) o
 | .own c=>.own (f c)
 | .gc c s i o=>.gc (f c) s i o
 | .os c s o n=>.os (f c) s o n
 | .mp c=>.mp (f c)
 | .cY g l=>.cY g (zN f l)
 | .d x=>.d x
 | .el u x o=>.el u x o
 | .dK=>.dK
 | .bJ v=>.bJ v
 | .any=>.any
def zO:List bB->List bB
 | []=>[]
 |s::l=>s.eC f::zO l
def dP.eC:dP->dP
 | .one s=>.one (s.eC f)
 | .agg l=>.agg (zO f l)
 | .kh u x=>.kh u x
def FF:List dP->List dP
 | []=>[]
 |s::l=>s.eC f::FF l
def aP.eC:aP->aP
 | .c s=>.c (s.eC f)
 | .ci l=>.ci (FF f l)
 | .undef=>.undef
def xK:List aP->List aP
 | []=>[]
 |s::l=>s.eC f::xK l
def ba.eC:ba->ba
 | .cells l=>.cells (zO f l)
 | .row e u xs=>.row e u xs
 | .map aI aK es=>.map aI aK es
 | .val u x=>.val u x
 | .aG o=>.aG o
 | .b5 d o=>.b5 (f d) o
def kp:az->az
 | []=>[]
 |(c,ch)::B=>(f c,ch.eC f)::kp B
def zP:aC4->aC4
 | []=>[]
 |c::l=>f c::zP l
end
section
variable {f g:Nat->Nat} {ρ:Nat->bn} {I:Nat->Prop} {w:World}
theorem J3: ∀(l:List kZ) (aE:List Value),hW ρ I w (zN f l) aE=hW (fun c=>ρ (f c)) I w l aE
 | [],aE=>rfl
 | .p c o::l,aE=>by simp only[zN,hW,xh,J3 l]
 | .d x::l,aE=>by simp only[zN,hW,xh,J3 l]
theorem QP (s:bB) (v:Value):dY ρ I w (s.eC f) v=dY (fun c=>ρ (f c)) I w s v:=by
 cases s with
 |cY g l=>simp only[bB.eC,dY,J3]
 |_=>rfl
theorem J4: ∀(l:List bB) (aE:List Value),cc ρ I w (zO f l) aE=cc (fun c=>ρ (f c)) I w l aE
 | [],aE=>rfl
 |s::l,aE=>by simp only[zO,cc,QP,J4 l]
theorem QQ (s:dP) (v:Value):gC ρ I w (s.eC f) v=gC (fun c=>ρ (f c)) I w s v:=by
 cases s with
 |one s=>exact QP s v
 |agg l=>simp only[dP.eC,gC,J4]
 |kh u x=>rfl
theorem QR: ∀(l:List dP) (aE:List Value),iU ρ I w (FF f l) aE=iU (fun c=>ρ (f c)) I w l aE
 | [],aE=>rfl
 |s::l,aE=>by simp only[FF,iU,QQ,QR l]
theorem FG (s:aP) (v:Value):cw ρ I w (s.eC f) v=cw (fun c=>ρ (f c)) I w s v:=by
 cases s with
 |c s=>exact QQ s v
 |ci l=>simp only[aP.eC,cw,QR]
 |undef=>rfl
theorem Cg {F:Nat->Prop} {p:bn} (ch:ba):Holds ρ I F w p (ch.eC f)=Holds (fun c=>ρ (f c)) I F w p ch:=by
 cases ch with
 |cells l=>simp only[ba.eC,Holds,J4]
 |row e u xs=>rfl
 |map aI aK es=>rfl
 |val u x=>rfl
 |aG o=>rfl
 |b5 d o=>rfl
theorem Ch (aZ: ∀c,g (f c)=c): ∀(B:az) (c:Nat),ag (kp f B) (f c)=(ag B c).map (·.eC f)
 | [],c=>rfl
 |(d,ch)::B,c=>by
  simp only[kp];rw[cd,cd,Ch aZ B c]
  by_cases h:d=c
  .subst h;rw[if_pos rfl,if_pos rfl];rfl
  .rw[if_neg h,if_neg fun e=>h (by rw[<-aZ d,e,aZ])]
theorem J5: ∀(l:List aP),xK f l=l.map (·.eC f)
 | []=>rfl
 |s::l=>by simp only[xK,ar4,J5 l]
theorem J6: ∀(l:aC4) (c:Nat),c∈l->f c∈zP f l
 | [],c,h=>by cases h
 |d::l,c,h=>by
  rcases aq5.1 h with rfl |h
  .exact ar2
  .exact aq2 _ (J6 l c h)
end
theorem Fn.J7 {P:Program} {fn:FuncId} {f g:Nat->Nat} (aZ: ∀c,g (f c)=c) (hf: ∀c,f (g c)=c) {args:List aP} {aJ:az} {bb:aC4} {res:aP} {aO:az} (h:Fn P fn args aJ bb res aO):
  Fn P fn (xK f args) (kp f aJ) (zP f bb) (res.eC f) (kp f aO):=by
 refine⟨h.1,?_⟩;intro ρ F I w bU a8 cZ bh eE bV dy;have ma: ∀(B:az) c,ag (kp f B) (f c)=(ag B c).map (·.eC f):=Ch aZ;have oZ: ∀{B:az} {c ch},ag B c=some ch->ag (kp f B) (f c)=some (ch.eC f):=fun {B c ch} h=>by rw[ma,h];rfl
 have uH: ∀{B:az} {c ch},ag (kp f B) c=some ch-> ∃cz,ag B (g c)=some cz/\ch=cz.eC f:=fun {B c ch} h=>by
  have e:=ma B (g c);rw[hf,h] at e;obtain⟨cz,E,G⟩:=at3.1 e.symm;exact⟨cz,E,G.symm⟩
 rw[J5] at bV dy
 have J:=h.2 (fun c=>ρ (f c)) (fun c=>F (f c)) I w bU a8
  (fun c ch J=>by rw[<-Cg];exact cZ _ _ (oZ J))
  (fun c ch J=>bh _ _ (oZ J))
  (fun c b9 ch ch' b E G a7=>eE _ _ _ _ b (oZ E) (oZ G) fun e=>a7 (by rw[<-aZ c,e,aZ]))
  (by simpa using bV)
  (fun i v x ay hx=>by rw[<-FG];exact dy i _ x (by rw[as0,ay];rfl) hx)
 refine J.mono ?_;rintro e w' ⟨x,ρ',F',rfl,cy,dn,I',jk,gE,lK,ap,ic,hx⟩;have xL:(fun c=>ρ' (g (f c)))=ρ':=funext fun c=>by rw[aZ]
 refine⟨x,fun c=>ρ' (g c),fun c=>F' (g c),rfl,?_,?_,I',jk,?_,?_,?_,?_,?_⟩
 .exact cy.mono fun b _ ⟨c,ch,E,G⟩=>⟨f c,_,oZ E,G⟩
 .intro c J;show ρ' (g c)=ρ c;rw[dn (g c) (fun aA=>J (by have:=J6 (f:=f) _ _ aA;rwa[hf] at this)),hf]
 .intro b O;obtain⟨E,G⟩:=gE b O;refine⟨E,?_⟩;rcases G with G |⟨c,ch,G,af⟩ |G
  .exact .inl G
  .exact .inr (.inl ⟨f c,_,oZ G,af⟩)
  .exact .inr (.inr G)
 .intro c ch J;obtain⟨cz,E,rfl⟩:=uH J;rw[Cg,xL];exact lK _ _ E
 .intro c ch J b O;obtain⟨cz,E,rfl⟩:=uH J;obtain⟨cA,cF,dF⟩:=ap _ _ E b O;refine⟨cA,cF,?_⟩;rcases dF with⟨gT,cz,dF,fj⟩ |dF
  .exact .inl ⟨f gT,_,oZ dF,fj⟩
  .exact .inr dF
 .intro c b9 ch ch' b J cK a7;obtain⟨cz,E,rfl⟩:=uH J;obtain⟨i4,G,rfl⟩:=uH cK;exact ic _ _ _ _ b E G fun e=>a7 (by rw[<-hf c,e,hf])
 .rw[FG,xL];exact hx
theorem Fn.aV {P:Program} {fn:FuncId} (l:List (Nat×Nat)) {args:List aP} {aJ:az} {bb:aC4} {res:aP} {aO:az} (h:Fn P fn args aJ bb res aO):
  Fn P fn (xK (eC (ln l [])) args) (kp (eC (ln l [])) aJ) (zP (eC (ln l [])) bb) (res.eC (eC (ln l []))) (kp (eC (ln l [])) aO):=
 Fn.J7 (FD _) (FE _) h
end
end Go.Proofs.YtkfbeijmgggkmaaGreat
