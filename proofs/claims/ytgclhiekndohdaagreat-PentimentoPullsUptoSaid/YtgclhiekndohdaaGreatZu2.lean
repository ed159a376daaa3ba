/-
A part of the proof of this claim: lemmas, with no condition beyond what each says.
-/
import Derived.Deep.LoopGhost
import Derived.Orders
import Derived.OrdersIn
import Derived.TacticsIn
import Derived.Sort.LoopGhostIn
import Derived.RangeFuncRecord
import Derived.Scope
import Derived.Test.YtgclhiekndohdaaGreatRows
import Derived.Test.YtgclhiekndohdaaGreatProg
import Derived.Deep.Slices
import Derived.Deep.Fields
import Derived.OpenShut
import Derived.WalkKit
import Derived.ProofKit
import Derived.JoinedCond
import Derived.Below
import Derived.Carry
import Derived.ChangeSame
import Derived.Maps.RangeRun
import Derived.Test.YtgclhiekndohdaaGreatZu1
set_option linter.all false
set_option maxRecDepth 100000
set_option maxHeartbeats 0
namespace Go.Proofs.YtgclhiekndohdaaGreat
open Go.RowKit Go.Proofs _root_.Go.Proofs.Tryz Tryz
section
def ua (N:Nat):List Oper->Bool
 | []=>true
 |o::l=>(match o.dst with
  |some d=>Nat.blt d N
  |none=>true)&&(match o.op with
  | .defer _=>false
  |_=>true)&&ua N l
section
variable {P:aI0} {b:Frame} {a:Act} {k:List Item} {cs:List Frame} {w:aH9}
def Av {c:Code}:step P (lone (b.atR a (.code (.scope c)::k)) cs w)= .next (lone (b.atR a (.code c:: .inScope c::k)) cs w):=
 step_lone_go (by simp[stepG,stepG.exec,Frame.atR])
def abf {c:Code}:step P (lone (b.atR a (.inScope c::k)) cs w)= .next (lone (b.atR a k) cs w):=
 step_lone_go (by simp[stepG,stepG.exec,Frame.atR])
def abg {F:Fence} {n:Nat} {Q:Exit->Act->World->Prop} {c:Code} (h:c.wpIn F n P (Exit.noGoto Q) a w):(Code.scope c).wpIn F n P Q a w:=by
 intro b k cs abh O aj;have ar:(lone (b.atR a (.code (.scope c)::k)) cs w).fenced P F:=fenced_calm O aj rfl;obtain⟨e,C2,C3,a2,Aw⟩:=h b (.inScope c::k) cs abh O aj
 cases e with
 |normal=>exact⟨.normal,C2,C3,a2,.head ar Av (StepsIn.trans Aw (.one (fenced_calm O aj rfl) abf))⟩
 |exit id=>
  have hx:exitTo id (.inScope c::k)=exitTo id k:=by simp[exitTo]
  exact⟨.exit id,C2,C3,a2,fun ec Z=>.head ar Av (Aw.1 ec (by rw[hx];exact Z)),fun Kt Z=>let⟨k₁,E,G⟩:=Aw.2 Kt (by rw[hx];exact Z);⟨k₁,E,.head ar Av G⟩⟩
 |goto l=>exact a2.elim
 |ret=>exact⟨_,C2,C3,a2,.of_steps (.one ar Av) Aw⟩
 |panic ch=>exact⟨_,C2,C3,a2,.of_steps (.one ar Av) Aw⟩
 |outgrown=>exact⟨_,C2,C3,a2,.of_steps (.one ar Av) Aw⟩
end
def ja (P:aI0) (N:Nat):Code->Bool
 | .skip=>true
 | .region _ du u6=>ua N du.toList&&(!u6||P.follows .mixedOrders)
 | .seq a b=>ja P N a&&ja P N b
 | .cond _ x y=>ja P N x&&ja P N y
 | .block _ b=>ja P N b
 | .loop b=>ja P N b
 | .rangeFunc _ _ a b=>ja P N a&&ja P N b
 | .scope b=>ja P N b
 | .label _=>true
 | .exit _=>true
 | .ret=>true
 |_=>false
section
variable {P:aI0} {aQ:df} {N:Nat} {ids:aH4}
def C4 {du:Array Oper} {a:Act} {j s:Nat} (aw:(du[j]?).bind (·.dst)=some s) {v:aI8} (aB:a.tmps.getD s undef=v):
  (∀b,v= .bool b->yielded du a.tmps j=some b)/\((∀b,v≠ .bool b)->yielded du a.tmps j=none):=by
 unfold yielded;rw[aw];simp only[Option.bind_some]
 cases cq:a.tmps[s]? with
 |none=>
  have aB:v=undef:=by rw[<-aB];simp[cq]
  subst aB;exact⟨fun b O=>(by simp[undef] at O),fun _=>rfl⟩
 |some x=>
  have aB:v=x:=by rw[<-aB];simp[cq]
  subst aB;refine⟨fun b O=>by rw[O],fun h=>?_⟩
  cases v <;>first |rfl |exact at1 rfl (h _)
def abi {all:aJ0} {j s:Nat} (h:CK all j=some s):((all.toArray)[j]?).bind (·.dst)=some s:=by
 unfold CK at h;simp only[List.getElem?_toArray]
 split at h
 .rename_i o ai;rw[ai];exact h
 .cases h
def Ax {all:aJ0} {K:aW} {o:Oper} {t:Bool} (h:u4 all K o.guard=some t) {ρ:Nat->bp} {I:Nat->Prop} {a:Act} {w:aH9} (au:eo K ρ I a w):Region.wanted o (yielded all.toArray a.tmps)=t:=by
 unfold u4 at h;unfold Region.wanted
 split at h
 .rename_i aV;injection h with h
  simp[aV,h]
 .rename_i j want aV;simp only[aV]
  split at h
  .cases h
  .rename_i s aw;have aw:=abi aw;have aB:=au s
   split at h
   .rename_i al;rw[al] at aB;have:=(C4 (a:=a) aw (show a.tmps.getD s undef= .bool true from aB)).1 true rfl;injection h with h
    rw[this,<-h];rfl
   .rename_i al;rw[al] at aB;have:=(C4 (a:=a) aw (show a.tmps.getD s undef= .bool true from aB)).1 true rfl;injection h with h
    rw[this,<-h];rfl
   .rename_i al;rw[al] at aB;have:=(C4 (a:=a) aw (show a.tmps.getD s undef= .bool false from aB)).1 false rfl;injection h with h
    rw[this,<-h];rfl
   .rename_i al;rw[al] at aB;have:=(C4 (a:=a) aw (show a.tmps.getD s undef= .bool false from aB)).1 false rfl;injection h with h
    rw[this,<-h];rfl
   .rename_i al;rw[al] at aB;have:=(C4 (a:=a) aw (show a.tmps.getD s undef=undef from aB)).2 (by simp[undef]);injection h with h
    rw[this,<-h];simp
   .cases h
def e2.undef {C:fc} {K:aW} {B:ay} {a:Act} {w:aH9} (h:e2 N ids C K B a w) (d:aI4) (H: ∀e,d=some e->e < N):e2 N ids C (mT d .undef K) B (a.put d undef) w:=by obtain⟨E,G,ρ,F,ak,au⟩:=h;exact⟨kN.trans E,kO.trans G,ρ,F,ak,au.kP (fun e U=>by rw[E];exact H e U) rfl⟩
def e2.lit {C:fc} {K:aW} {B:ay} {a:Act} {w:aH9} {d:Nat} {b:Bool} (h:e2 N ids C ((d,.c (.one (.d (.bool b))))::K) B a w):e2 N ids C ((d,.c (.one (.d (.lit b))))::K) B a w:=by
 obtain⟨E,G,ρ,F,ak,au⟩:=h;refine⟨E,G,ρ,F,ak,fun s=>?_⟩;have:=au s;rw[kM] at this⊢
 split at this
 .rw[vj ‹_›];exact this
 .rw[mu ‹_›];exact this
def Q9 {n:Nat} {r:aI4} {f:aI9} {args:aJ6} {w:aH9} {bo:Ending->World->Prop} (h:Calls P f args w bo):CallsIn (oZ r) n P f args w bo:=(callsIn_wide (n:=n)).2 h
def Ra {n:Nat} {r:aI4} {f:aI9} {args:aJ6} {w:aH9} {bo:Ending->World->Prop} (h:CallsIn (oZ r) n P f args w bo):Calls P f args w bo:=(callsIn_wide (n:=n)).1 h
def abj {n:Nat} {r:aI4} {row:String} {args:aJ6} {w:aH9} {bo:Value->World->Prop} (h:Rows P row args w bo):RowsIn (oZ r) n P row args w bo:=fun c cs _=>by
 obtain⟨v,w',E,G⟩:=h c cs;exact⟨v,w',E,stepsIn_wide.2 G⟩
def Ku {o:Oper} (h:(match o.op with
 | .defer _=>false
 |_=>true)=true): ∀c,o.op≠ .defer c:=fun c e=>by rw[e] at h;cases h
def C5 {r:aI4} {o:Oper} (dL: ∀c,o.op≠ .defer c) {a:Act} {w:aH9} {next:Act->World->Prop} {Q:Exit->Act->World->Prop} (h:o.wp P a w next Q):o.wpIn (oZ r) 0 P a w next Q:=by
 refine⟨fun _ _=>trivial,?_⟩;rw[Oper.semAt_eq _ _ _ dL];unfold Oper.wp at h;generalize(execOp a.eval o).run P w=q at*
 cases q with
 |ok x w'=>
  cases x <;>simp only[Oper.upon,Oper.uponIn] at h⊢ <;>
   first
    |exact h
    |exact h.elim
    |exact⟨fun aw=>at1 aw aD9,Q9 h⟩
    |exact⟨fun aw=>at1 aw aD9,abj h⟩
 |halt x w'=>cases x <;>simp only[Oper.upon,Oper.uponIn] at h⊢ <;>exact h
def yv (bl:d6 P aQ) (all:aJ0): ∀(l:aJ0) (i:Nat) (K:aW) (B:ay) (gx:List lc) (k:aW->ay->List lc->Prop),ua N l=true->tS P aQ ids all i l K B gx k-> ∀(C:fc) (a:Act) (w:aH9),e2 N ids C K B a w->
  ∀(r:aI4) (Q:Exit->Act->World->Prop),(∀K' B' abk,k K' B' abk-> ∀a' w',e2 N ids C K' B' a' w'->Q .normal a' w')->wpListIn (oZ r) 0 P all.toArray Q l a w
 | [],i,K,B,gx,k,_,h,C,a,w,aw,r,Q,Z=>wpListIn_nil (Z K B gx h a w aw)
 |o::l,i,K,B,gx,k,H,h,C,a,w,aw,r,Q,Z=>by
  simp only[ua,as8] at H;obtain⟨⟨sV,dL⟩,da⟩:=H;have dL:=Ku dL;have bv: ∀d,o.dst=some d->d < N:=fun d e=>by rw[e] at sV;simpa[Nat.blt_eq] using sV
  have ee:=aw;obtain⟨_,_,ρ,F,ak,au⟩:=ee;rw[Qg] at h;unfold FM at h;simp only[JA] at h;refine wpListIn_step fun fN C6=>?_
  split at h
  .exact h.elim
  .rename_i hw;rw[mu (by rw[Ax hw au];simp)];refine⟨fun _ _=>trivial,C6 _ _ ?_⟩;have aZ:=aw.undef o.dst bv
   split at h
   .rename_i d e;rw[e] at aZ⊢;exact yv bl all l _ _ _ _ k da h C _ w aZ r Q Z
   .rename_i e;rw[e] at aZ⊢;exact yv bl all l _ _ _ _ k da h C _ w aZ r Q Z
  .rename_i hw;rw[vj (Ax hw au)];obtain⟨v,e,h,ax,hf⟩:=Ks bl h;refine C5 dL (ax K B (fun _ _=>rfl) (fun _ _=>rfl) hf C a w aw bv fN Q fun a' w' fu=>C6 _ _ ?_)
   split at h
   .rename_i ao;rw[ao] at fu;exact yv bl all l _ _ _ _ k da h C _ w' fu r Q Z
   .rename_i d ao;rw[ao] at fu
    split at h
    .rename_i b aV
     cases b with
     |true=>exact yv bl all l _ _ _ _ k da (h.1 rfl) C _ w' fu.lit r Q Z
     |false=>exact yv bl all l _ _ _ _ k da (h.2 rfl) C _ w' fu.lit r Q Z
    .exact yv bl all l _ _ _ _ k da h C _ w' fu r Q Z
def Ay (P:aI0) (aQ:df) (N:Nat) (ids:aH4):Prop:= ∀(id:Nat) (du:Array Oper) (K:aW) (B:ay) (k:aW->ay->Prop),ua N du.toList=true->P.follows .mixedOrders=true->
 tS P aQ ids du.toList 0 du.toList K B [] (fun K' B' gx=>wJ K B du.toList gx=true/\k K' B')-> ∀(C:fc) (a:Act) (w:aH9),e2 N ids C K B a w->
 ∀(r:aI4) (Q:Exit->Act->World->Prop),(∀K' B',k K' B'-> ∀a' w',e2 N ids C K' B' a' w'->Q .normal a' w')->(Code.region id du true).wpIn (oZ r) 0 P Q a w
def e2.eval {C:fc} {K:aW} {B:ay} {a:Act} {w:aH9} (h:e2 N ids C K B a w) {c:aI2} {b:Bool} (J:a1 K c= .c (.one (.d (.lit b)))\/a1 K c= .c (.one (.d (.bool b)))):a.eval c= .bool b:=by
 obtain⟨_,_,ρ,F,ak,au⟩:=h;rcases J with J |J
 .exact au.lit J
 .exact au.bool J
def Az (bl:d6 P aQ) (cw:Ay P aQ N ids) (stops:aH4): ∀(c:Code) (K:aW) (B:ay) (Q:oa->aW->ay->Prop),ja P N c=true->i9 P aQ N ids stops c K B Q->bG P N ids c K B Q:=by
 intro c
 induction c with
 |skip=>exact fun K B Q _ h r aj C iE a2 a w aw=>wpIn_skip (a2 .gF K B C.ds (fun _=>rfl) h a w aw)
 |region id du u6=>
  intro K B Q J h;rw[ZL] at h;simp only[ja,as8,ay9,av3] at J
  split at h
  .exact h
  .split at h
   .intro r aj C iE a2 a w aw;refine wpIn_region_list ?_;have:=yv bl du.toList du.toList 0 K B [] _ J.1 h C a w aw r iE (fun K' B' _ Z a' w' ee=>a2 .gF K' B' C.ds (fun _=>rfl) Z a' w' ee);simpa using this
   .intro r aj C iE a2 a w aw;exact cw id du K B (Q .gF) J.1 (J.2.resolve_left aD9) h C a w aw r iE (fun K' B' Z a' w' ee=>a2 .gF K' B' C.ds (fun _=>rfl) Z a' w' ee)
 |seq x y oW oX=>
  intro K B Q J h r aj C iE a2 a w aw;simp only[ja,as8] at J;rw[ZM] at h;refine wpIn_seq (oW K B _ J.1 h r aj C _ ?_ a w aw);intro e K' B' ds gY U a' w' ee
  cases e with
  |gF=>exact oX K' B' Q J.2 U r aj (C.at ds) iE (fun e K B yw Kv=>a2 e K B yw fun hi=>(Kv hi).trans (gY hi)) a' w' ee
  |ex i=>exact a2 (.ex i) K' B' ds gY U a' w' ee
  |ret=>exact a2 .ret K' B' ds gY U a' w' ee
 |cond c x y oW oX=>
  intro K B Q J h r aj C iE a2 a w aw;simp only[ja,as8] at J;rw[ZN] at h
  split at h
  .rename_i al;exact wpIn_cond_true (aw.eval (.inl al)) (oW K B Q J.1 h r aj C iE a2 a w aw)
  .rename_i al;exact wpIn_cond_false (aw.eval (.inl al)) (oX K B Q J.2 h r aj C iE a2 a w aw)
  .rename_i b al
   cases b with
   |true=>exact wpIn_cond_true (aw.eval (.inr al)) (oW K B Q J.1 (h.1 rfl) r aj C iE a2 a w aw)
   |false=>exact wpIn_cond_false (aw.eval (.inr al)) (oX K B Q J.2 (h.2 rfl) r aj C iE a2 a w aw)
  .exact h.elim
 |block i b bk=>
  intro K B Q J h r aj C iE a2 a w aw;rw[ZO] at h;refine wpIn_block (bk K B _ J h r aj C _ ?_ a w aw);intro e K' B' ds gY U a' w' ee
  cases e with
  |gF=>exact a2 .gF K' B' ds gY U a' w' ee
  |ret=>exact a2 .ret K' B' ds gY U a' w' ee
  |ex j=>
   simp only[oa.to,Exit.inBlock] at U⊢
   split at U
   .rename_i e;have:=at8 e;subst this;rw[vj rfl];exact a2 .gF K' B' ds gY U a' w' ee
   .rename_i e;rw[mu (fun x=>by subst x;simp at e)];exact a2 (.ex j) K' B' ds gY U a' w' ee
 |loop b bk=>exact fun K B Q J h=>h
 |rangeFunc f bF x b oW oX=>exact fun K B Q J h=>h
 |scope b bk=>
  intro K B Q J h r aj C iE a2 a w aw;rw[ZP] at h;refine abg (bk K B _ J h r aj C _ ?_ a w aw);intro e K' B' ds gY U a' w' ee
  cases e with
  |gF=>exact a2 .gF K' B' ds gY U a' w' ee
  |ret=>exact a2 .ret K' B' ds gY U a' w' ee
  |ex j=>exact a2 (.ex j) K' B' ds gY U a' w' ee
 |label l=>exact fun K B Q J h r aj C iE a2 a w aw=>wpIn_label (a2 .gF K B C.ds (fun _=>rfl) h a w aw)
 |exit i=>exact fun K B Q J h r aj C iE a2 a w aw=>wpIn_exit (a2 (.ex i) K B C.ds (fun _=>rfl) h a w aw)
 |ret=>exact fun K B Q J h r aj C iE a2 a w aw=>wpIn_ret (a2 .ret K B C.ds (fun _=>rfl) h a w aw)
 |_=>intro K B Q J h;simp[ja] at J
def ac (ids:aH4) (K:aW) (B:ay) (K':aW) (B':ay):Prop:= ∀(N:Nat) (C:fc) (a:Act) (w:aH9),e2 N ids C K B a w->e2 N ids C K' B' a w
def ac.refl (K:aW) (B:ay):ac ids K B K B:=fun _ _ _ _ h=>h
def ac.trans {K K' Rb:aW} {B B' Rc:ay} (h:ac ids K B K' B') (h':ac ids K' B' Rb Rc):ac ids K B Rb Rc:=fun N C a w aw=>h' N C a w (h N C a w aw)
def bG.le {c:Code} {K K':aW} {B B':ay} {Q:oa->aW->ay->Prop} (h:ac ids K B K' B') (cq:bG P N ids c K' B' Q):bG P N ids c K B Q:=fun r aj C iE a2 a w aw=>cq r aj C iE a2 a w (h N C a w aw)
def bG.loop (bl:d6 P aQ) (cw:Ay P aQ N ids) (stops:aH4) {b:Code} (J:ja P N b=true) {X:Type} (jb:X->aW) (e4:X->ay) (inv:X->Prop) (vl:X->Nat) (gP:X) {K:aW} {B:ay} {Q:oa->aW->ay->Prop} (ar:inv gP) (gD:ac ids K B (jb gP) (e4 gP))
  (h: ∀x,inv x->i9 P aQ N ids stops b (jb x) (e4 x) (fun e K B=>match e with
   | .gF=> ∃y,inv y/\vl y < vl x/\ac ids K B (jb y) (e4 y)
   | .ex i=>Q (.ex i) K B
   | .ret=>Q .ret K B)):bG P N ids (.loop b) K B Q:=by
 intro r aj C iE a2 a w aw;refine wpIn_loop_ghost (fun n a w=> ∃x ds,(tT ids=true->ds=C.ds)/\inv x/\vl x=n/\e2 N ids (C.at ds) (jb x) (e4 x) a w) (vl gP) ⟨gP,C.ds,fun _=>rfl,ar,rfl,gD N C a w aw⟩ ?_;rintro n a w ⟨x,ds,gY,hx,rfl,aw⟩;refine Az bl cw stops b _ _ _ J (h x hx) r aj (C.at ds) _ ?_ a w aw;intro e K' B' yw Kv U a' w' ee;have Kw:tT ids=true->yw=C.ds:=fun hi=>(Kv hi).trans (gY hi)
 cases e with
 |gF=>
  obtain⟨y,aD,bv,abl⟩:=U;exact⟨vl y,bv,y,yw,Kw,aD,rfl,abl N (C.at yw) a' w' ee⟩
 |ex i=>exact a2 (.ex i) K' B' yw Kw U a' w' ee
 |ret=>exact a2 .ret K' B' yw Kw U a' w' ee
def nx:Nat->List aN->aW
 |_,[]=>[]
 |i,v::l=>(i,v)::nx (i+1) l
def C7: ∀(l:List aN) (i s:Nat),dX (nx i l) s=(if i<=s then(l[s - i]?).getD (.c (.one .any)) else .c (.one .any))
 | [],i,s=>by simp[nx,dX]
 |v::l,i,s=>by
  simp only[nx];rw[kM,C7 l (i+1) s]
  by_cases h:i=s
  .subst h;simp
  .rw[mu h]
   by_cases G:i<=s
   .rw[vj aD7,vj G,show s - i=(s - (i+1))+1 by omega];rfl
   .rw[mu aD7,mu G]
def yx (aQ:df) (K:aW) (B:ay):List ResultVar->Option (List dQ)
 | []=>some []
 | .tmp t::l=>match dX K t,yx aQ K B l with
  | .c x,some r=>some (x::r)
  |_,_=>none
 | .cell t T::l=>match dX K t,yx aQ K B l,aQ.find T with
  | .c (.one (.ptr c o)),some r,some ti=>match ae B c with
   |some (.cells m)=>match ti.row with
    |true=>match Nat.ble (o+ti.size) m.length with
     |true=>some (.agg ((m.drop o).take ti.size)::r)
     |false=>none
    |false=>match m[o]? with
     |some s=>some (.one s::r)
     |none=>none
   |_=>none
  |_,_,_=>none
def ub (tmps:aJ6) (r:ResultVar):Sem Value:=match r with
 | .tmp t=>pure (tmps.getD t undef)
 | .cell ad t=>do loadVar t (<-asAddr (tmps.getD ad undef))
def Kx:List dQ->aN
 | [x]=>.c x
 |l=>.b4 l
def F8 (bl:d6 P aQ) {ρ:Nat->bp} {F:Nat->Nat->Prop} {C:fc} {K:aW} {B:ay} {a:Act} {w:aH9} (ak:Mem ids C B ρ F w) (au:eo K ρ (bZ C B F w) a w): ∀(l:List ResultVar) (r:List dQ),yx aQ K B l=some r->
  ∃aE:List Value,(l.mapM (ub a.tmps)).run P w= .ok aE w/\iL ρ (bZ C B F w) w r aE
 | [],r,h=>by
  simp only[yx,at5] at h;subst h;exact⟨[],aD9,rfl⟩
 | .tmp t::l,r,h=>by
  unfold yx at h
  split at h
  .rename_i x Ky hx aj;injection h with h
   subst h;obtain⟨aE,E,G⟩:=F8 bl ak au l Ky aj;have aB:=au t;rw[hx] at aB;exact⟨_::aE,by simp[List.mapM_cons,E,ub],_,aE,rfl,aB,G⟩
  .cases h
 | .cell t T::l,r,h=>by
  unfold yx at h
  split at h
  .rename_i c o Ky ti hx aj gW;obtain⟨i,d,bu⟩:=bl.at_ gW;obtain⟨aE,E,G⟩:=F8 bl ak au l Ky aj;have aB:=au t;rw[hx] at aB;have aB:a.tmps.getD t undef= .pointer (some ⟨(ρ c).bf,o,none⟩):=aB
   split at h
   .rename_i m al;obtain⟨bg,us,ew,O,H⟩:=ak.holds c _ al
    split at h
    .rename_i fH
     split at h
     .rename_i gD;have gD:=aA2 gD;injection h with h
      subst h;have lf:=cf.FP ti.size _ _ (cf.ry o _ _ H)
      have dK:=run_loadVar_mid (P:=P) w (ρ c).bf o T ((us.drop o).take ti.size) d (fun j u V=>by
       rw[ay5] at V
       split at V
       .rw[aC3] at V;exact o1 O V
       .cases V) bu.oc (bu.row.trans fH) (by rw[bu.jK,az3,bu.size,cf.length _ _ lf,at9,ax8];congr 1;omega)
      exact⟨_::aE,by simp[List.mapM_cons,ub,aB,asAddr,dK,E],_,aE,rfl,⟨_,rfl,lf⟩,G⟩
     .cases h
    .rename_i fH
     split at h
     .rename_i s aw;injection h with h
      subst h;obtain⟨v,vm,lf⟩:=cf.get _ _ H o s aw;have dK:=Qw (P:=P) (T:=T) bu.oc (bu.row.trans fH) (o1 O vm);exact⟨_::aE,by simp[List.mapM_cons,ub,aB,asAddr,dK,E],_,aE,rfl,lf,G⟩
     .cases h
   .cases h
  .cases h
def AA (l:aH4):List kL->Bool
 | []=>true
 | .p b _::m=>l.contains b&&AA l m
 | .d _::m=>AA l m
def Kz {l:aH4} {c:Nat}: ∀{m:List kL},AA l m=true->mn c m=true->c∈l
 | [],_,J=>by simp[mn] at J
 | .p b o::m,h,J=>by
  simp only[AA,as8,av6] at h;simp only[mn,ay9] at J;rcases J with J |J
  .have:=at8 J;subst this;exact h.1
  .exact Kz h.2 J
 | .d x::m,h,J=>Kz (m:=m) (by simpa[AA] using h) (by simpa[mn] using J)
def bA.iP (l:aH4):bA->Bool
 | .ptr b _=>l.contains b
 | .own b=>l.contains b
 | .ga b _ _ _=>l.contains b
 | .os b _ _ _=>l.contains b
 | .mp b=>l.contains b
 | .c2 _ m=>AA l m
 |_=>true
def C8 (l:aH4):List bA->Bool
 | []=>true
 |s::m=>s.iP l&&C8 l m
def dQ.iP (l:aH4):dQ->Bool
 | .one s=>s.iP l
 | .agg m=>C8 l m
 | .ko _ _=>true
def F9 (l:aH4):List dQ->Bool
 | []=>true
 |s::m=>s.iP l&&F9 l m
def aN.iP (l:aH4):aN->Bool
 | .c x=>x.iP l
 | .b4 m=>F9 l m
 | .undef=>true
def a8.iP (l:aH4):a8->Bool
 | .cells m=>C8 l m
 | .b5 d _=>l.contains d
 |_=>true
def wP (l:aH4):ay->Bool
 | []=>true
 |(_,ch)::B=>ch.iP l&&wP l B
def bA.kW {l:aH4} {s:bA} (h:s.iP l=true) {c:Nat} (J:s.has c=true):c∈l:=by
 cases s <;>simp only[bA.iP,bA.has,av6,Bool.false_eq_true] at h J
 all_goals first |exact Kz h J |(have:=at8 J;subst this;exact h)
def KA {l:aH4} {c:Nat}: ∀{m:List bA},C8 l m=true->mR c m=true->c∈l
 | [],_,J=>by simp[mR] at J
 |s::m,h,J=>by
  simp only[C8,as8] at h;simp only[mR,ay9] at J;exact J.elim (bA.kW h.1) (KA h.2)
def dQ.kW {l:aH4} {s:dQ} (h:s.iP l=true) {c:Nat} (J:s.has c=true):c∈l:=by
 cases s with
 |one s=>exact bA.kW h J
 |agg m=>exact KA h J
 |ko u x=>cases J
def Rd {l:aH4} {c:Nat}: ∀{m:List dQ},F9 l m=true->tO c m=true->c∈l
 | [],_,J=>by simp[tO] at J
 |s::m,h,J=>by
  simp only[F9,as8] at h;simp only[tO,ay9] at J;exact J.elim (dQ.kW h.1) (Rd h.2)
def aN.kW {l:aH4} {s:aN} (h:s.iP l=true) {c:Nat} (J:s.has c=true):c∈l:=by
 cases s with
 |c s=>exact dQ.kW h J
 |b4 m=>exact Rd h J
 |undef=>cases J
def a8.kW {l:aH4} {s:a8} (h:s.iP l=true) {c:Nat} (J:s.has c=true):c∈l:=by
 cases s with
 |cells m=>exact KA h J
 |row e u xs=>cases J
 |map aF aJ es=>cases J
 |val u x=>cases J
 |az o=>cases J
 |b5 d o=>rw[<-at8 J];exact av6.1 h
def yy {l:aH4}: ∀{B:ay},wP l B=true-> ∀{c ch},ae B c=some ch->ch.iP l=true
 | [],_,c,ch,h=>by cases h
 |(d,x)::B,h,c,ch,J=>by
  simp only[wP,as8] at h;rw[co] at J
  split at J
  .injection J with J;subst J;exact h.1
  .exact yy h.2 J
section
variable {ρ:Nat->bp} {I:Nat->Prop} {w:aH9}
def abm: ∀{x y:D} {v:aI8},JC x y->gL I w x v->gL I w y v:=by
 intro x y v h aB;unfold JC at h
 split at h
 .split at h
  .rename_i e;have:=ob e;subst this h;exact aB
  .exact h.elim
 .subst h;exact aB
 .subst h;exact aB
 .subst h;exact aB
 .subst h;exact aB
 .subst h;exact aB
 .subst h;exact aB
 .subst h;exact aB
 .split at h
  .rename_i e _;subst e;have h:_=_:=h;subst h;exact aB
  .exact h.elim
 .exact h.elim
def Re {s t:bA} {v:aI8} (h:Fu s t) (aB:dW ρ I w s v):dW ρ I w t v:=by
 unfold Fu at h
 split at h
 .trivial
 .exact abm h aB
 .subst h;rw[show v=_ from aB];exact⟨none,0,rfl,at0 _,at6 _,fun h=>at1 h (Nat.lt_irrefl 0)⟩
 .subst h;exact aB
def KB: ∀{l m:List bA} {aE:aH7},Fv l m->cf ρ I w l aE->cf ρ I w m aE
 | [],[],_,_,h=>h
 |s::l,t::m,_,⟨E,G⟩,⟨v,r,e,g1,g2⟩=>⟨v,r,e,Re E g1,KB G g2⟩
 | [],_::_,_,h,_=>h.elim
 |_::_,[],_,h,_=>h.elim
def Rf {s t:dQ} {v:aI8} (h:Fw s t) (aB:gC ρ I w s v):gC ρ I w t v:=by
 unfold Fw at h
 split at h
 .exact Re h aB
 .obtain⟨aE,e,aB⟩:=aB;exact⟨aE,e,KB h aB⟩
 .trivial
 .split at h
  .rename_i aZ _;subst aZ;have h:_=_:=h;subst h;exact aB
  .exact h.elim
 .trivial
 .exact h.elim
def Rg: ∀{l m:List dQ} {aE:aH7},JD l m->iL ρ I w l aE->iL ρ I w m aE
 | [],[],_,_,h=>h
 |s::l,t::m,_,⟨E,G⟩,⟨v,r,e,g1,g2⟩=>⟨v,r,e,Rf E g1,Rg G g2⟩
 | [],_::_,_,h,_=>h.elim
 |_::_,[],_,h,_=>h.elim
def wQ {s t:aN} {v:aI8} (h:tR s t) (aB:cx ρ I w s v):cx ρ I w t v:=by
 unfold tR at h
 split at h
 .exact Rf h aB
 .obtain⟨aE,e,aB⟩:=aB;exact⟨aE,e,Rg h aB⟩
 .exact aB
 .trivial
 .exact h.elim
def KC: ∀{l m:List aN},Fx l m->l.length=m.length/\ ∀(i:Nat) (t:aN),m[i]? =some t-> ∃s,l[i]? =some s/\tR s t
 | [],[],_=>⟨rfl,fun i t h=>by simp at h⟩
 |s::l,t::m,⟨E,G⟩=>by
  obtain⟨g1,g2⟩:=KC G;refine⟨by simp[g1],fun i u aZ=>?_⟩
  match i with
  |0=>
   simp only[au4,at5] at aZ;subst aZ;exact⟨s,rfl,E⟩
  |i+1=>exact g2 i u (by simpa using aZ)
 | [],_::_,h=>h.elim
 |_::_,[],h=>h.elim
end
def Fn.arg {P:aI0} {f:aI9} {args args':List aN} {aK:ay} {ba:aH4} {res:aN} {aO:ay} (h:Fn P f args' aK ba res aO) (al:Fx args args'):Fn P f args aK ba res aO:=by obtain⟨E,G⟩:=KC al;refine⟨h.1,fun ρ F I w b0 bM bU a3 a4 a5 fj=>h.2 ρ F I w b0 bM bU a3 a4 (a5.trans E) fun i v x aB hx=>?_⟩;obtain⟨s,g1,g2⟩:=G i v aB;exact wQ g2 (fj i s x g1 hx)
def abn {C:fc} {ds:aH4} {B:ay} {ρ:Nat->bp} {F:Nat->Nat->Prop} {w w':aH9} (h:Mem ids (C.at ds) B ρ F w) (cF:cU (fun D=>D∈ds) w w'):
  Mem ids (C.at []) B ρ F w'/\cm (bZ (C.at ds) B F w) w (bZ (C.at []) B F w') w':=by
 have gY: ∀b,(C.z1 b\/C.qp b\/C.gv.heap.size<=b/\b∉ds)->b∉ds:=fun b O H=>by
  have cL:C.gv.heap.size<=b:=(h.k'.2.2 b H).2.2;rcases O with O |O |O
  .have g8:b < C.gv.heap.size:=h.k'.2.1 b (.inl O);omega
  .have g8:b < C.gv.heap.size:=h.k'.2.1 b (.inr O);omega
  .exact O.2 H
 have aY:cm (bZ (C.at ds) B F w) w (bZ (C.at []) B F w') w':=fun b O=>
  ⟨⟨au8 O.1 cF.size,O.2.1.imp id fun x=>x.imp id fun x=>⟨x.1,aD9⟩,O.2.2⟩,cF.block b O.1 (gY b O.2.1)⟩
 have bg: ∀c ch,ae B c=some ch-> ∀b,F c b->w'.heap[b]? =w.heap[b]? :=fun c ch J b O=>by
  obtain⟨cr,cv⟩:=h.own c ch J b O;exact cF.block b cr (gY b (.inr cv))
 refine⟨⟨h.fr.trans cF fun i hi H=>?_,fun c ch J=>Holds.cj aY (bg c ch J) cF.size ch (fun _ _=>rfl) (h.holds c ch J),fun c ch J b O=>?_,h.fd,h.l0,az4,h.k'.2.1,fun D cw=>by cases cw⟩,aY⟩
 .have ah:C.gv.heap.size<=i:=(h.k'.2.2 i H).2.2;have hi:i < C.gv.heap.size:=hi;omega
 .obtain⟨cr,cv⟩:=h.own c ch J b O;exact⟨au8 cr cF.size,cv.imp id fun x=>⟨x.1,aD9⟩⟩
def Rh {F:Fence} {n:Nat} {fn:Func} {tmps:aJ6} {bo:Ending->World->Prop}: ∀(ds:aH4) (w:aH9),ds.Nodup->(∀D,D∈ds->D < w.heap.size/\w.heap[D]? =some (.deferred (some [])))->
  (∀w',cU (fun D=>D∈ds) w w'->LeavesIn F n P fn tmps bo [] .returning w')->LeavesInM F n P fn tmps bo (ds.map x') .returning w
 | [],w,_,_,h=>h w (cU.refl _ w)
 |D::ds,w,hn,H,h=>by
  obtain⟨cC,dg⟩:=aw6.1 hn;obtain⟨g9,ip⟩:=H D (au7 ..);have hf:cU (fun b=>b=D) w (w.putObj D (.deferred none)):=⟨rfl,rfl,rfl,Nat.le_of_eq (World.putObj_size).symm,fun k _ Z=>World.putObj_heap_other Z⟩;refine⟨fun e=>(by cases e),.inl ⟨D,w.putObj D (.deferred none),rfl,run_takeDeferred ip,Rh ds _ dg (fun yp aY=>?_) fun w' o7=>h w' ?_⟩⟩
  .obtain⟨cr,cv⟩:=H yp (at4 _ aY);exact⟨by rw[World.putObj_size];exact cr,(World.putObj_heap_other (r:=D) (k:=yp) fun e=>cC (e▸aY)).trans cv⟩
  .exact(hf.mono fun i _ (hi:i=D)=>by rw[hi];exact au7 ..).trans o7 fun i _ hi=>at4 _ hi
def Ri {F:Fence} {n:Nat} {fn:Func} {bo:Ending->World->Prop} {C:fc} {ds:aH4} {K:aW} {B:ay} {a:Act} {w:aH9} (aw:e2 N ids (C.at ds) K B a w)
  (h: ∀w',e2 N ids (C.at []) K B {a with defers:=[]} w'-> ∃v,(results fn a.tmps).run P w'= .ok v w'/\bo (.returned v) w'):LeavesInM F n P fn a.tmps bo a.defers .returning w:=by
 obtain⟨E,G,ρ,cg,ak,au⟩:=aw;rw[G];refine Rh ds w ak.k'.1 (fun D cw=>⟨(ak.k'.2.2 D cw).1,(ak.k'.2.2 D cw).2.1⟩) fun w' o7=>h w' ?_
 obtain⟨bH,aY⟩:=abn ak o7;exact⟨E,rfl,ρ,cg,bH,au.mono aY fun _ _ _=>rfl⟩
def Ga (aQ:df) (ids ba:aH4) (js:List ResultVar) (res:aN) (aO:ay) (e:oa) (K:aW) (B:ay):Prop:=match e with
 | .ex _=>False
 |_=> ∃K' B' r,ac ids K B K' B'/\yx aQ K' B' js=some r/\tR (Kx r) res/\la B' aO/\(res.iP (ids++ba)&&wP (ids++ba) aO&&(ck aO).all (fun c=>(ids++ba).contains c))=true
def Fn.of (bl:d6 P aQ) {f:aI9} {fn:Func} {c:Code} (stops:aH4) (args:List aN) (aK:ay) (ba:aH4) (res:aN) (aO:ay) (hf:P.funcs[f]? =some fn) (O:fn.body=some c) (hn:fn.ntmps=N) (fP:jp P f=true) (J:ja P N c=true) (e6:Nat.ble args.length N=true) (cw:Ay P aQ N (ck aK)) {js:List ResultVar} (yz:fn.results.toList=js)
  (h:i9 P aQ N (ck aK) stops c (nx 0 args) aK (Ga aQ (ck aK) ba js res aO)):Fn P f args aK ba res aO:=by
 refine⟨fP,?_⟩;intro ρ F I w b0 a7 c' bg eE bW dG;have e6:=aA2 e6;refine Ra (r:=none) (n:=0) (callsIn_of_wp_marks hf O trivial ?_)
 let C:fc:=⟨w,I,fun b=> ∃c ch,ae aK c=some ch/\F c b,ρ,[]⟩
 have sW:cm I w (bZ C aK F w) w:=fun b O=>⟨⟨a7 b O,.inl O,fun c ch J qv=>(bg c ch J b qv).2 O⟩,rfl⟩
 have ak:Mem (ck aK) C aK ρ F w:=⟨cU.refl _ _,fun c ch J=>Holds.cj sW (fun _ _=>rfl) (at0 _) ch (fun _ _=>rfl) (c' c ch J),fun c ch J b O=>⟨(bg c ch J b O).1,.inl ⟨c,ch,J,O⟩⟩,eE,fun c _=>rfl,az4,fun b O=>O.elim (a7 b) fun⟨c,ch,J,C9⟩=>(bg c ch J b C9).1,fun D cw=>by cases cw⟩;refine Az bl cw stops c _ _ _ J h none (fun _=>rfl) C _ ?_ _ w ⟨by simp[bW,hn];omega,rfl,ρ,F,ak,fun s=>?_⟩
 .intro e K' B' ds _ U a' w' ee
  cases e with
  |ex i=>exact U.elim
  |_=>
   obtain⟨Rj,jN,r,gD,aj,ag,h7,pI⟩:=U;refine Ri ee fun w' ee=>?_
   obtain⟨hI,lf,ρ',F',bH,C'⟩:=gD N C _ w' ee;obtain⟨aE,dK,hJ⟩: ∃aE:List Value,(js.mapM (ub a'.tmps)).run P w'= .ok aE w'/\iL ρ' (bZ C jN F' w') w' r aE:=F8 bl bH C' js r aj
   have jt: ∃x,(results fn a'.tmps).run P w'= .ok x w'/\cx ρ' (bZ C jN F' w') w' (Kx r) x:=by
    have E:fn.results=js.toArray:=by rw[<-yz]
    have G:(fn.results.mapM (ub a'.tmps)).run P w'= .ok (List.toArray aE) w':=by
     rw[E,List.mapM_toArray];simp[dK]
    have ah:results fn a'.tmps=(do let aE<-fn.results.mapM (ub a'.tmps);pure (if h:aE.size=1 then aE[0] else .tuple aE)):=rfl;rw[ah]
    match r,aE,hJ,G with
    | [],_,e,G=>rw[show _=[] from e] at G;exact⟨.tuple #[],by simp[G],[],rfl,rfl⟩
    | [x],_,⟨v,s,e,aB,aw⟩,G=>
     have aw:s=[]:=aw;subst aw e;exact⟨v,by simp[G],aB⟩
    |x::y::r,_,⟨v,s,e,aB,v2,bD,ao,vm,fu⟩,G=>
     subst ao e;exact⟨.tuple (List.toArray (v::v2::bD)),by simp[G],_,rfl,v,_,rfl,aB,v2,bD,rfl,vm,fu⟩
   obtain⟨x,hx,sS⟩:=jt;have sS:=wQ ag sS;simp only[as8] at pI
   let vn:Nat->bp:=fun c=>if c∈ba then ρ' c else ρ c
   have rH: ∀c,c∈ck aK++ba->vn c=ρ' c:=fun c J=>by
    show(if c∈ba then ρ' c else ρ c)=ρ' c
    split
    .rfl
    .rename_i hn;rcases av9.1 J with h |h
     .exact(bH.l0 c h).symm
     .exact at1 h hn
   refine⟨x,hx,x,vn,F',rfl,bH.fr,fun c J=>mu J,bZ C jN F' w',?_,fun b O=>⟨O.1,?_⟩,?_,?_,?_,?_⟩
   .intro b O;have wR: ¬C.qp b:=fun⟨c,ch,E,G⟩=>(bg c ch E b G).2 O
    refine⟨⟨au8 (a7 b O) bH.fr.size,.inl O,fun c ch J qv=>?_⟩,bH.fr.block b (a7 b O) wR⟩;rcases(bH.own c ch J b qv).2 with h |h
    .exact wR h
    .have:=a7 b O;exact at1 h.1 (Nat.not_le.2 this)
   .rcases O.2.1 with h |h |h
    .exact .inl h
    .exact .inr (.inl h)
    .exact .inr (.inr h.1)
   .intro c ch J
    have Z:c∈ck aK++ba:=by
     have:=av4.1 pI.2 c (gf.2 ⟨ch,J⟩);simpa only[av6] using this
    rw[rH c Z];exact Holds.cj (cm.refl _ _) (fun _ _=>rfl) (at0 _) ch (fun d H=>rH d (a8.kW (yy pI.1.2 J) H)) (bH.holds c ch (kU h7 J))
   .intro c ch J b O;have c3:=kU h7 J;exact⟨(bH.own c ch c3 b O).1,fun hi=>hi.2.2 c ch c3 O,(bH.own c ch c3 b O).2.imp id fun x=>x.1⟩
   .exact fun c cn ch ch' b E G=>bH.fd c cn ch ch' b (kU h7 E) (kU h7 G)
   .exact cx.mono (cm.refl _ _) res x (fun c J=>rH c (aN.kW pI.1.1 J)) sS
 .rw[C7];simp only[at6,if_true,Nat.sub_zero]
  cases aw:args[s]? with
  |none=>trivial
  |some v=>
   have bv:s < b0.length:=by rw[bW];exact(au0.1 aw).1
   simp only[az5];have hx:b0[s]? =some b0[s]:=as7 bv;have:=cx.mono sW v _ (fun _ _=>rfl) (dG s v _ aw hx);simpa[Array.getElem?_append,bv,hx] using this
end
end
section
section
variable {ids:aH4} {K:aW} {B:ay} {C:fc} {ρ:Nat->bp} {F:Nat->Nat->Prop} {w:aH9}
def yA (K:aW):aW->Prop
 | []=>True
 |(s,v)::l=>tR (dX K s) v/\yA K l
def KD: ∀{K' K:aW},yA K K'-> ∀s,tR (dX K s) (dX K' s)\/dX K' s= .c (.one .any)
 | [],K,h,s=>.inr rfl
 |(t,v)::K',K,h,s=>by
  rw[kM]
  split
  .rename_i e;subst e;exact .inl h.1
  .exact KD h.2 s
def ac.sub {K':aW} {B':ay} (cR:yA K K') (de:la B B'):ac ids K B K' B':=by
 rintro N C a w ⟨E,G,ρ,F,ak,au⟩
 obtain⟨bH,aY⟩:=ak.step (B':=B') (ρ':=ρ) (F':=F) (w':=w) (fun c=>ae B' c=none) (fun _=>False) (cU.refl _ _) (fun c ch J _=>kU de J) (fun _ _=>rfl) (fun _ _=>rfl) (fun _ _ h=>h) (fun _ h=>h.elim) (fun _ _ _ _ _ _ h=>h)
  (fun c ch J hn=>by rw[hn] at J;cases J) (fun c ch J hn=>by rw[hn] at J;cases J) (fun c cn ch ch' b J _ hn=>by rw[hn] at J;cases J)
 refine⟨E,G,ρ,F,bH,fun s=>?_⟩;rcases KD cR s with h |h
 .exact cx.mono aY _ _ (fun _ _=>rfl) (wQ h (au s))
 .rw[h];trivial
def bA.dH (c:Nat) (x:D):bA->bA
 | .own b=>match Nat.beq b c with
  |true=>.d x
  |false=>.own b
 |s=>s
def Gb (c:Nat) (x:D):List bA->List bA
 | []=>[]
 |s::l=>s.dH c x::Gb c x l
def dQ.dH (c:Nat) (x:D):dQ->dQ
 | .one s=>.one (s.dH c x)
 | .agg l=>.agg (Gb c x l)
 | .ko u y=>.ko u y
def KE (c:Nat) (x:D):List dQ->List dQ
 | []=>[]
 |s::l=>s.dH c x::KE c x l
def aN.dH (c:Nat) (x:D):aN->aN
 | .c s=>.c (s.dH c x)
 | .b4 l=>.b4 (KE c x l)
 | .undef=>.undef
def Gc (c:Nat) (x:D):aW->aW
 | []=>[]
 |(s,v)::K=>(s,v.dH c x)::Gc c x K
def a8.dH (c:Nat) (x:D):a8->a8
 | .cells l=>.cells (Gb c x l)
 |ch=>ch
def qw (c:Nat) (x:D):ay->ay
 | []=>[]
 |(b,ch)::B=>match Nat.beq b c with
  |true=>qw c x B
  |false=>(b,ch.dH c x)::qw c x B
def Rk {c:Nat} {x:D}: ∀(K:aW) (s:Nat),dX (Gc c x K) s=(dX K s).dH c x
 | [],s=>rfl
 |(t,v)::K,s=>by
  simp only[Gc];rw[kM,kM,Rk K s]
  split <;>rfl
def yB {c:Nat} {x:D}: ∀(B:ay) (d:Nat),ae (qw c x B) d=if c=d then none else(ae B d).map (·.dH c x)
 | [],d=>by simp[qw,ae]
 |(b,ch)::B,d=>by
  unfold qw
  split
  .rename_i e;have:=at8 e;subst this;rw[yB B d,co]
   split <;>rfl
  .rename_i e;have a6:b≠c:=fun h=>by subst h;simp at e
   rw[co,co,yB B d]
   by_cases h:b=d
   .subst h;rw[vj rfl,vj rfl,mu (az2 a6)];rfl
   .rw[mu h,mu h]
section
variable {I I':Nat->Prop} {c:Nat} {x:D}
def dW.dH (U:cm I w I' w) (hx:gL I' w x (ρ c).eS) (s:bA) (v:aI8) (h:dW ρ I w s v):dW ρ I' w (s.dH c x) v:=by
 cases s with
 |own b=>
  unfold bA.dH;simp only
  split
  .rename_i e;have:=at8 e;subst this;rw[show v=_ from h];exact hx
  .exact h
 |d y=>exact dW.mono (ρ':=ρ) U (.d y) v (fun _ _=>rfl) h
 |el u y o=>exact dW.mono (ρ':=ρ) U (.el u y o) v (fun _ _=>rfl) h
 |c2 f l=>exact dW.mono (ρ':=ρ) U (.c2 f l) v (fun _ _=>rfl) h
 |_=>exact h
def cf.dH (U:cm I w I' w) (hx:gL I' w x (ρ c).eS): ∀(l:List bA) (aE:aH7),cf ρ I w l aE->cf ρ I' w (Gb c x l) aE
 | [],_,h=>h
 |s::l,_,⟨v,r,e,E,G⟩=>⟨v,r,e,dW.dH U hx s v E,cf.dH U hx l r G⟩
def gC.dH (U:cm I w I' w) (hx:gL I' w x (ρ c).eS) (s:dQ) (v:aI8) (h:gC ρ I w s v):gC ρ I' w (s.dH c x) v:=by
 cases s with
 |one s=>exact dW.dH U hx s v h
 |agg l=>obtain⟨aE,e,h⟩:=h;exact⟨aE,e,cf.dH U hx l aE h⟩
 |ko u y=>obtain⟨aE,e,E,G⟩:=h;exact⟨aE,e,E,cy.mono U u y _ _ (fun _ _ h=>h) G⟩
def iL.dH (U:cm I w I' w) (hx:gL I' w x (ρ c).eS): ∀(l:List dQ) (aE:aH7),iL ρ I w l aE->iL ρ I' w (KE c x l) aE
 | [],_,h=>h
 |s::l,_,⟨v,r,e,E,G⟩=>⟨v,r,e,gC.dH U hx s v E,iL.dH U hx l r G⟩
def cx.dH (U:cm I w I' w) (hx:gL I' w x (ρ c).eS) (s:aN) (v:aI8) (h:cx ρ I w s v):cx ρ I' w (s.dH c x) v:=by
 cases s with
 |c s=>exact gC.dH U hx s v h
 |b4 l=>obtain⟨aE,e,h⟩:=h;exact⟨aE,e,iL.dH U hx l aE h⟩
 |undef=>exact h
end
def Mem.dH (ak:Mem ids C B ρ F w) {c:Nat} {e:aI3} {u:bz} {xs:List (aa u)} (J:ae B c=some (.row e u xs)):
  Mem ids C (qw c (.b' u xs) B) ρ F w/\cm (bZ C B F w) w (bZ C (qw c (.b' u xs) B) F w) w/\gL (bZ C (qw c (.b' u xs) B) F w) w (.b' u xs) (ρ c).eS:=by
 have bd:=ak.holds c _ J
 have AB: ∀b,bZ C B F w b->bZ C (qw c (.b' u xs) B) F w b:=fun b ⟨E,G,ah⟩=>⟨E,G,fun d ch H O=>by
  rw[yB] at H
  split at H
  .cases H
  .obtain⟨ch',c4,_⟩:=ax0.1 H;exact ah d ch' c4 O⟩
 have qu: ∀b,F c b->bZ C (qw c (.b' u xs) B) F w b:=fun b O=>by
  obtain⟨E,G⟩:=ak.own c _ J b O;refine⟨E,.inr G,fun d ch H c8=>?_⟩;rw[yB] at H
  split at H
  .cases H
  .rename_i a6;obtain⟨ch',c4,_⟩:=ax0.1 H;exact ak.fd c d _ ch' b J c4 a6 O c8
 have dG:gL (bZ C (qw c (.b' u xs) B) F w) w (.b' u xs) (ρ c).eS:=CT bd AB qu;have aY:cm (bZ C B F w) w (bZ C (qw c (.b' u xs) B) F w) w:=fun b O=>⟨AB b O,rfl⟩
 refine⟨⟨ak.fr,fun d ch H=>?_,fun d ch H=>?_,fun d cZ ch ch' b H c4=>?_,ak.l0,ak.k'⟩,aY,dG⟩
 .rw[yB] at H
  split at H
  .cases H
  .obtain⟨ch',c4,rfl⟩:=ax0.1 H;have:=ak.holds d ch' c4
   cases ch' with
   |cells l=>
    obtain⟨E,aE,T,G,ah⟩:=this;exact⟨E,aE,T,G,cf.dH aY dG l aE ah⟩
   |row e u xs=>exact Holds.cj aY (fun _ _=>rfl) (at0 _) _ (fun _ _=>rfl) this
   |map aF aJ es=>exact Holds.cj aY (fun _ _=>rfl) (at0 _) _ (fun _ _=>rfl) this
   |val u x=>exact Holds.cj aY (fun _ _=>rfl) (at0 _) _ (fun _ _=>rfl) this
   |az o=>exact Holds.cj aY (fun _ _=>rfl) (at0 _) _ (fun _ _=>rfl) this
   |b5 d o=>exact Holds.cj aY (fun _ _=>rfl) (at0 _) (.b5 d o) (fun _ _=>rfl) this
 .rw[yB] at H
  split at H
  .cases H
  .obtain⟨ch',c4,_⟩:=ax0.1 H;exact ak.own d ch' c4
 .rw[yB] at H c4
  split at H
  .cases H
  .split at c4
   .cases c4
   .obtain⟨cu,E,_⟩:=ax0.1 H;obtain⟨cp,G,_⟩:=ax0.1 c4;exact ak.fd d cZ cu cp b E G
def ac.dH (c:Nat) {e:aI3} {u:bz} {xs:List (aa u)} (J:ae B c=some (.row e u xs)):ac ids K B (Gc c (.b' u xs) K) (qw c (.b' u xs) B):=by rintro N C a w ⟨E,G,ρ,F,ak,au⟩;obtain⟨bH,aY,H⟩:=ak.dH J;exact⟨E,G,ρ,F,bH,fun s=>by rw[Rk];exact cx.dH aY H _ _ (au s)⟩
def ac.nil (s c:Nat) (e:aI3) (u:bz) (aw:dX K s= .c (.one .dC)) (hf:g7 ids K B c=true):ac ids K B ((s,.c (.one (.own c)))::K) ((c,.row e u [])::B):=by
 rintro N C a w ⟨E,G,ρ,F,ak,au⟩;have cF:=ld hf;obtain⟨bH,aY⟩:=ak.make (ch:=.row e u []) (w':=w) hf (Below.refl _ _) ⟨0,none,0,0⟩ (fun _=>False) (fun b h=>h.elim) (fun I _ _=>⟨fun b=>by simp[bp.eS,Value.ownBlock],fun b O=>by simp[bp.eS,Value.ownBlock] at O,[],World.ownsRow_nil _ _ _ _,hC.nil u⟩);refine⟨E,G,_,_,bH,fun t=>?_⟩;rw[kM]
 split
 .rename_i e;subst e;have:=au s;rw[aw] at this;rw[show a.tmps.getD s undef= .slice none 0 0 from this];simp only[cx,gC,dW,dB,bp.eS]
 .exact cx.mono aY _ _ (fun d H=>dD _ _ (fun e=>by subst e;rw[cF.1 t] at H;cases H)) (au t)
def ac.AC (b j c:Nat) (e:aI3) (u:bz) {l:List bA} (O:ae B b=some (.cells l)) (V:l[j]? =some .dC) (hf:g7 ids K B c=true):ac ids K B K ((b,.cells (l.set j (.own c)))::(c,.row e u [])::B):=by
 rintro N C a w ⟨E,G,ρ,F,ak,au⟩;have cF:=ld hf;obtain⟨bH,aY⟩:=ak.make (ch:=.row e u []) (w':=w) hf (Below.refl _ _) ⟨0,none,0,0⟩ (fun _=>False) (fun b h=>h.elim) (fun I _ _=>⟨fun b=>by simp[bp.eS,Value.ownBlock],fun b O=>by simp[bp.eS,Value.ownBlock] at O,[],World.ownsRow_nil _ _ _ _,hC.nil u⟩);have AD:c≠b:=fun e=>by subst e;rw[cF.2.1] at O;cases O
 have c8:ae ((c,a8.row e u [])::B) b=some (.cells l):=by rw[co,mu AD];exact O
 have bd:=bH.holds b _ c8
 obtain⟨jr,yC⟩:=bH.hT (ch:=.cells (l.set j (.own c))) c8 (cU.refl _ _) (fun I U=>by
  obtain⟨g1,aE,T,g2,cL⟩:=bd;refine⟨g1,aE,T,g2,?_⟩;have cL:=cf.mono (ρ':=dv ρ c ⟨0,none,0,0⟩) U l aE (fun _ _=>rfl) cL
  have key: ∀(l:List bA) (aE:aH7) (j:Nat),l[j]? =some .dC->cf (dv ρ c ⟨0,none,0,0⟩) I w l aE->cf (dv ρ c ⟨0,none,0,0⟩) I w (l.set j (.own c)) aE:=fun l=>by
   induction l with
   |nil=>intro aE j V;simp at V
   |cons s l bk=>
    rintro _ j V ⟨v,r,rfl,cr,cv⟩
    match j with
    |0=>
     simp only[au4,at5] at V;subst V;refine⟨v,r,rfl,?_,cv⟩;rw[show v= .slice none 0 0 from cr];simp only[dW,dB,bp.eS]
    |j+1=>exact⟨v,r,rfl,cr,bk r j aF8 cv⟩
  exact key l aE j V cL)
 refine⟨E,G,_,_,jr,fun t=>?_⟩;exact cx.mono (aY.trans yC) _ _ (fun d H=>dD _ _ (fun e=>by subst e;rw[cF.1 t] at H;cases H)) (au t)
def Gd (c d:Nat):List kL->List kL
 | []=>[]
 | .p b o::l=>(match Nat.beq b c with
  |true=>.p d o
  |false=>.p b o)::Gd c d l
 | .d x::l=>.d x::Gd c d l
def bA.aT (c d:Nat):bA->bA
 | .ptr b o=>match Nat.beq b c with
  |true=>.ptr d o
  |false=>.ptr b o
 | .own b=>match Nat.beq b c with
  |true=>.own d
  |false=>.own b
 | .ga b s i o=>match Nat.beq b c with
  |true=>.ga d s i o
  |false=>.ga b s i o
 | .os b s o n=>match Nat.beq b c with
  |true=>.os d s o n
  |false=>.os b s o n
 | .mp b=>match Nat.beq b c with
  |true=>.mp d
  |false=>.mp b
 | .c2 f l=>.c2 f (Gd c d l)
 |s=>s
def Ge (c d:Nat):List bA->List bA
 | []=>[]
 |s::l=>s.aT c d::Ge c d l
def dQ.aT (c d:Nat):dQ->dQ
 | .one s=>.one (s.aT c d)
 | .agg l=>.agg (Ge c d l)
 | .ko u x=>.ko u x
def KF (c d:Nat):List dQ->List dQ
 | []=>[]
 |s::l=>s.aT c d::KF c d l
def aN.aT (c d:Nat):aN->aN
 | .c s=>.c (s.aT c d)
 | .b4 l=>.b4 (KF c d l)
 | .undef=>.undef
def Gf (c d:Nat):aW->aW
 | []=>[]
 |(s,v)::K=>(s,v.aT c d)::Gf c d K
def a8.aT (c d:Nat):a8->a8
 | .cells l=>.cells (Ge c d l)
 | .b5 b o=>match Nat.beq b c with
  |true=>.b5 d o
  |false=>.b5 b o
 |ch=>ch
def wS (c d:Nat):ay->ay
 | []=>[]
 |(b,ch)::B=>match Nat.beq b c with
  |true=>(d,ch.aT c d)::wS c d B
  |false=>(b,ch.aT c d)::wS c d B
def Rl {c d:Nat}: ∀(K:aW) (s:Nat),dX (Gf c d K) s=(dX K s).aT c d
 | [],s=>rfl
 |(t,v)::K,s=>by
  simp only[Gf];rw[kM,kM,Rl K s]
  split <;>rfl
def Rm {c d:Nat}: ∀(B:ay),ae B d=none-> ∀b,ae (wS c d B) b=if b=d then(ae B c).map (·.aT c d) else if b=c then none else(ae B b).map (·.aT c d)
 | [],_,b=>by simp[wS,ae]
 |(t,ch)::B,H,b=>by
  rw[co] at H;have Rn:t≠d:=fun e=>by rw[vj e] at H;cases H
  rw[mu Rn] at H;have bk:=Rm (c:=c) B H b;unfold wS
  split
  .rename_i e;have:=at8 e;subst this;rw[co,co,vj rfl,bk,co]
   by_cases E:b=d
   .subst E;simp
   .rw[mu (az2 E),mu E,mu E]
    by_cases G:b=t
    .rw[vj G,vj G]
    .rw[mu G,mu G,mu (az2 G)]
  .rename_i e;have a6:t≠c:=fun h=>by subst h;simp at e
   rw[co,bk,co,co,mu a6]
   by_cases E:b=d
   .subst E;rw[mu Rn,vj rfl,vj rfl]
   .rw[mu E,mu E]
    by_cases G:b=c
    .subst G;rw[mu a6,vj rfl,vj rfl]
    .rw[mu G,mu G]
     by_cases ah:t=b
     .rw[vj ah,vj ah];rfl
     .rw[mu ah,mu ah]
section
variable {I:Nat->Prop} {c d:Nat}
def h5.aT: ∀(l:List kL) (aE:aH7),mn d l=false->h5 ρ I w l aE->h5 (dv ρ d (ρ c)) I w (Gd c d l) aE
 | [],_,_,h=>h
 | .p b o::l,_,H,⟨v,r,e,E,G⟩=>by
  simp only[mn,ax5] at H;refine⟨v,r,e,?_,h5.aT l r H.2 G⟩
  split
  .rename_i e;have:=at8 e;subst this;simp only[x9,dB] at E⊢;exact E
  .simp only[x9] at E⊢;rw[dD _ _ (fun e=>by subst e;simp at H)];exact E
 | .d x::l,_,H,⟨v,r,e,E,G⟩=>⟨v,r,e,E,h5.aT l r (by simpa[mn] using H) G⟩
def dW.aT (s:bA) (v:aI8) (H:s.has d=false) (h:dW ρ I w s v):dW (dv ρ d (ρ c)) I w (s.aT c d) v:=by
 have key: ∀b,Nat.beq b d=false->(match Nat.beq b c with |true=>dv ρ d (ρ c) d=ρ b |false=>dv ρ d (ρ c) b=ρ b):=fun b O=>by
  split
  .rename_i e;rw[dB,at8 e]
  .exact dD _ _ (fun e=>by subst e;simp at O)
 cases s with
 |ptr b o=>
  have:=key b H;unfold bA.aT;simp only
  split <;>rename_i e <;>rw[e] at this <;>simp only at this <;>simp only[dW] at h⊢ <;>rw[this] <;>exact h
 |own b=>
  have:=key b H;unfold bA.aT;simp only
  split <;>rename_i e <;>rw[e] at this <;>simp only at this <;>simp only[dW] at h⊢ <;>rw[this] <;>exact h
 |ga b s i o=>
  have:=key b H;unfold bA.aT;simp only
  split <;>rename_i e <;>rw[e] at this <;>simp only at this <;>simp only[dW] at h⊢ <;>rw[this] <;>exact h
 |os b s o n=>
  have:=key b H;unfold bA.aT;simp only
  split <;>rename_i e <;>rw[e] at this <;>simp only at this <;>simp only[dW] at h⊢ <;>rw[this] <;>exact h
 |mp b=>
  have:=key b H;unfold bA.aT;simp only
  split <;>rename_i e <;>rw[e] at this <;>simp only at this <;>simp only[dW] at h⊢ <;>rw[this] <;>exact h
 |d y=>exact h
 |el u y o=>exact h
 |c2 f l=>obtain⟨aE,e,h⟩:=h;exact⟨aE,e,h5.aT l aE H h⟩
 |dC=>exact h
 |bK v=>exact h
 |any=>exact h
def cf.aT: ∀(l:List bA) (aE:aH7),mR d l=false->cf ρ I w l aE->cf (dv ρ d (ρ c)) I w (Ge c d l) aE
 | [],_,_,h=>h
 |s::l,_,H,⟨v,r,e,E,G⟩=>by
  simp only[mR,ax5] at H;exact⟨v,r,e,dW.aT s v H.1 E,cf.aT l r H.2 G⟩
def gC.aT (s:dQ) (v:aI8) (H:s.has d=false) (h:gC ρ I w s v):gC (dv ρ d (ρ c)) I w (s.aT c d) v:=by
 cases s with
 |one s=>exact dW.aT s v H h
 |agg l=>obtain⟨aE,e,h⟩:=h;exact⟨aE,e,cf.aT l aE H h⟩
 |ko u x=>exact h
def iL.aT: ∀(l:List dQ) (aE:aH7),tO d l=false->iL ρ I w l aE->iL (dv ρ d (ρ c)) I w (KF c d l) aE
 | [],_,_,h=>h
 |s::l,_,H,⟨v,r,e,E,G⟩=>by
  simp only[tO,ax5] at H;exact⟨v,r,e,gC.aT s v H.1 E,iL.aT l r H.2 G⟩
def cx.aT (s:aN) (v:aI8) (H:s.has d=false) (h:cx ρ I w s v):cx (dv ρ d (ρ c)) I w (s.aT c d) v:=by
 cases s with
 |c s=>exact gC.aT s v H h
 |b4 l=>obtain⟨aE,e,h⟩:=h;exact⟨aE,e,iL.aT l aE H h⟩
 |undef=>exact h
end
def ac.aT (c d:Nat) (hf:g7 ids K B d=true):ac ids K B (Gf c d K) (wS c d B):=by
 rintro N C a w ⟨E,G,ρ,F,ak,au⟩;obtain⟨fU,gV,f3,f4⟩:=ld hf;have C0:=Rm (c:=c) (d:=d) B gV
 have back: ∀b ch,ae (wS c d B) b=some ch-> ∃eF cB,ae B eF=some cB/\ch=cB.aT c d/\dv F d (F c) b=F eF/\dv ρ d (ρ c) b=ρ eF/\((b=d/\eF=c)\/(b≠d/\b≠c/\eF=b)):=fun b ch O=>by
  rw[C0] at O
  split at O
  .rename_i e;subst e;obtain⟨cB,h,rfl⟩:=ax0.1 O;exact⟨c,cB,h,rfl,dB _ _ _,dB _ _ _,.inl ⟨rfl,rfl⟩⟩
  .rename_i e
   split at O
   .cases O
   .rename_i ao;obtain⟨cB,h,rfl⟩:=ax0.1 O;exact⟨b,cB,h,rfl,dD _ _ e,dD _ _ e,.inr ⟨e,ao,rfl⟩⟩
 have aY:cm (bZ C B F w) w (bZ C (wS c d B) (dv F d (F c)) w) w:=fun b ⟨cr,cv,dm⟩=>⟨⟨cr,cv,fun e ch U bg=>by
  obtain⟨eF,cB,g1,_,g2,_⟩:=back e ch U;rw[g2] at bg;exact dm eF cB g1 bg⟩,rfl⟩
 refine⟨E,G,dv ρ d (ρ c),dv F d (F c),⟨ak.fr,fun b ch O=>?_,fun b ch O x hx=>?_,fun b d5 ch ch' x O c8 a6 hx dq=>?_,fun e U=>?_,ak.k'⟩,fun s=>?_⟩
 .obtain⟨eF,cB,g1,rfl,g2,cL,_⟩:=back b ch O;rw[g2,cL];have:=ak.holds eF cB g1;have gg:=f3 eF cB g1
  cases cB with
  |cells l=>
   obtain⟨cl,aE,T,cY,ek⟩:=this;exact⟨cl,aE,T,cY,cf.mono aY _ _ (fun _ _=>rfl) (cf.aT l aE gg ek)⟩
  |row e u xs=>exact Holds.cj (ρ':=ρ) aY (fun _ _=>rfl) (at0 _) (.row e u xs) (fun _ _=>rfl) this
  |map aF aJ es=>exact Holds.cj (ρ':=ρ) aY (fun _ _=>rfl) (at0 _) (.map aF aJ es) (fun _ _=>rfl) this
  |val u x=>exact Holds.cj (ρ':=ρ) aY (fun _ _=>rfl) (at0 _) (.val u x) (fun _ _=>rfl) this
  |az o=>exact Holds.cj (ρ':=ρ) aY (fun _ _=>rfl) (at0 _) (.az o) (fun _ _=>rfl) this
  |b5 j o=>
   have G:=Holds.cj (ρ':=ρ) aY (fun _ _=>rfl) (at0 _) (.b5 j o) (fun _ _=>rfl) this;unfold a8.aT;simp only
   split
   .rename_i e;have:=at8 e;subst this;simp only[Holds,dB] at G⊢;exact G
   .have V:j≠d:=fun e=>by subst e;simp[a8.has] at gg
    simp only[Holds] at G⊢;rw[dD _ _ V];exact G
 .obtain⟨eF,cB,g1,_,g2,_⟩:=back b ch O;rw[g2] at hx;exact ak.own eF cB g1 x hx
 .obtain⟨eF,cB,g1,_,g2,_,g8⟩:=back b ch O;obtain⟨b1,i',cl,_,cY,_,eL⟩:=back d5 ch' c8;rw[g2] at hx;rw[cY] at dq;refine ak.fd eF b1 cB i' x g1 cl (fun e=>?_) hx dq;subst e;rcases g8 with⟨af,ao⟩ |⟨af,ao,br⟩ <;>rcases eL with⟨c0,ft⟩ |⟨c0,ft,hl⟩
  .exact a6 (af.trans c0.symm)
  .exact ft (hl.symm.trans ao)
  .exact ao (br.symm.trans ft)
  .exact a6 (br.symm.trans hl)
 .rw[dD _ _ (fun cc=>by subst cc;exact f4 U)];exact ak.l0 e U
 .rw[Rl];exact cx.mono aY _ _ (fun _ _=>rfl) (cx.aT _ _ (fU s) (au s))
end
def bG.go {P:aI0} {aQ:df} {N:Nat} {ids:aH4} {K K':aW} {B B':ay} {Q:oa->aW->ay->Prop} {c:Code} (bl:d6 P aQ) (cw:Ay P aQ N ids) (stops:aH4) (J:ja P N c=true) (h:ac ids K B K' B') (cq:i9 P aQ N ids stops c K' B' Q):bG P N ids c K B Q:=
 bG.le h (Az bl cw stops c K' B' Q J cq)
end
section
section fold
variable {T m4 abo:Type} (get:m4->Nat->abo) (jO:T->m4->m4) (vo:T->Nat->Prop)
def fI (m:Nat->Bool):Nat->List T->m4->m4
 |_,[],x=>x
 |i,t::l,x=>fI m (i+1) l (if m i then jO t x else x)
variable (E: ∀t x s,¬vo t s->get (jO t x) s=get x s) (G: ∀t x y s,get x s=get y s->get (jO t x) s=get (jO t y) s)
include E G in
def AE (m hm:Nat->Bool) (s:Nat): ∀(l:List T) (i:Nat) (x y:m4),(∀j t,l[j]? =some t->vo t s->m (i+j)=hm (i+j))->get x s=get y s->get (fI jO m i l x) s=get (fI jO hm i l y) s
 | [],i,x,y,_,U=>U
 |t::l,i,x,y,h,U=>by
  unfold fI;refine AE m hm s l (i+1) _ _ (fun j u V aZ=>by rw[show i+1+j=i+(j+1) by omega];exact h (j+1) u aF8 aZ) ?_
  by_cases cq:vo t s
  .have:=h 0 t rfl cq;rw[aA0] at this;rw[this]
   split
   .exact G t x y s U
   .exact U
  .have af:get (if m i then jO t x else x) s=get x s:=by split;exact E t x s cq;rfl
   have ao:get (if hm i then jO t y else y) s=get y s:=by split;exact E t y s cq;rfl
   rw[af,ao,U]
include E G in
def KG (m:Nat->Bool) (k:Nat) (s:Nat): ∀(l:List T) (i:Nat) (x:m4) (t:T),l[k]? =some t->m (i+k)=false->(∀j u,k < j->l[j]? =some u->m (i+j)=true->vo t s-> ¬vo u s)->
  get (fI jO (fun j=>m j||j == i+k) i l x) s=get (jO t (fI jO m i l x)) s
 | [],i,x,t,Z,_,_=>by simp at Z
 |u::l,i,x,t,Z,aC,al=>by
  unfold fI
  match k with
  |0=>
   simp only[au4,at5] at Z;subst Z;rw[aA0] at aC;simp only[aA0,aC,BEq.rfl,Bool.or_true,if_true,Bool.false_eq_true,if_false]
   by_cases cq:vo u s
   .
    have af: ∀y,get (fI jO (fun j=>m j||j == i) (i+1) l y) s=get (fI jO (fun _=>false) (i+1) l y) s:=fun y=>
     AE get jO vo E G _ _ s l (i+1) y y (fun j v V aB=>by
      have a6:(i+1+j == i)=false:=by rw[beq_eq_false_iff_ne];omega
      rw[a6,Bool.or_false]
      cases oi:m (i+1+j) with
      |false=>rfl
      |true=>exact at1 aB (al (j+1) v aD7 aF8 (by rw[show i+(j+1)=i+1+j by omega];exact oi) cq)) rfl
    have ao: ∀y,get (fI jO m (i+1) l y) s=get (fI jO (fun _=>false) (i+1) l y) s:=fun y=>
     AE get jO vo E G _ _ s l (i+1) y y (fun j v V aB=>by
      cases oi:m (i+1+j) with
      |false=>rfl
      |true=>exact at1 aB (al (j+1) v aD7 aF8 (by rw[show i+(j+1)=i+1+j by omega];exact oi) cq)) rfl
    have br: ∀(l:List T) (i:Nat) (y:m4),fI jO (fun _=>false) i l y=y:=fun l=>by
     induction l with
     |nil=>exact fun _ _=>rfl
     |cons v l bk=>intro i y;unfold fI;simp[bk]
    rw[af,br];exact G u x _ s (by rw[ao,br])
   .rw[E u _ s cq]
    exact AE get jO vo E G _ _ s l (i+1) _ _ (fun j v V aB=>by
     have a6:(i+1+j == i)=false:=by rw[beq_eq_false_iff_ne];omega
     rw[a6,Bool.or_false]) (E u x s cq)
  |k+1=>
   have a6:(i == i+(k+1))=false:=by rw[beq_eq_false_iff_ne];omega
   simp only[a6,Bool.or_false];have:=KG m k s l (i+1) (if m i=true then jO u x else x) t (by simpa using Z) (by rw[show i+1+k=i+(k+1) by omega];exact aC) (fun j v V aB abp cq=>al (j+1) v aD7 aG0 (by rw[show i+(j+1)=i+1+j by omega];exact abp) cq);rw[<-this]
   have e:(fun j=>m j||j == i+1+k)=(fun j=>m j||j == i+(k+1)):=by
    funext j
    rw[show i+1+k=i+(k+1) by omega]
   rw[e]
end fold
section
variable {P:aI0} {aQ:df} {N:Nat} {ids:aH4}
abbrev hV:=Oper×lc
def hW (t:hV) (K:aW):aW:=mT t.1.dst t.2.v K
def jP (t:hV) (B:ay):ay:=hk t.2.e.iB B
def Gg (t:hV) (s:Nat):Prop:=t.1.dst=some s
def Ro (t:hV) (s:Nat):Prop:=s∈FO t.2.e
def Rp (t:hV) (K:aW) (s:Nat) (h: ¬Gg t s):dX (hW t K) s=dX K s:=by
 unfold hW mT;unfold Gg at h
 split
 .rename_i d e;rw[kM,mu (fun x=>h (by rw[e,x]))]
 .rfl
def Rq (t:hV) (K K':aW) (s:Nat) (h:dX K s=dX K' s):dX (hW t K) s=dX (hW t K') s:=by
 unfold hW mT
 split
 .rw[kM,kM,h]
 .exact h
def Gh: ∀(l:List (Nat×Option a8)) (B B':ay) (s:Nat),ae B s=ae B' s->ae (hk l B) s=ae (hk l B') s
 | [],B,B',s,h=>h
 |(c,none)::l,B,B',s,h=>Gh l _ _ s (by rw[hD,hD,h])
 |(c,some ch)::l,B,B',s,h=>Gh l _ _ s (by rw[co,co,h])
def Gi: ∀(l:List (Nat×Option a8)) (B:ay) (s:Nat),s∉l.map (·.1)->ae (hk l B) s=ae B s
 | [],B,s,h=>rfl
 |(c,none)::l,B,s,h=>by
  simp only[au9,at7,not_or] at h;unfold hk;rw[Gi l _ s h.2,hD,mu (az2 h.1)]
 |(c,some ch)::l,B,s,h=>by
  simp only[au9,at7,not_or] at h;unfold hk;rw[Gi l _ s h.2,co,mu (az2 h.1)]
def e2.congr {C:fc} {K K':aW} {B B':ay} {a:Act} {w:aH9} (cR: ∀s,dX K' s=dX K s) (de: ∀c,ae B' c=ae B c) (h:e2 N ids C K B a w):e2 N ids C K' B' a w:=by
 obtain⟨E,G,ρ,F,ak,au⟩:=h
 have a7:bZ C B' F w=bZ C B F w:=by
  funext b
  simp only[bZ,de]
 refine⟨E,G,ρ,F,⟨ak.fr,fun c ch J=>?_,fun c ch J=>ak.own c ch (by rw[<-de];exact J),fun c cn ch ch' b J c3=>ak.fd c cn ch ch' b (by rw[<-de];exact J) (by rw[<-de];exact c3),ak.l0,ak.k'⟩,fun s=>?_⟩
 .rw[a7];exact ak.holds c ch (by rw[<-de];exact J)
 .rw[a7,cR];exact au s
def Gj (P:aI0) (N:Nat) (ids:aH4) (all:aJ0) (t:hV) (K:aW) (B:ay):Prop:=
 (u4 all K t.1.guard=some false/\t.2.v= .undef/\t.2.e=bC)\/(u4 all K t.1.guard=some true/\bx P N ids t.1 K B t.2.v t.2.e/\ ∀c,c∈t.2.e.ba->g7 ids K B c=true)
def bx.lit {o:Oper} {K:aW} {B:ay} {b:Bool} {e:fk} (h:bx P N ids o K B (.c (.one (.d (.bool b)))) e):bx P N ids o K B (.c (.one (.d (.lit b)))) e:=by
 intro K' B' g1 g2 cL C a w aw bv fN Q cR;refine h K' B' g1 g2 cL C a w aw bv fN Q fun a' w' ee=>cR a' w' ?_
 cases H:o.dst with
 |none=>rw[H] at ee;exact ee
 |some d=>rw[H] at ee;exact ee.lit
def bx.any {o:Oper} {K:aW} {B:ay} {v dA:aN} {e:fk} (H:o.dst=none) (h:bx P N ids o K B v e):bx P N ids o K B dA e:=by
 intro K' B' g1 g2 cL C a w aw bv fN Q cR;refine h K' B' g1 g2 cL C a w aw bv fN Q fun a' w' ee=>cR a' w' ?_
 rw[H] at ee⊢;exact ee
def Da (P:aI0) (N:Nat) (ids:aH4) (all:aJ0):List hV->aW->ay->Prop
 | [],_,_=>True
 |t::l,K,B=>Gj P N ids all t K B/\Da P N ids all l (hW t K) (jP t B)
def runK:List hV->aW->aW
 | [],K=>K
 |t::l,K=>runK l (hW t K)
def AF:List hV->ay->ay
 | [],B=>B
 |t::l,B=>AF l (jP t B)
def Rr (bl:d6 P aQ) (all:aJ0): ∀(l:aJ0) (i:Nat) (K:aW) (B:ay) (gx:List lc) (k:aW->ay->List lc->Prop),tS P aQ ids all i l K B gx k->
  ∃ct:List hV,ct.map (·.1)=l/\Da P N ids all ct K B/\k (runK ct K) (AF ct B) ((ct.map (·.2)).reverse++gx)
 | [],i,K,B,gx,k,h=>⟨[],rfl,trivial,h⟩
 |o::l,i,K,B,gx,k,h=>by
  have rG: ∀(n:lc),Gj P N ids all (o,n) K B->tS P aQ ids all (i+1) l (hW (o,n) K) (jP (o,n) B) (n::gx) k-> ∃ct:List hV,ct.map (·.1)=o::l/\Da P N ids all ct K B/\k (runK ct K) (AF ct B) ((ct.map (·.2)).reverse++gx):=fun n hn aB=>by
   obtain⟨ct,E,G,ah⟩:=Rr bl all l (i+1) _ _ _ k aB;exact⟨(o,n)::ct,by simp[E],⟨hn,G⟩,by simpa[runK,AF] using ah⟩
  rw[Qg] at h;unfold FM at h;simp only[JA] at h
  split at h
  .exact h.elim
  .rename_i hw
   split at h
   .rename_i d e;exact rG ⟨i,.undef,bC⟩ (.inl ⟨hw,rfl,rfl⟩) (by simpa[hW,jP,mT,e,hk] using h)
   .rename_i e;exact rG ⟨i,.undef,bC⟩ (.inl ⟨hw,rfl,rfl⟩) (by simpa[hW,jP,mT,e,hk] using h)
  .rename_i hw;obtain⟨v,e,h,ax,hf⟩:=Ks (N:=N) bl h
   split at h
   .rename_i ao;exact rG ⟨i,.undef,e⟩ (.inr ⟨hw,bx.any ao ax,hf⟩) (by simpa[hW,jP,mT,ao] using h)
   .rename_i d ao
    split at h
    .rename_i b aV
     cases b with
     |true=>exact rG ⟨i,.c (.one (.d (.lit true))),e⟩ (.inr ⟨hw,ax.lit,hf⟩) (by simpa[hW,jP,mT,ao] using h.1 rfl)
     |false=>exact rG ⟨i,.c (.one (.d (.lit false))),e⟩ (.inr ⟨hw,ax.lit,hf⟩) (by simpa[hW,jP,mT,ao] using h.2 rfl)
    .exact rG ⟨i,_,e⟩ (.inr ⟨hw,ax,hf⟩) (by simpa[hW,jP,mT,ao] using h)
def Rs {all:aJ0}: ∀(ct:List hV) (i:Nat) (K:aW) (B:ay),Da P N ids all ct K B-> ∀(p:Nat) (t:hV),ct[p]? =some t->Gj P N ids all t (fI hW (fun j=>decide (j < i+p)) i ct K) (fI jP (fun j=>decide (j < i+p)) i ct B)
 | [],i,K,B,_,p,t,ag=>by simp at ag
 |u::ct,i,K,B,h,0,t,ag=>by
  simp only[au4,at5] at ag;subst ag
  have br: ∀{m4:Type} (jO:hV->m4->m4) (l:List hV) (q:Nat) (y:m4),i<=q->fI jO (fun j=>decide (j < i+0)) q l y=y:=fun {m4} jO l=>by
   induction l with
   |nil=>exact fun _ _ _=>rfl
   |cons v l bk=>
    intro q y a2;unfold fI;rw[bk (q+1) _ aD7];simp only[aw0];rw[mu aD7]
  rw[br hW _ i K (at0 _),br jP _ i B (at0 _)];exact h.1
 |u::ct,i,K,B,h,p+1,t,ag=>by
  have:=Rs ct (i+1) _ _ h.2 p t (by simpa using ag);unfold fI;simp only[aw0];rw[vj aD7,vj aD7];rw[show i+(p+1)=i+1+p by omega];exact this
def Rt: ∀(ct:List hV) (i:Nat) (m:Nat->Bool) (K:aW),(∀j,j < ct.length->m (i+j)=true)->runK ct K=fI hW m i ct K
 | [],_,_,_,_=>rfl
 |t::ct,i,m,K,h=>by
  unfold runK fI;rw[vj (by simpa using h 0 aD9)];exact Rt ct (i+1) m _ fun j V=>by rw[show i+1+j=i+(j+1) by omega];exact h (j+1) aF8
def Ru: ∀(ct:List hV) (i:Nat) (m:Nat->Bool) (B:ay),(∀j,j < ct.length->m (i+j)=true)->AF ct B=fI jP m i ct B
 | [],_,_,_,_=>rfl
 |t::ct,i,m,B,h=>by
  unfold AF fI;rw[vj (by simpa using h 0 aD9)];exact Ru ct (i+1) m _ fun j V=>by rw[show i+1+j=i+(j+1) by omega];exact h (j+1) aF8
def Rv {c:Nat}: ∀(ct:List hV) (i:Nat) (m:Nat->Bool) (K:aW),u1 c K=true->(∀(j:Nat) (t:hV),ct[j]? =some t->m (i+j)=true->named t.2 c=false)->u1 c (fI hW m i ct K)=true
 | [],_,_,_,h,_=>h
 |t::ct,i,m,K,h,aC=>by
  unfold fI;refine Rv ct (i+1) m _ ?_ fun j u V aZ=>aC (j+1) u aF8 (by rw[show i+(j+1)=i+1+j by omega];exact aZ)
  split
  .rename_i hi;have:=aC 0 t rfl (by simpa using hi);simp only[named,ax5] at this;unfold hW mT
   split
   .simp[u1,this.1,h]
   .exact h
  .exact h
def KH {c:Nat}: ∀(B:ay) (d:Nat),kQ c B=true->kQ c (gT B d)=true
 | [],d,h=>h
 |(t,v)::B,d,h=>by
  simp only[kQ,as8] at h;unfold gT
  split
  .exact KH B d h.2
  .simp[kQ,h.1,KH B d h.2]
def KI {c:Nat}: ∀(l:List (Nat×Option a8)) (B:ay),Ai c l=false->kQ c B=true->kQ c (hk l B)=true
 | [],B,_,h=>h
 |(d,none)::l,B,al,h=>by
  simp only[Ai,ax5] at al;exact KI l _ al.2 (KH B d h)
 |(d,some ch)::l,B,al,h=>by
  simp only[Ai,ax5] at al;exact KI l _ al.2 (by simp[kQ,al.1.1,al.1.2,h])
def Rw {c:Nat}: ∀(ct:List hV) (i:Nat) (m:Nat->Bool) (B:ay),kQ c B=true->(∀(j:Nat) (t:hV),ct[j]? =some t->m (i+j)=true->named t.2 c=false)->kQ c (fI jP m i ct B)=true
 | [],_,_,_,h,_=>h
 |t::ct,i,m,B,h,aC=>by
  unfold fI;refine Rw ct (i+1) m _ ?_ fun j u V aZ=>aC (j+1) u aF8 (by rw[show i+(j+1)=i+1+j by omega];exact aZ)
  split
  .rename_i hi;have:=aC 0 t rfl (by simpa using hi);simp only[named,ax5] at this;exact KI _ _ this.2 h
  .exact h
def yD (all:aJ0) (m:Nat->Bool):Prop:= ∀(j:Nat) (o:Oper),all[j]? =some o->m j=true-> ∀d∈qr o,m d=true
def Rx (all:aJ0): ∀(l Db:aJ0) (acc:List aH4),all=Db++l->acc.length=Db.length->(∀j a,a∈acc.getD j []-> ∀m,yD all m->m j=true->m a=true)-> ∀j a,a∈(Ag l acc).getD j []-> ∀m,yD all m->m j=true->m a=true
 | [],Db,acc,_,_,h=>h
 |o::l,Db,acc,U,al,h=>by
  unfold Ag;refine Rx all l (Db++[o]) _ aG8 (by simp[al]) ?_;intro j a ha m aC V;rw[at3] at ha;rcases Nat.lt_trichotomy j acc.length with bv |sO |vd
  .rw[av8 bv,<-at3] at ha;exact h j a ha m aC V
  .subst sO;rw[aw4 (at0 _)] at ha;simp only[Nat.sub_self,au4,az5,av9,List.mem_flatMap] at ha;have ai:all[acc.length]? =some o:=by rw[U,al];simp
   rcases ha with ha |⟨d,H,ha⟩
   .exact aC _ o ai V a ha
   .exact h d a ha m aC (aC _ o ai V d H)
  .rw[aA3 aF5] at ha;simp at ha
def KJ {all:aJ0} {an:List aH4}: ∀(L:List (Oper×lc×Nat)),u5 all an L=true-> ∀(i j:Nat) (x y:Oper×lc×Nat),i < j->L[i]? =some x->L[j]? =some y->((an.getD y.2.2 []).contains x.2.2&& !y.2.1.e.ba.any (named x.2.1)||apart all x.1 y.1 x.2.1 y.2.1)=true
 | [],_,i,j,x,y,_,hx,_=>by simp at hx
 |aH::L,h,0,j+1,x,y,_,hx,aD=>by
  simp only[au4,at5] at hx;subst hx;obtain⟨o,n,i⟩:=aH;simp only[u5,as8] at h;have:=av4.1 h.1 y (ay0 (by simpa using aD));obtain⟨p,m,rI⟩:=y;exact this
 |aH::L,h,i+1,j+1,x,y,bv,hx,aD=>by
  obtain⟨o,n,k⟩:=aH;simp only[u5,as8] at h;exact KJ L h.2 i j x y aD7 aG7 (by simpa using aD)
 |aH::L,h,i,0,x,y,bv,hx,aD=>by omega
def AG {a b:aH4} (h:Ah a b=false) {x:Nat} (E:x∈a) (G:x∈b):False:=by unfold Ah at h;rw[List.any_eq_false] at h;have:=h x E;simp at this;exact this G
def Ry {a:aH4} {f:Nat->Bool} (h:a.any f=false) {x:Nat} (E:x∈a):f x=false:=by rw[List.any_eq_false] at h;simpa using h x E
def abq {all:aJ0} {l5:aW} {m5:ay} {ct:List hV} (iN:ct.map (·.1)=all) (dM:Da P N ids all ct l5 m5) (dP:wJ l5 m5 all ((ct.map (·.2)).reverse++[])=true) {m:Nat->Bool} (aC:yD all m) {i:Nat} {t:hV} (hi:ct[i]? =some t) (AH:m i=false) (Gk: ∀d∈qr t.1,m d=true):
  Gj P N ids all t (fI hW m 0 ct l5) (fI jP m 0 ct m5)/\(∀s,dX (fI hW (fun j=>m j||j == i) 0 ct l5) s=dX (hW t (fI hW m 0 ct l5)) s)/\(∀s,ae (fI jP (fun j=>m j||j == i) 0 ct m5) s=ae (jP t (fI jP m 0 ct m5)) s)/\
  (∀d∈qr t.1,d < i):=by
 simp only[wJ,av2,List.reverse_reverse,as8] at dP;obtain⟨⟨abr,qx⟩,Rz⟩:=dP;have vp: ∀(j:Nat) (u:hV),ct[j]? =some u->all[j]? =some u.1:=fun j u V=>by rw[<-iN,av1,V];rfl
 have cG: ∀(j:Nat) (u:hV),ct[j]? =some u->(((all.zip (ct.map (·.2))).zipIdx).map fun((o,n),i)=>(o,n,i))[j]? =some (u.1,u.2,j):=fun j u V=>by
  have aM:(all.zip (ct.map (·.2)))[j]? =some (u.1,u.2):=by
   rw[List.getElem?_zip_eq_some];exact⟨vp j u V,by rw[av1,V];rfl⟩
  rw[av1,List.getElem?_zipIdx,aM];simp
 have abs: ∀d∈qr t.1,d < i:=fun d H=>by
  have lj:(t.1,i)∈all.zipIdx:=by
   rw[List.mem_iff_getElem?];exact⟨i,by rw[List.getElem?_zipIdx,vp i t hi];simp⟩
  have:=av4.1 abr _ lj;have:=av4.1 this d H;simpa[Nat.blt_eq] using this
 have RA:=Rx all all [] [] aD9 rfl (fun j a ha=>by simp at ha)
 have abt:yD all (fun j=>m j||j == i):=fun j o ai V d H=>by
  simp only[ay9,beq_iff_eq] at V⊢;rcases V with V |rfl
  .exact .inl (aC j o ai V d H)
  .rw[vp j t hi] at ai;injection ai with ai
   subst ai;exact .inl (Gk d H)
 have KK: ∀(j:Nat) (u:hV),ct[j]? =some u->j < i->(apart all u.1 t.1 u.2 t.2=true\/m j=true)/\t.2.e.ba.any (named u.2)=false:=fun j u V bv=>by
  have:=KJ _ Rz j i _ _ bv (cG j u V) (cG i t hi);simp only[ay9,as8,av3,av6] at this;rcases this with⟨E,G⟩ |h
  .refine⟨.inr ?_,G⟩;have:=RA i j E _ abt aD9;simp only[ay9,beq_iff_eq] at this;rcases this with h |h
   .exact h
   .omega
  .refine⟨.inl h,?_⟩;simp only[apart,as8,av3] at h;exact h.2
 have Dc: ∀(j:Nat) (u:hV),ct[j]? =some u->i < j->apart all t.1 u.1 t.2 u.2=true\/m j=false:=fun j u V bv=>by
  have:=KJ _ Rz i j _ _ bv (cG i t hi) (cG j u V);simp only[ay9,as8,av6] at this;rcases this with⟨E,_⟩ |h
  .right
   cases oi:m j with
   |false=>rfl
   |true=>have:=RA j i E m aC oi;rw[AH] at this;cases this
  .exact .inl h
 have RB: ∀s,s∈FN all t.1->dX (fI hW m 0 ct l5) s=dX (fI hW (fun j=>decide (j < 0+i)) 0 ct l5) s:=fun s aw=>
  AE dX hW Gg Rp Rq _ _ s ct 0 l5 l5 (fun j u V aZ=>by
   rw[ax6,ax6];have RC:s∈u.1.dst.toList:=by rw[show u.1.dst=some s from aZ];simp
   rcases Nat.lt_trichotomy j i with h |h |h
   .simp only[h,decide_true];refine((KK j u V h).1).resolve_left fun ha=>?_
    simp only[apart,as8,av3] at ha;exact AG ha.1.1.1.1.1 RC (List.mem_append_left _ aw)
   .subst h;simp[AH]
   .rw[show decide (j < i)=false by simp;omega];refine(Dc j u V h).resolve_left fun ha=>?_
    simp only[apart,as8,av3] at ha;exact AG ha.1.1.1.1.2 RC aw) rfl
 have abu: ∀c,c∈t.2.e.jo->ae (fI jP m 0 ct m5) c=ae (fI jP (fun j=>decide (j < 0+i)) 0 ct m5) c:=fun c J=>
  AE ae jP Ro (fun t x s h=>Gi _ _ _ h) (fun t x y s h=>Gh _ _ _ _ h) _ _ c ct 0 m5 m5 (fun j u V aZ=>by
   rw[ax6,ax6];rcases Nat.lt_trichotomy j i with h |h |h
   .simp only[h,decide_true];refine((KK j u V h).1).resolve_left fun ha=>?_
    simp only[apart,as8,av3] at ha;exact AG ha.1.1.1.2 aZ (List.mem_append_left _ J)
   .subst h;simp[AH]
   .rw[show decide (j < i)=false by simp;omega];refine(Dc j u V h).resolve_left fun ha=>?_
    simp only[apart,as8,av3] at ha;exact AG ha.1.1.2 aZ J) rfl
 refine⟨?_,fun s=>?_,fun s=>?_,abs⟩
 .have wT:=Rs ct 0 l5 m5 dM i t hi
  have hw:u4 all (fI hW m 0 ct l5) t.1.guard=u4 all (fI hW (fun j=>decide (j < 0+i)) 0 ct l5) t.1.guard:=by
   unfold u4
   cases aV:t.1.guard with
   |none=>rfl
   |some p=>
    obtain⟨j,want⟩:=p;simp only
    cases aw:CK all j with
    |none=>rfl
    |some s=>
     simp only;rw[RB s (by unfold FN;rw[aV];simp[aw])]
  rcases wT with⟨E,G,ah⟩ |⟨E,G,ah⟩
  .exact .inl ⟨hw.trans E,G,ah⟩
  .refine .inr ⟨hw.trans E,?_,fun c J=>?_⟩
   .intro K' B' g1 g2 cL;refine G K' B' (fun x hx=>(g1 x hx).trans ?_) (fun c J=>(g2 c J).trans (abu c J)) cL
    cases x with
    |tmp s=>exact RB s (List.mem_append_left _ (List.mem_filterMap.2 ⟨.tmp s,by simpa using hx,rfl⟩))
    |_=>rfl
   .have hf:=ah c J;simp only[g7,as8] at hf⊢;have yo:=av4.1 qx t.2 (av7.2 ⟨t,ay0 hi,rfl⟩);have yo:=av4.1 yo c J;simp only[as8] at yo
    have gg: ∀(j:Nat) (u:hV),ct[j]? =some u->m (0+j)=true->named u.2 c=false:=fun j u V oi=>by
     rw[ax6] at oi;rcases Nat.lt_trichotomy j i with h |h |h
     .exact Ry (KK j u V h).2 J
     .subst h;rw[AH] at oi;cases oi
     .rcases Dc j u V h with ha |ha
      .simp only[apart,as8,av3] at ha;exact Ry ha.1.2 J
      .rw[oi] at ha;cases ha
    exact⟨⟨Rv ct 0 m l5 yo.1 gg,Rw ct 0 m m5 yo.2 gg⟩,hf.2⟩
 .have:=KG dX hW Gg Rp Rq m i s ct 0 l5 t hi (by simpa using AH) (fun j u bv V oi E G=>by
   rw[ax6] at oi;rcases Dc j u V bv with ha |ha
   .simp only[apart,as8,av3] at ha;exact AG (x:=s) ha.1.1.1.1.1 (by rw[show t.1.dst=some s from E];simp) (List.mem_append_right _ (by rw[show u.1.dst=some s from G];simp))
   .rw[oi] at ha;cases ha)
  simpa using this
 .have:=KG ae jP Ro (fun t x s h=>Gi _ _ _ h) (fun t x y s h=>Gh _ _ _ _ h) m i s ct 0 m5 t hi (by simpa using AH) (fun j u bv V oi E G=>by
   rw[ax6] at oi;rcases Dc j u V bv with ha |ha
   .simp only[apart,as8,av3] at ha;exact AG ha.1.1.1.2 E (List.mem_append_right _ G)
   .rw[oi] at ha;cases ha)
  simpa using this
def AI (bl:d6 P aQ):Ay P aQ N ids:=by
 intro id du l5 m5 k H abv h C a w aw rd Q sX;refine wpIn_region_any abv ?_;obtain⟨ct,iN,dM,dP,Z⟩:=Rr (N:=N) bl du.toList du.toList 0 l5 m5 [] _ h
 have bW:ct.length=du.size:=by
  have:=at2 List.length iN;simpa using this
 have vp: ∀(j:Nat) (u:hV),ct[j]? =some u->du.toList[j]? =some u.1:=fun j u V=>by rw[<-iN,av1,V];rfl
 have RD: ∀(j:Nat) (u:hV),ct[j]? =some u->(∀d,u.1.dst=some d->d < N)/\ ∀c,u.1.op≠ .defer c:=fun j u V=>by
  have key: ∀(l:aJ0),ua N l=true-> ∀o∈l,(∀d,o.dst=some d->d < N)/\ ∀c,o.op≠ .defer c:=fun l=>by
   induction l with
   |nil=>intro _ o ai;cases ai
   |cons x l bk=>
    intro hx o ai;simp only[ua,as8] at hx;rcases at7.1 ai with rfl |ai
    .exact⟨fun d H=>by have hx:=hx.1.1;rw[H] at hx;simpa[Nat.blt_eq] using hx,Ku hx.1.2⟩
    .exact bk hx.2 o ai
  exact key _ H u.1 (ay0 (vp j u V))
 have bv: ∀(j:Nat) (u:hV),ct[j]? =some u-> ∀d,u.1.dst=some d->d < N:=fun j u V=>(RD j u V).1
 have sM: ∀(fuel:Nat) (gy:Array Bool) (a:Act) (w:aH9),gy.size=du.size->gy.toList.count false<=fuel->yD du.toList (fun j=>gy.getD j false)->
   e2 N ids C (fI hW (fun j=>gy.getD j false) 0 ct l5) (fI jP (fun j=>gy.getD j false) 0 ct m5) a w->wpAnyIn (oZ rd) 0 P .any du Q fuel gy a w:=by
  intro fuel
  have done: ∀(gy:Array Bool) (a:Act) (w:aH9),gy.size=du.size->(∀j,j < du.size->gy.getD j false=true)->e2 N ids C (fI hW (fun j=>gy.getD j false) 0 ct l5) (fI jP (fun j=>gy.getD j false) 0 ct m5) a w->Q .normal a w:=fun gy a w cA Dd ee=>by
   rw[<-Rt ct 0 _ l5 (fun j V=>by simpa using Dd j aD7),<-Ru ct 0 _ m5 (fun j V=>by simpa using Dd j aD7)] at ee;exact sX _ _ Z a w ee
  have abw: ∀(gy:Array Bool),gy.size=du.size->yD du.toList (fun j=>gy.getD j false)->Region.ready .any du gy=[]-> ∀j,j < du.size->gy.getD j false=true:=fun gy cA dR aj=>by
   intro j
   induction j using Nat.strongRecOn with
   |_ j bk=>
    intro V;obtain⟨u,aZ⟩: ∃u,ct[j]? =some u:=⟨_,as7 aD7⟩
    cases yE:gy.getD j false with
    |true=>rfl
    |false=>
     exfalso
     have lj:j∈Region.ready .any du gy:=by
      unfold Region.ready;rw[aC1];refine⟨List.mem_range.2 V,?_⟩
      have sD:gy.getD j true=false:=by
       rw[az9] at yE⊢;rw[Array.getElem?_eq_getElem aD7] at yE⊢;simpa using yE
      have ai:du[j]? =some u.1:=by simpa using vp j u aZ
      simp only[sD,Bool.not_false,aB6,ai,az3,az5];rw[Array.all_eq_true_iff_forall_mem];intro e U
      cases O:Region.binds .any e with
      |false=>rfl
      |true=>
       simp only[Bool.not_true,Bool.false_or]
       have eE:e.on∈qr u.1:=by
        unfold qr;exact av7.2 ⟨e,aC1.2 ⟨by simpa using U,O⟩,rfl⟩
       have KL:e.on < j:=by
        have dc:=dP;simp only[wJ,av2,List.reverse_reverse,as8] at dc
        have lj:(u.1,j)∈du.toList.zipIdx:=by
         rw[List.mem_iff_getElem?];exact⟨j,by rw[List.getElem?_zipIdx,vp j u aZ];simp⟩
        have:=av4.1 dc.1.1 _ lj;have:=av4.1 this _ eE;simpa[Nat.blt_eq] using this
       exact bk e.on KL aD7
     rw[aj] at lj
     cases lj
  induction fuel with
  |zero=>
   intro gy a w cA J dR ee
   have Dd: ∀j,j < du.size->gy.getD j false=true:=fun j V=>by
    cases yE:gy.getD j false with
    |true=>rfl
    |false=>
     exfalso
     have lj:false∈gy.toList:=by
      rw[az9,Array.getElem?_eq_getElem aD7] at yE;simp only[az5] at yE;rw[<-yE];simp
     have:=List.count_pos_iff.2 lj;omega
   refine⟨?_,done gy a w cA Dd ee⟩;unfold Region.ready;rw[List.filter_eq_nil_iff];intro j V;have V:=List.mem_range.1 V;have:=Dd j V;rw[az9,Array.getElem?_eq_getElem aD7] at this;simp only[az5] at this;simp[Array.getElem?_eq_getElem (show j < gy.size by omega),this]
  |succ fuel bk=>
   intro gy a w cA J dR ee;refine⟨fun aj=>done gy a w cA (abw gy cA dR aj) ee,fun i hi=>?_⟩;obtain⟨RE,o,ai,abx⟩:=mem_ready.1 hi;have asr:i < du.size:=(aA8.1 ai).1;obtain⟨t,cq⟩: ∃t,ct[i]? =some t:=⟨_,as7 aD7⟩
   have aby:o=t.1:=by
    have:=vp i t cq;rw[Array.getElem?_toList,ai] at this;injection this
   subst aby
   have KM:gy.getD i false=false:=by
    rw[az9,Array.getElem?_eq_getElem aD7] at RE⊢;simpa using RE
   have Gk: ∀d∈qr t.1,gy.getD d false=true:=fun d H=>by
    unfold qr at H;obtain⟨e,U,rfl⟩:=av7.1 H;obtain⟨jq,gG⟩:=aC1.1 U;exact abx e (by simpa using jq) gG
   obtain⟨wT,abz,abA,_⟩:=abq (m:=fun j=>gy.getD j false) iN dM dP dR cq KM Gk
   have hG:(fun j=>(gy.setIfInBounds i true).getD j false)=(fun j=>(gy.getD j false||j == i)):=by
    funext j
    by_cases e:j=i
    .subst e;simp[Array.getElem?_setIfInBounds,show j < gy.size by omega]
    .simp[Array.getElem?_setIfInBounds,az2 e,e]
   have abB:yD du.toList (fun j=>(gy.setIfInBounds i true).getD j false):=by
    rw[hG];intro j o' tP V d H;simp only[ay9,beq_iff_eq] at V⊢;rcases V with V |rfl
    .exact .inl (dR j o' tP V d H)
    .rw[vp j t cq] at tP;injection tP with tP
     subst tP;exact .inl (Gk d H)
   have abC:(gy.setIfInBounds i true).toList.count false<=fuel:=by
    rw[Array.toList_setIfInBounds,List.count_set aF5]
    have kp:gy.toList[i]'aF5=false:=by
     rw[az9,Array.getElem?_eq_getElem aD7] at KM;simpa using KM
    rw[kp];simp only[BEq.rfl,if_true,show(true == false)=false from rfl,Bool.false_eq_true,if_false];omega
   have next: ∀a' w',e2 N ids C (hW t (fI hW (fun j=>gy.getD j false) 0 ct l5)) (jP t (fI jP (fun j=>gy.getD j false) 0 ct m5)) a' w'->wpAnyIn (oZ rd) 0 P .any du Q fuel (gy.setIfInBounds i true) a' w':=fun a' w' fu=>by
    refine bk _ a' w' (by simp[cA]) abC abB ?_;rw[hG];exact fu.congr abz abA
   have abD:=ee;obtain⟨_,_,ρ,F,ak,au⟩:=abD;unfold wpOpIn;simp only[ai];rcases wT with⟨hw,aB,U⟩ |⟨hw,ax,hf⟩
   .have De:=Ax hw au;simp only[Array.toArray_toList] at De;rw[mu (by rw[De];simp)];refine⟨fun _ _=>trivial,next _ _ ?_⟩;have:=ee.undef t.1.dst (bv i t cq);unfold hW jP;rw[aB,U];exact this
   .have De:=Ax hw au;simp only[Array.toArray_toList] at De;rw[vj De];exact C5 (RD i t cq).2 (ax _ _ (fun _ _=>rfl) (fun _ _=>rfl) hf C a w ee (bv i t cq) _ Q fun a' w' fu=>next a' w' fu)
 refine sM du.size _ a _ aD9 (by simp[List.count_replicate]) (fun j o ai V=>?_) ?_
 .simp only[az9,Array.getElem?_replicate] at V
  split at V <;>simp at V
 .have aM:(fun j=>(Array.replicate du.size false).getD j false)=fun _=>false:=by
   funext j
   rw[az9];simp only[Array.getElem?_replicate]
   split <;>rfl
  rw[aM]
  have br: ∀{m4:Type} (jO:hV->m4->m4) (l:List hV) (q:Nat) (y:m4),fI jO (fun _=>false) q l y=y:=fun {m4} jO l=>by
   induction l with
   |nil=>exact fun _ _=>rfl
   |cons v l bk=>intro q y;unfold fI;simp[bk]
  rw[br,br];obtain⟨E,G,ρ,F,ak,au⟩:=aw;obtain⟨bH,aY⟩:=ak.below (w':={w with drawn:=w.drawn+1}) (Zn w);exact⟨E,G,ρ,F,bH,au.mono aY fun _ _ _=>rfl⟩
end
end
section
def Df (a b c:Nat):Nat:=match Nat.beq c a with
 |true=>b
 |false=>match Nat.beq c b with
  |true=>a
  |false=>c
def Gl {a b:Nat} (h:a≠b):Nat.beq a b=false:=by rw[aA7];exact fun e=>h (at8 e)
def RF (a b c:Nat):Df a b (Df a b c)=c:=by
 unfold Df
 by_cases E:c=a
 .subst E;simp only[Nat.beq_refl]
  by_cases G:b=c
  .subst G;simp
  .simp[Gl G]
 .simp only[Gl E]
  by_cases G:c=b
  .subst G;simp
  .simp[Gl G,Gl E]
def eD:List (Nat×Nat)->Nat->Nat
 | [],c=>c
 |(a,b)::l,c=>eD l (Df a b c)
def AJ:List (Nat×Nat)->Nat->Nat
 | [],c=>c
 |(a,b)::l,c=>Df a b (AJ l c)
def Gm: ∀(l:aK0) (c:Nat),AJ l (eD l c)=c
 | [],c=>rfl
 |(a,b)::l,c=>by simp only[eD,AJ,Gm l,RF]
def Gn: ∀(l:aK0) (c:Nat),eD l (AJ l c)=c
 | [],c=>rfl
 |(a,b)::l,c=>by simp only[eD,AJ,RF,Gn l]
def ms:List (Nat×Nat)->List (Nat×Nat)->List (Nat×Nat)
 | [],acc=>acc
 |(a,b)::l,acc=>ms l (acc++[(eD acc a,b)])
section
variable (f:Nat->Nat)
def AK:List kL->List kL
 | []=>[]
 | .p c o::l=>.p (f c) o::AK l
 | .d x::l=>.d x::AK l
def bA.eD:bA->bA
 | .ptr c o=>.ptr (f c) o
 | .own c=>.own (f c)
 | .ga c s i o=>.ga (f c) s i o
 | .os c s o n=>.os (f c) s o n
 | .mp c=>.mp (f c)
 | .c2 g l=>.c2 g (AK f l)
 | .d x=>.d x
 | .el u x o=>.el u x o
 | .dC=>.dC
 | .bK v=>.bK v
 | .any=>.any
def AL:List bA->List bA
 | []=>[]
 |s::l=>s.eD f::AL l
def dQ.eD:dQ->dQ
 | .one s=>.one (s.eD f)
 | .agg l=>.agg (AL f l)
 | .ko u x=>.ko u x
def Gp:List dQ->List dQ
 | []=>[]
 |s::l=>s.eD f::Gp l
def aN.eD:aN->aN
 | .c s=>.c (s.eD f)
 | .b4 l=>.b4 (Gp f l)
 | .undef=>.undef
def yF:List aN->List aN
 | []=>[]
 |s::l=>s.eD f::yF l
def a8.eD:a8->a8
 | .cells l=>.cells (AL f l)
 | .row e u xs=>.row e u xs
 | .map aF aJ es=>.map aF aJ es
 | .val u x=>.val u x
 | .az o=>.az o
 | .b5 d o=>.b5 (f d) o
def lk:ay->ay
 | []=>[]
 |(c,ch)::B=>(f c,ch.eD f)::lk B
def AM:aH4->aH4
 | []=>[]
 |c::l=>f c::AM l
end
section
variable {f g:Nat->Nat} {ρ:Nat->bp} {I:Nat->Prop} {w:aH9}
def KN: ∀(l:List kL) (aE:aH7),h5 ρ I w (AK f l) aE=h5 (fun c=>ρ (f c)) I w l aE
 | [],aE=>rfl
 | .p c o::l,aE=>by simp only[AK,h5,x9,KN l]
 | .d x::l,aE=>by simp only[AK,h5,x9,KN l]
def RG (s:bA) (v:aI8):dW ρ I w (s.eD f) v=dW (fun c=>ρ (f c)) I w s v:=by
 cases s with
 |c2 g l=>simp only[bA.eD,dW,KN]
 |_=>rfl
def KO: ∀(l:List bA) (aE:aH7),cf ρ I w (AL f l) aE=cf (fun c=>ρ (f c)) I w l aE
 | [],aE=>rfl
 |s::l,aE=>by simp only[AL,cf,RG,KO l]
def RH (s:dQ) (v:aI8):gC ρ I w (s.eD f) v=gC (fun c=>ρ (f c)) I w s v:=by
 cases s with
 |one s=>exact RG s v
 |agg l=>simp only[dQ.eD,gC,KO]
 |ko u x=>rfl
def RI: ∀(l:List dQ) (aE:aH7),iL ρ I w (Gp f l) aE=iL (fun c=>ρ (f c)) I w l aE
 | [],aE=>rfl
 |s::l,aE=>by simp only[Gp,iL,RH,RI l]
def Gq (s:aN) (v:aI8):cx ρ I w (s.eD f) v=cx (fun c=>ρ (f c)) I w s v:=by
 cases s with
 |c s=>exact RH s v
 |b4 l=>simp only[aN.eD,cx,RI]
 |undef=>rfl
def Dg {F:Nat->Prop} {p:bp} (ch:a8):Holds ρ I F w p (ch.eD f)=Holds (fun c=>ρ (f c)) I F w p ch:=by
 cases ch with
 |cells l=>simp only[a8.eD,Holds,KO]
 |row e u xs=>rfl
 |map aF aJ es=>rfl
 |val u x=>rfl
 |az o=>rfl
 |b5 d o=>rfl
def Dh (aV: ∀c,g (f c)=c): ∀(B:ay) (c:Nat),ae (lk f B) (f c)=(ae B c).map (·.eD f)
 | [],c=>rfl
 |(d,ch)::B,c=>by
  simp only[lk];rw[co,co,Dh aV B c]
  by_cases h:d=c
  .subst h;rw[vj rfl,vj rfl];rfl
  .rw[mu h,mu fun e=>h (by rw[<-aV d,e,aV])]
def KP: ∀(l:List aN),yF f l=l.map (·.eD f)
 | []=>rfl
 |s::l=>by simp only[yF,au9,KP l]
def KQ: ∀(l:aH4) (c:Nat),c∈l->f c∈AM f l
 | [],c,h=>by cases h
 |d::l,c,h=>by
  rcases at7.1 h with rfl |h
  .exact au7
  .exact at4 _ (KQ l c h)
end
def Fn.KR {P:aI0} {fn:aI9} {f g:Nat->Nat} (aV: ∀c,g (f c)=c) (hf: ∀c,f (g c)=c) {args:List aN} {aK:ay} {ba:aH4} {res:aN} {aO:ay} (h:Fn P fn args aK ba res aO):
  Fn P fn (yF f args) (lk f aK) (AM f ba) (res.eD f) (lk f aO):=by
 refine⟨h.1,?_⟩;intro ρ F I w b0 a7 c' bg eE bW dG;have mt: ∀(B:ay) c,ae (lk f B) (f c)=(ae B c).map (·.eD f):=Dh aV;have o8: ∀{B:ay} {c ch},ae B c=some ch->ae (lk f B) (f c)=some (ch.eD f):=fun {B c ch} h=>by rw[mt,h];rfl
 have vq: ∀{B:ay} {c ch},ae (lk f B) c=some ch-> ∃cB,ae B (g c)=some cB/\ch=cB.eD f:=fun {B c ch} h=>by
  have e:=mt B (g c);rw[hf,h] at e;obtain⟨cB,E,G⟩:=ax0.1 e.symm;exact⟨cB,E,G.symm⟩
 rw[KP] at bW dG
 have J:=h.2 (fun c=>ρ (f c)) (fun c=>F (f c)) I w b0 a7
  (fun c ch J=>by rw[<-Dg];exact c' _ _ (o8 J))
  (fun c ch J=>bg _ _ (o8 J))
  (fun c cn ch ch' b E G a6=>eE _ _ _ _ b (o8 E) (o8 G) fun e=>a6 (by rw[<-aV c,e,aV]))
  (by simpa using bW)
  (fun i v x aB hx=>by rw[<-Gq];exact dG i _ x (by rw[av1,aB];rfl) hx)
 refine J.mono ?_;rintro e w' ⟨x,ρ',F',rfl,cF,dl,I',jq,gG,lC,ax,hU,hx⟩;have yG:(fun c=>ρ' (g (f c)))=ρ':=funext fun c=>by rw[aV]
 refine⟨x,fun c=>ρ' (g c),fun c=>F' (g c),rfl,?_,?_,I',jq,?_,?_,?_,?_,?_⟩
 .exact cF.mono fun b _ ⟨c,ch,E,G⟩=>⟨f c,_,o8 E,G⟩
 .intro c J;show ρ' (g c)=ρ c;rw[dl (g c) (fun aC=>J (by have:=KQ (f:=f) _ _ aC;rwa[hf] at this)),hf]
 .intro b O;obtain⟨E,G⟩:=gG b O;refine⟨E,?_⟩;rcases G with G |⟨c,ch,G,ah⟩ |G
  .exact .inl G
  .exact .inr (.inl ⟨f c,_,o8 G,ah⟩)
  .exact .inr (.inr G)
 .intro c ch J;obtain⟨cB,E,rfl⟩:=vq J;rw[Dg,yG];exact lC _ _ E
 .intro c ch J b O;obtain⟨cB,E,rfl⟩:=vq J;obtain⟨cr,cv,dm⟩:=ax _ _ E b O;refine⟨cr,cv,?_⟩;rcases dm with⟨gU,cB,dm,eu⟩ |dm
  .exact .inl ⟨f gU,_,o8 dm,eu⟩
  .exact .inr dm
 .intro c cn ch ch' b J c3 a6;obtain⟨cB,E,rfl⟩:=vq J;obtain⟨i',G,rfl⟩:=vq c3;exact hU _ _ _ _ b E G fun e=>a6 (by rw[<-hf c,e,hf])
 .rw[Gq,yG];exact hx
def Fn.aT {P:aI0} {fn:aI9} (l:aK0) {args:List aN} {aK:ay} {ba:aH4} {res:aN} {aO:ay} (h:Fn P fn args aK ba res aO):
  Fn P fn (yF (eD (ms l [])) args) (lk (eD (ms l [])) aK) (AM (eD (ms l [])) ba) (res.eD (eD (ms l []))) (lk (eD (ms l [])) aO):=
 Fn.KR (Gm _) (Gn _) h
end
section
open Go.RowKit Go.ChangeShapes Go.WideShapes Go.Deep _root_.Go.Proofs.Tryz Tryz
noncomputable def h8:(u:bz)->aa u->Nat
 | .int _,_=>1
 | .u8,_=>1
 | .bool,_=>1
 | .str,s=>1+List.length s
 | .aL,_=>1
 | .da,_=>1
 | .fn,_=>1
 | .ci u,xs=>1+(List.map (h8 u) xs).sum
 | .bV u v,p=>h8 u p.1+h8 v p.2
 | .arr _ u,xs=>(List.map (h8 u) xs).sum
def uc:(u:bz)->aa u->Prop
 | .int k,n=>(Lit.int k n).wf=true
 | .ci u,xs=> ∀x,Fk (α:=aa u) x xs->uc u x
 | .bV u v,p=>uc u p.1/\uc v p.2
 | .arr _ u,xs=> ∀x,Fk (α:=aa u) x xs->uc u x
 |_,_=>True
def qy (P:aI0) (ty:bz->TypeId->Bool):bz->List Field->Nat->Bool
 |_,[],_=>false
 |u,[f],off=>Nat.beq f.offset off&&ty u f.type&&Nat.beq (P.cellsOf f.type) (aR u)
 | .bV u v,f::g::fs,off=>Nat.beq f.offset off&&ty u f.type&&Nat.beq (P.cellsOf f.type) (aR u)&&qy P ty v (g::fs) (off+aR u)
 |_,_::_::_,_=>false
def qz (P:aI0):Nat->bz->TypeId->Bool
 |0,_,_=>false
 |n+1,u,t=>match P.underlying t,u with
  |some (.int k),.int ec=>mo k ec
  |some (.int k),.u8=>mo k .u8
  |some .bool,.bool=>true
  |some .string,.str=>true
  |some (.slice e),.ci v=>qz P n v e&&Nat.beq (P.cellsOf e) (aR v)&&Nat.blt 0 (aR v)
  |some (.array m e),.arr hm v=>Nat.beq m hm&&qz P n v e&&Nat.beq (P.cellsOf e) (aR v)
  |some (.struct fs),u=>qy P (qz P n) u fs.toList 0
  |_,_=>false
section
variable {hX:Type} {enc:TypeId×Value->hX} {w:aH9} {base:Nat} {KS:Nat->Bool} {held:Bool} {P:aI0}
def KT (d:DataW hX):1<=Rows.uptoBulk d:=by
 unfold Rows.uptoBulk
 split <;>omega
def RJ (l r:List (DataW hX)):Rows.uptoBulkAll (l++r)=Rows.uptoBulkAll l+Rows.uptoBulkAll r:=by
 induction l with
 |nil=>simp[Rows.uptoBulkAll]
 |cons x l bk=>simp only[List.cons_append,Rows.uptoBulkAll,bk];omega
def RK (w:aH9) (u:bz) (cs:aH7) (b:Nat):Prop:= ∃a:aa u,cy (fun b=>b < w.heap.size) w u a (fun j=>cs[j]?)/\h8 u a<=b/\uc u a
def yH {I:Nat->Prop} {u:bz} {a:aa u} {c cn:Nat->Option Value} (h:cy I w u a c) (J: ∀j v,c j=some v->cn j=some v):cy I w u a cn:=cy.mono (cm.refl I w) u a c cn J h
def KU {cs:aH7} {o k j:Nat} {v:aI8} (h:((cs.drop o).take k)[j]? =some v):cs[o+j]? =some v:=by
 rw[ay5] at h
 split at h
 .rwa[aC3] at h
 .cases h
def RL {ty:bz->TypeId->Bool} {n:Nat} (bk: ∀u t,ty u t=true-> ∀cs x,DataW.trod enc P w base KS held n t cs=some x->RK w u cs (Rows.uptoBulk x.1)):
  ∀(fs:List Field) (u:bz) (off:Nat) (xs:List (DataW hX×List MemPlace)) (cs:aH7),qy P ty u fs off=true->xs.length=fs.length->
   (∀(i:Nat) (f:Field),fs[i]? =some f->DataW.trod enc P w base KS held n f.type ((cs.drop f.offset).take (P.cellsOf f.type))=xs[i]?)->
   ∃a:aa u,cy (fun b=>b < w.heap.size) w u a (fun j=>cs[off+j]?)/\h8 u a<=Rows.uptoBulkAll (xs.map (·.1))/\uc u a
 | [],u,off,xs,cs,h,_,_=>by simp[qy] at h
 | [f],u,off,xs,cs,h,al,hf=>by
  simp only[qy,as8,Nat.beq_eq] at h;obtain⟨⟨E,G⟩,ah⟩:=h
  match xs,al with
  | [x],_=>
   obtain⟨a,cr,cv,dm⟩:=bk _ _ G _ _ (hf 0 f rfl);subst E;exact⟨a,yH cr fun j v aB=>KU aB,by simpa[Rows.uptoBulkAll] using cv,dm⟩
 |f::g::fs,.bV u v,off,xs,cs,h,al,hf=>by
  simp only[qy,as8,Nat.beq_eq] at h;obtain⟨⟨⟨E,G⟩,ah⟩,aS⟩:=h
  match xs,al with
  |x::xs,al=>
   obtain⟨a,cr,cv,dm⟩:=bk _ _ G _ _ (hf 0 f rfl);obtain⟨b,r1,r2,fQ⟩:=RL bk (g::fs) v (off+aR u) xs cs aS (by simpa using al) (fun i f hi=>hf (i+1) f hi);subst E;refine⟨(a,b),⟨yH cr fun j v aB=>KU aB,yH r1 fun j v aB=>by simpa only[Nat.add_assoc] using aB⟩,?_,dm,fQ⟩;simp only[h8,au9,Rows.uptoBulkAll];omega
 |_::_::_,.int _,_,_,_,h,_,_=>by simp[qy] at h
 |_::_::_,.u8,_,_,_,h,_,_=>by simp[qy] at h
 |_::_::_,.bool,_,_,_,h,_,_=>by simp[qy] at h
 |_::_::_,.str,_,_,_,h,_,_=>by simp[qy] at h
 |_::_::_,.aL,_,_,_,h,_,_=>by simp[qy] at h
 |_::_::_,.ci _,_,_,_,h,_,_=>by simp[qy] at h
 |_::_::_,.arr _ _,_,_,_,h,_,_=>by simp[qy] at h
def RM {α:Type} {l:List α} {y x:α} {i:Nat} (h:eR (l++[y]) i=some x):(i < l.length/\eR l i=some x)\/(i=l.length/\x=y):=by
 unfold eR at*;rcases Nat.lt_trichotomy i l.length with E |E |E
 .rw[av8 E] at h;exact .inl ⟨E,h⟩
 .subst E;simp only[List.getElem?_concat_length,at5] at h;exact .inr ⟨rfl,h.symm⟩
 .rw[aA3 aF5] at h
  cases h
def Gr: ∀(n:Nat) (u:bz) (t:aI3),qz P n u t=true-> ∀(m:Nat) (cs:aH7) (x:DataW hX×List MemPlace),DataW.trod enc P w base KS held m t cs=some x->RK w u cs (Rows.uptoBulk x.1)
 |0,u,t,h,_,_,_,_=>by simp[qz] at h
 |n+1,u,t,h,m,cs,x,hx=>by
  unfold qz at h
  split at h
  case h_1 k ec aZ=>
   obtain rfl:=ob h;obtain⟨i,rfl,rfl,hw⟩:=DataW.trod_int aZ hx;exact⟨i,rfl,KT _,hw⟩
  case h_2 k aZ=>
   obtain rfl:=ob h;obtain⟨i,rfl,rfl,hw⟩:=DataW.trod_int aZ hx
   have Z:0<=i/\i < 256:=by
    simp[Lit.wf,IntKind.min,IntKind.max,IntKind.bits,IntKind.signed] at hw;omega
   refine⟨(UInt8.ofNat i.toNat:UInt8),?_,KT _,trivial⟩;show some (Value.int .u8 i)=some (Value.int .u8 _)
   congr 2
   rw[UInt8.toNat_ofNat'];omega
  case h_3 aZ=>
   obtain⟨b,rfl,rfl⟩:=DataW.trod_bool aZ hx;exact⟨b,rfl,KT _,trivial⟩
  case h_4 aZ=>
   obtain⟨s,rfl,rfl,aw⟩:=DataW.trod_string aZ hx;refine⟨(s.data.toList:aH3),rfl,?_,trivial⟩;simp only[h8,Rows.uptoBulk];omega
  case h_5 e v aZ=>
   simp only[as8,Nat.beq_eq] at h;obtain⟨⟨E,G⟩,ah⟩:=h;have ah:0 < aR v:=by simpa[Nat.blt_eq] using ah
   rcases open_slice aZ hx with⟨rfl,rfl⟩ |⟨a,len,cap,hm,sH,D,bp,rfl,fO,al,aC,abE,rfl,Di⟩
   .refine⟨([]:List (aa v)),⟨none,0,rfl,at0 _,at6 _,fun h=>at1 h (Nat.lt_irrefl 0)⟩,by simp[h8,Rows.uptoBulk],fun x hx=>by cases hx⟩
   .rw[G] at Di;have lD:len<=hm:=by rw[abE];split <;>omega
    have key: ∀k,k<=len-> ∃l:List (aa v),l.length=k/\(l.map (h8 v)).sum<=Rows.uptoBulkAll ((List.range k).map D)/\(∀x,x∈l->uc v x)/\
      (∀i x,eR l i=some x->cy (fun b=>b < w.heap.size) w v x (fun j=>if j < aR v then w.cell? ((a.add (i*aR v)).add j) else none)):=by
     intro k
     induction k with
     |zero=>exact fun _=>⟨[],rfl,aD9,(fun x h=>by cases h),fun i x h=>by simp[eR] at h⟩
     |succ k abF=>
      intro Z;obtain⟨l,kq,hF,ud,vr⟩:=abF aD7;obtain⟨abG,J,abH⟩:=Di k aD7;obtain⟨y,vs,wU,Dj⟩:=Gr n v e E _ _ _ abH;obtain⟨-,dR,ol⟩:=World.cells?_some J;refine⟨l++[y],by simp[kq],?_,?_,?_⟩
      .rw[List.range_succ,ay6,ay6,List.sum_append,RJ];have wU:h8 v y<=Rows.uptoBulk (D k):=wU;simp only[Rows.uptoBulkAll,au9,aC9,List.sum_cons,List.sum_nil];omega
      .intro x hx;rcases av9.1 hx with hx |hx
       .exact ud x hx
       .simp at hx;subst hx;exact Dj
      .intro i x hi;rcases RM hi with⟨_,hi⟩ |⟨rfl,rfl⟩
       .exact vr i x hi
       .rw[kq];refine yH vs fun j dA aB=>?_
        have V:=(au0.1 aB).1;rw[vj aD7,ol j aD7];exact aB
    obtain⟨l,kq,hF,ud,vr⟩:=key len (at0 _);refine⟨l,⟨some a,cap,by rw[show List.length (α:=aa v) l=len from kq];rfl,by rw[show List.length (α:=aa v) l=len from kq];exact al,aC,fun ar=>?_⟩,?_,ud⟩
    .have ar:0 < len:=by rw[<-kq];exact ar
     obtain⟨abG,J,_⟩:=Di 0 aD7;obtain⟨-,dR,ol⟩:=World.cells?_some J;have yI:=ol 0 aD7;rw[as7 aD7] at yI;obtain⟨b,o,spot⟩:=a;have abI:spot=none:=by simpa[Addr.add] using World.cell?_spot yI
     subst abI;have fO:=World.block_lt_of_cell? w _ yI;refine⟨b,o,rfl,by simpa[Addr.add] using fO,fun i x hi=>yH (vr i x hi) fun j dA aB=>?_⟩
     split at aB
     .rwa[add_plain,add_plain,Nat.add_assoc] at aB
     .cases aB
    .simp only[h8,Rows.uptoBulk];exact(show 1+(l.map (h8 v)).sum<=_ by omega)
  case h_6 k e ec v aZ=>
   simp only[as8,Nat.beq_eq] at h;obtain⟨⟨ar,E⟩,G⟩:=h;subst ar;obtain⟨xs,hm,rfl,rfl,al,t8,hf⟩:=DataW.trod_array aZ hx;rw[G] at hf
   have key: ∀q,q<=k-> ∃l:List (aa v),l.length=q/\(l.map (h8 v)).sum<=Rows.uptoBulkAll ((xs.take q).map (·.1))/\(∀x,x∈l->uc v x)/\
     (∀i x,eR l i=some x->cy (fun b=>b < w.heap.size) w v x (fun j=>cs[i*aR v+j]?)):=by
    intro q
    induction q with
    |zero=>exact fun _=>⟨[],rfl,aD9,(fun x h=>by cases h),fun i x h=>by simp[eR] at h⟩
    |succ q abJ=>
     intro a2;obtain⟨l,kq,hF,ud,vr⟩:=abJ aD7;have RN:=hf q aD7;rw[as7 aD7] at RN;obtain⟨y,vs,wU,Dj⟩:=Gr n v e E _ _ _ RN;refine⟨l++[y],by simp[kq],?_,?_,?_⟩
     .rw[aB1,as7 aD7,ay6,ay6,List.sum_append,RJ];simp only[Rows.uptoBulkAll,au9,aC9,List.sum_cons,List.sum_nil,Option.toList_some];omega
     .intro x hx;rcases av9.1 hx with hx |hx
      .exact ud x hx
      .simp at hx;subst hx;exact Dj
     .intro i x hi;rcases RM hi with⟨_,hi⟩ |⟨rfl,rfl⟩
      .exact vr i x hi
      .rw[kq];exact yH vs fun j dA aB=>KU aB
   obtain⟨l,kq,hF,ud,vr⟩:=key k (at0 _);refine⟨l,⟨kq,vr⟩,?_,ud⟩;rw[ax3 aD7] at hF;simp only[h8,Rows.uptoBulk];exact(show(l.map (h8 v)).sum<=_ by omega)
  case h_7 tQ fs aZ=>
   obtain⟨xs,hm,rfl,rfl,al,t8,hf⟩:=DataW.trod_struct aZ hx;obtain⟨a,cr,cv,dm⟩:=RL (fun u t cq cs x h=>Gr n u t cq _ cs x h) fs.toList _ 0 xs cs h (by simpa using t8) (fun i f hi=>hf i f (by simpa using hi));refine⟨a,yH cr fun j v aB=>by rw[ax6] at aB;exact aB,?_,dm⟩;simp only[Rows.uptoBulk];omega
  case h_8=>cases h
end
end
section
namespace wV
def t3:b8:=⟨.int .i64,1,false,[.d (.int .i64 0)],[],some (.int .i64),8⟩
def t4:b8:=⟨.bool,1,false,[.d (.lit false)],[],some .bool,1⟩
def t5:b8:=⟨.int .u8,1,false,[.d (.int .u8 0)],[],some .u8,1⟩
def t9:b8:=⟨.str,1,false,[.d (.str [])],[],some .str,16⟩
def t20:b8:=⟨.other,1,false,[.bK .nilIface],[],none,16⟩
def abK:b8:=⟨.int .i32,1,false,[.d (.int .i32 0)],[],some (.int .i32),4⟩
def t22:b8:=⟨.ci 29,1,false,[.dC],[],some (.ci (.bV (.int .i64) (.bV (.ci .u8) (.bV (.int .i64) .str)))),24⟩
def t25:b8:=⟨.ptr 89,1,false,[.bK (.pointer none)],[],some .aL,8⟩
def t27:b8:=⟨.ci 5,1,false,[.dC],[],some (.ci .u8),24⟩
def t29:b8:=⟨.st,4,true,[.d (.int .i64 0),.dC,.d (.int .i64 0),.d (.str [])],[(0,1),(1,1),(2,1),(3,1)],some (.bV (.int .i64) (.bV (.ci .u8) (.bV (.int .i64) .str))),56⟩
def abL:b8:=⟨.int .i64,1,false,[.d (.int .i64 0)],[],some (.int .i64),8⟩
def abM:b8:=⟨.other,1,false,[.bK .nilFunc],[],some .fn,8⟩
def t32:b8:=⟨.ci 234,1,false,[.dC],[],some (.ci (.bV .str (.ci (.int .i64)))),24⟩
def abN:b8:=⟨.st,7,true,[.d (.int .i64 0),.d (.int .i64 0),.d (.int .i64 0),.dC,.d (.str []),.d (.str []),.dC],[(0,1),(1,1),(2,1),(3,1),(4,1),(5,1),(6,1)],some (.bV (.int .i64) (.bV (.int .i64) (.bV (.int .i64) (.bV (.ci .u8) (.bV .str (.bV .str (.ci (.bV .str (.ci (.int .i64)))))))))),104⟩
def abO:b8:=⟨.ci 9,1,false,[.dC],[],some (.ci .str),24⟩
def abP:b8:=⟨.ptr 97,1,false,[.bK (.pointer none)],[],some .aL,8⟩
def abQ:b8:=⟨.ci 3,1,false,[.dC],[],some (.ci (.int .i64)),24⟩
def t44:b8:=⟨.st,4,true,[.dC,.dC,.dC,.dC],[(0,1),(1,1),(2,1),(3,1)],some (.bV (.ci (.int .i64)) (.bV (.ci (.int .i64)) (.bV (.ci (.int .i64)) (.ci (.int .i64))))),96⟩
def t46:b8:=⟨.ptr 168,1,false,[.bK (.pointer none)],[],some .aL,8⟩
def abR:b8:=⟨.st,5,true,[.d (.int .i64 0),.d (.int .i64 0),.d (.int .i64 0),.d (.int .i64 0),.d (.int .i64 0)],[(0,1),(1,1),(2,1),(3,1),(4,1)],some (.bV (.int .i64) (.bV (.int .i64) (.bV (.int .i64) (.bV (.int .i64) (.int .i64))))),40⟩
def abS:b8:=⟨.ptr 198,1,false,[.bK (.pointer none)],[],some .aL,8⟩
def t57:b8:=⟨.ci 61,1,false,[.dC],[],some (.ci (.bV (.int .i64) (.bV (.int .i64) (.ci .u8)))),24⟩
def abT:b8:=⟨.st,3,true,[.d (.int .i64 0),.d (.int .i64 0),.dC],[(0,1),(1,1),(2,1)],some (.bV (.int .i64) (.bV (.int .i64) (.ci .u8))),40⟩
def abU:b8:=⟨.ci 66,1,false,[.dC],[],some (.ci (.bV (.int .i64) (.bV (.int .i64) (.int .i64)))),24⟩
def abV:b8:=⟨.st,3,true,[.d (.int .i64 0),.d (.int .i64 0),.d (.int .i64 0)],[(0,1),(1,1),(2,1)],some (.bV (.int .i64) (.bV (.int .i64) (.int .i64))),24⟩
def abW:b8:=⟨.ptr 126,1,false,[.bK (.pointer none)],[],some .aL,8⟩
def abX:b8:=⟨.mp 3 31,1,false,[.bK (.map none)],[],none,8⟩
def abY:b8:=⟨.ptr 195,1,false,[.bK (.pointer none)],[],some .aL,8⟩
def abZ:b8:=⟨.other,1,false,[.bK .nilIface],[],none,16⟩
def ab0:b8:=⟨.ptr 216,1,false,[.bK (.pointer none)],[],some .aL,8⟩
def ab1:b8:=⟨.ptr 225,1,false,[.bK (.pointer none)],[],some .aL,8⟩
def ab2:b8:=⟨.ci 128,1,false,[.dC],[],some (.ci (.bV (.int .i64) (.ci .u8))),24⟩
def ab3:b8:=⟨.st,5,true,[.d (.str []),.d (.str []),.d (.int .i64 0),.d (.int .i64 0),.dC],[(0,1),(1,1),(2,1),(3,1),(4,1)],some (.bV .str (.bV .str (.bV (.int .i64) (.bV (.int .i64) (.ci (.bV (.int .i64) (.ci .u8))))))),72⟩
def ab4:b8:=⟨.ptr 208,1,false,[.bK (.pointer none)],[],some .aL,8⟩
def ab5:b8:=⟨.st,7,true,[.d (.str []),.d (.str []),.d (.int .i64 0),.d (.int .i64 0),.dC,.d (.str []),.bK (.pointer none)],[(0,5),(5,1),(6,1)],some (.bV (.bV .str (.bV .str (.bV (.int .i64) (.bV (.int .i64) (.ci (.bV (.int .i64) (.ci .u8))))))) (.bV .str .aL)),96⟩
def ab6:b8:=⟨.st,17,true,[.d (.int .i64 0),.d (.str []),.bK (.pointer none),.bK (.pointer none),.bK (.pointer none),.bK (.pointer none),.d (.int .i64 0),.bK .nilIface,.bK (.pointer none),.bK (.pointer none),.d (.str []),.d (.str []),.d (.int .i64 0),.d (.int .i64 0),.dC,.d (.str []),.bK (.pointer none)],[(0,1),(1,1),(2,1),(3,1),(4,1),(5,1),(6,1),(7,1),(8,1),(9,1),(10,7)],none,192⟩
def ab7:b8:=⟨.other,1,false,[.bK .nilFunc],[],some .fn,8⟩
def ab8:b8:=⟨.other,1,false,[.bK .nilFunc],[],some .fn,8⟩
def ab9:b8:=⟨.mp 9 95,1,false,[.bK (.map none)],[],none,8⟩
def ab':b8:=⟨.ptr 106,1,false,[.bK (.pointer none)],[],some .aL,8⟩
def aca:b8:=⟨.st,3,true,[.d (.int .i64 0),.d (.int .i64 0),.bK (.map none)],[(0,1),(1,1),(2,1)],none,24⟩
def acb:b8:=⟨.ptr 170,1,false,[.bK (.pointer none)],[],some .aL,8⟩
def acd:b8:=⟨.st,2,true,[.bK (.pointer none),.d (.str [])],[(0,1),(1,1)],some (.bV .aL .str),24⟩
def ace:b8:=⟨.st,2,true,[.d (.int .i64 0),.d (.int .i64 0)],[(0,1),(1,1)],some (.bV (.int .i64) (.int .i64)),16⟩
def acf:b8:=⟨.other,1,false,[.bK .nilFunc],[],some .fn,8⟩
def acg:b8:=⟨.st,3,true,[.bK (.pointer none),.d (.str []),.bK (.pointer none)],[(0,1),(1,1),(2,1)],some (.bV .aL (.bV .str .aL)),32⟩
def ach:b8:=⟨.ptr 184,1,false,[.bK (.pointer none)],[],some .aL,8⟩
def aci:b8:=⟨.other,1,false,[.bK .nilFunc],[],some .fn,8⟩
def acj:b8:=⟨.ci 84,1,false,[.dC],[],some (.ci (.bV .str (.bV .str (.bV (.int .i64) (.bV (.int .i64) (.ci (.bV (.int .i64) (.ci .u8)))))))),24⟩
def ack:b8:=⟨.st,1,true,[.dC],[(0,1)],some (.ci (.bV .str (.bV .str (.bV (.int .i64) (.bV (.int .i64) (.ci (.bV (.int .i64) (.ci .u8)))))))),24⟩
def acl:b8:=⟨.st,2,true,[.d (.int .i64 0),.dC],[(0,1),(1,1)],some (.bV (.int .i64) (.ci .u8)),32⟩
def acm:b8:=⟨.ptr 220,1,false,[.bK (.pointer none)],[],some .aL,8⟩
def acn:b8:=⟨.other,1,false,[.bK .nilFunc],[],some .fn,8⟩
def aco:b8:=⟨.ptr 263,1,false,[.bK (.pointer none)],[],some .aL,8⟩
def acp:b8:=⟨.mp 3 27,1,false,[.bK (.map none)],[],none,8⟩
def acq:b8:=⟨.ci 253,1,false,[.dC],[],some (.ci (.bV .str .aL)),24⟩
def acr:b8:=⟨.st,5,true,[.d (.int .i64 0),.bK (.pointer none),.bK (.pointer none),.bK (.map none),.dC],[(0,1),(1,1),(2,1),(3,1),(4,1)],none,56⟩
def acs:b8:=⟨.st,1,true,[.dC],[(0,1)],some (.ci (.int .i64)),24⟩
def acu:b8:=⟨.ci 164,1,false,[.dC],[],some (.ci .aL),24⟩
def acv:b8:=⟨.other,1,false,[.bK .nilFunc],[],some .fn,8⟩
def acw:b8:=⟨.st,3,true,[.d (.int .i64 0),.d (.int .i64 0),.d (.lit false)],[(0,1),(1,1),(2,1)],some (.bV (.int .i64) (.bV (.int .i64) .bool)),24⟩
def acx:b8:=⟨.ci 110,1,false,[.dC],[],some (.ci (.bV (.int .i64) (.int .i64))),24⟩
def acy:b8:=⟨.other,1,false,[.bK .nilFunc],[],some .fn,8⟩
def acz:b8:=⟨.mp 3 180,1,false,[.bK (.map none)],[],none,8⟩
def acA:b8:=⟨.st,2,true,[.dC,.d (.int .i64 0)],[(0,1),(1,1)],some (.bV (.ci .u8) (.int .i64)),32⟩
def acB:b8:=⟨.int .u64,1,false,[.d (.int .u64 0)],[],some (.int .u64),8⟩
def acC:b8:=⟨.other,1,false,[.bK .nilFunc],[],some .fn,8⟩
def acD:b8:=⟨.mp 9 231,1,false,[.bK (.map none)],[],none,8⟩
def acE:b8:=⟨.st,2,true,[.d (.int .i64 0),.bK (.map none)],[(0,1),(1,1)],none,16⟩
def acF:b8:=⟨.mp 9 209,1,false,[.bK (.map none)],[],none,8⟩
def acG:b8:=⟨.st,1,true,[.bK (.map none)],[(0,1)],none,8⟩
def acH:b8:=⟨.other,1,false,[.bK .nilFunc],[],some .fn,8⟩
def acI:b8:=⟨.other,1,false,[.bK .nilFunc],[],some .fn,8⟩
def acJ:b8:=⟨.mp 3 3,1,false,[.bK (.map none)],[],none,8⟩
def acK:b8:=⟨.st,3,true,[.d (.int .i64 0),.d (.int .i64 0),.bK (.map none)],[(0,1),(1,1),(2,1)],none,24⟩
def acL:b8:=⟨.ptr 212,1,false,[.bK (.pointer none)],[],some .aL,8⟩
def acM:b8:=⟨.st,4,true,[.d (.str []),.d (.lit false),.d (.lit false),.bK (.pointer none)],[(0,1),(1,1),(2,1),(3,1)],some (.bV .str (.bV .bool (.bV .bool .aL))),32⟩
def acN:b8:=⟨.st,5,true,[.bK (.pointer none),.d (.str []),.d (.str []),.bK (.map none),.d (.lit false)],[(0,1),(1,1),(2,1),(3,1),(4,1)],none,56⟩
def acO:b8:=⟨.st,4,true,[.bK (.pointer none),.d (.str []),.d (.str []),.d (.lit false)],[(0,1),(1,1),(2,1),(3,1)],some (.bV .aL (.bV .str (.bV .str .bool))),48⟩
def acP:b8:=⟨.st,9,true,[.bK (.pointer none),.d (.str []),.d (.int .i64 0),.d (.int .i64 0),.d (.int .i64 0),.bK (.map none),.bK (.map none),.d (.lit false),.d (.lit false)],[(0,1),(1,1),(2,1),(3,1),(4,1),(5,1),(6,1),(7,1),(8,1)],none,72⟩
def acQ:b8:=⟨.ptr 299,1,false,[.bK (.pointer none)],[],some .aL,8⟩
def acR:b8:=⟨.st,2,true,[.d (.str []),.dC],[(0,1),(1,1)],some (.bV .str (.ci (.int .i64))),40⟩
def acS:b8:=⟨.other,1,false,[.bK .nilFunc],[],some .fn,8⟩
def acT:b8:=⟨.st,2,true,[.d (.str []),.bK (.pointer none)],[(0,1),(1,1)],some (.bV .str .aL),24⟩
def acU:b8:=⟨.other,1,false,[.bK .nilFunc],[],some .fn,8⟩
def acV:b8:=⟨.other,1,false,[.bK .nilFunc],[],some .fn,8⟩
def acW:b8:=⟨.other,1,false,[.bK .nilFunc],[],some .fn,8⟩
def acX:b8:=⟨.mp 3 261,1,false,[.bK (.map none)],[],none,8⟩
def acY:b8:=⟨.arr 16 176,48,true,[.d (.int .i64 0),.d (.int .i64 0),.d (.lit false),.d (.int .i64 0),.d (.int .i64 0),.d (.lit false),.d (.int .i64 0),.d (.int .i64 0),.d (.lit false),.d (.int .i64 0),.d (.int .i64 0),.d (.lit false),.d (.int .i64 0),.d (.int .i64 0),.d (.lit false),.d (.int .i64 0),.d (.int .i64 0),.d (.lit false),.d (.int .i64 0),.d (.int .i64 0),.d (.lit false),.d (.int .i64 0),.d (.int .i64 0),.d (.lit false),.d (.int .i64 0),.d (.int .i64 0),.d (.lit false),.d (.int .i64 0),.d (.int .i64 0),.d (.lit false),.d (.int .i64 0),.d (.int .i64 0),.d (.lit false),.d (.int .i64 0),.d (.int .i64 0),.d (.lit false),.d (.int .i64 0),.d (.int .i64 0),.d (.lit false),.d (.int .i64 0),.d (.int .i64 0),.d (.lit false),.d (.int .i64 0),.d (.int .i64 0),.d (.lit false),.d (.int .i64 0),.d (.int .i64 0),.d (.lit false)],[],some (.arr 16 (.bV (.int .i64) (.bV (.int .i64) .bool))),384⟩
def acZ:b8:=⟨.st,2,true,[.d (.int .i64 0),.bK (.map none)],[(0,1),(1,1)],none,16⟩
def ac0:b8:=⟨.other,1,false,[.bK .nilFunc],[],some .fn,8⟩
def ac1:b8:=⟨.other,1,false,[.bK .nilFunc],[],some .fn,8⟩
def ac2:b8:=⟨.other,1,false,[.bK .nilFunc],[],some .fn,8⟩
def ac3:b8:=⟨.st,4,true,[.d (.int .i64 0),.d (.int .i64 0),.d (.int .i64 0),.d (.int .i64 0)],[(0,1),(1,1),(2,1),(3,1)],some (.bV (.int .i64) (.bV (.int .i64) (.bV (.int .i64) (.int .i64)))),32⟩
def ac4:b8:=⟨.other,1,false,[.bK .nilFunc],[],some .fn,8⟩
def ac5:b8:=⟨.other,1,false,[.bK .nilFunc],[],some .fn,8⟩
def ac6:b8:=⟨.other,1,false,[.bK .nilFunc],[],some .fn,8⟩
def ac7:b8:=⟨.other,1,false,[.bK .nilFunc],[],some .fn,8⟩
def ac8:b8:=⟨.other,1,false,[.bK .nilFunc],[],some .fn,8⟩
def ac9:b8:=⟨.mp 3 301,1,false,[.bK (.map none)],[],none,8⟩
def ac':b8:=⟨.ci 303,1,false,[.dC],[],some (.ci (.bV (.int .i64) (.arr 16 .u8))),24⟩
def ada:b8:=⟨.st,5,true,[.d (.int .i64 0),.d (.int .i64 0),.bK (.map none),.bK (.map none),.dC],[(0,1),(1,1),(2,1),(3,1),(4,1)],none,56⟩
def adb:b8:=⟨.arr 16 5,16,true,[.d (.int .u8 0),.d (.int .u8 0),.d (.int .u8 0),.d (.int .u8 0),.d (.int .u8 0),.d (.int .u8 0),.d (.int .u8 0),.d (.int .u8 0),.d (.int .u8 0),.d (.int .u8 0),.d (.int .u8 0),.d (.int .u8 0),.d (.int .u8 0),.d (.int .u8 0),.d (.int .u8 0),.d (.int .u8 0)],[],some (.arr 16 .u8),16⟩
def adc:b8:=⟨.st,17,true,[.d (.int .i64 0),.d (.int .u8 0),.d (.int .u8 0),.d (.int .u8 0),.d (.int .u8 0),.d (.int .u8 0),.d (.int .u8 0),.d (.int .u8 0),.d (.int .u8 0),.d (.int .u8 0),.d (.int .u8 0),.d (.int .u8 0),.d (.int .u8 0),.d (.int .u8 0),.d (.int .u8 0),.d (.int .u8 0),.d (.int .u8 0)],[(0,1),(1,16)],some (.bV (.int .i64) (.arr 16 .u8)),24⟩
def ade:b8:=⟨.int .i64,1,false,[.d (.int .i64 0)],[],some (.int .i64),8⟩
def adf:b8:=⟨.int .u32,1,false,[.d (.int .u32 0)],[],some (.int .u32),4⟩
def adg:b8:=⟨.int .u64,1,false,[.d (.int .u64 0)],[],some (.int .u64),8⟩
def adh:b8:=⟨.ptr 356,1,false,[.bK (.pointer none)],[],some .aL,8⟩
def adi:b8:=⟨.int .u64,1,false,[.d (.int .u64 0)],[],some (.int .u64),8⟩
def adj:b8:=⟨.ptr 3,1,false,[.bK (.pointer none)],[],some .aL,8⟩
def adk:b8:=⟨.ci 121,1,false,[.dC],[],some (.ci .fn),24⟩
def adl:b8:=⟨.st,2,true,[.dC,.d (.int .i64 0)],[(0,1),(1,1)],some (.bV (.ci .fn) (.int .i64)),32⟩
def adm:b8:=⟨.other,1,false,[.bK .nilFunc],[],some .fn,8⟩
def adn:b8:=⟨.ptr 341,1,false,[.bK (.pointer none)],[],some .aL,8⟩
def ado:b8:=⟨.ci 27,1,false,[.dC],[],some (.ci (.ci .u8)),24⟩
def adp:b8:=⟨.other,1,false,[.bK .nilFunc],[],some .fn,8⟩
def adq:b8:=⟨.mp 3 121,1,false,[.bK (.map none)],[],none,8⟩
def adr:b8:=⟨.other,1,false,[.bK .nilFunc],[],some .fn,8⟩
def types:df:=(.node (.node (.node (.node (.node (.node (.node .leaf 3 t3 .leaf) 4 t4 (.node .leaf 5 t5 .leaf)) 9 t9 (.node (.node .leaf 20 t20 .leaf) 21 abK (.node .leaf 22 t22 .leaf))) 25 t25 (.node (.node (.node .leaf 27 t27 .leaf) 29 t29 (.node .leaf 30 abL .leaf)) 31 abM (.node (.node .leaf 32 t32 .leaf) 34 abN .leaf))) 37 abO (.node (.node (.node (.node .leaf 38 abP .leaf) 42 abQ (.node .leaf 44 t44 .leaf)) 46 t46 (.node (.node .leaf 51 abR .leaf) 55 abS (.node .leaf 57 t57 .leaf))) 61 abT (.node (.node (.node .leaf 62 abU .leaf) 66 abV (.node .leaf 70 abW .leaf)) 75 abX (.node (.node .leaf 77 abY .leaf) 79 abZ .leaf)))) 80 ab0 (.node (.node (.node (.node (.node .leaf 81 ab1 .leaf) 82 ab2 (.node .leaf 84 ab3 .leaf)) 85 ab4 (.node (.node .leaf 87 ab5 .leaf) 89 ab6 (.node .leaf 91 ab7 .leaf))) 92 ab8 (.node (.node (.node .leaf 94 ab9 .leaf) 95 ab' (.node .leaf 97 aca .leaf)) 98 acb (.node (.node .leaf 106 acd .leaf) 110 ace .leaf))) 112 acf (.node (.node (.node (.node .leaf 114 acg .leaf) 118 ach (.node .leaf 121 aci .leaf)) 124 acj (.node (.node .leaf 126 ack .leaf) 128 acl (.node .leaf 143 acm .leaf))) 146 acn (.node (.node (.node .leaf 164 aco .leaf) 165 acp (.node .leaf 166 acq .leaf)) 168 acr (.node (.node .leaf 170 acs .leaf) 171 acu .leaf))))) 173 acv (.node (.node (.node (.node (.node (.node .leaf 176 acw .leaf) 177 acx (.node .leaf 180 acy .leaf)) 181 acz (.node (.node .leaf 184 acA .leaf) 186 acB (.node .leaf 189 acC .leaf))) 193 acD (.node (.node (.node .leaf 195 acE .leaf) 196 acF (.node .leaf 198 acG .leaf)) 202 acH (.node (.node .leaf 204 acI .leaf) 206 acJ .leaf))) 208 acK (.node (.node (.node (.node .leaf 209 acL .leaf) 212 acM (.node .leaf 216 acN .leaf)) 220 acO (.node (.node .leaf 225 acP .leaf) 231 acQ (.node .leaf 234 acR .leaf))) 235 acS (.node (.node (.node .leaf 253 acT .leaf) 254 acU (.node .leaf 256 acV .leaf)) 257 acW (.node (.node .leaf 259 acX .leaf) 261 acY .leaf)))) 263 acZ (.node (.node (.node (.node (.node .leaf 264 ac0 .leaf) 268 ac1 (.node .leaf 269 ac2 .leaf)) 272 ac3 (.node (.node .leaf 280 ac4 .leaf) 283 ac5 (.node .leaf 284 ac6 .leaf))) 290 ac7 (.node (.node (.node .leaf 293 ac8 .leaf) 296 ac9 (.node .leaf 297 ac' .leaf)) 299 ada (.node (.node .leaf 301 adb .leaf) 303 adc .leaf))) 312 ade (.node (.node (.node (.node .leaf 321 adf .leaf) 323 adg (.node .leaf 338 adh .leaf)) 341 adi (.node (.node .leaf 345 adj .leaf) 354 adk .leaf)) 356 adl (.node (.node (.node .leaf 358 adm .leaf) 359 adn (.node .leaf 368 ado .leaf)) 369 adp (.node (.node .leaf 390 adq .leaf) 393 adr .leaf))))))
end wV
def eY:d6 prog wV.types:=d6.of aE0
def mixed:prog.follows .mixedOrders=true:=by kernel_rfl
end
section
open Go.ChangeShapes Go.WideShapes Go.ChangeAt Go.RowKit
section
variable {hX:Type} {enc:TypeId×Value->hX} {P:aI0}
def ads {f:Func} {s:ChangeSpec} {apart fresh handsOn again:Bool} {W ny:aH9} {args:aJ6} {v:aI8} {ds gs:List (DataW hX)} {o9 pa pv:List MemPlace}
  (c1:DataW.Whole enc P f.params.toList s.vars apart W args.toList ds gs o9)
  (jt: ∀(b:Nat) (sp:Nat->Bool) (H:Bool),DataW.TrodAll enc P ny b sp H f.resultTypes.toList (v.resultList f.resultTypes.size) (s.fn hX (ds++gs)).results [])
  (e6: ∀sp:Nat->Bool,(∀p∈o9,sp p.block=true)->DataW.TrodAll enc P ny 0 sp true f.params.toList args.toList (s.fn hX (ds++gs)).args pa)
  (Dk: ∀sp:Nat->Bool,(∀p∈o9,sp p.block=true)->DataW.TrodVars enc P ny sp s.vars (s.fn hX (ds++gs)).vars pv)
  (l3:o9=pa++pv) (O:Below W.heap.size W ny)
  (bu: ∀(j:Nat) (t:TypeId) (r:Value),f.resultTypes[j]? =some t->(v.resultList f.resultTypes.size)[j]? =some r->Value.okWide P ny .any 0 t r):
  s.post enc P f apart fresh handsOn again W args v ny:=by
 have bv: ∀p∈o9,p.block < W.heap.size:=fun p ag=>c1.lt p ag
 have m6: ∀p∈o9,(fun b=>decide (b < W.heap.size)) p.block=true:=fun p ag=>by simpa using bv p ag
 refine⟨ds,gs,o9,[],pa,pv,c1,jt _ _ _,e6 _ m6,Dk _ m6,World.keptBut_mono (fun p ag=>⟨ag,?_⟩) (O.frame (· ∈o9)),fun _=>?_⟩
 .rw[l3,av9] at ag;exact Or.inr ag
 .obtain⟨_,_,_,_,_,aM,hn⟩:=c1;refine⟨bu,_,_,([]++pa)++pv,⟨[]++pa,pv,trodAll_append (e6 _ (fun _ _=>rfl)) (jt _ _ _),Dk _ (fun _ _=>rfl),rfl,?_,?_⟩,?_⟩
  .intro b off ag;have dP:MemPlace.cell b off∈o9:=by rw[l3];simpa using ag
   rw[O.frozen (bv _ dP)];exact aM b off dP
  .intro ha;have:=hn ha;rw[l3] at this;simpa using this
  .intro p ag _;rw[l3];simpa using ag
end
def RO:(u:bz)->aa u->aN
 | .bV u v,x=>.c (.agg (gw (.bV u v) x 0 (aR (.bV u v))))
 | .arr n u,x=>.c (.agg (gw (.arr n u) x 0 (aR (.arr n u))))
 | .int k,x=>.c (.one (.d (fB (.int k) x 0)))
 | .u8,x=>.c (.one (.d (fB .u8 x 0)))
 | .bool,x=>.c (.one (.d (fB .bool x 0)))
 | .str,x=>.c (.one (.d (fB .str x 0)))
 | .aL,x=>.c (.one (.d (fB .aL x 0)))
 | .da,x=>.c (.one (.d (fB .da x 0)))
 | .fn,x=>.c (.one (.d (fB .fn x 0)))
 | .ci u,x=>.c (.one (.d (fB (.ci u) x 0)))
def vt (P:aI0) (t:aI3):Bool:=match P.underlying t with
 |some (.struct _)=>false
 |some (.array _ _)=>false
 |some _=>true
 |none=>false
def Gs (P:aI0) (u:bz) (t:aI3):Bool:=qz P 20 u t&&(nt u == vt P t)&&Nat.beq (P.cellsOf t) (aR u)&&P.readableRec t&&Nat.blt t P.types.size
section
variable {hX:Type} {enc:TypeId×Value->hX} {W:aH9} {P:aI0} {ρ:Nat->bp} {I:Nat->Prop}
def RP {u:bz} {x:aa u} {cs:aH7} (H:cy I W u x (fun j=>cs[j]?)): ∀(n o:Nat),o+n<=aR u->o+n<=cs.length->cf ρ I W (gw u x o n) ((cs.drop o).take n)
 |0,o,_,_=>by simp[gw,cf]
 |n+1,o,h,al=>by
  obtain⟨v,aB,vm⟩:=cy.cell u x _ o H aD7;refine⟨v,(cs.drop (o+1)).take n,?_,vm,RP H n (o+1) aD7 aD7⟩;have:=(au0.1 aB).2;rw[aA4 (by omega:o < cs.length),List.take_succ_cons,this]
def adt {t:aI3} {v:aI8} {base:Nat} (E:vt P t=true) (h:Value.okWide P W .any base t v) {fuel:Nat} {sp:Nat->Bool} {u:bz} {n:Nat} {x:DataW hX×List MemPlace} (aZ:qz P n u t=true) (G:nt u=true):v.cells.toList=[v]:=by
 cases n with
 |zero=>simp[qz] at aZ
 |succ n=>
  unfold qz at aZ
  split at aZ
  case h_1 k ec cq=>obtain⟨n,rfl⟩:=okWide_int cq h;rfl
  case h_2 k cq=>obtain⟨n,rfl⟩:=okWide_int cq h;rfl
  case h_3 cq=>obtain⟨n,rfl⟩:=okWide_bool cq h;rfl
  case h_4 cq=>obtain⟨n,rfl⟩:=okWide_string cq h;rfl
  case h_5 e v cq=>obtain⟨a,b,c,rfl⟩:=okWide_slice cq h;rfl
  case h_6=>simp[nt] at G
  case h_7 fs u cq=>simp[vt,cq] at E
  case h_8=>cases aZ
def adu {t:aI3} {v:aI8} {base:Nat} (E:vt P t=false) (h:Value.okWide P W .any base t v) {n:Nat} {u:bz} (aZ:qz P n u t=true): ∃cs,v= .agg cs/\cs.size=P.cellsOf t:=by
 cases n with
 |zero=>simp[qz] at aZ
 |succ n=>
  unfold qz at aZ;unfold Value.okWide at h
  split at aZ
  case h_1 k ec cq=>simp[vt,cq] at E
  case h_2 k cq=>simp[vt,cq] at E
  case h_3 cq=>simp[vt,cq] at E
  case h_4 cq=>simp[vt,cq] at E
  case h_5 e v cq=>simp[vt,cq] at E
  case h_6 k e ec v cq=>rw[cq] at h;obtain⟨cs,E,G,_⟩:=h;exact⟨cs,E,G⟩
  case h_7 fs u cq=>rw[cq] at h;obtain⟨cs,E,G,_⟩:=h;exact⟨cs,E,G⟩
  case h_8=>cases aZ
def adv {u:bz} {t:aI3} {v:aI8} {d:DataW hX} {bF:List MemPlace} {base:Nat} {sp:Nat->Bool} (h:Gs P u t=true) (bu:Value.okWide P W .any base t v) (bR:DataW.Trod enc P W 0 sp true t v d bF):
  ∃a:aa u,cx ρ (fun b=>b < W.heap.size) W (RO u a) v/\h8 u a<=Rows.uptoBulk d/\uc u a:=by
 simp only[Gs,as8,Nat.beq_eq,beq_iff_eq] at h;obtain⟨⟨⟨⟨E,G⟩,ah⟩,_⟩,_⟩:=h;obtain⟨n,hn⟩:=bR;obtain⟨a,cr,cv,dm⟩:=Gr _ _ _ E _ _ _ hn;refine⟨a,?_,cv,dm⟩
 cases ai:nt u with
 |true=>
  rw[adt (x:=(d,bF)) (fuel:=n) (sp:=sp) (by rw[<-G,ai]) bu E ai] at cr;obtain⟨dA,af,ao⟩:=cy.cell u a _ 0 cr (by rcases u with _ |_ |_ |_ |_ |_ |_ <;>simp[aR,nt] at*);simp only[au4,at5] at af;subst af
  cases u <;>first |exact ao |(simp[nt] at ai)
 |false=>
  obtain⟨cs,rfl,cA⟩:=adu (by rw[<-G,ai]) bu E;have al:cs.toList.length=aR u:=by rw[Array.length_toList];omega
  have:=RP (ρ:=ρ) cr (aR u) 0 aD7 (by simpa[Value.cells] using(show 0+aR u<=cs.toList.length by omega));rw[List.drop_zero,ax3 (by simp only[Value.cells];omega)] at this
  cases u <;>first |exact⟨_,rfl,this⟩ |(simp[nt] at ai)
def AN:List bz->Type
 | []=>Unit
 |u::us=>aa u×AN us
def wW:(us:List bz)->AN us->List aN
 | [],_=>[]
 |u::us,x=>RO u x.1::wW us x.2
noncomputable def Gt:(us:List bz)->AN us->Nat
 | [],_=>0
 |u::us,x=>h8 u x.1+Gt us x.2
def KV:(us:List bz)->AN us->Prop
 | [],_=>True
 |u::us,x=>uc u x.1/\KV us x.2
def ue (P:aI0):List bz->List TypeId->Bool
 | [],[]=>true
 |u::us,t::ct=>Gs P u t&&ue P us ct
 |_,_=>false
def RQ {base:Nat} {sp:Nat->Bool}: ∀(us:List bz) (ct:List TypeId) (aE:aH7) (ds:List (DataW hX)) (bF:List MemPlace),ue P us ct=true->(∀(j:Nat) t v,ct[j]? =some t->aE[j]? =some v->Value.okWide P W .any base t v)->
  DataW.TrodAll enc P W 0 sp true ct aE ds bF-> ∃a:AN us,aE.length=(wW us a).length/\(∀(i:Nat) (s:aN) (x:aI8),(wW us a)[i]? =some s->aE[i]? =some x->cx ρ (fun b=>b < W.heap.size) W s x)/\Gt us a<=Rows.uptoBulkAll ds/\KV us a
 | [],[],aE,ds,bF,_,_,bR=>by
  obtain⟨rfl,rfl,rfl⟩:=trodAll_nil bR;exact⟨(),rfl,fun i s x h=>by simp[wW] at h,at6 _,trivial⟩
 | [],_::_,_,_,_,h,_,_=>by simp[ue] at h
 |_::_,[],_,_,_,h,_,_=>by simp[ue] at h
 |u::us,t::ct,aE,ds,bF,h,bu,bR=>by
  simp only[ue,as8] at h;obtain⟨v,aE,d,ds,p,q,rfl,rfl,rfl,ar,aj⟩:=trodAll_cons bR;obtain⟨a,bM,bU,a3⟩:=adv (ρ:=ρ) h.1 (bu 0 t v rfl rfl) ar;obtain⟨b,b1,b2,b3,d7⟩:=RQ us ct aE ds q h.2 (fun j t v E G=>bu (j+1) t v E G) aj;refine⟨(a,b),by simp[wW,b1],fun i s x E G=>?_,by simp only[Gt,Rows.uptoBulkAll];omega,a3,d7⟩
  match i with
  |0=>simp only[wW,au4,at5] at E G;subst E G;exact bM
  |i+1=>exact b2 i s x (by simpa[wW] using E) (by simpa using G)
def RR (laid:laidOutB P=true) {ny:aH9} {RS:Nat->Bool}: ∀(us:List bz) (ct:List TypeId) (aE:aH7) (ds:List (DataW hX)) (bF:List MemPlace),ue P us ct=true->
  DataW.TrodAll enc P W 0 (fun _=>true) true ct aE ds bF->Below W.heap.size W ny->(∀x∈bF,x.block < W.heap.size)->(∀x∈bF,RS x.block=true)->DataW.TrodAll enc P ny 0 RS true ct aE ds bF
 | [],[],aE,ds,bF,_,bR,_,_,_=>by
  obtain⟨rfl,rfl,rfl⟩:=trodAll_nil bR;exact trodAll_mk0
 | [],_::_,_,_,_,h,_,_,_,_=>by simp[ue] at h
 |_::_,[],_,_,_,h,_,_,_,_=>by simp[ue] at h
 |u::us,t::ct,aE,ds,bF,h,bR,O,bv,Dl=>by
  simp only[ue,as8] at h;obtain⟨v,aE,d,ds,p,q,rfl,rfl,rfl,ar,aj⟩:=trodAll_cons bR;have E:=h.1;simp only[Gs,as8,Nat.blt_eq] at E;exact trodAll_cons_mk (WideElems.Trod_stays laid E.1.2 E.2 ar (fun x hx=>O.same (bv x (by simp[hx]))) (fun x hx=>Dl x (by simp[hx]))) (RR laid us ct aE ds q h.2 aj O (fun x hx=>bv x (by simp[hx])) (fun x hx=>Dl x (by simp[hx])))
def Fn.adw {f:aI9} {args:List aN} (bg:Fn P f args [] [] (gb true) []) (b0:aJ6) (al:b0.toList.length=args.length)
  (H: ∀(i:Nat) (s:aN) (x:Value),args[i]? =some s->b0.toList[i]? =some x->cx ρ (fun b=>b < W.heap.size) W s x):Calls P f b0 W fun e ny=>e= .returned (.bool true)/\Below W.heap.size W ny:=by
 have h:=bg.2 ρ (fun _ _=>False) (fun b=>b < W.heap.size) W b0.toList (fun b h=>h) (fun c ch J=>by simp[ae] at J) (fun c ch J=>by simp[ae] at J) (fun c cn ch ch' b J=>by simp[ae] at J) al H;rw[Array.toArray_toList] at h;refine h.mono ?_;rintro e ny ⟨x,ρ',F',rfl,cF,-,I',-,-,-,-,-,hx⟩;rw[show x= .bool true from hx];exact⟨rfl,cF.below (at0 _) (by rintro i _ ⟨c,ch,J,_⟩;simp[ae] at J)⟩
end
def adx:ownKnob prog.godebug=none:=by kernel_rfl
def ady:laidOutB prog=true:=by kernel_rfl
def adz {hX:Type} {enc:TypeId×Value->hX} {W:aH9} {args:aJ6} {ds gs:List (DataW hX)} {o9:List MemPlace} {base:Nat} (f:aI9) (fn:Func) (s:ChangeSpec) (us:List bz) (n:Nat)
  (jt:fn.resultTypes= #[4]) (Dk:s.vars=[]) (RT:ue prog us fn.params.toList=true)
  (kw: ∀ds:List (DataW hX),ds.length=fn.params.toList.length->(s.fn hX ds).results=[.lit (.bool true)]/\(s.fn hX ds).vars=[]/\(s.fn hX ds).args=ds)
  (Dm: ∀(j:Nat) t v,fn.params[j]? =some t->args[j]? =some v->Value.okWide prog W .any base t v)
  (c1:DataW.Whole enc prog fn.params.toList s.vars false W args.toList ds gs o9) (Z:Rows.uptoBulkAll (ds++gs)<=n)
  (bg: ∀a:AN us,Gt us a<=n->KV us a->Fn prog f (wW us a) [] [] (gb true) []):
  Calls prog f args W fun e ny=> ∃v,e= .returned v/\s.post enc prog fn false true false false W args v ny:=by
 have RU:=c1;have bv:=c1.lt;obtain⟨p,q,dO,uf,rfl,vu,dL⟩:=c1;rw[Dk] at uf;obtain⟨rfl,rfl⟩:=trodVars_none uf;simp only[av2] at RU Z bv;obtain⟨a,bM,bU,a3,a4⟩:=RQ (ρ:=fun _=>⟨0,none,0,0⟩) us fn.params.toList args.toList ds p RT (fun j t v E G=>Dm j t v aG9 (by simpa using G)) dO
 have bW:ds.length=fn.params.toList.length:=by
  have: ∀(ct:List TypeId) (aE:aH7) (ds:List (DataW hX)) (bF:List MemPlace),DataW.TrodAll enc prog W 0 (fun _=>true) true ct aE ds bF->ds.length=ct.length:=fun ct=>by
   induction ct with
   |nil=>intro aE ds bF h;obtain⟨_,rfl,_⟩:=trodAll_nil h;rfl
   |cons t ct bk=>intro aE ds bF h;obtain⟨v,aE,d,ds,p,q,rfl,rfl,rfl,ar,aj⟩:=trodAll_cons h;simp[bk _ _ _ aj]
  exact this _ _ _ _ dO
 obtain⟨r1,r2,fQ⟩:=kw ds bW;refine((bg a aD7 a4).adw args bM bU).mono fun e ny ⟨U,O⟩=>?_
 subst U;refine⟨_,rfl,ads (pa:=p) (pv:=[]) RU ?_ ?_ ?_ aD9 O ?_⟩
 .intro b sp H;rw[av2,r1,jt];exact trodAll_cons_mk (shut_bool underlying4 _) trodAll_mk0
 .intro sp Dl;rw[av2,fQ];exact RR ady us _ _ _ _ RT dO O (fun x hx=>bv x aG7) (fun x hx=>Dl x aG7)
 .intro sp Dl;rw[av2,r2,Dk];rfl
 .exact Go.RowKit.ok_one jt rfl (okWide_bool_mk underlying4 _)
end
section
set_option maxRecDepth 100000
open Go.ChangeShapes Go.WideShapes Go.ChangeAt Go.RowKit
def it {a b:Bool} (h:a=true) (k:b=true):(a&&b)=true:=by rw[h,k];rfl
def KW:OpenClaim:={program:= "",sum:= "",func:= "",spec:= "" }
def adA:laidOutB prog=true:=by kernel_rfl
def adB:mapsRowed prog=true:=by kernel_rfl
def adC:(KW.plainKeys == prog.plainKeys)=true:=by kernel_rfl
def adD:prog.mayEnter=true:=by kernel_rfl
def adE:(KW.lifted == prog.liftsFinal)=true:=by kernel_rfl
def adF:(prog.make == some KW.make)=true:=by kernel_rfl
end
section
def Dn:aH4->aH4->aH4
 | [],r=>r
 |x::l,r=>match r.contains x with
  |true=>Dn l r
  |false=>Dn l (x::r)
def KX {a:Nat}: ∀{l r:aH4},a∈Dn l r->a∈l\/a∈r
 | [],r,h=>.inr h
 |x::l,r,h=>by
  unfold Dn at h
  split at h
  .rcases KX h with h |h
   .exact .inl (at4 _ h)
   .exact .inr h
  .rcases KX h with h |h
   .exact .inl (at4 _ h)
   .rcases at7.1 h with rfl |h
    .exact .inl (au7 ..)
    .exact .inr h
def KY (acc:List aH4):aH4->aH4
 | []=>[]
 |d::l=>Dn (d::acc.getD d []) (KY acc l)
def RV {acc:List aH4} {a:Nat}: ∀{l:aH4},a∈KY acc l->a∈l\/ ∃d∈l,a∈acc.getD d []
 | [],h=>by cases h
 |d::l,h=>by
  rcases KX h with h |h
  .rcases at7.1 h with rfl |h
   .exact .inl (au7 ..)
   .exact .inr ⟨d,au7 ..,h⟩
  .rcases RV h with h |⟨e,U,h⟩
   .exact .inl (at4 _ h)
   .exact .inr ⟨e,at4 _ U,h⟩
def Gu:List Oper->List aH4->List aH4
 | [],acc=>acc
 |o::l,acc=>Gu l (acc++[KY acc (qr o)])
def RW: ∀(l:aJ0) (acc Do:List aH4),acc.length=Do.length->(∀j a,a∈acc.getD j []->a∈Do.getD j [])-> ∀j a,a∈(Gu l acc).getD j []->a∈(Ag l Do).getD j []
 | [],acc,Do,_,h=>h
 |o::l,acc,Do,al,h=>by
  unfold Gu Ag;refine RW l _ _ (by simp[al]) ?_;intro j a ha;rw[at3] at ha⊢;rcases Nat.lt_trichotomy j acc.length with bv |sO |vd
  .rw[av8 bv,<-at3] at ha;rw[av8 (al▸bv),<-at3];exact h j a ha
  .subst sO;rw[aw4 (at0 _)] at ha;rw[aw4 (Nat.le_of_eq al.symm)];simp only[Nat.sub_self,au4,az5] at ha;simp only[al,Nat.sub_self,au4,az5,av9,List.mem_flatMap];rcases RV ha with ha |⟨d,H,ha⟩
   .exact .inl ha
   .exact .inr ⟨d,H,h d a ha⟩
  .rw[aA3 aF5] at ha;simp at ha
def RX {all:aJ0} {an RY:List aH4} (h: ∀j a,a∈an.getD j []->a∈RY.getD j []): ∀l:List (Oper×lc×Nat),u5 all an l=true->u5 all RY l=true
 | [],_=>rfl
 |(o,n,i)::l,ag=>by
  simp only[u5,as8] at ag⊢;refine⟨av4.2 fun x hx=>?_,RX h l ag.2⟩;have:=av4.1 ag.1 x hx;obtain⟨p,m,j⟩:=x;simp only[ay9,as8,av6] at this⊢;exact this.imp (fun g=>⟨h _ _ g.1,g.2⟩) id
def RZ (K:aW) (B:ay) (du:aJ0) (gx:List lc):Bool:=
 let es:=gx.reverse
 (du.zipIdx.all fun(o,i)=>(qr o).all fun d=>Nat.blt d i)&&(es.all fun n=>n.e.ba.all fun c=>u1 c K&&kQ c B)&&u5 du (Gu du []) ((du.zip es).zipIdx.map fun((o,n),i)=>(o,n,i))
def eG {K:aW} {B:ay} {du:aJ0} {gx:List lc} (h:RZ K B du gx=true):wJ K B du gx=true:=by simp only[RZ,as8] at h;simp only[wJ,as8];exact⟨h.1,RX (RW du [] [] rfl fun _ _ h=>h) _ h.2⟩
end
section
def cD (P:aI0) (f:aI9) (args:List aN) (aK:ay) (ba:aH4) {X:Type} (res:X->aN) (aO:X->ay):Prop:=
 jp P f=true/\ ∀(ρ:Nat->bp) (F:Nat->Nat->Prop) (I:Nat->Prop) (w:aH9) (b0:aH7),
  (∀b,I b->b < w.heap.size)->(∀c ch,ae aK c=some ch->Holds ρ I (F c) w (ρ c) ch)->(∀c ch,ae aK c=some ch-> ∀b,F c b->b < w.heap.size/\ ¬I b)->
  (∀c cn ch ch' b,ae aK c=some ch->ae aK cn=some ch'->c≠cn->F c b-> ¬F cn b)->
  b0.length=args.length->(∀(i:Nat) (v:aN) (x:aI8),args[i]? =some v->b0[i]? =some x->cx ρ I w v x)->
  Calls P f b0.toArray w fun e w'=> ∃(g:X) (x:aI8) (ρ':Nat->bp) (F':Nat->Nat->Prop),e= .returned x/\cU (fun b=> ∃c ch,ae aK c=some ch/\F c b) w w'/\(∀c,c∉ba->ρ' c=ρ c)/\
   ∃I':Nat->Prop,cm I w I' w'/\(∀b,I' b->b < w'.heap.size/\(I b\/(∃c ch,ae aK c=some ch/\F c b)\/w.heap.size<=b))/\
   (∀c ch,ae (aO g) c=some ch->Holds ρ' I' (F' c) w' (ρ' c) ch)/\
   (∀c ch,ae (aO g) c=some ch-> ∀b,F' c b->b < w'.heap.size/\ ¬I' b/\((∃gU cB,ae aK gU=some cB/\F gU b)\/w.heap.size<=b))/\
   (∀c cn ch ch' b,ae (aO g) c=some ch->ae (aO g) cn=some ch'->c≠cn->F' c b-> ¬F' cn b)/\cx ρ' I' w' (res g) x
def Fn.x {P:aI0} {f:aI9} {args:List aN} {aK:ay} {ba:aH4} {res:aN} {aO:ay} (h:Fn P f args aK ba res aO):cD P f args aK ba (fun _:Unit=>res) (fun _=>aO):=
 ⟨h.1,fun ρ F I w b0 bM bU a3 a4 a5 fj=>(h.2 ρ F I w b0 bM bU a3 a4 a5 fj).mono fun e w' q=>⟨(),q⟩⟩
section
variable {P:aI0} {aQ:df} {N:Nat} {ids:aH4} {o:Oper} {K:aW} {B:ay}
def e2.back {aK:ay} {ba:aH4} {r:aN} {aO:ay} (h7:la B aK) (KZ:sG ids K B ba=true) (oh:mV aK ba aO=true) {C:fc} {a:Act} {w w':aH9} {ρ ρ':Nat->bp} {F F':Nat->Nat->Prop} {I':Nat->Prop} {x:aI8} {dst:aI4}
  (hn:a.tmps.size=N) (H:a.defers=C.ds.map x') (ak:Mem ids C B ρ F w) (au:eo K ρ (bZ C B F w) a w) (bv: ∀d,dst=some d->d < N)
  (cF:cU (fun b=> ∃c ch,ae aK c=some ch/\F c b) w w') (dl: ∀c,c∉ba->ρ' c=ρ c) (gG: ∀b,I' b->b < w'.heap.size/\(bZ C B F w b\/(∃c ch,ae aK c=some ch/\F c b)\/w.heap.size<=b))
  (c': ∀c ch,ae aO c=some ch->Holds ρ' I' (F' c) w' (ρ' c) ch) (ax: ∀c ch,ae aO c=some ch-> ∀b,F' c b->b < w'.heap.size/\ ¬I' b/\((∃gU cB,ae aK gU=some cB/\F gU b)\/w.heap.size<=b))
  (hU: ∀c cn ch ch' b,ae aO c=some ch->ae aO cn=some ch'->c≠cn->F' c b-> ¬F' cn b) (dG:cx ρ' I' w' r x):e2 N ids C (mT dst r K) (hk (iC aK aO) B) (a.put dst x) w':=by
 have eX: ∀{c ch},ae aK c=some ch->ae B c=some ch:=fun {c ch} J=>kU h7 J
 have o6: ∀c∈ba,(∀s,(dX K s).has c=false)/\ae B c=none/\(∀d ch,ae B d=some ch->ch.has c=false)/\c∉ids:=fun c J=>ld (F6 KZ c J)
 have C0: ∀c,ae (hk (iC aK aO) B) c=(match ae aO c with |some ch=>some ch |none=>if c∈ck aK then none else ae B c):=F5 aK aK ba aO B oh
 have pH: ∀c ch,ae (hk (iC aK aO) B) c=some ch->ae aO c=some ch\/(ae aO c=none/\c∉ck aK/\ae B c=some ch):=fun c ch J=>by
  rw[C0] at J
  cases O:ae aO c with
  |some ch'=>rw[O] at J;exact .inl J
  |none=>
   rw[O] at J;simp only at J
   split at J
   .cases J
   .rename_i Z;exact .inr ⟨rfl,Z,J⟩
 let cS:Nat->Nat->Prop:=fun c=>if c∈ck aO then F' c else F c
 have kv: ∀c ch,ae aO c=some ch->cS c=F' c:=fun c ch J=>vj (gf.2 ⟨ch,J⟩)
 have C1: ∀c,ae aO c=none->cS c=F c:=fun c J=>mu (fun Z=>by
  obtain⟨ch,h⟩:=gf.1 Z;rw[J] at h;cases h)
 have kV: ∀c ch,ae aO c=some ch->c∈ck aK\/c∈ba:=fun c ch J=>Kq oh (gf.2 ⟨ch,J⟩)
 have vi: ∀c ch,ae (hk (iC aK aO) B) c=some ch->(c∈ck aK\/c∈ba)->ae aO c=some ch:=fun c ch J bH=>by
  rcases pH c ch J with h |⟨E,G,ah⟩
  .exact h
  .rcases bH with h |h
   .exact at1 h G
   .rw[(o6 c h).2.1] at ah;cases ah
 have qu:cm I' w' (bZ C (hk (iC aK aO) B) cS w') w':=fun b O=>by
  obtain⟨af,ao⟩:=gG b O;refine⟨⟨af,?_,fun c ch J bg=>?_⟩,rfl⟩
  .rcases ao with ao |⟨c,ch,ao,br⟩ |ao
   .exact ao.2.1
   .exact .inr ((ak.own c ch (eX ao) b br).2)
   .exact .inr (.inr (ak.fresh ao))
  .rcases pH c ch J with h |⟨E,G,ah⟩
   .rw[kv c ch h] at bg;exact(ax c ch h b bg).2.1 O
   .rw[C1 c E] at bg;rcases ao with ao |⟨d,ch',ao,br⟩ |ao
    .exact ao.2.2 c ch ah bg
    .exact ak.fd d c ch' ch b (eX ao) ah (fun e=>G (e▸gf.2 ⟨ch',ao⟩)) br bg
    .have:=(ak.own c ch ah b bg).1;omega
 obtain⟨bH,aY⟩:=ak.step (B':=hk (iC aK aO) B) (ρ':=ρ') (F':=cS) (w':=w') (fun c=>c∈ck aK\/c∈ba) (fun c=>c∈ba)
  (cF.mono fun b _ ⟨c,ch,E,G⟩=>⟨c,ch,eX E,.inl (gf.2 ⟨ch,E⟩),G⟩)
  (fun c ch J hn=>by
   rcases pH c ch J with h |⟨_,_,ah⟩
   .exact at1 (kV c ch h) hn
   .exact ah)
  dl
  (fun c hn=>by
   cases O:ae aO c with
   |none=>exact C1 c O
   |some ch=>exact at1 (kV c ch O) hn)
  (fun c J hn=>(o6 c hn).2.2.2 J) (fun c h=>.inr h)
  (fun c ch J _ d H hn=>by rw[(o6 d hn).2.2.1 c ch J] at H;cases H)
  (fun c ch J bH _=>by
   have O:=vi c ch J bH;rw[kv c ch O];exact Holds.cj qu (fun _ _=>rfl) (at0 _) ch (fun _ _=>rfl) (c' c ch O))
  (fun c ch J bH b O=>by
   have vk:=vi c ch J bH;rw[kv c ch vk] at O;obtain⟨af,_,br⟩:=ax c ch vk b O;refine⟨af,br.imp (fun⟨gU,cB,E,G⟩=>⟨gU,cB,eX E,.inl (gf.2 ⟨cB,E⟩),G⟩) id⟩)
  (fun c cn ch ch' b J c3 kV jr a6 O c8=>by
   have E:=vi c ch J kV;have G:=vi cn ch' c3 jr;rw[kv c ch E] at O;rw[kv cn ch' G] at c8;exact hU c cn ch ch' b E G a6 O c8)
 refine⟨kN.trans hn,kO.trans H,ρ',cS,bH,(au.mono aY fun s d H=>dl d fun hn=>by rw[(o6 d hn).1 s] at H;cases H).kP (fun e U=>by rw[hn];exact bv e U) (cx.mono qu _ _ (fun _ _=>rfl) dG)⟩
def adG {f:aI9} {args:List aN}
  (qt: ∀(ρ:Nat->bp) (I:Nat->Prop) (a:Act) (w:aH9),eo K ρ I a w-> ∃b0:List Value,(jp P f=true->(execOp a.eval o).run P w= .ok (.enter f b0.toArray) w)/\b0.length=args.length/\ ∀(i:Nat) (v:aN) (x:aI8),args[i]? =some v->b0[i]? =some x->cx ρ I w v x)
  {X:Type} {aK:ay} {ba:aH4} {res:X->aN} {aO:X->ay} (adH:cD P f args aK ba res aO) (h7:la B aK) (KZ:sG ids K B ba=true) (bu: ∀g,(sG ids K B ba&&mV aK ba (aO g))=true)
  {C:fc} {a:Act} {w:aH9} (aw:e2 N ids C K B a w) (bv: ∀d,o.dst=some d->d < N) {fN:Act->World->Prop} {Q:Exit->Act->World->Prop} (cR: ∀g a' w',e2 N ids C (mT o.dst (res g) K) (hk (iC aK (aO g)) B) a' w'->fN a' w'):o.wp P a w fN Q:=by
 obtain⟨fP,kw⟩:=adH;obtain⟨hn,H,ρ,F,ak,au⟩:=aw;have eX: ∀{c ch},ae aK c=some ch->ae B c=some ch:=fun {c ch} J=>kU h7 J
 obtain⟨b0,dK,rF,t'⟩:=qt ρ _ a w au
 have J:=kw ρ F (bZ C B F w) w b0 (fun b O=>O.1) (fun c ch J=>ak.holds c ch (eX J)) (fun c ch J b O=>⟨(ak.own c ch (eX J) b O).1,fun a7=>a7.2.2 c ch (eX J) O⟩)
  (fun c cn ch ch' b E G=>ak.fd c cn ch ch' b (eX E) (eX G)) rF t'
 unfold Oper.wp;rw[dK fP,Oper.upon_enter];refine J.mono ?_;rintro e w' ⟨g,x,ρ',F',rfl,cF,dl,I',jq,gG,c',ax,hU,dG⟩;exact cR g _ _ (e2.back h7 KZ (as8 _ _▸bu g).2 hn H ak au bv cF dl gG c' ax hU dG)
def cD.of (bl:d6 P aQ) {f:aI9} {fn:Func} {c:Code} (stops:aH4) (args:List aN) (aK:ay) (ba:aH4) {X:Type} (res:X->aN) (aO:X->ay) (hf:P.funcs[f]? =some fn) (O:fn.body=some c) (hn:fn.ntmps=N) (fP:jp P f=true) (J:ja P N c=true) (e6:Nat.ble args.length N=true) (cw:Ay P aQ N (ck aK)) {js:List ResultVar} (yz:fn.results.toList=js)
  (h:i9 P aQ N (ck aK) stops c (nx 0 args) aK (fun e K B=> ∃g,Ga aQ (ck aK) ba js (res g) (aO g) e K B)):cD P f args aK ba res aO:=by
 refine⟨fP,?_⟩;intro ρ F I w b0 a7 c' bg eE bW dG;have e6:=aA2 e6;refine Ra (r:=none) (n:=0) (callsIn_of_wp_marks hf O trivial ?_)
 let C:fc:=⟨w,I,fun b=> ∃c ch,ae aK c=some ch/\F c b,ρ,[]⟩
 have sW:cm I w (bZ C aK F w) w:=fun b O=>⟨⟨a7 b O,.inl O,fun c ch J qv=>(bg c ch J b qv).2 O⟩,rfl⟩
 have ak:Mem (ck aK) C aK ρ F w:=⟨cU.refl _ _,fun c ch J=>Holds.cj sW (fun _ _=>rfl) (at0 _) ch (fun _ _=>rfl) (c' c ch J),fun c ch J b O=>⟨(bg c ch J b O).1,.inl ⟨c,ch,J,O⟩⟩,eE,fun c _=>rfl,az4,fun b O=>O.elim (a7 b) fun⟨c,ch,J,C9⟩=>(bg c ch J b C9).1,fun D cw=>by cases cw⟩;refine Az bl cw stops c _ _ _ J h none (fun _=>rfl) C _ ?_ _ w ⟨by simp[bW,hn];omega,rfl,ρ,F,ak,fun s=>?_⟩
 .intro e K' B' ds _ U a' w' ee;obtain⟨g,U⟩:=U
  cases e with
  |ex i=>exact U.elim
  |_=>
   obtain⟨Rj,jN,r,gD,aj,ag,h7,pI⟩:=U;refine Ri ee fun w' ee=>?_
   obtain⟨hI,lf,ρ',F',bH,C'⟩:=gD N C _ w' ee;obtain⟨aE,dK,hJ⟩: ∃aE:List Value,(js.mapM (ub a'.tmps)).run P w'= .ok aE w'/\iL ρ' (bZ C jN F' w') w' r aE:=F8 bl bH C' js r aj
   have jt: ∃x,(results fn a'.tmps).run P w'= .ok x w'/\cx ρ' (bZ C jN F' w') w' (Kx r) x:=by
    have E:fn.results=js.toArray:=by rw[<-yz]
    have G:(fn.results.mapM (ub a'.tmps)).run P w'= .ok (List.toArray aE) w':=by
     rw[E,List.mapM_toArray];simp[dK]
    have ah:results fn a'.tmps=(do let aE<-fn.results.mapM (ub a'.tmps);pure (if h:aE.size=1 then aE[0] else .tuple aE)):=rfl;rw[ah]
    match r,aE,hJ,G with
    | [],_,e,G=>rw[show _=[] from e] at G;exact⟨.tuple #[],by simp[G],[],rfl,rfl⟩
    | [x],_,⟨v,s,e,aB,aw⟩,G=>
     have aw:s=[]:=aw;subst aw e;exact⟨v,by simp[G],aB⟩
    |x::y::r,_,⟨v,s,e,aB,v2,bD,ao,vm,fu⟩,G=>
     subst ao e;exact⟨.tuple (List.toArray (v::v2::bD)),by simp[G],_,rfl,v,_,rfl,aB,v2,bD,rfl,vm,fu⟩
   obtain⟨x,hx,sS⟩:=jt;have sS:=wQ ag sS;simp only[as8] at pI
   let vn:Nat->bp:=fun c=>if c∈ba then ρ' c else ρ c
   have rH: ∀c,c∈ck aK++ba->vn c=ρ' c:=fun c J=>by
    show(if c∈ba then ρ' c else ρ c)=ρ' c
    split
    .rfl
    .rename_i hn;rcases av9.1 J with h |h
     .exact(bH.l0 c h).symm
     .exact at1 h hn
   refine⟨x,hx,g,x,vn,F',rfl,bH.fr,fun c J=>mu J,bZ C jN F' w',?_,fun b O=>⟨O.1,?_⟩,?_,?_,?_,?_⟩
   .intro b O;have wR: ¬C.qp b:=fun⟨c,ch,E,G⟩=>(bg c ch E b G).2 O
    refine⟨⟨au8 (a7 b O) bH.fr.size,.inl O,fun c ch J qv=>?_⟩,bH.fr.block b (a7 b O) wR⟩;rcases(bH.own c ch J b qv).2 with h |h
    .exact wR h
    .have:=a7 b O;exact at1 h.1 (Nat.not_le.2 this)
   .rcases O.2.1 with h |h |h
    .exact .inl h
    .exact .inr (.inl h)
    .exact .inr (.inr h.1)
   .intro c ch J
    have Z:c∈ck aK++ba:=by
     have:=av4.1 pI.2 c (gf.2 ⟨ch,J⟩);simpa only[av6] using this
    rw[rH c Z];exact Holds.cj (cm.refl _ _) (fun _ _=>rfl) (at0 _) ch (fun d H=>rH d (a8.kW (yy pI.1.2 J) H)) (bH.holds c ch (kU h7 J))
   .intro c ch J b O;have c3:=kU h7 J;exact⟨(bH.own c ch c3 b O).1,fun hi=>hi.2.2 c ch c3 O,(bH.own c ch c3 b O).2.imp id fun x=>x.1⟩
   .exact fun c cn ch ch' b E G=>bH.fd c cn ch ch' b (kU h7 E) (kU h7 G)
   .exact cx.mono (cm.refl _ _) (res g) x (fun c J=>rH c (aN.kW pI.1.1 J)) sS
 .rw[C7];simp only[at6,if_true,Nat.sub_zero]
  cases aw:args[s]? with
  |none=>trivial
  |some v=>
   have bv:s < b0.length:=by rw[bW];exact(au0.1 aw).1
   simp only[az5];have hx:b0[s]? =some b0[s]:=as7 bv;have:=cx.mono sW v _ (fun _ _=>rfl) (dG s v _ aw hx);simpa[Array.getElem?_append,bv,hx] using this
def R0 {ev:Operand->Value} {f:aI9} {c:Call} {x:aI2} {xs:aJ8} {p:aI8} {w:aH9} (hf:jp P f=true) (ai:o.op= .call c) (E:c.callee= .value x) (G:c.args.toList=xs) (vh:ev x= .func (.func f) #[p] #[]):(execOp ev o).run P w= .ok (.enter f (p::xs.map ev).toArray) w:=by
 have e6:c.args=xs.toArray:=by rw[<-G]
 obtain⟨rC,args,ct⟩:=c;simp only at E e6;subst E e6;unfold jp at hf
 split at hf
 .rename_i fn kw;simp only[av3,ax5,beq_eq_false_iff_ne] at hf;have G: ¬fn.body=none:=fun e=>by rw[e] at hf;simp at hf
  simp[execOp,ai,resolve,invoke,vh,Deferred.ofValue,callFunc,go_sem,kw];rw[mu hf.1,mu G]
 .cases hf
def K0 (K:aW) (o:Oper):Option (FuncId×List aN):=match o.op with
 | .call c=>match c.callee with
  | .value (.func f)=>some (f,c.args.toList.map (a1 K))
  | .value (.tmp t)=>match dX K t with
   | .c (.one (.c2 f l))=>some (f,c.args.toList.map (a1 K)++n' l)
   | .c (.one (.bK (.func (.func f) bs cs)))=>match bs.toList,cs.toList with
    | [.pointer (some ⟨b,0,none⟩)],[]=>some (f,.c (.one (.d (.aL (some b))))::c.args.toList.map (a1 K))
    |_,_=>none
   |_=>none
  |_=>none
 |_=>none
def adI (P:aI0) (f:aI9) (args:List aN) (ids:aH4) (K:aW) (B:ay) (k:aN->fk->Prop):Prop:=
 ∃(X:Type) (aK:ay) (ba:aH4) (res:X->aN) (aO:X->ay),cD P f args aK ba res aO/\la B aK/\sG ids K B ba=true/\(∀g,(sG ids K B ba&&mV aK ba (aO g))=true)/\ ∀g,oY (res g) fun r=>k r ⟨ck aK,ba,iC aK (aO g)⟩
def Dp (P:aI0) (ids:aH4) (o:Oper) (K:aW) (B:ay) (S:aN->fk->Prop):Prop:=
 ∀(N:Nat) (C:fc) (a:Act) (w:aH9),e2 N ids C K B a w->(∀d,o.dst=some d->d < N)-> ∀(fN:Act->World->Prop) (Q:Exit->Act->World->Prop),(∀v e a' w',S v e->e2 N ids C (mT o.dst v K) (hk e.iB B) a' w'->fN a' w')->o.wp P a w fN Q
def adJ (o:Oper):Bool:=match o.op with
 | .next _ _=>true
 | .binOp .eql _ _ (.const (.slice none 0 0)) _=>true
 | .call c=>match c.callee with
  | .builtin .delete=>true
  |_=>false
 |_=>false
def wX (P:aI0) (l:Nat) (args:List aN) (aK:ay) {X:Type} (res:X->aN) (aO:X->ay):Prop:=
 ∀(ρ:Nat->bp) (F:Nat->Nat->Prop) (I:Nat->Prop) (w:aH9) (b0:aH7),
  (∀b,I b->b < w.heap.size)->(∀c ch,ae aK c=some ch->Holds ρ I (F c) w (ρ c) ch)->(∀c ch,ae aK c=some ch-> ∀b,F c b->b < w.heap.size/\ ¬I b)->
  (∀c cn ch ch' b,ae aK c=some ch->ae aK cn=some ch'->c≠cn->F c b-> ¬F cn b)->
  b0.length=args.length->(∀(i:Nat) (v:aN) (x:aI8),args[i]? =some v->b0[i]? =some x->cx ρ I w v x)->
  ∃f tmps assign body,(Instr.yield l b0.toArray).run P w= .ok (.round l f tmps assign body) w/\RoundIn (oZ none) 0 P l f tmps assign body w fun e w'=> ∃(g:X) (x:aI8) (ρ':Nat->bp) (F':Nat->Nat->Prop),e= .returned x/\cU (fun b=> ∃c ch,ae aK c=some ch/\F c b) w w'/\(∀c,ρ' c=ρ c)/\
   ∃I':Nat->Prop,cm I w I' w'/\(∀b,I' b->b < w'.heap.size/\(I b\/(∃c ch,ae aK c=some ch/\F c b)\/w.heap.size<=b))/\
   (∀c ch,ae (aO g) c=some ch->Holds ρ' I' (F' c) w' (ρ' c) ch)/\
   (∀c ch,ae (aO g) c=some ch-> ∀b,F' c b->b < w'.heap.size/\ ¬I' b/\((∃gU cB,ae aK gU=some cB/\F gU b)\/w.heap.size<=b))/\
   (∀c cn ch ch' b,ae (aO g) c=some ch->ae (aO g) cn=some ch'->c≠cn->F' c b-> ¬F' cn b)/\cx ρ' I' w' (res g) x
def Gv (K:aW) (o:Oper):Option (Nat×List aN):=match o.op with
 | .call c=>match c.callee with
  | .value (.tmp t)=>match dX K t with
   | .c (.one (.bK (.func (.yield l) fs cs)))=>match fs.toList,cs.toList with
    | [],[]=>some (l,c.args.toList.map (a1 K))
    |_,_=>none
   |_=>none
  |_=>none
 |_=>none
def adK (P:aI0) (l:Nat) (args:List aN) (B:ay) (k:aN->fk->Prop):Prop:=
 ∃(X:Type) (aK:ay) (res:X->aN) (aO:X->ay),wX P l args aK res aO/\la B aK/\(∀g,mV aK [] (aO g)=true)/\ ∀g,oY (res g) fun r=>k r ⟨ck aK,[],iC aK (aO g)⟩
def adL {ev:Operand->Value} {l:Nat} {c:Call} {x:aI2} {xs:aJ8} {w:aH9} (ai:o.op= .call c) (E:c.callee= .value x) (G:c.args.toList=xs) (vh:ev x= .func (.yield l) #[] #[]):(execOp ev o).run P w=(Instr.yield l (xs.map ev).toArray).run P w:=by
 have e6:c.args=xs.toArray:=by rw[<-G]
 obtain⟨rC,args,ct⟩:=c;simp only at E e6;subst E e6;simp[execOp,ai,resolve,invoke,vh,Deferred.ofValue]
def adM {l:Nat} {xs:List aN} (h:Gv K o=some (l,xs)) {ρ:Nat->bp} {I:Nat->Prop} {a:Act} {w:aH9} (au:eo K ρ I a w): ∃b0:List Value,(execOp a.eval o).run P w=(Instr.yield l b0.toArray).run P w/\(∀c,o.op≠ .defer c)/\b0.length=xs.length/\ ∀(i:Nat) (v:aN) (x:aI8),xs[i]? =some v->b0[i]? =some x->cx ρ I w v x:=by
 unfold Gv at h
 split at h
 .rename_i c ai
  split at h
  .rename_i t J
   split at h
   .rename_i l' fs cs al
    split at h
    .rename_i wO fC;injection h with h
     injection h with E G
     subst E G;have wO:fs= #[]:=by rw[<-ay4];exact wO
     have fC:cs= #[]:=by rw[<-ay4];exact fC
     subst wO fC;have aB:a.eval (.tmp t)= .func (.yield l') #[] #[]:=au.ev (x:=.tmp t) (s:=.c (.one (.bK (.func (.yield l') #[] #[])))) al;have dL: ∀d,o.op≠ .defer d:=fun d e=>by rw[ai] at e;cases e
     refine⟨c.args.toList.map a.eval,?_,dL,aD9,fun i v x aB hx=>?_⟩
     .exact adL ai J rfl aB
     .rw[av1] at aB hx;obtain⟨aH,aM,rfl⟩:=ax0.1 aB;rw[aM] at hx;simp only[az3,at5] at hx;subst hx;exact au.get aH
    .cases h
   .cases h
  .cases h
 .cases h
def adN {l:Nat} {args:List aN} (ai:Gv K o=some (l,args)) {X:Type} {aK:ay} {res:X->aN} {aO:X->ay} (aD:wX P l args aK res aO) (h7:la B aK) (bu: ∀g,mV aK [] (aO g)=true)
  {C:fc} {a:Act} {w:aH9} (aw:e2 N ids C K B a w) (bv: ∀d,o.dst=some d->d < N) {r:aI4} {fN:Act->World->Prop} {Q:Exit->Act->World->Prop} (cR: ∀g a' w',e2 N ids C (mT o.dst (res g) K) (hk (iC aK (aO g)) B) a' w'->fN a' w'):o.wpIn (oZ r) 0 P a w fN Q:=by
 obtain⟨hn,H,ρ,F,ak,au⟩:=aw;have eX: ∀{c ch},ae aK c=some ch->ae B c=some ch:=fun {c ch} J=>kU h7 J
 obtain⟨b0,dK,dL,rF,t'⟩:=adM (P:=P) (w:=w) ai au
 obtain⟨f,tmps,assign,body,R1,R2⟩:=aD ρ F (bZ C B F w) w b0 (fun b O=>O.1) (fun c ch J=>ak.holds c ch (eX J)) (fun c ch J b O=>⟨(ak.own c ch (eX J) b O).1,fun a7=>a7.2.2 c ch (eX J) O⟩)
  (fun c cn ch ch' b E G=>ak.fd c cn ch ch' b (eX E) (eX G)) rF t'
 refine⟨fun _ _=>trivial,?_⟩;rw[Oper.semAt_eq _ _ _ dL,dK,R1,Oper.uponIn_round];refine⟨fun aw=>at1 aw aD9,RoundIn.mono (F:=oZ r) (n:=0 - 1) R2 ?_⟩;rintro e w' ⟨g,x,ρ',F',rfl,cF,dl,I',jq,gG,c',ax,hU,dG⟩;exact cR g _ _ (e2.back h7 rfl (bu g) hn H ak au bv cF (fun c _=>dl c) gG c' ax hU dG)
def adO (K:aW) (o:Oper):Bool:=match o.op with
 | .mapUpdate _ _ _ v=>match a1 K v with
  | .c (.one (.ptr _ 0))=>true
  |_=>false
 |_=>false
def K1 (P:aI0) (aQ:df) (ids:aH4) (o:Oper) (K:aW) (B:ay) (k:aN->fk->Prop):Prop:=match K0 K o with
 |some (f,xs)=>adI P f xs ids K B k
 |none=>match Gv K o with
  |some (l,xs)=>adK P l xs B k
  |none=>match adJ o||adO K o with
   |true=> ∃S:aN->fk->Prop,Dp P ids o K B S/\ ∀v e,S v e->oY v fun v=>k v e
   |false=>FK P aQ ids o K B k
noncomputable def K2 (P:aI0) (aQ:df) (ids:aH4) (all:aJ0) (o:Oper) (l:aJ0) (bk:aW->ay->Prop) (K:aW) (B:ay):Prop:=
 match u4 all K o.guard with
 |none=>False
 |some false=>match o.dst with
  |some d=>bk ((d,.undef)::K) B
  |none=>bk K B
 |some true=>K1 P aQ ids o K B fun v e=>match o.dst with
  |none=>yc e.iB B fun B=>bk K B
  |some d=>match FL (all.length - l.length - 1) l,v with
   |true,.c (.one (.d (.bool b)))=>yc e.iB B fun B=>(b=true->bk ((d,.c (.one (.d (.lit true))))::K) B)/\(b=false->bk ((d,.c (.one (.d (.lit false))))::K) B)
   |_,v=>yc e.iB B fun B=>bk ((d,v)::K) B
noncomputable def Gw (P:aI0) (aQ:df) (ids:aH4) (all l:aJ0) (K:aW) (B:ay) (k:aW->ay->Prop):Prop:=
 List.rec (motive:=fun _=>aW->ay->Prop) k (fun o l bk K B=>K2 P aQ ids all o l bk K B) l K B
def adP {all l:aJ0} {k:aW->ay->Prop}:Gw P aQ ids all (o::l) K B k=K2 P aQ ids all o l (fun K B=>Gw P aQ ids all l K B k) K B:=rfl
def adQ {f:aI9} {xs:List aN} (h:K0 K o=some (f,xs)) (ρ:Nat->bp) (I:Nat->Prop) (a:Act) (w:aH9) (au:eo K ρ I a w): ∃b0:List Value,(jp P f=true->(execOp a.eval o).run P w= .ok (.enter f b0.toArray) w)/\b0.length=xs.length/\ ∀(i:Nat) (v:aN) (x:aI8),xs[i]? =some v->b0[i]? =some x->cx ρ I w v x:=by
 unfold K0 at h
 split at h
 .rename_i c ai
  split at h
  .rename_i qA J;injection h with h
   injection h with E G
   subst E G;refine⟨c.args.toList.map a.eval,fun fP=>Q0 fP ai J rfl rfl,aD9,fun i v x aB hx=>?_⟩;rw[av1] at aB hx;obtain⟨aH,aM,rfl⟩:=ax0.1 aB;rw[aM] at hx;simp only[az3,at5] at hx;subst hx;exact au.get aH
  .rename_i t J
   split at h
   .rename_i qA l al;injection h with h
    injection h with E G
    subst E G;have aB:=au t;rw[al] at aB;obtain⟨aE,e,yJ⟩:=aB;obtain⟨cr,cv⟩:=h5.b0 l aE yJ;refine⟨c.args.toList.map a.eval++aE,fun fP=>Kr fP ai J rfl e,by simp[cr],fun i v x aB hx=>?_⟩
    by_cases hi:i < c.args.toList.length
    .rw[av8 (by simpa using hi)] at aB hx;rw[av1] at aB hx;obtain⟨aH,aM,rfl⟩:=ax0.1 aB;rw[aM] at hx;simp only[az3,at5] at hx;subst hx;exact au.get aH
    .rw[aw4 (by simpa using hi)] at aB hx;simp only[au3] at aB hx;exact cv _ v x aB hx
   .rename_i qA bs cs al
    split at h
    .rename_i b O e3;injection h with h
     injection h with E G
     subst E G
     have aB:a.eval (.tmp t)= .func (.func qA) bs cs:=by
      have ar:=au t;rw[al] at ar;exact ar
     have af:bs= #[.pointer (some ⟨b,0,none⟩)]:=ay4.1 O;have ao:cs= #[]:=ay4.1 e3;subst af ao;refine⟨.pointer (some ⟨b,0,none⟩)::c.args.toList.map a.eval,fun fP=>R0 fP ai J rfl aB,aD9,fun i v x aB hx=>?_⟩
     cases i with
     |zero=>
      simp only[au4,at5] at aB hx;subst aB hx;rfl
     |succ i=>
      rw[aC4,av1] at aB hx;obtain⟨aH,aM,rfl⟩:=ax0.1 aB;rw[aM] at hx;simp only[az3,at5] at hx;subst hx;exact au.get aH
    .cases h
   .cases h
  .cases h
 .cases h
def adR (bl:d6 P aQ) (dL: ∀c,o.op≠ .defer c) (r:aI4) {k:aN->fk->Prop} (h:K1 P aQ ids o K B k) {C:fc} {a:Act} {w:aH9} (aw:e2 N ids C K B a w) (bv: ∀d,o.dst=some d->d < N) {fN:Act->World->Prop} {Q:Exit->Act->World->Prop} (cR: ∀v e a' w',k v e->e2 N ids C (mT o.dst v K) (hk e.iB B) a' w'->fN a' w'):o.wpIn (oZ r) 0 P a w fN Q:=by
 unfold K1 at h
 split at h
 .rename_i f xs J;obtain⟨X,aK,ba,res,aO,E,G,ah,aS,bB⟩:=h;refine C5 dL (adG (adQ J) E G ah aS aw bv fun g a' w' ee=>?_);have bB:=bB g;rw[sF] at bB;exact cR _ _ _ _ bB ee
 .split at h
  .rename_i l xs J;obtain⟨X,aK,res,aO,E,G,ah,aS⟩:=h;refine adN J E G ah aw bv fun g a' w' ee=>?_
   have aS:=aS g;rw[sF] at aS;exact cR _ _ _ _ aS ee
  .split at h
   .obtain⟨S,au,h⟩:=h;refine C5 dL (au N C a w aw bv fN Q fun v e a' w' aB ee=>?_);have h:=h v e aB;rw[sF] at h;exact cR _ _ _ _ h ee
   .obtain⟨v,e,h,ax,hf⟩:=Ks bl h;exact C5 dL (ax K B (fun _ _=>rfl) (fun _ _=>rfl) hf C a w aw bv fN Q fun a' w' fu=>cR _ _ _ _ h fu)
def yK (bl:d6 P aQ) (all:aJ0): ∀(l:aJ0) (K:aW) (B:ay) (k:aW->ay->Prop),ua N l=true->Gw P aQ ids all l K B k-> ∀(C:fc) (a:Act) (w:aH9),e2 N ids C K B a w->
  ∀(r:aI4) (Q:Exit->Act->World->Prop),(∀K' B',k K' B'-> ∀a' w',e2 N ids C K' B' a' w'->Q .normal a' w')->wpListIn (oZ r) 0 P all.toArray Q l a w
 | [],K,B,k,_,h,C,a,w,aw,r,Q,Z=>wpListIn_nil (Z K B h a w aw)
 |o::l,K,B,k,H,h,C,a,w,aw,r,Q,Z=>by
  simp only[ua,as8] at H;obtain⟨⟨sV,dL⟩,da⟩:=H;have dL:=Ku dL;have bv: ∀d,o.dst=some d->d < N:=fun d e=>by rw[e] at sV;simpa[Nat.blt_eq] using sV
  have ee:=aw;obtain⟨_,_,ρ,F,ak,au⟩:=ee;rw[adP] at h;unfold K2 at h;simp only[JA] at h;refine wpListIn_step fun fN C6=>?_
  split at h
  .exact h.elim
  .rename_i hw;rw[mu (by rw[Ax hw au];simp)];refine⟨fun _ _=>trivial,C6 _ _ ?_⟩;have aZ:=aw.undef o.dst bv
   split at h
   .rename_i d e;rw[e] at aZ⊢;exact yK bl all l _ _ k da h C _ w aZ r Q Z
   .rename_i e;rw[e] at aZ⊢;exact yK bl all l _ _ k da h C _ w aZ r Q Z
  .rename_i hw;rw[vj (Ax hw au)];refine adR bl dL r h aw bv fun v e a' w' h fu=>C6 _ _ ?_
   split at h
   .rename_i ao;rw[ao] at fu;exact yK bl all l _ _ k da h C _ w' fu r Q Z
   .rename_i d ao;rw[ao] at fu
    split at h
    .rename_i b aV
     cases b with
     |true=>exact yK bl all l _ _ k da (h.1 rfl) C _ w' fu.lit r Q Z
     |false=>exact yK bl all l _ _ k da (h.2 rfl) C _ w' fu.lit r Q Z
    .exact yK bl all l _ _ k da h C _ w' fu r Q Z
def bG.iF (bl:d6 P aQ) {id:Nat} {du:Array Oper} {Q:oa->aW->ay->Prop} (H:ua N du.toList=true) (h:Gw P aQ ids du.toList du.toList K B (fun K B=>Q .gF K B)):bG P N ids (.region id du false) K B Q:=by intro r aj C iE a2 a w aw;refine wpIn_region_list ?_;have:=yK bl du.toList du.toList K B _ H h C a w aw r iE (fun K' B' Z a' w' ee=>a2 .gF K' B' C.ds (fun _=>rfl) Z a' w' ee);simpa using this
def dF (ids:aH4) (K:aW) (B:ay) {X:Type} (K':X->aW) (B':X->ay):Prop:= ∀(N:Nat) (C:fc) (a:Act) (w:aH9),e2 N ids C K B a w-> ∃x,e2 N ids C (K' x) (B' x) a w
def bG.fW {c:Code} {X:Type} {K':X->aW} {B':X->ay} {Q:oa->aW->ay->Prop} (h:dF ids K B K' B') (cq: ∀x,bG P N ids c (K' x) (B' x) Q):bG P N ids c K B Q:=fun r aj C iE a2 a w aw=>by
 obtain⟨x,hx⟩:=h N C a w aw;exact cq x r aj C iE a2 a w hx
end
end
section
def j8 (c:Nat) (bq:ay) (I F:Nat->Prop) (w:aH9) (p:bp):Prop:=
 ∃(ρ:Nat->bp) (cg:Nat->Nat->Prop),ρ c=p/\(∀d ch,ae bq d=some ch->Holds ρ I (cg d) w (ρ d) ch)/\
  (∀d cZ ch ch' b,ae bq d=some ch->ae bq cZ=some ch'->d≠cZ->cg d b-> ¬cg cZ b)/\ ∀b,F b↔ ∃d ch,ae bq d=some ch/\cg d b
def bc.iQ (c:Nat) (bq:ay):bc where
 bo:=j8 c bq
 cj:=fun I F w I' w' p ⟨ρ,cg,E,G,ah,aS⟩ U bg aM=>⟨ρ,cg,E,fun d ch H=>Holds.cj U (fun b O=>bg b ((aS b).2 ⟨d,ch,H,O⟩)) aM ch (fun _ _=>rfl) (G d ch H),ah,aS⟩
def bc.at (o:bc) (b:Nat):bc where
 bo:=fun I F w p=>p.bf=b/\o.bo I F w p
 cj:=fun I F w I' w' p h U bg aM=>⟨h.1,o.cj I F w I' w' p h.2 U bg aM⟩
def fJ (I:Nat->Prop) (w:aH9):List (Nat×bc)->(Nat->Prop)->Prop
 | [],F=> ∀b,¬F b
 |(a,o)::L,F=> ∃(cI cS:Nat->Prop) (p:bp),(∀b,F b↔cI b\/cS b)/\(∀b,cI b-> ¬cS b)/\p.bf=a/\o.bo I cI w p/\fJ I w L cS
def fJ.cj {I I':Nat->Prop} {w w':aH9} (U:cm I w I' w') (aM:w.heap.size<=w'.heap.size): ∀{L:List (Nat×bc)} {F:Nat->Prop},(∀b,F b->w'.heap[b]? =w.heap[b]?)->fJ I w L F->fJ I' w' L F
 | [],_,_,h=>h
 |(a,o)::L,F,bg,⟨cI,cS,p,E,G,ah,aS,bB⟩=>⟨cI,cS,p,E,G,ah,o.cj _ _ _ _ _ _ aS U (fun b O=>bg b ((E b).2 (.inl O))) aM,bB.cj U aM (fun b O=>bg b ((E b).2 (.inr O)))⟩
def bc.bt (L:List (Nat×bc)):bc where
 bo:=fun I F w _=>fJ I w L F
 cj:=fun I F w I' w' p h U bg aM=>h.cj U aM bg
def eZ:List (Nat×bc)->Nat->Option bc
 | [],_=>none
 |(a,o)::L,b=>if a=b then some o else eZ L b
def fX:List (Nat×bc)->Nat->bc->List (Nat×bc)
 | [],_,_=>[]
 |(a,o)::L,b,o'=>if a=b then(a,o')::L else(a,o)::fX L b o'
def fJ.out {I:Nat->Prop} {w:aH9} {b:Nat} {o:bc}: ∀{L:List (Nat×bc)} {F:Nat->Prop},eZ L b=some o->fJ I w L F-> ∃(cI cS:Nat->Prop) (p:bp),(∀x,F x↔cI x\/cS x)/\(∀x,cI x-> ¬cS x)/\p.bf=b/\o.bo I cI w p/\
  ∀(I':Nat->Prop) (w':aH9) (o':bc) (wY:Nat->Prop) (ku:bp),cm I w I' w'->w.heap.size<=w'.heap.size->(∀x,cS x->w'.heap[x]? =w.heap[x]?)->ku.bf=b->o'.bo I' wY w' ku->(∀x,wY x-> ¬cS x)->fJ I' w' (fX L b o') (fun x=>wY x\/cS x)
 | [],F,h,_=>by cases h
 |(a,q)::L,F,h,⟨rJ,ug,p,E,G,ah,aS,bB⟩=>by
  unfold eZ at h
  split at h
  .rename_i e;injection h with h
   subst h;refine⟨rJ,ug,p,E,G,ah.trans e,aS,fun I' w' o' wY ku U aM hf ag ai H=>?_⟩;unfold fX;rw[vj e];exact⟨wY,ug,ku,fun x=>Iff.rfl,H,ag.trans e.symm,ai,bB.cj U aM hf⟩
  .rename_i e;obtain⟨cI,cS,d3,g1,g2,cL,g8,pJ⟩:=fJ.out h bB;refine⟨cI,fun x=>rJ x\/cS x,d3,fun x=>?_,fun x hx=>?_,cL,g8,fun I' w' o' wY ku U aM hf ag ai H=>?_⟩
   .rw[E,g1];constructor
    .rintro(h |h |h)
     .exact .inr (.inl h)
     .exact .inl h
     .exact .inr (.inr h)
    .rintro(h |h |h)
     .exact .inr (.inl h)
     .exact .inl h
     .exact .inr (.inr h)
   .rintro(h |h)
    .exact G x h ((g1 x).2 (.inl hx))
    .exact g2 x hx h
   .unfold fX;rw[mu e];refine⟨rJ,fun x=>wY x\/cS x,p,fun x=>?_,fun x hx=>?_,ah,q.cj _ _ _ _ _ _ aS U (fun x hx=>hf x (.inl hx)) aM,pJ I' w' o' wY ku U aM (fun x hx=>hf x (.inr hx)) ag ai (fun x hx h=>H x hx (.inr h))⟩
    .constructor
     .rintro(h |h |h)
      .exact .inr (.inl h)
      .exact .inl h
      .exact .inr (.inr h)
     .rintro(h |h |h)
      .exact .inr (.inl h)
      .exact .inl h
      .exact .inr (.inr h)
    .rintro(h |h)
     .exact H x h (.inl hx)
     .exact G x hx ((g1 x).2 (.inr h))
def fJ.add {I:Nat->Prop} {w:aH9} {L:List (Nat×bc)} {F cI:Nat->Prop} {o:bc} {p:bp} (h:fJ I w L F) (ai:o.bo I cI w p) (H: ∀x,cI x-> ¬F x):fJ I w ((p.bf,o)::L) (fun x=>cI x\/F x):=
 ⟨cI,F,p,fun _=>Iff.rfl,H,rfl,ai,h⟩
def cD.fn {P:aI0} {f:aI9} {args:List aN} {aK:ay} {ba:aH4} {res:aN} {aO:ay} (h:cD P f args aK ba (fun _:Unit=>res) (fun _=>aO)):Fn P f args aK ba res aO:=
 ⟨h.1,fun ρ F I w b0 bM bU a3 a4 a5 fj=>(h.2 ρ F I w b0 bM bU a3 a4 a5 fj).mono fun e w' ⟨_,q⟩=>q⟩
def cD.bt {P:aI0} {f:aI9} {c q b:Nat} {args:List aN} {aK:ay} {ba:aH4} {X:Type} {res:X->aN} {aO:X->ay} {o:bc} {o':X->bc} {L:List (Nat×bc)}
  (h:cD P f (.c (.one (.ptr c 0))::args) ((c,.az o)::aK) ba res (fun g=>(c,.az (o' g))::aO g)) (cG:eZ L b=some o)
  (E:(args.all fun v=> !v.has c)=true) (G:kQ c aK=true/\(ae aK q).isNone=true) (ah:(ba.contains c||ba.contains q)=false) (aS: ∀g,(kQ c (aO g)&&(ae (aO g) q).isNone&& !(res g).has c)=true):
  cD P f (.c (.one (.d (.aL (some b))))::args) ((q,.az (.bt L))::aK) ba res (fun g=>(q,.az (.bt (fX L b (o' g))))::aO g):=by
 obtain⟨fP,h⟩:=h;refine⟨fP,fun ρ F I w b0 a7 c' bg eE bW dG=>?_⟩;have a2:ae ((q,a8.az (.bt L))::aK) q=some (.az (.bt L)):=aF9
 have bl:fJ I w L (F q):=c' q _ a2;obtain⟨cI,cS,p,cl,cY,ek,eL,vv⟩:=bl.out cG;obtain⟨adS,adT⟩:=va G.1;have vw:ae aK q=none:=by simpa using G.2
 have eX: ∀{d ch},ae aK d=some ch->d≠q/\d≠c/\ae ((q,a8.az (.bt L))::aK) d=some ch:=fun {d ch} H=>by
  have af:d≠q:=fun e=>by rw[e,vw] at H;cases H
  exact⟨af,fun e=>(by rw[e,adS] at H;cases H),by rw[co,mu (az2 af)];exact H⟩
 have adU: ∀(v:aN),v.has c=false-> ∀d,v.has d=true->dv ρ c p d=ρ d:=fun v aB d H=>dD _ _ (fun e=>by rw[e,aB] at H;cases H)
 match b0,bW with
 |v0::b0,bW=>
  have yL:v0= .pointer (some ⟨b,0,none⟩):=dG 0 _ v0 rfl rfl
  have iG: ∀{d ch},ae ((c,a8.az o)::aK) d=some ch->(d=c/\ch= .az o)\/(d≠c/\ae aK d=some ch):=fun {d ch} H=>by
   rw[co] at H
   split at H
   .rename_i e;injection H with H;exact .inl ⟨e.symm,H.symm⟩
   .rename_i e;exact .inr ⟨az2 e,H⟩
  refine(h (dv ρ c p) (dv F c cI) I w (v0::b0) a7 ?_ ?_ ?_ (by simpa using bW) ?_).mono ?_
  .intro d ch H;rcases iG H with⟨rfl,rfl⟩ |⟨e,H⟩
   .rw[dB,dB];exact eL
   .rw[dD _ _ e,dD _ _ e];exact Holds.cj (cm.refl _ _) (fun _ _=>rfl) (at0 _) ch (fun j V=>dD _ _ (fun cc=>by rw[cc,adT d ch H] at V;cases V)) (c' d ch (eX H).2.2)
  .intro d ch H x hx;rcases iG H with⟨rfl,rfl⟩ |⟨e,H⟩
   .rw[dB] at hx;exact bg q _ a2 x ((cl x).2 (.inl hx))
   .rw[dD _ _ e] at hx;exact bg d ch (eX H).2.2 x hx
  .intro d cZ ch ch' x H c4 a6 hx dq;rcases iG H with⟨Kk,_⟩ |⟨e,Dq⟩
   .rcases iG c4 with⟨K3,_⟩ |⟨cc,Gx⟩
    .exact a6 (Kk.trans K3.symm)
    .rw[Kk,dB] at hx;rw[dD _ _ cc] at dq;exact eE q cZ _ ch' x a2 (eX Gx).2.2 (az2 (eX Gx).1) ((cl x).2 (.inl hx)) dq
   .rw[dD _ _ e] at hx;rcases iG c4 with⟨K3,_⟩ |⟨cc,Gx⟩
    .rw[K3,dB] at dq;exact eE q d _ ch x a2 (eX Dq).2.2 (az2 (eX Dq).1) ((cl x).2 (.inl dq)) hx
    .rw[dD _ _ cc] at dq;exact eE d cZ ch ch' x (eX Dq).2.2 (eX Gx).2.2 a6 hx dq
  .intro i v x aB hx
   match i with
   |0=>
    simp only[au4,at5] at aB hx;subst aB hx;show v0=_;rw[dB,ek];exact yL
   |i+1=>
    have o3:args[i]? =some v:=aG0
    have:=av4.1 E v (ay0 o3);exact cx.mono (cm.refl _ _) v x (adU v (by simpa using this)) (dG (i+1) v x aG0 hx)
  .rintro e w' ⟨g,x,ρ',F',rfl,cF,dl,I',jq,gG,lC,ax,hU,sY⟩;have aV:=aS g;simp only[as8,av3] at aV;obtain⟨⟨g1,g2⟩,cL⟩:=aV;obtain⟨m1,m2⟩:=va g1;have bm:ae (aO g) q=none:=by simpa using g2
   simp only[ax5] at ah;have l2:c∉ba:=fun bd=>by have:=av6.2 bd;rw[ah.1] at this;cases this
   have ass:q∉ba:=fun bd=>by have:=av6.2 bd;rw[ah.2] at this;cases this
   have ol:ae ((c,a8.az (o' g))::aO g) c=some (.az (o' g)):=aF9
   have nz: ∀{d ch},ae (aO g) d=some ch->d≠c/\d≠q/\ae ((c,a8.az (o' g))::aO g) d=some ch:=fun {d ch} H=>by
    have af:d≠c:=fun e=>by rw[e,m1] at H;cases H
    exact⟨af,fun e=>(by rw[e,bm] at H;cases H),by rw[co,mu (az2 af)];exact H⟩
   have m7: ∀y,(∃d ch,ae ((c,a8.az o)::aK) d=some ch/\dv F c cI d y)-> ∃d ch,ae ((q,a8.az (.bt L))::aK) d=some ch/\F d y:=by
    rintro y ⟨d,ch,H,aD⟩;rcases iG H with⟨rfl,rfl⟩ |⟨e,H⟩
    .rw[dB] at aD;exact⟨q,_,a2,(cl y).2 (.inl aD)⟩
    .rw[dD _ _ e] at aD;exact⟨d,ch,(eX H).2.2,aD⟩
   have kv: ∀y,cS y-> ¬ ∃d ch,ae ((c,a8.az o)::aK) d=some ch/\dv F c cI d y:=by
    rintro y aD ⟨d,ch,H,d'⟩;rcases iG H with⟨rfl,rfl⟩ |⟨e,H⟩
    .rw[dB] at d';exact cY y d' aD
    .rw[dD _ _ e] at d';exact eE q d _ ch y a2 (eX H).2.2 (az2 (eX H).1) ((cl y).2 (.inr aD)) d'
   have sZ: ∀y,cS y->y < w.heap.size/\ ¬I y:=fun y aD=>bg q _ a2 y ((cl y).2 (.inr aD))
   have m6: ∀y,cS y->w'.heap[y]? =w.heap[y]? :=fun y aD=>cF.block y (sZ y aD).1 (kv y aD)
   have wZ: ∀d ch y,ae ((c,a8.az (o' g))::aO g) d=some ch->F' d y-> ¬cS y:=fun d ch y H aD Dr=>by
    rcases(ax d ch H y aD).2.2 with h |h
    .exact kv y Dr h
    .have:=(sZ y Dr).1;omega
   have adV:ρ' c=p:=by rw[dl c l2,dB]
   have mX:=vv I' w' (o' g) (F' c) (ρ' c) jq cF.size m6 (by rw[adV];exact ek) (lC c _ ol) (fun y aD=>wZ c _ y ol aD);refine⟨g,x,dv ρ' c (ρ c),fun d=>if d=q then(fun y=>F' c y\/cS y) else F' d,rfl,cF.mono fun y _ aD=>m7 y aD,fun d H=>?_,I',jq,fun y aD=>⟨(gG y aD).1,?_⟩,?_,?_,?_,?_⟩
   .by_cases e:d=c
    .subst e;rw[dB]
    .rw[dD _ _ e,dl d H,dD _ _ e]
   .rcases(gG y aD).2 with h |h |h
    .exact .inl h
    .exact .inr (.inl (m7 y h))
    .exact .inr (.inr h)
   .intro d ch H;rw[co] at H
    split at H
    .rename_i e;injection H with H
     subst H e;simp only[if_true];exact mX
    .rename_i e;obtain⟨af,ao,br⟩:=nz H;simp only[mu ao];rw[dD _ _ af];exact Holds.cj (cm.refl _ _) (fun _ _=>rfl) (at0 _) ch (fun j V=>dD _ _ (fun cc=>by rw[cc,m2 d ch H] at V;cases V)) (lC d ch br)
   .intro d ch H y aD;rw[co] at H
    split at H
    .rename_i e;subst e;simp only[if_true] at aD;rcases aD with aD |aD
     .obtain⟨bM,bU,a3⟩:=ax c _ ol y aD;exact⟨bM,bU,a3.imp (m7 y) id⟩
     .refine⟨au8 (sZ y aD).1 cF.size,fun hi=>?_,.inl ⟨q,_,a2,(cl y).2 (.inr aD)⟩⟩;rcases(gG y hi).2 with h |h |h
      .exact(sZ y aD).2 h
      .exact kv y aD h
      .have:=(sZ y aD).1;omega
    .obtain⟨af,ao,br⟩:=nz H;simp only[mu ao] at aD;obtain⟨bM,bU,a3⟩:=ax d ch br y aD;exact⟨bM,bU,a3.imp (m7 y) id⟩
   .intro d cZ ch ch' y H c4 a6 aD d';rw[co] at H c4
    split at H
    .rename_i e;subst e;rw[mu a6] at c4;obtain⟨af,ao,br⟩:=nz c4;simp only[if_true] at aD;simp only[mu ao] at d';rcases aD with aD |aD
     .exact hU c cZ _ ch' y ol br (az2 af) aD d'
     .exact wZ cZ ch' y br d' aD
    .obtain⟨af,ao,br⟩:=nz H;simp only[mu ao] at aD
     split at c4
     .rename_i e;subst e;simp only[if_true] at d';rcases d' with d' |d'
      .exact hU d c ch _ y br ol af aD d'
      .exact wZ d ch y br aD d'
     .obtain⟨lB,jM,AO⟩:=nz c4;simp only[mu jM] at d';exact hU d cZ ch ch' y br AO a6 aD d'
   .exact cx.mono (cm.refl _ _) (res g) x (fun j V=>dD _ _ (fun cc=>by rw[cc,cL] at V;cases V)) sY
def h9: ∀(B B':ay) (c:Nat),ae (B++B') c=(match ae B c with
  |some ch=>some ch
  |none=>ae B' c)
 | [],B',c=>rfl
 |(d,ch)::B,B',c=>by
  rw[List.cons_append,co,co,h9 B B' c]
  split <;>rfl
def Ds (l:aH4):ay->Bool
 | []=>true
 |(c,ch)::B=> !l.contains c&&(l.all fun d=> !ch.has d)&&Ds l B
def Dt {l:aH4}: ∀{B:ay},Ds l B=true-> ∀{c ch},ae B c=some ch->c∉l/\ ∀d,d∈l->ch.has d=false
 |(c,ch)::B,h,d,ch',H=>by
  simp only[Ds,as8,av3] at h;rw[co] at H
  split at H
  .rename_i e;subst e;injection H with H
   subst H;refine⟨fun bd=>?_,fun x hx=>?_⟩
   .have:=av6.2 bd;rw[h.1.1] at this
    cases this
   .have:=av4.1 h.1.2 x hx;simpa using this
  .exact Dt h.2 H
def m8 (gh ba iR:aH4):aH4:=gh++ba.filter fun d=> !iR.contains d
def s0 {l:aH4} {d:Nat} (h:l.contains d=true):d∈l:=av6.1 h
def w0 {l:aH4} {d:Nat} (h:l.contains d=false):d∉l:=fun bd=>by rw[av6.2 bd] at h;cases h
def om (c:Nat) (gh:aH4) (args:List aN) (bq aK:ay) (ba iR:aH4):Bool:=
 (ck bq).contains c&&(ck bq).all (fun d=>(c::gh).contains d)&&wP (c::gh) bq&& !ba.contains c&& !gh.contains c&&iR.all (fun d=>ba.contains d&& !gh.contains d)&&(args.all fun v=>gh.all fun d=> !v.has d)&&Ds gh aK&&(ae aK c).isNone
def oo (c:Nat) (hid:aH4) (res:aN) (dI aO:ay):Bool:=
 (ck dI).contains c&&(ck dI).all (fun d=>(c::hid).contains d)&&Ds hid aO&&(ae aO c).isNone&&(hid.all fun d=> !res.has d)
def cD.close {P:aI0} {f:aI9} {c:Nat} {args:List aN} {bq aK:ay} {ba iR:aH4} {X:Type} {res:X->aN} {dI aO:X->ay} {o:bc} {o':X->bc} (gh:aH4)
  (h:cD P f args (bq++aK) ba res (fun g=>dI g++aO g)) (dP: ∀I F w p,o.bo I F w p->j8 c bq I F w p) (oh: ∀g I F w p,j8 c (dI g) I F w p->(o' g).bo I F w p)
  (E:om c gh args bq aK ba iR=true) (G: ∀g,oo c (m8 gh ba iR) (res g) (dI g) (aO g)=true):
  cD P f args ((c,.az o)::aK) iR res (fun g=>(c,.az (o' g))::aO g):=by
 obtain⟨fP,h⟩:=h;simp only[om,as8,av3,aC8] at E;obtain⟨⟨⟨⟨⟨⟨⟨⟨bM,bU⟩,a3⟩,a4⟩,a5⟩,fj⟩,ru⟩,Gy⟩,a9⟩:=E;have bM:=s0 bM;have a4:=w0 a4;have a5:=w0 a5
 have R3: ∀d,d∈ck bq->d=c\/d∈gh:=fun d H=>by
  have:=s0 (av4.1 bU d H);exact at7.1 this
 have ast: ∀d,d∈iR->d∈ba/\d∉gh:=fun d H=>by
  have:=av4.1 fj d H;simp only[as8,av3] at this;exact⟨s0 this.1,w0 this.2⟩
 refine⟨fP,fun ρ F I w b0 a7 c' bg eE bW dG=>?_⟩;have dR:ae ((c,a8.az o)::aK) c=some (.az o):=aF9
 obtain⟨oq,cg,cr,cv,dm,eu⟩:=dP _ _ _ _ (c' c _ dR)
 have eX: ∀{d ch},ae aK d=some ch->d≠c/\d∉gh/\ae ((c,a8.az o)::aK) d=some ch:=fun {d ch} H=>by
  have af:d≠c:=fun e=>by rw[e,a9] at H;cases H
  exact⟨af,(Dt Gy H).1,by rw[co,mu (az2 af)];exact H⟩
 have iG: ∀{d ch},ae (bq++aK) d=some ch->(ae bq d=some ch/\d∈ck bq)\/(d∉ck bq/\ae aK d=some ch):=fun {d ch} H=>by
  rw[h9] at H
  cases e:ae bq d with
  |some ch'=>
   rw[e] at H;exact .inl ⟨H,gf.2 ⟨ch',e⟩⟩
  |none=>
   rw[e] at H;exact .inr ⟨fun Z=>(by obtain⟨ch',Z⟩:=gf.1 Z;rw[e] at Z;cases Z),H⟩
 let vx:Nat->bp:=fun d=>if d∈gh then oq d else ρ d
 let iS:Nat->Nat->Prop:=fun d=>if d∈ck bq then cg d else F d
 have Du: ∀d,d∉gh->vx d=ρ d:=fun d H=>mu H
 have yM: ∀d,d∈c::gh->vx d=oq d:=fun d H=>by
  rcases at7.1 H with rfl |H
  .rw[Du _ a5,cr]
  .exact vj H
 have m7: ∀y,(∃d ch,ae (bq++aK) d=some ch/\iS d y)-> ∃d ch,ae ((c,a8.az o)::aK) d=some ch/\F d y:=by
  rintro y ⟨d,ch,H,aD⟩;rcases iG H with⟨af,ao⟩ |⟨af,ao⟩
  .have aD:cg d y:=by simpa only[iS,vj ao] using aD
   exact⟨c,_,dR,(eu y).2 ⟨d,ch,af,aD⟩⟩
  .have aD:F d y:=by simpa only[iS,mu af] using aD
   exact⟨d,ch,(eX ao).2.2,aD⟩
 refine(h vx iS I w b0 a7 ?_ ?_ ?_ bW ?_).mono ?_
 .intro d ch H;rcases iG H with⟨af,ao⟩ |⟨af,ao⟩
  .have Z:d∈c::gh:=at7.2 (R3 d ao);rw[yM d Z];simp only[iS,vj ao];exact Holds.cj (cm.refl _ _) (fun _ _=>rfl) (at0 _) ch (fun j V=>yM j (a8.kW (yy a3 af) V)) (cv d ch af)
  .rw[Du d (eX ao).2.1];simp only[iS,mu af];exact Holds.cj (cm.refl _ _) (fun _ _=>rfl) (at0 _) ch (fun j V=>Du j (fun lg=>by rw[(Dt Gy ao).2 j lg] at V;cases V)) (c' d ch (eX ao).2.2)
 .intro d ch H x hx;rcases iG H with⟨af,ao⟩ |⟨af,ao⟩
  .simp only[iS,vj ao] at hx;exact bg c _ dR x ((eu x).2 ⟨d,ch,af,hx⟩)
  .simp only[iS,mu af] at hx;exact bg d ch (eX ao).2.2 x hx
 .intro d cZ ch ch' x H c4 a6 hx dq;rcases iG H with⟨af,ao⟩ |⟨af,ao⟩
  .simp only[iS,vj ao] at hx;rcases iG c4 with⟨lB,jM⟩ |⟨lB,jM⟩
   .simp only[iS,vj jM] at dq;exact dm d cZ ch ch' x af lB a6 hx dq
   .simp only[iS,mu lB] at dq;exact eE c cZ _ ch' x dR (eX jM).2.2 (az2 (eX jM).1) ((eu x).2 ⟨d,ch,af,hx⟩) dq
  .simp only[iS,mu af] at hx;rcases iG c4 with⟨lB,jM⟩ |⟨lB,jM⟩
   .simp only[iS,vj jM] at dq;exact eE c d _ ch x dR (eX ao).2.2 (az2 (eX ao).1) ((eu x).2 ⟨cZ,ch',lB,dq⟩) hx
   .simp only[iS,mu lB] at dq;exact eE d cZ ch ch' x (eX ao).2.2 (eX jM).2.2 a6 hx dq
 .intro i v x aB hx;have K4:=av4.1 ru v (ay0 aB)
  exact cx.mono (cm.refl _ _) v x (fun j V=>Du j (fun lg=>by
   have:=av4.1 K4 j lg;rw[V] at this
   cases this)) (dG i v x aB hx)
 .rintro e w' ⟨g,x,ρ',F',rfl,cF,dl,I',jq,gG,lC,ax,hU,sY⟩;have aV:=G g;simp only[oo,as8,aC8] at aV;obtain⟨⟨⟨⟨b1,b2⟩,b3⟩,d7⟩,fe⟩:=aV;have b1:=s0 b1
  have adW: ∀d,d∉m8 gh ba iR->d∉gh/\(d∈ba->d∈iR):=fun d H=>by
   refine⟨fun bd=>H (av9.2 (.inl bd)),fun bd=>?_⟩;rcases Decidable.em (d∈iR) with h |h
   .exact h
   .exact at1 (av9.2 (.inr (aC1.2 ⟨bd,by simpa using h⟩))) H
  have K5:c∉m8 gh ba iR:=fun bd=>by
   rcases av9.1 bd with h |h
   .exact a5 h
   .exact a4 (aC1.1 h).1
  let vn:Nat->bp:=fun d=>if d∈iR then ρ' d else ρ d
  have rH: ∀d,d∉m8 gh ba iR->vn d=ρ' d:=fun d H=>by
   obtain⟨af,ao⟩:=adW d H;show(if d∈iR then ρ' d else ρ d)=ρ' d
   split
   .rfl
   .rename_i hn;rw[dl d (fun bd=>hn (ao bd)),Du d af]
  have pb: ∀{d ch},ae (dI g) d=some ch->ae (dI g++aO g) d=some ch:=fun {d ch} H=>by rw[h9,H]
  have nz: ∀{d ch},ae (aO g) d=some ch->d≠c/\d∉m8 gh ba iR/\ae (dI g) d=none/\ae (dI g++aO g) d=some ch:=fun {d ch} H=>by
   have af:d≠c:=fun e=>by rw[e,d7] at H;cases H
   have ao:=(Dt b3 H).1
   have br:ae (dI g) d=none:=by
    cases e:ae (dI g) d with
    |none=>rfl
    |some ch'=>
     have:=s0 (av4.1 b2 d (gf.2 ⟨ch',e⟩));rcases at7.1 this with h |h
     .exact at1 h af
     .exact at1 h ao
   exact⟨af,ao,br,by rw[h9,br];exact H⟩
  refine⟨g,x,vn,fun d=>if d=c then(fun y=> ∃cZ ch',ae (dI g) cZ=some ch'/\F' cZ y) else F' d,rfl,cF.mono fun y _ aD=>m7 y aD,fun d H=>mu H,I',jq,fun y aD=>⟨(gG y aD).1,?_⟩,?_,?_,?_,?_⟩
  .rcases(gG y aD).2 with h |h |h
   .exact .inl h
   .exact .inr (.inl (m7 y h))
   .exact .inr (.inr h)
  .intro d ch H;rw[co] at H
   split at H
   .rename_i e;injection H with H
    subst H e;simp only[if_true];rw[rH _ K5];exact oh g _ _ _ _ ⟨ρ',F',rfl,fun d ch H=>lC d ch (pb H),fun d cZ ch ch' b H c4 a6=>hU d cZ ch ch' b (pb H) (pb c4) a6,fun b=>Iff.rfl⟩
   .obtain⟨af,ao,br,c0⟩:=nz H;simp only[mu af];rw[rH d ao];exact Holds.cj (cm.refl _ _) (fun _ _=>rfl) (at0 _) ch (fun j V=>rH j (fun lg=>by rw[(Dt b3 H).2 j lg] at V;cases V)) (lC d ch c0)
  .intro d ch H y aD;rw[co] at H
   split at H
   .rename_i e;subst e;simp only[if_true] at aD;obtain⟨cZ,ch',E,G⟩:=aD;obtain⟨cu,cp,fD⟩:=ax cZ ch' (pb E) y G;exact⟨cu,cp,fD.imp (m7 y) id⟩
   .obtain⟨af,ao,br,c0⟩:=nz H;simp only[mu af] at aD;obtain⟨cu,cp,fD⟩:=ax d ch c0 y aD;exact⟨cu,cp,fD.imp (m7 y) id⟩
  .intro d cZ ch ch' y H c4 a6 aD d';rw[co] at H c4
   split at H
   .rename_i e;subst e;rw[mu a6] at c4;obtain⟨af,ao,br,c0⟩:=nz c4;simp only[if_true] at aD;simp only[mu af] at d';obtain⟨g9,i',E,G⟩:=aD;exact hU g9 cZ i' ch' y (pb E) c0 (fun e=>by rw[e,br] at E;cases E) G d'
   .obtain⟨af,ao,br,c0⟩:=nz H;simp only[mu af] at aD
    split at c4
    .rename_i e;subst e;simp only[if_true] at d';obtain⟨g9,i',E,G⟩:=d';exact hU d g9 ch i' y c0 (pb E) (fun e=>by rw[<-e,br] at E;cases E) aD G
    .obtain⟨lB,jM,AO,adX⟩:=nz c4;simp only[mu lB] at d';exact hU d cZ ch ch' y c0 adX a6 aD d'
  .exact cx.mono (cm.refl _ _) (res g) x (fun j V=>rH j (fun lg=>by
    have:=av4.1 fe j lg;rw[V] at this
    cases this)) sY
def j8.adY {f g:Nat->Nat} (Dv: ∀c,g (f c)=c) (K6: ∀c,f (g c)=c) {c:Nat} {bq:ay} {I F:Nat->Prop} {w:aH9} {p:bp} (h:j8 c bq I F w p):j8 (f c) (lk f bq) I F w p:=by
 obtain⟨ρ,cg,E,G,ah,aS⟩:=h
 have al: ∀{d ch},ae (lk f bq) d=some ch-> ∃cB,ae bq (g d)=some cB/\ch=cB.eD f:=fun {d ch} H=>by
  rw[<-K6 d,Dh Dv] at H;obtain⟨cB,af,ao⟩:=ax0.1 H;exact⟨cB,af,ao.symm⟩
 refine⟨fun d=>ρ (g d),fun d=>cg (g d),by simp only[Dv];exact E,fun d ch H=>?_,fun d cZ ch ch' b H c4 a6=>?_,fun b=>?_⟩
 .obtain⟨cB,af,rfl⟩:=al H;rw[Dg];simp only[Dv];exact G _ _ af
 .obtain⟨cB,af,_⟩:=al H;obtain⟨i',ao,_⟩:=al c4;exact ah _ _ _ _ b af ao (fun e=>a6 (by rw[<-K6 d,<-K6 cZ,e]))
 .rw[aS];constructor
  .rintro⟨d,ch,af,ao⟩;exact⟨f d,ch.eD f,by rw[Dh Dv,af];rfl,by simp only[Dv];exact ao⟩
  .rintro⟨d,ch,af,ao⟩;obtain⟨cB,br,_⟩:=al af;exact⟨g d,cB,br,ao⟩
def j8.aT (l:aK0) {c:Nat} {bq:ay} {I F:Nat->Prop} {w:aH9} {p:bp} (h:j8 c bq I F w p):j8 (eD (ms l []) c) (lk (eD (ms l [])) bq) I F w p:=
 h.adY (g:=AJ (ms l [])) (Gm _) (Gn _)
section
variable {ids:aH4} {K:aW} {B:ay}
def dF.name (s c:Nat) {o:bc} (aw:dX K s= .c (.one (.ptr c 0))) (J:ae B c=some (.az o)):dF ids K B (fun b:Nat=>(s,.c (.one (.d (.aL (some b)))))::K) (fun b=>(c,.az (o.at b))::B):=by
 rintro N C a w ⟨hn,H,ρ,F,ak,au⟩;obtain⟨bH,aY⟩:=ak.hT (w':=w) (ch:=.az (o.at (ρ c).bf)) J (cU.refl _ _) fun I a7=>⟨rfl,Holds.cj (ρ':=ρ) a7 (fun _ _=>rfl) (at0 _) (.az o) (fun _ _=>rfl) (ak.holds c _ J)⟩
 refine⟨(ρ c).bf,hn,H,ρ,F,bH,fun t=>?_⟩;rw[kM]
 split
 .rename_i e;subst e;have:=au s;rw[aw] at this;exact this
 .exact au.mono aY (fun _ _ _=>rfl) t
def ac.put (q c:Nat) {o:bc} {b:Nat} {L:List (Nat×bc)} (a6:c≠q) (a2:ae B q=some (.az (.bt L))) (J:ae B c=some (.az (o.at b))):ac ids K B K ((q,.az (.bt ((b,o)::L)))::gT B c):=by
 rintro N C a w ⟨hn,H,ρ,F,ak,au⟩;have bl:fJ _ _ L (F q):=ak.holds q _ a2;have ax:(ρ c).bf=b/\o.bo _ (F c) w (ρ c):=ak.holds c _ J;obtain⟨rfl,ax⟩:=ax;have eE: ∀x,F c x-> ¬F q x:=fun x hx dq=>ak.fd c q _ _ x J a2 a6 hx dq
 obtain⟨bH,aY⟩:=ak.step (B':=(q,.az (.bt (((ρ c).bf,o)::L)))::gT B c) (ρ':=ρ) (F':=dv F q (fun x=>F c x\/F q x)) (w':=w) (fun d=>d=c\/d=q) (fun _=>False) (cU.refl _ _)
  (fun d ch H aC=>by
   rw[co,mu (fun e=>aC (.inr e.symm)),hD,mu (fun e=>aC (.inl e.symm))] at H;exact H)
  (fun _ _=>rfl) (fun d aC=>dD _ _ (fun e=>aC (.inr e))) (fun _ _ h=>h) (fun _ h=>h.elim) (fun _ _ _ _ _ _ h=>h)
  (fun d ch H aC aY=>by
   rw[co] at H
   split at H
   .rename_i e;subst e;injection H with H
    subst H;rw[dB];exact fJ.add (bl.cj aY (at0 _) (fun _ _=>rfl)) (o.cj _ _ _ _ _ _ ax aY (fun _ _=>rfl) (at0 _)) eE
   .rename_i e;rcases aC with rfl |rfl
    .rw[hD,vj rfl] at H;cases H
    .exact at1 rfl e)
  (fun d ch H aC x hx=>by
   rw[co] at H
   split at H
   .rename_i e;subst e;rw[dB] at hx;rcases hx with hx |hx
    .exact⟨(ak.own c _ J x hx).1,.inl ⟨c,_,J,.inl rfl,hx⟩⟩
    .exact⟨(ak.own q _ a2 x hx).1,.inl ⟨q,_,a2,.inr rfl,hx⟩⟩
   .rename_i e;rcases aC with rfl |rfl
    .rw[hD,vj rfl] at H;cases H
    .exact at1 rfl e)
  (fun d cZ ch ch' x H c4 aC fV K7=>by
   have key: ∀d ch,ae ((q,a8.az (.bt (((ρ c).bf,o)::L)))::gT B c) d=some ch->(d=c\/d=q)->d=q:=fun d ch H aC=>by
    rcases aC with rfl |rfl
    .rw[co,mu (az2 a6),hD,vj rfl] at H;cases H
    .rfl
   exact at1 ((key d ch H aC).trans (key cZ ch' c4 fV).symm) K7)
 exact⟨hn,H,ρ,_,bH,au.mono aY fun _ _ _=>rfl⟩
def pK:aH4->ay->ay
 | [],B=>B
 |c::l,B=>pK l (gT B c)
def yN: ∀(l:aH4) (B:ay) (d:Nat),ae (pK l B) d=if d∈l then none else ae B d
 | [],B,d=>by simp[pK]
 |c::l,B,d=>by
  rw[pK,yN l,hD]
  by_cases h:d∈l
  .rw[vj h,vj (at4 _ h)]
  .rw[mu h]
   by_cases e:c=d
   .subst e;rw[vj rfl,vj (au7 ..)]
   .rw[mu e,mu];intro bd;rcases at7.1 bd with rfl |bd
    .exact e rfl
    .exact h bd
def ac.close (c:Nat) (bq:ay) {o:bc} (de:la B bq) (J:(ck bq).contains c=true) (ai: ∀I F w p,j8 c bq I F w p->o.bo I F w p):ac ids K B K ((c,.az o)::pK (ck bq) B):=by
 rintro N C a w ⟨hn,H,ρ,F,ak,au⟩;have J:=s0 J;have al: ∀{d ch},ae bq d=some ch->ae B d=some ch:=fun {d ch} h=>kU de h
 have w1: ∀{d ch},ae ((c,a8.az o)::pK (ck bq) B) d=some ch->d∈ck bq->d=c/\ch= .az o:=fun {d ch} H aC=>by
  rw[co] at H
  split at H
  .rename_i e;injection H with H;exact⟨e.symm,H.symm⟩
  .rw[yN,vj aC] at H;cases H
 obtain⟨bH,aY⟩:=ak.step (B':=(c,.az o)::pK (ck bq) B) (ρ':=ρ) (F':=fun d=>if d∈ck bq then(fun x=> ∃d ch,ae bq d=some ch/\F d x) else F d) (w':=w) (fun d=>d∈ck bq) (fun _=>False) (cU.refl _ _)
  (fun d ch H aC=>by
   have a6:c≠d:=fun e=>aC (by rw[<-e];exact J)
   rw[co,mu a6,yN,mu aC] at H;exact H)
  (fun _ _=>rfl) (fun d aC=>mu aC) (fun _ _ h=>h) (fun _ h=>h.elim) (fun _ _ _ _ _ _ h=>h)
  (fun d ch H aC aY=>by
   obtain⟨rfl,rfl⟩:=w1 H aC;simp only[vj aC];exact ai _ _ _ _ ⟨ρ,F,rfl,fun d ch h=>Holds.cj aY (fun _ _=>rfl) (at0 _) ch (fun _ _=>rfl) (ak.holds d ch (al h)),fun d cZ ch ch' b h h' a6=>ak.fd d cZ ch ch' b (al h) (al h') a6,fun b=>Iff.rfl⟩)
  (fun d ch H aC x hx=>by
   simp only[vj aC] at hx;obtain⟨cZ,ch',E,G⟩:=hx;exact⟨(ak.own cZ ch' (al E) x G).1,.inl ⟨cZ,ch',al E,gf.2 ⟨ch',E⟩,G⟩⟩)
  (fun d cZ ch ch' x H c4 aC fV a6=>at1 ((w1 H aC).1.trans (w1 c4 fV).1.symm) a6)
 exact⟨hn,H,ρ,_,bH,au.mono aY fun _ _ _=>rfl⟩
def ac.vy (q:Nat) (hf:g7 ids K B q=true):ac ids K B K ((q,.az (.bt []))::B):=by
 rintro N C a w ⟨hn,H,ρ,F,ak,au⟩;have cF:=ld hf;obtain⟨bH,aY⟩:=ak.make hf (Below.refl _ w) (ρ q) (fun _=>False) (fun _ h=>h.elim) (ch:=.az (.bt [])) fun I _ _=>fun b h=>h
 exact⟨hn,H,_,_,bH,au.mono aY fun s d H=>dD _ _ (fun e=>by subst e;rw[cF.1 s] at H;cases H)⟩
end
end
section
abbrev aq:bz:=.int .i64
abbrev aH5:=List (aa aq×aa aq)
abbrev pL:dQ:=.one (.bK (.pointer none))
abbrev dw (n:Int):dQ:=.one (.d (.int .i64 n))
abbrev g':aN:=.b4 []
abbrev dd (b:Nat):aN:=.c (.one (.d (.aL (some b))))
abbrev R4 (x:aI4):dQ:=.one (.d (.aL x))
def lE {α:Type} {L:List α} {n:Nat} (h:n < L.length):eR L n=some L[n]:=as7 h
def Fn.close {P:aI0} {f:aI9} {c:Nat} {args:List aN} {bq aK:ay} {ba iR:aH4} {res:aN} {dI aO:ay} {o o':bc} (gh:aH4)
  (h:Fn P f args (bq++aK) ba res (dI++aO)) (dP: ∀I F w p,o.bo I F w p->j8 c bq I F w p) (oh: ∀I F w p,j8 c dI I F w p->o'.bo I F w p)
  (E:om c gh args bq aK ba iR=true) (G:oo c (m8 gh ba iR) res dI aO=true):
  Fn P f args ((c,.az o)::aK) iR res ((c,.az o')::aO):=
 (cD.close (bq:=bq) (dI:=fun _:Unit=>dI) (aO:=fun _=>aO) (o:=o) (o':=fun _=>o') gh h.x dP (fun _=>oh) E (fun _=>G)).fn
def Fn.Gz {P:aI0} {f:aI9} {args:List aN} {c:Nat} {aK:ay} {ba:aH4} {res:aN} {aO:ay} {o:bc} {Y:Type} {s1:Y->bc} (J:jp P f=true) (ai: ∀I F w p,o.bo I F w p-> ∃y,(s1 y).bo I F w p)
  (h: ∀y,Fn P f args ((c,.az (s1 y))::aK) ba res aO):Fn P f args ((c,.az o)::aK) ba res aO:=by
 refine⟨J,fun ρ F I w b0 bM bU a3 a4 a5 fj=>?_⟩;have al:ae ((c,a8.az o)::aK) c=some (.az o):=aF9
 obtain⟨y,aD⟩:=ai _ _ _ _ (bU c _ al)
 have key: ∀d ch,ae ((c,a8.az (s1 y))::aK) d=some ch->(d=c/\ch= .az (s1 y))\/ae ((c,a8.az o)::aK) d=some ch:=fun d ch H=>by
  rw[co] at H
  split at H
  .rename_i e;injection H with H;exact .inl ⟨e.symm,H.symm⟩
  .rename_i e;exact .inr (by rw[co,mu e];exact H)
 have vz: ∀d ch,ae ((c,a8.az (s1 y))::aK) d=some ch-> ∃cB,ae ((c,a8.az o)::aK) d=some cB:=fun d ch H=>by
  rcases key d ch H with⟨e,_⟩ |h
  .rw[e];exact⟨_,al⟩
  .exact⟨_,h⟩
 have adZ: ∀d ch,ae ((c,a8.az o)::aK) d=some ch-> ∃cB,ae ((c,a8.az (s1 y))::aK) d=some cB:=fun d ch H=>by
  rw[co] at H⊢
  split at H
  .rename_i e;exact⟨_,by rw[vj e]⟩
  .rename_i e;exact⟨ch,by rw[mu e];exact H⟩
 have bg: ∀b,(∃d ch,ae ((c,a8.az (s1 y))::aK) d=some ch/\F d b)↔ ∃d ch,ae ((c,a8.az o)::aK) d=some ch/\F d b:=fun b=>
  ⟨fun⟨d,ch,E,G⟩=>let⟨cB,h⟩:=vz d ch E;⟨d,cB,h,G⟩,fun⟨d,ch,E,G⟩=>let⟨cB,h⟩:=adZ d ch E;⟨d,cB,h,G⟩⟩
 refine((h y).2 ρ F I w b0 bM (fun d ch H=>?_) (fun d ch H b O=>?_) (fun d cZ ch ch' b E G=>?_) a5 fj).mono ?_
 .rcases key d ch H with⟨rfl,rfl⟩ |h
  .exact aD
  .exact bU d ch h
 .obtain⟨cB,h⟩:=vz d ch H;exact a3 d cB h b O
 .obtain⟨gU,g1⟩:=vz d ch E;obtain⟨cu,g2⟩:=vz cZ ch' G;exact a4 d cZ gU cu b g1 g2
 .rintro e w' ⟨x,ρ',F',r1,r2,fQ,I',j9,l6,mv,l7,m9,ot⟩;refine⟨x,ρ',F',r1,r2.mono fun b _ O=>(bg b).1 O,fQ,I',j9,fun b O=>⟨(l6 b O).1,(l6 b O).2.imp id (Or.imp (bg b).1 id)⟩,mv,fun d ch H b O=>?_,m9,ot⟩;obtain⟨g1,g2,cL⟩:=l7 d ch H b O;exact⟨g1,g2,cL.imp (bg b).1 id⟩
end
section
def cD.KR {P:aI0} {fn:aI9} {f g:Nat->Nat} (aV: ∀c,g (f c)=c) (hf: ∀c,f (g c)=c) {args:List aN} {aK:ay} {ba:aH4} {X:Type} {res:X->aN} {aO:X->ay} (h:cD P fn args aK ba res aO):
  cD P fn (yF f args) (lk f aK) (AM f ba) (fun x=>(res x).eD f) (fun x=>lk f (aO x)):=by
 refine⟨h.1,?_⟩;intro ρ F I w b0 a7 c' bg eE bW dG;have mt: ∀(B:ay) c,ae (lk f B) (f c)=(ae B c).map (·.eD f):=Dh aV;have o8: ∀{B:ay} {c ch},ae B c=some ch->ae (lk f B) (f c)=some (ch.eD f):=fun {B c ch} h=>by rw[mt,h];rfl
 have vq: ∀{B:ay} {c ch},ae (lk f B) c=some ch-> ∃cB,ae B (g c)=some cB/\ch=cB.eD f:=fun {B c ch} h=>by
  have e:=mt B (g c);rw[hf,h] at e;obtain⟨cB,E,G⟩:=ax0.1 e.symm;exact⟨cB,E,G.symm⟩
 rw[KP] at bW dG
 have J:=h.2 (fun c=>ρ (f c)) (fun c=>F (f c)) I w b0 a7
  (fun c ch J=>by rw[<-Dg];exact c' _ _ (o8 J))
  (fun c ch J=>bg _ _ (o8 J))
  (fun c cn ch ch' b E G a6=>eE _ _ _ _ b (o8 E) (o8 G) fun e=>a6 (by rw[<-aV c,e,aV]))
  (by simpa using bW)
  (fun i v x aB hx=>by rw[<-Gq];exact dG i _ x (by rw[av1,aB];rfl) hx)
 refine J.mono ?_;rintro e w' ⟨y,x,ρ',F',rfl,cF,dl,I',jq,gG,lC,ax,hU,hx⟩;have yG:(fun c=>ρ' (g (f c)))=ρ':=funext fun c=>by rw[aV]
 refine⟨y,x,fun c=>ρ' (g c),fun c=>F' (g c),rfl,?_,?_,I',jq,?_,?_,?_,?_,?_⟩
 .exact cF.mono fun b _ ⟨c,ch,E,G⟩=>⟨f c,_,o8 E,G⟩
 .intro c J;show ρ' (g c)=ρ c;rw[dl (g c) (fun aC=>J (by have:=KQ (f:=f) _ _ aC;rwa[hf] at this)),hf]
 .intro b O;obtain⟨E,G⟩:=gG b O;refine⟨E,?_⟩;rcases G with G |⟨c,ch,G,ah⟩ |G
  .exact .inl G
  .exact .inr (.inl ⟨f c,_,o8 G,ah⟩)
  .exact .inr (.inr G)
 .intro c ch J;obtain⟨cB,E,rfl⟩:=vq J;rw[Dg,yG];exact lC _ _ E
 .intro c ch J b O;obtain⟨cB,E,rfl⟩:=vq J;obtain⟨cr,cv,dm⟩:=ax _ _ E b O;refine⟨cr,cv,?_⟩;rcases dm with⟨gU,cB,dm,eu⟩ |dm
  .exact .inl ⟨f gU,_,o8 dm,eu⟩
  .exact .inr dm
 .intro c cn ch ch' b J c3 a6;obtain⟨cB,E,rfl⟩:=vq J;obtain⟨i',G,rfl⟩:=vq c3;exact hU _ _ _ _ b E G fun e=>a6 (by rw[<-hf c,e,hf])
 .rw[Gq,yG];exact hx
def cD.aT {P:aI0} {fn:aI9} (l:aK0) {args:List aN} {aK:ay} {ba:aH4} {X:Type} {res:X->aN} {aO:X->ay} (h:cD P fn args aK ba res aO):
  cD P fn (yF (eD (ms l [])) args) (lk (eD (ms l [])) aK) (AM (eD (ms l [])) ba) (fun x=>(res x).eD (eD (ms l []))) (fun x=>lk (eD (ms l [])) (aO x)):=
 cD.KR (Gm _) (Gn _) h
def cD.arg {P:aI0} {f:aI9} {args args':List aN} {aK:ay} {ba:aH4} {X:Type} {res:X->aN} {aO:X->ay} (h:cD P f args' aK ba res aO) (al:Fx args args'):cD P f args aK ba res aO:=by obtain⟨E,G⟩:=KC al;refine⟨h.1,fun ρ F I w b0 bM bU a3 a4 a5 fj=>h.2 ρ F I w b0 bM bU a3 a4 (a5.trans E) fun i v x aB hx=>?_⟩;obtain⟨s,g1,g2⟩:=G i v aB;exact wQ g2 (fj i s x g1 hx)
def bc.pc (o:bc):Prop:= ∀I F w p,o.bo I F w p->F p.bf
def K8 {I:Nat->Prop} {w:aH9} {b:Nat}: ∀{L:List (Nat×bc)} {F:Nat->Prop},(∀p∈L,p.2.pc)->fJ I w L F->b∈L.map (·.1)->F b
 | [],_,_,_,h=>by cases h
 |p::L,F,ha,⟨cI,cS,q,E,G,ah,aS,bB⟩,h=>by
  rcases at7.1 h with h |h
  .exact(E b).2 (.inl (by rw[h];have:=ha p (au7 ..) _ _ _ _ aS;rwa[ah] at this))
  .exact(E b).2 (.inr (K8 (fun p ag=>ha p (at4 _ ag)) bB h))
def R5 {I:Nat->Prop} {w:aH9}: ∀{L:List (Nat×bc)} {F:Nat->Prop},(∀p∈L,p.2.pc)->fJ I w L F->(L.map (·.1)).Nodup
 | [],_,_,_=>az4
 |p::L,F,ha,⟨cI,cS,q,E,G,ah,aS,bB⟩=>by
  have R6: ∀p∈L,p.2.pc:=fun p ag=>ha p (at4 _ ag)
  rw[au9];refine aw6.2 ⟨fun aC=>?_,R5 R6 bB⟩;have af:=ha p (au7 ..) _ _ _ _ aS;rw[ah] at af;exact G _ af (K8 R6 bB aC)
def dF.Dw {ids:aH4} {K:aW} {B:ay} (q:Nat) {L:List (Nat×bc)} (ha: ∀p∈L,p.2.pc) (a2:ae B q=some (.az (.bt L))):dF ids K B (X:=PLift ((L.map (·.1)).Nodup)) (fun _=>K) (fun _=>B):=by rintro N C a w ⟨hn,H,ρ,F,ak,au⟩;have bl:fJ (bZ C B F w) w L (F q):=ak.holds q _ a2;exact⟨⟨R5 ha bl⟩,hn,H,ρ,F,ak,au⟩
end
section
def Fn.via {P:aI0} {f:aI9} {args:List aN} {aK:ay} {ba:aH4} {res:aN} {aO:ay} {X:Type} {args':X->List aN} {uh:X->ay} {m0:X->ay} {iR:X->aH4} {res':X->aN} {nA:X->ay} (fP:jp P f=true) (n:Nat) (hn:args.length=n)
  (dP:dF (ck aK) (nx 0 args) aK (fun x=>nx 0 (args' x)) uh) (h: ∀x,Fn P f (args' x) (m0 x) (iR x) (res' x) (nA x)) (h7: ∀x,la (uh x) (m0 x)) (cF: ∀x,(sG (ck aK) (nx 0 (args' x)) (uh x) (iR x)&&mV (m0 x) (iR x) (nA x))=true) (bW: ∀x,(args' x).length=n)
  (oh: ∀x,∃(r:aN) (jN:ay),ac (ck aK) ((n,res' x)::nx 0 (args' x)) (hk (iC (m0 x) (nA x)) (uh x)) [(n,r)] jN/\tR r res/\la jN aO/\(res.iP (ck aK++ba)&&wP (ck aK++ba) aO&&(ck aO).all (fun c=>(ck aK++ba).contains c))=true):Fn P f args aK ba res aO:=by
 refine⟨fP,fun ρ F I w b0 a7 c' bg eE rF dG=>?_⟩
 let C:fc:=⟨w,I,fun b=> ∃c ch,ae aK c=some ch/\F c b,ρ,[]⟩
 let a:Act:={tmps:=(b0++[undef]).toArray,defers:=[]}
 have sW:cm I w (bZ C aK F w) w:=fun b O=>⟨⟨a7 b O,.inl O,fun c ch J qv=>(bg c ch J b qv).2 O⟩,rfl⟩
 have ad0:Mem (ck aK) C aK ρ F w:=⟨cU.refl _ _,fun c ch J=>Holds.cj sW (fun _ _=>rfl) (at0 _) ch (fun _ _=>rfl) (c' c ch J),fun c ch J b O=>⟨(bg c ch J b O).1,.inl ⟨c,ch,J,O⟩⟩,eE,fun c _=>rfl,az4,fun b O=>O.elim (a7 b) fun⟨c,ch,J,C9⟩=>(bg c ch J b C9).1,fun D cw=>by cases cw⟩
 have iN: ∀(i:Nat) (hi:i < b0.length),a.tmps.getD i undef=b0[i]:=fun i hi=>by
  show(b0++[undef]).toArray.getD i undef=_;rw[az9,List.getElem?_toArray,av8 hi,as7 hi];rfl
 have ad1:e2 (n+1) (ck aK) C (nx 0 args) aK a w:=by
  refine⟨by show(b0++[undef]).toArray.size=n+1;simp[rF,hn],rfl,ρ,F,ad0,fun s=>?_⟩;rw[C7];simp only[at6,if_true,Nat.sub_zero]
  cases aw:args[s]? with
  |none=>trivial
  |some v=>
   have bv:s < b0.length:=by rw[rF];exact(au0.1 aw).1
   simp only[az5];have hx:b0[s]? =some b0[s]:=as7 bv;have:=cx.mono sW v _ (fun _ _=>rfl) (dG s v _ aw hx);rw[iN s bv];exact this
 obtain⟨x,kT,yq,s2,cI,ak,au⟩:=dP (n+1) C a w ad1;have qB: ∀{c ch},ae (m0 x) c=some ch->ae (uh x) c=some ch:=fun {c ch} J=>kU (h7 x) J
 have cF:=cF x;rw[as8] at cF
 have J:=(h x).2 s2 cI (bZ C (uh x) cI w) w b0 (fun b O=>O.1) (fun c ch J=>ak.holds c ch (qB J)) (fun c ch J b O=>⟨(ak.own c ch (qB J) b O).1,fun a7=>a7.2.2 c ch (qB J) O⟩)
  (fun c cn ch ch' b E G=>ak.fd c cn ch ch' b (qB E) (qB G)) (by rw[rF,hn,bW x]) (fun i v y aB aD=>by
   have hi:i < b0.length:=(au0.1 aD).1;have E:=au i;rw[C7] at E;simp only[at6,if_true,Nat.sub_zero,aB,az5] at E;rw[iN i hi] at E;rw[as7 hi] at aD;injection aD with aD
   rw[<-aD];exact E)
 refine J.mono ?_;rintro e w' ⟨y,vn,cS,rfl,cr,cv,I',dm,eu,ou,mw,yO,K9⟩;have yG:=e2.back (dst:=some n) (h7 x) cF.1 cF.2 kT yq ak au (fun d H=>by injection H with H;omega) cr cv eu ou mw yO K9;obtain⟨r,jN,gD,ad2,GA,pI⟩:=oh x;obtain⟨GB,asu,ρ',F',bH,C'⟩:=gD _ _ _ _ yG;simp only[as8] at pI
 let AP:Nat->bp:=fun c=>if c∈ba then ρ' c else ρ c
 have La: ∀c,c∈ck aK++ba->AP c=ρ' c:=fun c J=>by
  show(if c∈ba then ρ' c else ρ c)=ρ' c
  split
  .rfl
  .rename_i hn;rcases av9.1 J with h |h
   .exact(bH.l0 c h).symm
   .exact at1 h hn
 have sS:cx ρ' (bZ C jN F' w') w' res y:=by
  have E:=C' n;rw[kM,vj rfl] at E;have G:(a.put (some n) y).tmps.getD n undef=y:=P0 (by show n < (b0++[undef]).toArray.size;simp[rF,hn]);rw[G] at E;exact wQ ad2 E
 refine⟨y,AP,F',rfl,bH.fr,fun c J=>mu J,bZ C jN F' w',?_,fun b O=>⟨O.1,?_⟩,?_,?_,?_,?_⟩
 .intro b O;have wR: ¬C.qp b:=fun⟨c,ch,E,G⟩=>(bg c ch E b G).2 O
  refine⟨⟨au8 (a7 b O) bH.fr.size,.inl O,fun c ch J qv=>?_⟩,bH.fr.block b (a7 b O) wR⟩;rcases(bH.own c ch J b qv).2 with h |h
  .exact wR h
  .have:=a7 b O;exact at1 h.1 (Nat.not_le.2 this)
 .rcases O.2.1 with h |h |h
  .exact .inl h
  .exact .inr (.inl h)
  .exact .inr (.inr h.1)
 .intro c ch J
  have Z:c∈ck aK++ba:=by
   have:=av4.1 pI.2 c (gf.2 ⟨ch,J⟩);simpa only[av6] using this
  rw[La c Z];exact Holds.cj (cm.refl _ _) (fun _ _=>rfl) (at0 _) ch (fun d H=>La d (a8.kW (yy pI.1.2 J) H)) (bH.holds c ch (kU GA J))
 .intro c ch J b O;have c3:=kU GA J;exact⟨(bH.own c ch c3 b O).1,fun hi=>hi.2.2 c ch c3 O,(bH.own c ch c3 b O).2.imp id fun x=>x.1⟩
 .exact fun c cn ch ch' b E G=>bH.fd c cn ch ch' b (kU GA E) (kU GA G)
 .exact cx.mono (cm.refl _ _) res y (fun c J=>La c (aN.kW pI.1.1 J)) sS
end
section
open Go.ChangeMaps (setBlock map_eraseIdx)
def GC:(u:bz)->aa u->dQ
 | .int k,n=>.one (.d (.int k n))
 | .str,s=>.one (.d (.str s))
 |_,_=>.one .any
def Dx (b:Nat) (aF aJ:bz) (l:List (Nat×(aa aF×aa aJ))) (bY:Nat) (I F:Nat->Prop) (w:aH9) (p:bp):Prop:=
 p.bf=b/\(∀x,F x↔x=p.bf)/\ ∃bT,w.heap[p.bf]? =some (.map (List.toArray bT) bY)/\io I w aF aJ (l.map (·.2)) bT/\bT.map (·.born)=l.map (·.1)/\mm bT bY
def bc.yP (b:Nat) (aF aJ:bz) (l:List (Nat×(aa aF×aa aJ))) (bY:Nat):bc where
 bo:=Dx b aF aJ l bY
 cj:=fun I F w I' w' p ⟨E,G,bT,ah,aS,bB,ej⟩ U bg aM=>⟨E,G,bT,(bg _ ((G _).2 rfl)).trans ah,aS.mono U,bB,ej⟩
def Lb (b kX:Nat) (ca:aH4) (at_:Nat) (I F:Nat->Prop) (w:aH9) (p:bp):Prop:=(∀x,F x↔x=p.bf)/\w.heap[p.bf]? =some (.mapIter (some b) kX (List.toArray ca) at_)
def bc.yQ (b kX:Nat) (ca:aH4) (at_:Nat):bc where
 bo:=Lb b kX ca at_
 cj:=fun I F w I' w' p ⟨E,G⟩ U bg aM=>⟨E,(bg _ ((E _).2 rfl)).trans G⟩
section
variable {P:aI0} {ids:aH4} {K:aW} {B:ay}
def ad3 {bT:aJ1} {bY:Nat} (h:mm bT bY):(bT.map (·.born)).Pairwise (· < ·)/\ ∀x∈bT.map (·.born),x < bY:=⟨h.1,fun x hx=>by
 obtain⟨e,U,rfl⟩:=av7.1 hx;exact h.2 e U⟩
def R7 {α m':Type}: ∀{l:List α} {m:List m'},l.length=m.length->(l.zip m).map (·.1)=l/\(l.zip m).map (·.2)=m
 | [],[],_=>⟨rfl,rfl⟩
 |a::l,b::m,h=>by
  obtain⟨E,G⟩:=R7 (l:=l) (m:=m) aE6;simp[E,G]
structure R8 (aF aJ:bz) (es:List (aa aF×aa aJ)) where
 b:Nat
 l:List (Nat×(aa aF×aa aJ))
 bY:Nat
 snd:l.map (·.2)=es
 asv:(l.map (·.1)).Pairwise (· < ·)
 lt: ∀x∈l.map (·.1),x < bY
def dF.ad4 (c:Nat) {aF aJ:bz} {es:List (aa aF×aa aJ)} (J:ae B c=some (.map aF aJ es)):dF ids K B (X:=R8 aF aJ es) (fun _=>K) (fun x=>(c,.az (.yP x.b aF aJ x.l x.bY))::B):=by
 rintro N C a w ⟨hn,H,ρ,F,ak,au⟩;obtain⟨bg,bT,bY,O,aC,de⟩:=ak.holds c _ J;have bW:(bT.map (·.born)).length=es.length:=by rw[au3,CG aC]
 obtain⟨kS,rA⟩:=R7 bW;obtain⟨r1,r2⟩:=ad3 de
 let x:R8 aF aJ es:=⟨(ρ c).bf,(bT.map (·.born)).zip es,bY,rA,by rw[kS];exact r1,by rw[kS];exact r2⟩
 obtain⟨bH,aY⟩:=ak.hT (w':=w) (ch:=.az (.yP x.b aF aJ x.l x.bY)) J (cU.refl _ _) fun I a7=>⟨rfl,bg,bT,O,by
  show io I w aF aJ (((bT.map (·.born)).zip es).map (·.2)) bT;rw[rA];exact aC.mono a7,kS.symm,de⟩
 exact⟨x,hn,H,ρ,F,bH,au.mono aY fun _ _ _=>rfl⟩
def ac.ad5 (c:Nat) {b:Nat} {aF aJ:bz} {l:List (Nat×(aa aF×aa aJ))} {bY:Nat} (J:ae B c=some (.az (.yP b aF aJ l bY))):ac ids K B K ((c,.map aF aJ (l.map (·.2)))::B):=by
 rintro N C a w ⟨hn,H,ρ,F,ak,au⟩;obtain⟨O,bg,bT,ah,aS,bB,ej⟩:Dx b aF aJ l bY _ (F c) w (ρ c):=ak.holds c _ J;obtain⟨bH,aY⟩:=ak.hT (w':=w) (ch:=.map aF aJ (l.map (·.2))) J (cU.refl _ _) fun I a7=>⟨bg,bT,bY,ah,aS.mono a7,ej⟩
 exact⟨hn,H,ρ,F,bH,au.mono aY fun _ _ _=>rfl⟩
def ad6 {o:Oper} {T kt et:aI3} {x:aI2} {c d:Nat} (ai:o.op= .range T x) (bR:P.underlying T=some (.map kt et)) (hx:a1 K x= .c (.one (.mp c))) {b:Nat} {aF aJ:bz} {l:List (Nat×(aa aF×aa aJ))} {bY:Nat}
  (J:ae B c=some (.az (.yP b aF aJ l bY))) (N:Nat):bx P N ids o K B (.c (.one (.ptr d 0))) ⟨[c],[d],[(d,some (.az (.yQ b bY [] bY)))]⟩:=by
 have aC:x∈o.op.operands:=aE4
 refine bx.make (fun e U=>(at8 U).symm) fun K' B' g1 g2 C ρ F a w ak au _=>?_
 have c3:=(g2 c aD9).trans J;obtain⟨O,bg,bT,ah,aS,bB,ej⟩:Dx b aF aJ l bY _ (F c) w (ρ c):=ak.holds c _ c3;have af:=au.mp ((g1 x aC).trans hx);refine⟨.pointer (some ⟨w.heap.size,0,none⟩),w.alloc (.mapIter (some (ρ c).bf) bY #[] bY),⟨w.heap.size,none,0,0⟩,fun y=>y=w.heap.size,?_,(Below.refl _ _).alloc (at0 _) _,fun y aD=>?_,fun I aY a7=>⟨⟨fun y=>Iff.rfl,?_⟩,?_⟩⟩
 .simp[execOp,ai,af,run_range_map w T kt et (ρ c).bf _ bY bR ah,Result.andThen]
 .subst aD;simp
 .rw[<-O];exact heap_alloc_new w _
 .show _=Value.pointer (some ⟨(dv ρ d _ d).bf,0,none⟩);rw[dB]
def Lc {I:Nat->Prop} {w:aH9} {aF aJ:bz}: ∀{l:List (aa aF×aa aJ)} {es:aJ1},io I w aF aJ l es-> ∀{j:Nat} {e:MapEntry},es[j]? =some e-> ∃p,l[j]? =some p/\e.key=gM aF p.1/\jn I w aJ p.2 e.val
 | [],_,h,j,e,U=>by rw[show _=[] from h] at U;simp at U
 |p::l,_,⟨cc,r,h,E,G,ah⟩,0,e,U=>by
  rw[h] at U;simp only[au4,at5] at U;subst U;exact⟨p,rfl,E,G⟩
 |p::l,_,⟨cc,r,h,E,G,ah⟩,j+1,e,U=>by
  rw[h] at U;simp only[aC4] at U⊢;exact Lc ah U
def R9 {b:Nat} {aF aJ:bz} {l:List (Nat×(aa aF×aa aJ))} {I:Nat->Prop} {w:aH9} {bT:aJ1} (aC:io I w aF aJ (l.map (·.2)) bT) (O:bT.map (·.born)=l.map (·.1)) {e:MapEntry} (U:e∈bT): ∃p∈l,p.1=e.born/\e.key=gM aF p.2.1/\jn I w aJ p.2.2 e.val:=by
 obtain⟨j,V,rfl⟩:=aA5 U;have kR:bT[j]? =some bT[j]:=as7 V;obtain⟨q,a2,E,G⟩:=Lc aC kR;rw[av1] at a2;obtain⟨p,ag,rfl⟩:=ax0.1 a2;have Dy:(bT.map (·.born))[j]? =(l.map (·.1))[j]? :=by rw[O]
 rw[av1,av1,kR,ag] at Dy;exact⟨p,ay0 ag,by simpa using Dy.symm,E,G⟩
def R' {aF aJ:bz} {l:List (Nat×(aa aF×aa aJ))} {I:Nat->Prop} {w:aH9} {bT:aJ1} (aC:io I w aF aJ (l.map (·.2)) bT) (O:bT.map (·.born)=l.map (·.1)) {p:Nat×(aa aF×aa aJ)} (ag:p∈l): ∃e∈bT,e.born=p.1/\e.key=gM aF p.2.1/\jn I w aJ p.2.2 e.val:=by
 obtain⟨j,V,rfl⟩:=aA5 ag;have kR:l[j]? =some l[j]:=as7 V;have bW:bT.length=l.length:=by have:=at2 List.length O;simpa using this
 have U:bT[j]? =some (bT[j]'aD7):=as7 aD7;obtain⟨q,a2,E,G⟩:=Lc aC U;rw[av1,kR] at a2;simp only[az3,at5] at a2;subst a2;have Dy:(bT.map (·.born))[j]? =(l.map (·.1))[j]? :=by rw[O]
 rw[av1,av1,kR,U] at Dy;exact⟨_,av5 _,by simpa using Dy,E,G⟩
def Sa {ρ:Nat->bp} {I:Nat->Prop} {w:aH9}: ∀(u:bz) (x:aa u),gC ρ I w (GC u x) (gM u x)
 | .int _,_=>rfl
 | .str,_=>rfl
 | .u8,_=>trivial
 | .bool,_=>trivial
 | .aL,_=>trivial
 | .da,_=>trivial
 | .fn,_=>trivial
 | .ci _,_=>trivial
 | .bV _ _,_=>trivial
 | .arr _ _,_=>trivial
def ad7 (r b kX:Nat) (ca:aH4) (aF aJ:bz) (l:List (Nat×(aa aF×aa aJ))) (bY c:Nat) (v:aN) (e:fk):Prop:=
 (∃p∈l,p.1∉ca/\v= .b4 [.one (.d (.lit true)),GC aF p.2.1,Af aJ p.2.2]/\e=⟨[c,r],[],[(r,some (.az (.yQ b kX (ca++[p.1]) bY)))]⟩)\/
 ((∀p∈l,p.1∈ca)/\v= .b4 [.one (.d (.lit false))]/\e=bC)
def ad8 {o:Oper} {s3:aI2} {c r:Nat} (ai:o.op= .next s3 false) (hx:a1 K s3= .c (.one (.ptr r 0))) {b kX:Nat} {ca:aH4} {at_:Nat} {aF aJ:bz} {l:List (Nat×(aa aF×aa aJ))} {bY:Nat}
  (aj:ae B r=some (.az (.yQ b kX ca at_))) (J:ae B c=some (.az (.yP b aF aJ l bY))) (m6: ∀p∈l,p.1 < kX) (ad9:kX<=at_):Dp P ids o K B (ad7 r b kX ca aF aJ l bY c):=by
 rintro N C a w aw bv fN Q cR;have asw:=aw;obtain⟨hn,H,ρ,F,ak,au⟩:=aw;obtain⟨O,bg,bT,ah,aS,bB,ej⟩:Dx b aF aJ l bY _ (F c) w (ρ c):=ak.holds c _ J;obtain⟨kv,hE⟩:Lb b kX ca at_ (bZ C B F w) (F r) w (ρ r):=ak.holds r _ aj;have af:a.eval s3= .pointer (some ⟨(ρ r).bf,0,none⟩):=au.ev hx
 have ad': ∀x∈(List.toArray bT).toList,x.born < kX:=fun x hx=>by
  obtain⟨p,ag,h,_⟩:=R9 (b:=b) aS bB (e:=x) aG7;rw[<-h];exact m6 p ag
 rw[O] at ah;rcases run_next_at (P:=P) w o.type (ρ r).bf b kX at_ (List.toArray ca) (List.toArray bT) bY hE ah ad' ad9 with⟨aM,dK⟩ |⟨e,U,cJ,vA,dK⟩
 .unfold Oper.wp;have hx:(execOp a.eval o).run P w= .ok (.value (.tuple #[.bool false])) w:=by simp[execOp,ai,af,dK,Result.andThen]
  rw[hx,Oper.upon_value];refine cR (.b4 [.one (.d (.lit false))]) bC _ _ (.inr ⟨fun p ag=>?_,rfl,rfl⟩) ⟨kN.trans hn,kO.trans H,ρ,F,ak,au.kP (fun e U=>by rw[hn];exact bv e U) ⟨[.bool false],rfl,_,_,rfl,rfl,rfl⟩⟩;obtain⟨e,U,E,_⟩:=R' aS bB ag;rw[<-E];have Ld:leftOf (List.toArray bT) (List.toArray ca)= #[]:=Array.eq_empty_of_size_eq_zero aM;unfold leftOf at Ld;rw[Array.filter_eq_empty_iff] at Ld;have:=Ld e (by simpa using U);simpa using this
 .obtain⟨Le,qC⟩:=mem_left U;have Le:e∈bT:=by simpa using Le
  have qC:e.born∉ca:=by
   intro bd;have:(List.toArray ca).contains e.born=true:=by simpa using bd
   rw[this] at qC;cases qC
  obtain⟨p,ag,cr,cv,dm⟩:=R9 (b:=b) aS bB Le;unfold Oper.wp;have hx:(execOp a.eval o).run P w= .ok (.value (.tuple #[.bool true,e.key,e.val])) (setBlock cJ (ρ r).bf (.mapIter (some b) kX ((List.toArray ca).push e.born) bY)):=by simp[execOp,ai,af,dK,Result.andThen]
  rw[hx,Oper.upon_value];have rK:(ρ r).bf < w.heap.size:=ml hE
  have AQ:cJ.heap=w.heap/\cJ.os=w.os/\cJ.tape=w.tape/\cJ.output=w.output:=by
   rcases vA with rfl |rfl <;>exact⟨rfl,rfl,rfl,rfl⟩
  have cF:cU (F r) w (setBlock cJ (ρ r).bf (.mapIter (some b) kX ((List.toArray ca).push e.born) bY)):=by
   refine⟨AQ.2.1,AQ.2.2.1,AQ.2.2.2,by simp[setBlock,AQ.1],fun k Z Lf=>?_⟩;have a6:k≠(ρ r).bf:=fun h=>Lf ((kv k).2 h)
   simp[setBlock,AQ.1,az7 (az2 a6)]
  obtain⟨bH,aY⟩:=ak.hT (w':=setBlock cJ (ρ r).bf (.mapIter (some b) kX ((List.toArray ca).push e.born) bY)) (ch:=.az (.yQ b kX (ca++[p.1]) bY)) aj cF fun I a7=>⟨kv,by
   simp[setBlock,AQ.1,rK,cr]⟩
  refine cR (.b4 [.one (.d (.lit true)),GC aF p.2.1,Af aJ p.2.2]) ⟨[c,r],[],[(r,some (.az (.yQ b kX (ca++[p.1]) bY)))]⟩ _ _ (.inl ⟨p,ag,by rw[cr];exact qC,rfl,rfl⟩)
   ⟨kN.trans hn,kO.trans H,ρ,F,bH,(au.mono aY fun _ _ _=>rfl).kP (fun e U=>by rw[hn];exact bv e U) ⟨[.bool true,e.key,e.val],rfl,_,_,rfl,rfl,_,_,rfl,?_,_,_,rfl,F2 (dm.mono aY),rfl⟩⟩
  rw[cv];exact Sa aF _
def aea {o:Oper} {s3:aI2} {c r:Nat} (ai:o.op= .entry s3) (hx:a1 K s3= .c (.one (.ptr r 0))) {b kX:Nat} {ca:aH4} {aF aJ:bz} {l:List (Nat×(aa aF×aa aJ))} {bY:Nat} {p:Nat×(aa aF×aa aJ)}
  (aj:ae B r=some (.az (.yQ b kX (ca++[p.1]) bY))) (J:ae B c=some (.az (.yP b aF aJ l bY))) (ag:p∈l) (N:Nat):bx P N ids o K B (.b4 [GC aF p.2.1,Af aJ p.2.2]) ⟨[c,r],[],[]⟩:=by
 have aC:s3∈o.op.operands:=aE4
 refine bx.val fun K' B' g1 g2 C ρ F a w ak au=>?_
 have c3:=(g2 c aD9).trans J;have Kt:=(g2 r aD9).trans aj;obtain⟨O,bg,bT,ah,aS,bB,ej⟩:Dx b aF aJ l bY _ (F c) w (ρ c):=ak.holds c _ c3;obtain⟨kv,hE⟩:Lb b kX (ca++[p.1]) bY (bZ C B' F w) (F r) w (ρ r):=ak.holds r _ Kt;have af:a.eval s3= .pointer (some ⟨(ρ r).bf,0,none⟩):=au.ev ((g1 s3 aC).trans hx);obtain⟨e,U,cr,cv,dm⟩:=R' aS bB ag;rw[O] at ah
 have dL:((List.toArray bT).toList.map (·.born)).Nodup:=by
  show(bT.map (·.born)).Nodup;exact ej.1.imp fun h=>by omega
 have aeb:w.heap[(ρ r).bf]? =some (.mapIter (some b) kX ((List.toArray ca).push e.born) bY):=by rw[hE,cr];simp
 have dK:=run_entry_at (P:=P) w (ρ r).bf b kX (List.toArray ca) (List.toArray bT) bY e aeb ah (by simpa using U) dL;refine⟨_,by simp[execOp,ai,af,dK,Result.andThen],[e.key,e.val],rfl,_,_,rfl,?_,_,_,rfl,F2 dm,rfl⟩;rw[cv];exact Sa aF _
def aec {o:Oper} {T gc cc:aI3} {x:aI2} {c:Nat} (ai:o.op= .binOp .eql T x (.const (.slice none 0 0)) gc) (hx:a1 K x= .c (.one (.own c))) {e:aI3} {u:bz} {xs:List (aa u)} (J:ae B c=some (.row e u xs)) (bR:P.underlying T=some (.slice cc)):
  Dp P ids o K B (fun v Lg=> ∃b:Bool,(b=true->xs=[])/\v= .c (.one (.d (.lit b)))/\Lg=⟨[c],[],[]⟩):=by
 rintro N C a w ⟨hn,H,ρ,F,ak,au⟩ bv fN Q cR;obtain⟨bg,iO,cs,dV,mW⟩:=ak.holds c _ J;have af:a.eval x=(ρ c).eS:=au.ev hx
 have dK:(execOp a.eval o).run P w= .ok (.value (.bool (ρ c).A.isNone)) w:=by
  simp only[execOp,ai,af,bp.eS];have ao:a.eval (.const (.slice none 0 0))= .slice none 0 0:=rfl;have h:=Lib.run_eql_slice_nil (P:=P) w T cc (ρ c).A (ρ c).n (ρ c).cap 0 0 bR;simp[ao,h,Result.andThen,eqGuard]
 unfold Oper.wp;rw[dK,Oper.upon_value];refine cR (.c (.one (.d (.lit (ρ c).A.isNone)))) ⟨[c],[],[]⟩ _ _ ⟨_,fun O=>?_,rfl,rfl⟩ ⟨kN.trans hn,kO.trans H,ρ,F,ak,au.kP (fun e U=>by rw[hn];exact bv e U) rfl⟩;rcases dV.2 with⟨_,h⟩ |⟨g,cap,di,h,_⟩
 .exact aw5 h
 .have E:(ρ c).A=some ⟨g,0,none⟩:=by simp only[bp.eS] at h;injection h
  rw[E] at O
  cases O
end
end
section
def ho (x:D):bc where
 bo:=fun I F w p=>Holds (fun _=>p) I F w p (.cells [.d x])
 cj:=fun I F w I' w' p h U bg aM=>Holds.cj U bg aM (.cells [.d x]) (fun _ _=>rfl) h
def aed {c:Nat} {x:D}: ∀I F w p,j8 c [(c,.cells [.d x])] I F w p->(ho x).bo I F w p:=by
 rintro I F w p ⟨ρ,cg,E,G,ah,aS⟩;have h:=G c _ aF9;rw[E] at h
 have l1:F=cg c:=by
  funext b
  refine propext ((aS b).trans ⟨?_,fun g=>⟨c,_,by rw[co,vj rfl],g⟩⟩);rintro⟨d,ch,e,g⟩;rw[co] at e
  split at e
  .rename_i ao;rw[<-ao] at g;exact g
  .cases e
 rw[l1];exact Holds.cj (cm.refl _ _) (fun _ _=>rfl) (at0 _) (.cells [.d x]) (fun d H=>by cases H) h
section
variable {P:aI0} {ids:aH4} {K:aW} {B:ay}
def Dz {o:Oper} {T:aI3} {x:aI2} {q b:Nat} {y:D} {L:List (Nat×bc)} {d:aJ4} (ai:o.op= .load T x) (bR:P.underlying T=some d) (H:d.isRow=false) (hx:a1 K x= .c (.one (.d (.aL (some b)))))
  (a2:ae B q=some (.az (.bt L))) (cG:eZ L b=some (ho y)) (N:Nat):bx P N ids o K B (.c (.one (.d y))) ⟨[q],[],[]⟩:=by
 have aC:x∈o.op.operands:=aE4
 refine bx.val fun K' B' g1 g2 C ρ F a w ak au=>?_
 have GD:=(g2 q aD9).trans a2;have bl:fJ (bZ C B' F w) w L (F q):=ak.holds q _ GD;obtain⟨cI,cS,p,cl,cY,ek,eL,vv⟩:=bl.out cG;have aB:a.eval x= .pointer (some ⟨b,0,none⟩):=au.ev ((g1 x aC).trans hx);obtain⟨E,aE,ew,G,ah⟩:=eL;obtain⟨v,r,e,aS,bB⟩:=ah;have bB:r=[]:=bB;subst bB e;rw[ek] at G;exact⟨v,FQ ai aB bR H (o1 G rfl),aS⟩
def Sb {o:Oper} {T gc cc:aI3} {x:aI2} {u:bz} {xs:List (aa u)} (ai:o.op= .binOp .eql T x (.const (.slice none 0 0)) gc) (hx:a1 K x= .c (.one (.d (.b' u xs)))) (bR:P.underlying T=some (.slice cc)):
  Dp P ids o K B (fun v Lg=> ∃b:Bool,(b=true->xs=[])/\v= .c (.one (.d (.lit b)))/\Lg=⟨[],[],[]⟩):=by
 rintro N C a w ⟨hn,H,ρ,F,ak,au⟩ bv fN Q cR;obtain⟨A,cap,af,G,ah,aS⟩:gL (bZ C B F w) w (.b' u xs) (a.eval x):=au.ev hx;injection af with af
 have dK:(execOp a.eval o).run P w= .ok (.value (.bool A.isNone)) w:=by
  simp only[execOp,ai,af];have ao:a.eval (.const (.slice none 0 0))= .slice none 0 0:=rfl;have h:=Lib.run_eql_slice_nil (P:=P) w T cc A (List.length xs) cap 0 0 bR;simp[ao,h,Result.andThen,eqGuard]
 unfold Oper.wp;rw[dK,Oper.upon_value];refine cR (.c (.one (.d (.lit A.isNone)))) ⟨[],[],[]⟩ _ _ ⟨_,fun O=>?_,rfl,rfl⟩ ⟨kN.trans hn,kO.trans H,ρ,F,ak,au.kP (fun e U=>by rw[hn];exact bv e U) rfl⟩;rcases aC2 (List.length xs) with h |h
 .exact aw5 h
 .obtain⟨b,q,dO,_⟩:=aS h;rw[dO] at O
  cases O
def aee {aQ:df} (bl:d6 P aQ) {o:Oper} {T et:aI3} {te:b8} {x y aH:aI2} {u:bz} {xs:List (aa u)} {n:Int} (ai:o.op= .slice T x none (some y) (some aH)) (U:elemOf aQ T=some (et,te)) (aM:te.size=aR u)
  (hx:a1 K x= .c (.one (.d (.b' u xs)))) (aD:a1 K y= .c (.one (.d (.int .i64 n)))) (t7:a1 K aH= .c (.one (.d (.int .i64 n)))) (ar:0<=n) (E:n<=List.length xs) (N:Nat):
  bx P N ids o K B (.c (.one (.d (.b' u (xs.take n.toNat))))) ⟨[],[],[]⟩:=by
 have m1:x∈o.op.operands:=aE4
 have m2:y∈o.op.operands:=aE4
 have m3:aH∈o.op.operands:=aE4
 refine bx.val fun K' B' g1 g2 C ρ F a w ak au=>?_
 obtain⟨A,cap,br,c0,ft,hl⟩:=au.b' ((g1 x m1).trans hx);injection br with br
 have af:=au.int ((g1 y m2).trans aD);have ao:=au.int ((g1 aH m3).trans t7);obtain⟨bR,c9,ds,bu⟩:=oe bl U;have cA:(sizeOf et).run P w= .ok (aR u) w:=by simp[sizeOf,typeInfo,bu.jK,bu.size,aM]
 have q:n<=(cap:Int):=aE5
 have O:(Instr.sliceBounds true (List.length xs) cap none (some (a.eval y)) (some (a.eval aH))).run P w= .ok (0,n.toNat,n.toNat) w:=by
  simp[Instr.sliceBounds,Instr.sliceBound,asIntOf,af,ao,ar,q];intro bv;omega
 have bW:List.length (xs.take n.toNat)=n.toNat:=aF0
 refine⟨.slice (if n.toNat=0 then A else A.map (·.add (0*aR u))) (n.toNat - 0) (n.toNat - 0),?_,?_⟩
 .simp only[execOp,ai,aw3,Instr.sliceAt,Instr.slice,run_underlying bR,au6,br,Option.map_none,az3,O,cA,ax1]
 .refine⟨_,n.toNat,by rw[bW];rfl,by rw[bW];exact at0 _,aD7,fun lh=>?_⟩;rw[bW] at lh;obtain⟨b,cv,rfl,a7,H⟩:=hl aD7;refine⟨b,cv,by rw[mu aD7,Nat.zero_mul];rfl,a7,fun i x pG=>?_⟩
  have FZ:eR (α:=aa u) xs i=some x:=by
   unfold eR at pG⊢;rw[ay5] at pG
   split at pG
   .exact pG
   .cases pG
  exact H i x FZ
def dF.box (s c q:Nat) {x:D} {L:List (Nat×bc)} (aw:dX K s= .c (.one (.ptr c 0))) (J:ae B c=some (.cells [.d x])) (a6:c≠q) (a2:ae B q=some (.az (.bt L))):
  dF ids K B (fun b:Nat=>(s,.c (.one (.d (.aL (some b)))))::K) (fun b=>(q,.az (.bt ((b,ho x)::L)))::gT ((c,.az ((ho x).at b))::(c,.az (ho x))::gT B c) c):=by
 intro N C a w h;have E:=ac.close (ids:=ids) (K:=K) (B:=B) c [(c,.cells [.d x])] (o:=ho x) ⟨J,trivial⟩ (by simp[ck]) aed N C a w h;obtain⟨b,G⟩:=dF.name (ids:=ids) s c (o:=ho x) aw aF9 N C a w E;refine⟨b,?_⟩
 have Lh:ae ((c,a8.az ((ho x).at b))::(c,.az (ho x))::pK (ck [(c,a8.cells [.d x])]) B) q=some (.az (.bt L)):=by
  rw[co,mu a6,co,mu a6];show ae (gT B c) q=_;rw[hD,mu a6];exact a2
 exact ac.put (ids:=ids) q c (o:=ho x) (b:=b) (L:=L) a6 Lh aF9 N C a w G
end
def bG.nB {P:aI0} {N:Nat} {ids:aH4} {K:aW} {B:ay} {c:Code} {Q:CL} (f:Nat) (eM:N<=1000000) (h:bG P N ids c ((1000000+f,.undef)::K) B Q):bG P N ids c K B Q:=by
 intro r aj C iE a2 a w aw;refine h r aj C iE a2 a w ?_;obtain⟨hn,H,ρ,F,ak,au⟩:=aw;refine⟨hn,H,ρ,F,ak,fun s=>?_⟩;rw[kM]
 split
 .rename_i e;subst e;show a.tmps.getD (1000000+f) undef=undef;rw[az9,Array.getElem?_eq_none aD7];rfl
 .exact au s
def aef {P:aI0} {ids:aH4} {K:aW} {B:ay} {o:Oper} {f:aI9} {c:Call} {xs:aJ8} {aK:ay} {res:aN} {aO:ay} (ai:o.op= .call c) (E:c.callee= .value (.func f)) (G:c.args.toList=xs) (hf:Fn P f (xs.map (a1 K)) aK [] res aO) (h7:la B aK) (bu:mV aK [] aO=true) (l8: ∀c,ae aO c=ae aK c) (N:Nat):
  bx P N ids o K B res ⟨ck aK,[],[]⟩:=by
 obtain⟨v,e,⟨rfl,rfl⟩,ax,_⟩:cM P N ids o K B (fun v e=>v=res/\e=⟨ck aK,[],iC aK aO⟩):=Q1 ai E G ⟨aK,[],res,aO,hf,h7,by rw[bu];rfl,by rw[sF];exact⟨rfl,rfl⟩⟩;intro K' B' g1 g2 cL C a w aw bv fN Q cR;refine ax K' B' g1 g2 cL C a w aw bv fN Q fun a' w' ee=>cR a' w' (ee.congr (fun _=>rfl) fun d=>?_)
 show ae B' d=ae (hk (iC aK aO) B') d;rw[F5 aK aK [] aO B' bu,l8]
 cases H:ae aK d with
 |none=>
  simp only;rw[mu fun Z=>by obtain⟨ch,h⟩:=gf.1 Z;rw[H] at h;cases h]
 |some ch=>exact(g2 d (gf.2 ⟨ch,H⟩)).trans (kU h7 H)
def bG.ju {P:aI0} {N:Nat} {ids:aH4} {K:aW} {B:ay} {c:Code} {Q:CL} (d:Nat) (eM:N<=1000000) (h:bG P N ids c ((1000000+(1000000+d),.undef)::K) B Q):bG P N ids c K B Q:=bG.nB (1000000+d) eM h
def aeg {P:aI0} {ids:aH4} {K:aW} {B:ay} {o:Oper} {T e d:Nat} {x:aI2} {s:aH3} {c9:aJ3} (ai:o.op= .buildSlice T 1 #[(0,x)]) (bR:P.underlying T=some (.slice e)) (hi:P.info? e=some c9) (aM:c9.zero=some (.string ⟨#[]⟩)) (aw:c9.size=1)
  (hx:a1 K x= .c (.one (.d (.str s)))) (N:Nat):bx P N ids o K B (.c (.one (.own d))) ⟨[],[d],[(d,some (.row e .str [s]))]⟩:=by
 have m1:x∈o.op.operands:=aE4
 refine bx.make (fun d h=>Aq h) fun K' B' g1 g2 C ρ F a w ak au hn=>?_
 have af:a.eval x= .string ⟨List.toArray s⟩:=au.ev ((g1 x m1).trans hx);refine⟨.slice (some ⟨w.heap.size,0,none⟩) 1 1,w.alloc (.cells (List.toArray [.string ⟨List.toArray s⟩]) e),⟨w.heap.size,some ⟨w.heap.size,0,none⟩,1,1⟩,fun b=>b=w.heap.size,?_,wD w _,fun b O=>(by subst O;exact⟨at0 _,aD9⟩),fun I U O=>⟨⟨?_,?_,[.string ⟨List.toArray s⟩],?_,fun i y aD=>?_⟩,?_⟩⟩
 .have dK:=run_buildSlice (P:=P) w T e 1 (#[(0,x)].map fun p=>(p.1,a.eval p.2)) (List.toArray [.string ⟨List.toArray s⟩]) c9 (.string ⟨#[]⟩) bR hi aM (by rw[aw];decide)
   (by rw[aw];decide) (by
    rw[aw];have ev:(Value.string ⟨List.toArray s⟩).cells= #[.string ⟨List.toArray s⟩]:=rfl;simp[af,Instr.fill,ev];rw[show Array.range 1= #[0] from rfl];simp)
  unfold execOp;simp only[ai,aw3,dK,au6];rfl
 .intro b;show b=w.heap.size↔some w.heap.size=some b;rw[at5];exact eq_comm
 .intro b O;have O:some w.heap.size=some b:=O;injection O with O
  exact O.symm
 .exact FX w e 1 1 [.string ⟨List.toArray s⟩] rfl aD8
 .match i with
  |0=>
   have aD:some s=some y:=aD;injection aD with aD
   subst aD;rfl
  |i+1=>
   have aD:(none:Option aH3)=some y:=aD
   cases aD
 .simp only[cx,gC,dW,dB];rfl
end
section
abbrev c5 (n:Int):Prop:= -9223372036854775808<=n/\n<=9223372036854775807
def aA {P:Prop} (h:P:=by repeat' (first |exact trivial |exact rfl |refine⟨?_,?_⟩)):P:=h
def av {p:ay->aH4->aN->ay->Prop} {q:ay->Prop} {r:ay->aH4->ay->Prop} {k:ay->aH4->aN->ay->Prop} {a:ay} {b:aH4} {c:aN} {d:ay} (s:p a b c d) (ah:k a b c d) (E:q a:=by repeat' (first |exact trivial |exact rfl |refine⟨?_,?_⟩)) (G:r a b d:=by rfl): ∃a b c d,p a b c d/\q a/\r a b d/\k a b c d:=⟨_,_,_,_,s,E,G,ah⟩
def ov {p: ∀(X:Type),ay->aH4->(X->aN)->(X->ay)->Prop} {q:ay->Prop} {r:aH4->Prop} {s: ∀(X:Type),ay->aH4->(X->ay)->X->Prop} {k: ∀(X:Type),ay->aH4->(X->aN)->(X->ay)->X->Prop} {X:Type} {a:ay} {b:aH4} {c:X->aN} {d:X->ay} (h:p X a b c d) (aS: ∀g,k X a b c d g)
 (E:q a:=by repeat' (first |exact trivial |exact rfl |refine⟨?_,?_⟩)) (G:r b:=by rfl) (ah: ∀g,s X a b d g:=by exact fun _=>rfl): ∃(X:Type) (a:ay) (b:aH4) (c:X->aN) (d:X->ay),p X a b c d/\q a/\r b/\(∀g,s X a b d g)/\ ∀g,k X a b c d g:=⟨_,_,_,_,_,h,E,G,ah,aS⟩
def w2 {P:aI0} {ids:aH4} {K:aW} {B:ay} {o:Oper} {f:aI9} {c:Call} {xs:aJ8} {aK:ay} {res:aN} {aO:ay} {q:fk->Prop} {k:aN->fk->Prop} (ai:o.op= .call c) (E:c.callee= .value (.func f)) (G:c.args.toList=xs) (hf:Fn P f (xs.map (a1 K)) aK [] res aO) (Z:k res ⟨ck aK,[],[]⟩)
 (h7:la B aK:=by repeat' (first |exact trivial |exact rfl |refine⟨?_,?_⟩)) (bu:mV aK [] aO=true:=by rfl) (l8: ∀c,ae aO c=ae aK c:=by exact fun _=>rfl) (a2:q ⟨ck aK,[],[]⟩:=by rfl): ∃v e,(∀N,bx P N ids o K B v e)/\q e/\k v e:=⟨_,_,fun N=>aef ai E G hf h7 bu l8 N,a2,Z⟩
def bm {p:aN->fk->Prop} {q:fk->Prop} {k:aN->fk->Prop} {v:aN} {e:fk} (h:p v e) (G:k v e) (E:q e:=by rfl): ∃v e,p v e/\q e/\k v e:=⟨v,e,h,E,G⟩
def aP (stops:aH4) {N:Nat} {f:aI9} {fn:Func} {c:Code} {args:List aN} {aK:ay} {ba:aH4} {res:aN} {aO:ay} {js:List ResultVar} (hf:prog.funcs[f]? =some fn) (h:i9 prog wV.types N (ck aK) stops c (nx 0 args) aK (Ga wV.types (ck aK) ba js res aO))
 (O:fn.body=some c:=by exact rfl) (hn:fn.ntmps=N:=by exact rfl) (e6:Nat.ble args.length N=true:=by exact rfl) (yz:fn.results.toList=js:=by exact rfl) (fP:jp prog f=true:=by kernel_rfl) (J:ja prog N c=true:=by kernel_rfl):Fn prog f args aK ba res aO:=Fn.of eY stops args aK ba res aO hf O hn fP J e6 (AI eY) yz h
def ia (stops:aH4) {N:Nat} {f:aI9} {fn:Func} {c:Code} {args:List aN} {aK:ay} {ba:aH4} {X:Type} {res:X->aN} {aO:X->ay} {js:List ResultVar} (hf:prog.funcs[f]? =some fn) (h:i9 prog wV.types N (ck aK) stops c (nx 0 args) aK (fun e K B=> ∃g,Ga wV.types (ck aK) ba js (res g) (aO g) e K B))
 (O:fn.body=some c:=by exact rfl) (hn:fn.ntmps=N:=by exact rfl) (e6:Nat.ble args.length N=true:=by exact rfl) (yz:fn.results.toList=js:=by exact rfl) (fP:jp prog f=true:=by kernel_rfl) (J:ja prog N c=true:=by kernel_rfl):cD prog f args aK ba res aO:=cD.of eY stops args aK ba res aO hf O hn fP J e6 (AI eY) yz h
def bw (stops:aH4) {N:Nat} {ids:aH4} {K K':aW} {B B':ay} {Q:oa->aW->ay->Prop} {c:Code} (h:ac ids K B K' B') (cq:i9 prog wV.types N ids stops c K' B' Q) (J:ja prog N c=true:=by kernel_rfl):bG prog N ids c K B Q:=bG.go eY (AI eY) stops J h cq
def dZ (stops:aH4) {N:Nat} {ids:aH4} {b:Code} {X:Type} (jb:X->aW) (e4:X->ay) (inv:X->Prop) (vl:X->Nat) (gP:X) {K:aW} {B:ay} {Q:oa->aW->ay->Prop} (ar:inv gP) (gD:ac ids K B (jb gP) (e4 gP))
 (h: ∀x,inv x->i9 prog wV.types N ids stops b (jb x) (e4 x) (fun e K B=>match e with
  | .gF=> ∃y,inv y/\vl y < vl x/\ac ids K B (jb y) (e4 y)
  | .ex i=>Q (.ex i) K B
  | .ret=>Q .ret K B)) (J:ja prog N b=true:=by kernel_rfl):bG prog N ids (.loop b) K B Q:=bG.loop eY (AI eY) stops J jb e4 inv vl gP ar gD h
def cz {ids:aH4} {K:aW} {B:ay} (K':aW) (B':ay) (E:yA K K':=by repeat' (first |exact trivial |exact rfl |refine⟨?_,?_⟩)) (G:la B B':=by repeat' (first |exact trivial |exact rfl |refine⟨?_,?_⟩)):ac ids K B K' B':=ac.sub E G
def bn {ids:aH4} {K:aW} {B:ay}:ac ids K B K B:=ac.refl _ _
def s4 {p:aW->ay->Prop} {bo:Type} {q:aW->ay->bo->Prop} {s:bo->Prop} {t:ay->Prop} {u:Prop} {K:aW} {B:ay} {r:bo} (E:p K B) (G:q K B r) (ah:s r) (aS:t B) (bB:u): ∃K B r,p K B/\q K B r/\s r/\t B/\u:=⟨K,B,r,E,G,ah,aS,bB⟩
def ea {p:aW->ay->Prop} {bo:Type} {q:aW->ay->bo->Prop} {s:bo->Prop} {t:ay->Prop} {u:Prop} {K:aW} {B:ay} {r:bo} (E:p K B) (G:q K B r) (ah:s r) (aS:t B:=by repeat' (first |exact trivial |exact rfl |refine⟨?_,?_⟩)) (bB:u:=by exact rfl): ∃K B r,p K B/\q K B r/\s r/\t B/\u:=⟨K,B,r,E,G,ah,aS,bB⟩
def bb {p:aW->ay->Prop} {bo:Type} {q:aW->ay->bo->Prop} {s:bo->Prop} {t:ay->Prop} {u:Prop} {K:aW} {B:ay} {r:bo} (E:p K B:=by exact ac.refl _ _) (G:q K B r:=by exact rfl) (ah:s r:=by repeat' (first |exact trivial |exact rfl |refine⟨?_,?_⟩)) (aS:t B:=by repeat' (first |exact trivial |exact rfl |refine⟨?_,?_⟩)) (bB:u:=by exact rfl): ∃K B r,p K B/\q K B r/\s r/\t B/\u:=⟨K,B,r,E,G,ah,aS,bB⟩
def dh {p q A B:Prop} (k:B) (h: ¬p:=by decide):(p->A)/\(q->B):=⟨fun x=>at1 x h,fun _=>k⟩
def fR {p q A B:Prop} (k:A) (h: ¬q:=by decide):(p->A)/\(q->B):=⟨fun _=>k,fun x=>at1 x h⟩
end
section
def ff {aF aJ:bz} (es:List (aa aF×aa aJ)):Prop:=es.Pairwise fun p q=>fT aF p.1 q.1=false
def aeh (a b:Int):z2 a b=true↔a=b:=decide_eq_true_iff
def aei (a b:aH3):z6 a b=true↔a=b:=decide_eq_true_iff
def rL {k:IntKind} (a b:aa (.int k)):fT (.int k) a b=true↔a=b:=aeh a b
def qD (a b:aa .str):fT .str a b=true↔a=b:=aei a b
section
variable {aF aJ:bz} (cG: ∀a b:aa aF,fT aF a b=true↔a=b)
include cG
def rM {a b:aa aF} (h:a≠b):fT aF a b=false:=by
 cases e:fT aF a b with
 |false=>rfl
 |true=>exact at1 ((cG a b).1 e) h
def DA (a:aa aF):fT aF a a=true:=(cG a a).2 rfl
def yR (k:aa aF) (x:aa aJ): ∀(es:List (aa aF×aa aJ)),bX (dp es k x) k=some x/\ ∀j,j≠k->bX (dp es k x) j=bX es j
 | []=>by
  refine⟨?_,fun j V=>?_⟩
  .simp only[dp,bX,DA cG]
  .simp only[dp,bX,rM cG V]
 |p::es=>by
  obtain⟨E,G⟩:=yR k x es;unfold dp
  cases e:fT aF k p.1 with
  |true=>
   have af:=(cG _ _).1 e;simp only;refine⟨by simp only[bX,DA cG],fun j V=>?_⟩;simp only[bX,rM cG V,rM cG (fun h=>V (h.trans af.symm))]
  |false=>
   simp only;refine⟨by simp only[bX,e,E],fun j V=>?_⟩;simp only[bX,G j V]
def Sc {k:aa aF}: ∀{es:List (aa aF×aa aJ)},(∀p,p∈es->fT aF p.1 k=false)->bX es k=none
 | [],_=>rfl
 |p::es,h=>by
  have E:=h p (au7 ..);have:fT aF k p.1=false:=rM cG fun e=>by rw[e,DA cG] at E;cases E
  simp only[bX,this];exact Sc fun q a2=>h q (at4 _ a2)
def DB (k:aa aF): ∀(es:List (aa aF×aa aJ)),ff es->bX (gN es k) k=none/\ ∀j,j≠k->bX (gN es k) j=bX es j
 | [],_=>⟨rfl,fun _ _=>rfl⟩
 |p::es,hn=>by
  obtain⟨cC,dg⟩:=List.pairwise_cons.1 hn;obtain⟨E,G⟩:=DB k es dg;unfold gN
  cases e:fT aF k p.1 with
  |true=>
   have af:=(cG _ _).1 e;subst af;simp only;refine⟨Sc cG fun q a2=>?_,fun j V=>?_⟩
   .have:=cC q a2;exact rM cG fun e=>by rw[<-e,DA cG] at this;cases this
   .simp only[bX,rM cG V]
  |false=>
   simp only;refine⟨by simp only[bX,e,E],fun j V=>?_⟩;simp only[bX,G j V]
omit cG in
def GE {k:aa aF} {x:aa aJ}: ∀{es:List (aa aF×aa aJ)} {q:aa aF×aa aJ},q∈dp es k x->q=(k,x)\/q∈es
 | [],q,h=>by
  unfold dp at h;exact .inl (au5.1 h)
 |p::es,q,h=>by
  unfold dp at h
  split at h
  .rcases at7.1 h with h |h
   .exact .inl h
   .exact .inr (at4 _ h)
  .rcases at7.1 h with h |h
   .exact .inr (by rw[h];exact au7 ..)
   .exact(GE h).imp id (at4 _)
omit cG in
def yS {k:aa aF}: ∀{es:List (aa aF×aa aJ)} {q:aa aF×aa aJ},q∈gN es k->q∈es
 | [],q,h=>by cases h
 |p::es,q,h=>by
  unfold gN at h
  split at h
  .exact at4 _ h
  .rcases at7.1 h with h |h
   .rw[h];exact au7 ..
   .exact at4 _ (yS h)
def ff.put {k:aa aF} {x:aa aJ}: ∀{es:List (aa aF×aa aJ)},ff es->ff (dp es k x)
 | [],_=>List.pairwise_singleton _ _
 |p::es,hn=>by
  obtain⟨cC,dg⟩:=List.pairwise_cons.1 hn;unfold dp
  split
  .rename_i e;have af:=(cG _ _).1 e;refine List.pairwise_cons.2 ⟨fun q a2=>?_,dg⟩;have:=cC q a2;simp only;rw[af];exact this
  .rename_i e;refine List.pairwise_cons.2 ⟨fun q a2=>?_,ff.put dg⟩;rcases GE a2 with rfl |a2
   .simp only;exact rM cG fun h=>by rw[h,DA cG] at e;cases e
   .exact cC q a2
omit cG in
def ff.nC {k:aa aF}: ∀{es:List (aa aF×aa aJ)},ff es->ff (gN es k)
 | [],h=>h
 |p::es,hn=>by
  obtain⟨cC,dg⟩:=List.pairwise_cons.1 hn;unfold gN
  split
  .exact dg
  .exact List.pairwise_cons.2 ⟨fun q a2=>cC q (yS a2),ff.nC dg⟩
def Sd {k:aa aF} {x:aa aJ}: ∀{es:List (aa aF×aa aJ)},bX es k=some x->(k,x)∈es
 | [],h=>by cases h
 |p::es,h=>by
  unfold bX at h
  split at h
  .rename_i e;injection h with h
   have af:=(cG _ _).1 e;subst h af;exact au7 ..
  .exact at4 _ (Sd h)
end
end
section
section
variable {P:aI0} {aQ:df} {N:Nat} {ids:aH4} {o:Oper} {K:aW} {B:ay} {C:fc} {ρ:Nat->bp} {F:Nat->Nat->Prop} {w w':aH9}
def Mem.split (h:Mem ids C B ρ F w) {c d:Nat} {cB i' o0:a8} (J:ae B c=some cB) (hf:g7 ids K B d=true) (pl:bp) (cI cS:Nat->Prop) (E: ∀b,cI b->F c b) (G: ∀b,cS b->F c b) (eE: ∀b,cI b-> ¬cS b)
  (aej: ∀I,cm (bZ C B F w) w I w->Holds (dv ρ d pl) I cI w (ρ c) i') (aek: ∀I,cm (bZ C B F w) w I w->Holds (dv ρ d pl) I cS w pl o0):
  Mem ids C ((d,o0)::(c,i')::B) (dv ρ d pl) (dv (dv F c cI) d cS) w/\cm (bZ C B F w) w (bZ C ((d,o0)::(c,i')::B) (dv (dv F c cI) d cS) w) w:=by
 obtain⟨fU,gV,f3,f4⟩:=ld hf;have s5:c≠d:=fun e=>by rw[<-e,J] at gV;cases gV
 have s6: ∀j ch,ae ((d,o0)::(c,i')::B) j=some ch->(j=c\/j=d)->(j=c/\ch=i')\/(j=d/\ch=o0):=fun j ch V aC=>by
  rw[co] at V
  split at V
  .rename_i e;injection V with V;exact .inr ⟨e.symm,V.symm⟩
  .rename_i e;rw[co] at V
   split at V
   .rename_i e;injection V with V;exact .inl ⟨e.symm,V.symm⟩
   .rename_i ao;rcases aC with aC |aC
    .exact at1 aC.symm ao
    .exact at1 aC.symm e
 have GF:dv (dv F c cI) d cS c=cI:=by rw[dD _ _ s5,dB]
 have GG:dv (dv F c cI) d cS d=cS:=by rw[dB]
 refine h.step (fun j=>j=c\/j=d) (fun j=>j=d) (cU.refl _ _) (fun j ch V aC=>?_) (fun j V=>dD _ _ V) (fun j V=>?_) (fun j V e=>f4 (e▸V)) (fun j V=>.inr V) (fun j ch V _ k Z e=>?_) (fun j ch V aC aY=>?_) (fun j ch V aC b O=>?_) (fun j rI ch ch' b V kR aC fV a6 O c8=>?_)
 .rw[co,mu (fun e=>aC (.inr e.symm)),co,mu (fun e=>aC (.inl e.symm))] at V;exact V
 .rw[dD _ _ (fun e=>V (.inr e)),dD _ _ (fun e=>V (.inl e))]
 .subst e;rw[f3 j ch V] at Z
  cases Z
 .rcases s6 j ch V aC with⟨rfl,rfl⟩ |⟨rfl,rfl⟩
  .rw[GF,dD _ _ s5];exact aej _ aY
  .rw[GG,dB];exact aek _ aY
 .have:F c b:=by
   rcases s6 j ch V aC with⟨rfl,rfl⟩ |⟨rfl,rfl⟩
   .rw[GF] at O;exact E b O
   .rw[GG] at O;exact G b O
  exact⟨(h.own c _ J b this).1,.inl ⟨c,_,J,.inl rfl,this⟩⟩
 .rcases s6 j ch V aC with⟨rfl,rfl⟩ |⟨rfl,rfl⟩ <;>rcases s6 rI ch' kR fV with⟨rfl,rfl⟩ |⟨rfl,rfl⟩
  .exact a6 rfl
  .rw[GF] at O;rw[GG] at c8;exact eE b O c8
  .rw[GG] at O;rw[GF] at c8;exact eE b c8 O
  .exact a6 rfl
def Mem.GH (h:Mem ids C B ρ F w) {c d:Nat} {cB i' ch:a8} (J:ae B c=some cB) (H:ae B d=some i') (a6:c≠d) (cg:Nat->Prop) (l1: ∀b,cg b->F c b\/F d b) (cF:cU (fun b=>F c b\/F d b) w w')
  (c': ∀I,cm (bZ C B F w) w I w'->Holds ρ I cg w' (ρ c) ch):
  Mem ids C ((c,ch)::gT B d) ρ (dv F c cg) w'/\cm (bZ C B F w) w (bZ C ((c,ch)::gT B d) (dv F c cg) w') w':=by
 have s6: ∀j ch',ae ((c,ch)::gT B d) j=some ch'->(j=c\/j=d)->j=c/\ch'=ch:=fun j ch' V aC=>by
  rw[co] at V
  split at V
  .rename_i e;injection V with V;exact⟨e.symm,V.symm⟩
  .rename_i e;rcases aC with aC |aC
   .exact at1 aC.symm e
   .rw[aC,hD,vj rfl] at V;cases V
 refine h.step (fun j=>j=c\/j=d) (fun _=>False) (cF.mono fun b _ O=>?_) (fun j ch' V aC=>?_) (fun _ _=>rfl) (fun j aC=>dD _ _ (fun e=>aC (.inl e))) (fun _ _ h=>h) (fun _ h=>h.elim) (fun _ _ _ _ _ _ h=>h) (fun j ch' V aC aY=>?_) (fun j ch' V aC b O=>?_) (fun j rI cu cp b V kR aC fV hn=>?_)
 .rcases O with O |O
  .exact⟨c,_,J,.inl rfl,O⟩
  .exact⟨d,_,H,.inr rfl,O⟩
 .rw[co,mu (fun e=>aC (.inl e.symm)),hD,mu (fun e=>aC (.inr e.symm))] at V;exact V
 .obtain⟨rfl,rfl⟩:=s6 j ch' V aC;rw[dB];exact c' _ aY
 .obtain⟨rfl,rfl⟩:=s6 j ch' V aC;rw[dB] at O;rcases l1 b O with O |O
  .exact⟨au8 (h.own j _ J b O).1 cF.size,.inl ⟨j,_,J,.inl rfl,O⟩⟩
  .exact⟨au8 (h.own d _ H b O).1 cF.size,.inl ⟨d,_,H,.inr rfl,O⟩⟩
 .exact at1 ((s6 j cu V aC).1.trans (s6 rI cp kR fV).1.symm) hn
def Mem.GI (h:Mem ids C B ρ F w) {c:Nat} {cB ch:a8} (J:ae B c=some cB) (cg:Nat->Prop) (l1: ∀b,cg b->F c b) (cF:cU (F c) w w') (c': ∀I,cm (bZ C B F w) w I w'->Holds ρ I cg w' (ρ c) ch):
  Mem ids C ((c,ch)::B) ρ (dv F c cg) w'/\cm (bZ C B F w) w (bZ C ((c,ch)::B) (dv F c cg) w') w':=by
 have s6: ∀j ch',ae ((c,ch)::B) j=some ch'->j=c->ch'=ch:=fun j ch' V aC=>by
  rw[co,vj aC.symm] at V;injection V with V;exact V.symm
 refine h.step (fun j=>j=c) (fun _=>False) (cF.mono fun b _ O=>⟨c,_,J,rfl,O⟩) (fun j ch' V aC=>?_) (fun _ _=>rfl) (fun j aC=>dD _ _ aC) (fun _ _ h=>h) (fun _ h=>h.elim) (fun _ _ _ _ _ _ h=>h) (fun j ch' V aC aY=>?_) (fun j ch' V aC b O=>?_) (fun j rI cu cp b V kR aC fV hn=>at1 (aC.trans fV.symm) hn)
 .rw[co,mu (fun e=>aC e.symm)] at V;exact V
 .have e:=s6 j ch' V aC;subst aC e;rw[dB];exact c' _ aY
 .subst aC;rw[dB] at O;exact⟨au8 (h.own _ _ J b (l1 b O)).1 cF.size,.inl ⟨_,_,J,rfl,l1 b O⟩⟩
end
abbrev lF:=Int->Option aH3
def jv (f:lF) (k:Int) (xs:aH3):lF:=fun j=>if j=k then some xs else f j
def DC (f:lF) (k:Int):lF:=fun j=>if j=k then none else f j
def Li:lF:=fun _=>none
def ui (I F:Nat->Prop) (w:aH9) (p:bp) (xs:aH3):Prop:=Holds (fun _=>p) I F w p (.row 5 .u8 xs)
def ui.congr {I F F':Nat->Prop} {w:aH9} {p:bp} {xs:aH3} (h:ui I F w p xs) (e: ∀b,F' b↔F b):ui I F' w p xs:=
 ⟨fun b=>(e b).trans (h.1 b),h.2⟩
def ael {I F:Nat->Prop} {w:aH9} {p:bp} {xs:aH3} (h:ui I F w p xs): ∃x:aa .da,p.eS=rp x:=by
 obtain⟨_,_,cs,⟨_,h⟩,_⟩:=h;rcases h with⟨h,_⟩ |⟨g,cap,di,h,_⟩
 .exact⟨none,h⟩
 .exact⟨some (g,_,cap),h⟩
structure GJ (aw:Int->Option bp) (f:lF) (es:List (aa aq×aa .da)) (cg:Int->Nat->Prop) (I:Nat->Prop) (w:aH9):Prop where
 hY:ff es
 w3: ∀k:Int,bX (aF:=aq) (aJ:=.da) es k=none->f k=none/\aw k=none/\ ∀b,¬cg k b
 yT: ∀(k:Int) h,bX (aF:=aq) (aJ:=.da) es k=some h->aw k=none-> ∃xs p,f k=some xs/\p.eS=rp h/\ui I (cg k) w p xs
 Se: ∀(k:Int) h q,bX (aF:=aq) (aJ:=.da) es k=some h->aw k=some q->q.eS=rp h/\ ∀b,¬cg k b
 fd: ∀(j k:Int) b,j≠k->cg j b-> ¬cg k b
def GJ.cj {aw:Int->Option bp} {f:lF} {es:List (aa aq×aa .da)} {cg:Int->Nat->Prop} {I I':Nat->Prop} {w w':aH9} (h:GJ aw f es cg I w) (U:cm I w I' w') (bg: ∀k b,cg k b->w'.heap[b]? =w.heap[b]?) (aM:w.heap.size<=w'.heap.size):GJ aw f es cg I' w':=
 ⟨h.hY,h.w3,fun k x E G=>let⟨xs,p,bM,bU,a3⟩:=h.yT k x E G;⟨xs,p,bM,bU,Holds.cj U (fun b O=>bg k b O) aM _ (fun _ _=>rfl) a3⟩,h.Se,h.fd⟩
def w4 (aw:Int->Option bp) (f:lF) (I F:Nat->Prop) (w:aH9) (p:bp):Prop:=
 ∃es cg,GJ aw f es cg I w/\(∀b,F b↔b=p.bf\/ ∃k,cg k b)/\(∀k,¬cg k p.bf)/\ ∃bT bY,w.heap[p.bf]? =some (.map (List.toArray bT) bY)/\io I w aq .da es bT/\mm bT bY
def Sf (aw:Int->Option bp) (f:lF):bc where
 bo:=w4 aw f
 cj:=fun I F w I' w' p ⟨es,cg,E,G,ah,bT,bY,aS,bB,ej⟩ U bg aM=>
  ⟨es,cg,E.cj U (fun k b O=>bg b ((G b).2 (.inr ⟨k,O⟩))) aM,G,ah,bT,bY,(bg _ ((G _).2 (.inl rfl))).trans aS,bB.mono U,ej⟩
def na (f:lF):bc:=Sf (fun _=>none) f
def GK (k:Int) (q:bp):Int->Option bp:=fun j=>if j=k then some q else none
def w5 (f:lF) (k:Int):bp->bc:=fun q=>Sf (GK k q) f
def w4.out {f:lF} {k:Int} {xs:aH3} {I F:Nat->Prop} {w:aH9} {p:bp} (hf:f k=some xs) (h:(na f).bo I F w p):
  ∃(cI cS:Nat->Prop) (q:bp) (es:List (aa aq×aa .da)) (x:aa .da),(∀b,cI b->F b)/\(∀b,cS b->F b)/\(∀b,cI b-> ¬cS b)/\q.eS=rp x/\bX (aF:=aq) (aJ:=.da) es k=some x/\(∃bT bY,w.heap[p.bf]? =some (.map (List.toArray bT) bY)/\io I w aq .da es bT)/\ui I cS w q xs/\(w5 f k q).bo I cI w p:=by
 obtain⟨es,cg,E,G,ah,bT,bY,aS,bB,ej⟩:=h
 cases e:bX (aF:=aq) (aJ:=.da) es k with
 |none=>rw[(E.w3 k e).1] at hf;cases hf
 |some x=>
  obtain⟨ys,q,bM,bU,a3⟩:=E.yT k x e rfl;rw[hf] at bM;injection bM with bM
  subst bM;refine⟨fun b=>b=p.bf\/ ∃j,j≠k/\cg j b,cg k,q,es,x,fun b O=>(G b).2 (O.imp id fun⟨j,_,V⟩=>⟨j,V⟩),fun b O=>(G b).2 (.inr ⟨k,O⟩),fun b O Z=>?_,bU,e,⟨bT,bY,aS,bB⟩,a3,?_⟩
  .rcases O with rfl |⟨j,V,O⟩
   .exact ah k Z
   .exact E.fd j k b V O Z
  .refine⟨es,fun j b=>j≠k/\cg j b,⟨E.hY,fun j V=>?_,fun j y V bd=>?_,fun j y asx V bd=>?_,fun i j b gO a b=>E.fd i j _ gO a.2 b.2⟩,fun b=>Iff.rfl,fun j V=>ah j V.2,bT,bY,aS,bB,ej⟩
   .obtain⟨b1,_,b3⟩:=E.w3 j V;have:j≠k:=fun cc=>by rw[cc,e] at V;cases V
    exact⟨b1,mu this,fun b O=>b3 b O.2⟩
   .have a6:j≠k:=fun cc=>by rw[show GK k q j=some q from vj cc] at bd;cases bd
    obtain⟨ys,r,b1,b2,b3⟩:=E.yT j y V rfl;exact⟨ys,r,b1,b2,b3.congr fun b=>⟨fun h=>h.2,fun h=>⟨a6,h⟩⟩⟩
   .simp only[GK] at bd
    split at bd
    .rename_i cc;injection bd with bd
     subst cc bd;rw[e] at V;injection V with V
     subst V;exact⟨bU,fun b O=>O.1 rfl⟩
    .cases bd
def w4.aem {f:lF} {k:Int} {xs:aH3} {I cI cS:Nat->Prop} {w:aH9} {p q:bp} (h:(w5 f k q).bo I cI w p) (aj:ui I cS w q xs) (H: ∀b,cI b-> ¬cS b) (Z: ∃ys,f k=some ys):(na (jv f k xs)).bo I (fun b=>cI b\/cS b) w p:=by
 obtain⟨es,cg,E,G,ah,bT,bY,aS,bB,ej⟩:=h;obtain⟨ys,Z⟩:=Z;have hp:GK k q k=some q:=vj rfl
 cases e:bX (aF:=aq) (aJ:=.da) es k with
 |none=>rw[(E.w3 k e).1] at Z;cases Z
 |some x=>
  obtain⟨bM,bU⟩:=E.Se k x q e hp;refine⟨es,fun j b=>if j=k then cS b else cg j b,⟨E.hY,fun j V=>?_,fun j y V _=>?_,fun _ _ _ _ bd=>(by cases bd),fun i j b gO ha O=>?_⟩,fun b=>?_,fun j V=>?_,bT,bY,aS,bB,ej⟩
  .have a6:j≠k:=fun cc=>by rw[cc,e] at V;cases V
   obtain⟨b1,_,b3⟩:=E.w3 j V;exact⟨by unfold jv;rw[mu a6];exact b1,rfl,fun b O=>by rw[mu a6] at O;exact b3 b O⟩
  .by_cases a6:j=k
   .subst a6;rw[e] at V;injection V with V
    subst V;exact⟨xs,q,vj rfl,bM,aj.congr fun b=>by rw[vj rfl]⟩
   .obtain⟨DD,r,b1,b2,b3⟩:=E.yT j y V (mu a6);exact⟨DD,r,(mu a6).trans b1,b2,b3.congr fun b=>by rw[mu a6]⟩
  .by_cases hi:i=k
   .rw[vj hi] at ha;have V:j≠k:=fun cc=>gO (hi.trans cc.symm)
    rw[mu V] at O;exact H b ((G b).2 (.inr ⟨j,O⟩)) ha
   .rw[mu hi] at ha
    by_cases V:j=k
    .rw[vj V] at O;exact H b ((G b).2 (.inr ⟨i,ha⟩)) O
    .rw[mu V] at O;exact E.fd i j b gO ha O
  .show(cI b\/cS b)↔(b=p.bf\/ ∃j,(if j=k then cS b else cg j b));rw[G];constructor
   .rintro((h |⟨j,h⟩) |h)
    .exact .inl h
    .refine .inr ⟨j,?_⟩
     by_cases V:j=k
     .subst V;exact at1 h (bU b)
     .rw[mu V];exact h
    .exact .inr ⟨k,by rw[vj rfl];exact h⟩
   .rintro(h |⟨j,h⟩)
    .exact .inl (.inl h)
    .by_cases V:j=k
     .rw[vj V] at h;exact .inr h
     .rw[mu V] at h;exact .inl (.inr ⟨j,h⟩)
  .replace V:(if j=k then cS p.bf else cg j p.bf):=V
   by_cases kR:j=k
   .rw[vj kR] at V;exact H _ ((G _).2 (.inl rfl)) V
   .rw[mu kR] at V;exact ah j V
section
variable {P:aI0} {aQ:df} {ids:aH4} {K:aW} {B:ay}
def GL {o:Oper} {T kt et:aI3} {x i:aI2} {c d:Nat} {f:lF} {k:Int} {xs:aH3} (ai:o.op= .lookup T x i false) (bR:P.underlying T=some (.map kt et)) {dk:aJ4} (jQ:P.underlying kt=some dk) (jw:nv aq dk=true) {c9:aJ3} (hi:P.info? et=some c9) (aM:c9.zero=some (.slice none 0 0))
  (hx:a1 K x= .c (.one (.mp c))) (Z:a1 K i= .c (.one (.d (.int .i64 k)))) (J:ae B c=some (.az (na f))) (hf:f k=some xs) (N:Nat):bx P N ids o K B (.c (.one (.own d))) ⟨[c],[d],[(c,some (.b5 d (w5 f k))),(d,some (.row 5 .u8 xs))]⟩:=by
 have m1:x∈o.op.operands:=aE4
 have m2:i∈o.op.operands:=aE4
 rintro K' B' g1 g2 cL C a w ⟨hn,mx,ρ,F,ak,au⟩ bv fN Q cR;have c3:=(g2 c aD9).trans J;have cF:=cL d aD9;obtain⟨fU,gV,f3,f4⟩:=ld cF;have s5:c≠d:=fun e=>by rw[<-e,c3] at gV;cases gV
 obtain⟨cI,cS,q,es,y,E,G,ah,aS,bB,⟨bT,bY,ej,hE⟩,h6,wK⟩:=w4.out hf (ak.holds c _ c3);have af:=au.mp ((g1 x m1).trans hx);have ao:a.eval i=gM aq k:=au.int ((g1 i m2).trans Z);have Lj:(zeroValue et).run P w= .ok (.slice none 0 0) w:=by simp[zeroValue,typeInfo,hi,aM]
 obtain⟨v,aj,aB⟩:=P3 (P:=P) (aJ:=.da) bR jQ jw ej hE Lj ⟨rfl,⟨fun _=>rfl,fun h=>by cases h⟩,rfl⟩ k false
 have vm:v=rp y:=by
  have h:=QL (ρ:=ρ) rfl aB;rw[bB] at h;exact h
 have hx:(execOp a.eval o).run P w= .ok (.value v) w:=by simp only[execOp,ai,aw3,af,ao,aj,au6,ax1];rfl
 unfold Oper.wp;rw[hx,Oper.upon_value]
 obtain⟨bH,aY⟩:=ak.split (K:=K') (i':=.b5 d (w5 f k)) (o0:=.row 5 .u8 xs) c3 cF q cI cS E G ah
  (fun I a7=>by
   show(w5 f k (dv ρ d q d)).bo I cI w (ρ c);rw[dB];exact(w5 f k q).cj _ _ _ _ _ _ wK a7 (fun _ _=>rfl) (at0 _))
  (fun I a7=>Holds.cj a7 (fun _ _=>rfl) (at0 _) _ (fun _ h=>by cases h) h6)
 refine cR _ _ ⟨kN.trans hn,kO.trans mx,_,_,bH,(au.mono aY fun s e U=>dD _ _ (fun cc=>by subst cc;rw[fU s] at U;cases U)).kP (fun e U=>by rw[hn];exact bv e U) ?_⟩;show v=(dv ρ d q d).eS;rw[dB,vm,aS]
def ac.GM (c d:Nat) {f qA:lF} {k:Int} {xs:aH3} (aen:jv f k xs=qA) (J:ae B c=some (.b5 d (w5 f k))) (H:ae B d=some (.row 5 .u8 xs)) (a6:c≠d) (Z:(f k).isSome=true):ac ids K B K ((c,.az (na qA))::gT B d):=by
 subst aen;rintro N C a w ⟨hn,mx,ρ,F,ak,au⟩;have E:(w5 f k (ρ d)).bo (bZ C B F w) (F c) w (ρ c):=ak.holds c _ J;have G:ui (bZ C B F w) (F d) w (ρ d) xs:=ak.holds d _ H
 have Z: ∃ys,f k=some ys:=by
  cases e:f k with
  |none=>rw[e] at Z;cases Z
  |some ys=>exact⟨ys,rfl⟩
 obtain⟨bH,aY⟩:=ak.GH (w':=w) (ch:=.az (na (jv f k xs))) J H a6 (fun b=>F c b\/F d b) (fun _ h=>h) (cU.refl _ _) fun I a7=>
  (na (jv f k xs)).cj _ _ _ _ _ _ (w4.aem E G (fun b O c8=>ak.fd c d _ _ b J H a6 O c8) Z) a7 (fun _ _=>rfl) (at0 _)
 exact⟨hn,mx,ρ,_,bH,au.mono aY fun _ _ _=>rfl⟩
def aeo {o:Oper} {T kt et:aI3} {x i v:aI2} {c d:Nat} {f:lF} {k:Int} {xs:aH3} (ai:o.op= .mapUpdate T x i v) (bR:P.underlying T=some (.map kt et)) {dk:aJ4} (jQ:P.underlying kt=some dk) (jw:nv aq dk=true)
  (hx:a1 K x= .c (.one (.mp c))) (Z:a1 K i= .c (.one (.d (.int .i64 k)))) (aB:a1 K v= .c (.one (.own d))) (J:ae B c=some (.az (na f))) (H:ae B d=some (.row 5 .u8 xs)) (a6:c≠d) (hf:f k=none) (N:Nat):
  bx P N ids o K B .undef ⟨[c,d],[],[(d,none),(c,some (.az (na (jv f k xs))))]⟩:=by
 have m1:x∈o.op.operands:=aE4
 have m2:i∈o.op.operands:=aE4
 have m3:v∈o.op.operands:=aE4
 rintro K' B' g1 g2 - C a w ⟨hn,mx,ρ,F,ak,au⟩ bv fN Q cR;have c3:=(g2 c aD9).trans J;have c4:=(g2 d aD9).trans H;obtain⟨es,cg,E,G,ah,bT,bY,aS,bB,ej⟩:(na f).bo (bZ C B' F w) (F c) w (ρ c):=ak.holds c _ c3;have fH:ui (bZ C B' F w) (F d) w (ρ d) xs:=ak.holds d _ c4;obtain⟨y,aD⟩:=ael fH;have af:=au.mp ((g1 x m1).trans hx);have ao:a.eval i=gM aq k:=au.int ((g1 i m2).trans Z);have br:a.eval v=(ρ d).eS:=au.ev ((g1 v m3).trans aB)
 have c0:jn (bZ C B' F w) w .da y (a.eval v):=by
  rw[br,aD]
  have eW:(rp y).cells= #[rp y]:=by
   match y with
   |none=>rfl
   |some (_,_,_)=>rfl
  exact⟨by rw[eW];rfl,⟨fun _=>eW,fun h=>by cases h⟩,by rw[eW];rfl⟩
 obtain⟨eC,iM,aj,fV,o5⟩:=z8 (P:=P) bR jQ jw aS bB ej k c0;have rK:=(aA8.1 aS).1;have eE: ∀y,F c y-> ¬F d y:=fun y aD d'=>ak.fd c d _ _ y c3 c4 a6 aD d'
 have AR:bX (aF:=aq) (aJ:=.da) es k=none:=by
  cases e:bX (aF:=aq) (aJ:=.da) es k with
  |none=>rfl
  |some aH=>
   obtain⟨_,_,bM,_⟩:=E.yT k aH e rfl;rw[hf] at bM
   cases bM
 obtain⟨d3,cX⟩:=yR (aF:=aq) (aJ:=.da) rL k y es;have vB: ∀aH,aH≠(ρ c).bf->({w with heap:=w.heap.setIfInBounds (ρ c).bf (.map (List.toArray eC) iM)}:World).heap[aH]? =w.heap[aH]? :=fun aH aM=>az7 (az2 aM)
 have DE:(execOp a.eval o).run P w= .ok .skip {w with heap:=w.heap.setIfInBounds (ρ c).bf (.map (List.toArray eC) iM)}:=by simp only[execOp,ai,aw3,af,ao,aj,au6,ax1]
 unfold Oper.wp;rw[DE,Oper.upon_skip]
 obtain⟨bH,aY⟩:=ak.GH (ch:=.az (na (jv f k xs))) (w':={w with heap:=w.heap.setIfInBounds (ρ c).bf (.map (List.toArray eC) iM)}) c3 c4 a6 (fun b=>F c b\/F d b) (fun _ h=>h) (t6 (S:=fun b=>F c b\/F d b) (.inl ((G _).2 (.inl rfl)))) fun I a7=>by
  have hK:=E.cj a7 (fun j b O=>vB b fun e=>ah j (e▸O)) aD9;have fu:ui I (F d) {w with heap:=w.heap.setIfInBounds (ρ c).bf (.map (List.toArray eC) iM)} (ρ d) xs:=Holds.cj a7 (fun b O=>vB b fun e=>eE b (e▸(G _).2 (.inl rfl)) O) aD9 _ (fun _ h=>by cases h) fH;refine⟨dp (aF:=aq) (aJ:=.da) es k y,fun j b=>if j=k then F d b else cg j b,⟨ff.put rL E.hY,fun j V=>?_,fun j aH V _=>?_,fun _ _ _ _ bd=>(by cases bd),fun i j b gO ha O=>?_⟩,fun b=>?_,fun j V=>?_,eC,iM,by simp[rK],fV.mono a7,o5⟩
  .have jR:j≠k:=fun e=>by rw[e,d3] at V;cases V
   rw[cX j jR] at V;obtain⟨b1,_,b3⟩:=hK.w3 j V;exact⟨by unfold jv;rw[mu jR];exact b1,rfl,fun b O=>by rw[mu jR] at O;exact b3 b O⟩
  .by_cases jR:j=k
   .subst jR;rw[d3] at V;injection V with V
    subst V;exact⟨xs,ρ d,vj rfl,aD,fu.congr fun b=>by rw[vj rfl]⟩
   .rw[cX j jR] at V;obtain⟨DD,r,b1,b2,b3⟩:=hK.yT j aH V rfl;exact⟨DD,r,(mu jR).trans b1,b2,b3.congr fun b=>by rw[mu jR]⟩
  .by_cases hi:i=k
   .rw[vj hi] at ha;have V:j≠k:=fun cc=>gO (hi.trans cc.symm)
    rw[mu V] at O;exact eE b ((G b).2 (.inr ⟨j,O⟩)) ha
   .rw[mu hi] at ha
    by_cases V:j=k
    .rw[vj V] at O;exact eE b ((G b).2 (.inr ⟨i,ha⟩)) O
    .rw[mu V] at O;exact E.fd i j b gO ha O
  .show(F c b\/F d b)↔(b=(ρ c).bf\/ ∃j,(if j=k then F d b else cg j b));rw[G];have aep:=(E.w3 k AR).2.2;constructor
   .rintro((h |⟨j,h⟩) |h)
    .exact .inl h
    .refine .inr ⟨j,?_⟩;have V:j≠k:=fun e=>aep b (e▸h)
     rw[mu V];exact h
    .exact .inr ⟨k,by rw[vj rfl];exact h⟩
   .rintro(h |⟨j,h⟩)
    .exact .inl (.inl h)
    .by_cases V:j=k
     .rw[vj V] at h;exact .inr h
     .rw[mu V] at h;exact .inl (.inr ⟨j,h⟩)
  .replace V:(if j=k then F d (ρ c).bf else cg j (ρ c).bf):=V
   by_cases kR:j=k
   .rw[vj kR] at V;exact eE _ ((G _).2 (.inl rfl)) V
   .rw[mu kR] at V;exact ah j V
 exact cR _ _ ⟨kN.trans hn,kO.trans mx,ρ,_,bH,(au.mono aY fun _ _ _=>rfl).kP (fun e U=>by rw[hn];exact bv e U) rfl⟩
def aeq {o:Oper} {T ew kt et:aI3} {x i:aI2} {c:Nat} {f:lF} {k:Int} (ai:o.op= .call {callee:=.builtin .delete,args:= #[x,i],argTypes:= #[T,ew]}) (bR:P.underlying T=some (.map kt et)) {dk:aJ4} (jQ:P.underlying kt=some dk) (jw:nv aq dk=true)
  (hx:a1 K x= .c (.one (.mp c))) (Z:a1 K i= .c (.one (.d (.int .i64 k)))) (J:ae B c=some (.az (na f))) (N:Nat):
  bx P N ids o K B (.b4 []) ⟨[c],[],[(c,some (.az (na (DC f k))))]⟩:=by
 have m1:x∈o.op.operands:=aE8
 have m2:i∈o.op.operands:=aE8
 rintro K' B' g1 g2 - C a w ⟨hn,mx,ρ,F,ak,au⟩ bv fN Q cR;have c3:=(g2 c aD9).trans J;obtain⟨es,cg,E,G,ah,bT,bY,aS,bB,ej⟩:(na f).bo (bZ C B' F w) (F c) w (ρ c):=ak.holds c _ c3;have af:=au.mp ((g1 x m1).trans hx);have ao:a.eval i=gM aq k:=au.int ((g1 i m2).trans Z);obtain⟨eC,aj,fV,o5⟩:=P9 (P:=P) (ty:=o.type) bR jQ jw aS bB ej k ew;have rK:=(aA8.1 aS).1;obtain⟨d3,cX⟩:=DB (aF:=aq) (aJ:=.da) rL k es E.hY;have vB: ∀aH,aH≠(ρ c).bf->({w with heap:=w.heap.setIfInBounds (ρ c).bf (.map (List.toArray eC) bY)}:World).heap[aH]? =w.heap[aH]? :=fun aH aM=>az7 (az2 aM)
 have DE:(execOp a.eval o).run P w= .ok (.value (.tuple #[])) {w with heap:=w.heap.setIfInBounds (ρ c).bf (.map (List.toArray eC) bY)}:=by simp[execOp,ai,resolve,invoke,builtin,af,ao,aj]
 unfold Oper.wp;rw[DE,Oper.upon_value]
 obtain⟨bH,aY⟩:=ak.GI (ch:=.az (na (DC f k))) (w':={w with heap:=w.heap.setIfInBounds (ρ c).bf (.map (List.toArray eC) bY)}) c3 (fun b=>b=(ρ c).bf\/ ∃j,j≠k/\cg j b) (fun b O=>(G b).2 (O.imp id fun⟨j,_,h⟩=>⟨j,h⟩)) (t6 (S:=F c) ((G _).2 (.inl rfl))) fun I a7=>by
  have hK:=E.cj a7 (fun j b O=>vB b fun e=>ah j (e▸O)) aD9;refine⟨gN (aF:=aq) (aJ:=.da) es k,fun j b=>j≠k/\cg j b,⟨ff.nC E.hY,fun j V=>?_,fun j aH V _=>?_,fun _ _ _ _ bd=>(by cases bd),fun i j b gO ha O=>E.fd i j b gO ha.2 O.2⟩,fun b=>Iff.rfl,fun j V=>ah j V.2,eC,bY,by simp[rK],fV.mono a7,o5⟩
  .by_cases jR:j=k
   .exact⟨vj jR,rfl,fun b O=>O.1 jR⟩
   .rw[cX j jR] at V;obtain⟨b1,_,b3⟩:=hK.w3 j V;exact⟨(mu jR).trans b1,rfl,fun b O=>b3 b O.2⟩
  .have jR:j≠k:=fun e=>by rw[e,d3] at V;cases V
   rw[cX j jR] at V;obtain⟨DD,r,b1,b2,b3⟩:=hK.yT j aH V rfl;exact⟨DD,r,(mu jR).trans b1,b2,b3.congr fun b=>⟨fun h=>h.2,fun h=>⟨jR,h⟩⟩⟩
 exact cR _ _ ⟨kN.trans hn,kO.trans mx,ρ,_,bH,(au.mono aY fun _ _ _=>rfl).kP (fun e U=>by rw[hn];exact bv e U) ⟨[],rfl,rfl⟩⟩
def ac.Sg (c:Nat) {aJ:bz} (J:ae B c=some (.map aq aJ [])):ac ids K B K ((c,.az (na Li))::B):=by
 rintro N C a w ⟨hn,H,ρ,F,ak,au⟩;obtain⟨bg,bT,bY,ah,aS,ej⟩:=ak.holds c _ J;have aS:bT=[]:=aS;subst aS;obtain⟨bH,aY⟩:=ak.hT (w':=w) (ch:=.az (na Li)) J (cU.refl _ _) fun I a7=>⟨[],fun _ _=>False,⟨.nil,fun _ _=>⟨rfl,rfl,fun _ h=>h⟩,fun _ _ h=>aE7,fun _ _ _ h=>aE7,fun _ _ _ _ h=>h.elim⟩,fun b=>by rw[bg];simp,fun _ h=>h,[],bY,ah,rfl,ej⟩
 exact⟨hn,H,ρ,F,bH,au.mono aY fun _ _ _=>rfl⟩
end
end
section
def bc.ch (ch:a8) (h: ∀c,ch.has c=false):bc where
 bo:=fun I F w p=>Holds (fun _=>p) I F w p ch
 cj:=fun I F w I' w' p bd U bg aM=>Holds.cj U bg aM ch (fun c J=>at1 J (by rw[h c];decide)) bd
def bc.Sh {ch:a8} (h: ∀c,ch.has c=false) {ρ:Nat->bp} {I F:Nat->Prop} {w:aH9} {p:bp} (bd:Holds ρ I F w p ch):(bc.ch ch h).bo I F w p:=
 Holds.cj (cm.refl _ _) (fun _ _=>rfl) (at0 _) ch (fun c J=>at1 J (by rw[h c];decide)) bd
section
variable {P:aI0} {ids:aH4} {K:aW} {B:ay}
def kx {o:Oper} {x:aI2} {b:Nat} (ai:o.op= .nilCheck x) (hx:a1 K x= .c (.one (.d (.aL (some b))))) (N:Nat):bx P N ids o K B (.c (.one (.d (.aL (some b))))) ⟨[],[],[]⟩:=by
 have aC:x∈o.op.operands:=aE4
 refine bx.val fun K' B' g1 g2 C ρ F a w ak au=>?_
 have aB:a.eval x= .pointer (some ⟨b,0,none⟩):=au.ev ((g1 x aC).trans hx);exact⟨.pointer (some ⟨b,0,none⟩),by simp[execOp,ai,aB],rfl⟩
def kY {o:Oper} {T:aI3} {x:aI2} {f b off:Nat} {fs:Array Field} {j6:Field} (ai:o.op= .fieldAddr T x f) (bR:P.underlying T=some (.struct fs)) (vc:fs[f]? =some j6) (s7:j6.offset=off) {i:aJ3} (hi:P.info? j6.type=some i) (cA:i.size≠0) (hx:a1 K x= .c (.one (.d (.aL (some b))))) (N:Nat):
  bx P N ids o K B (.c (.one (.bK (.pointer (some ⟨b,off,none⟩))))) ⟨[],[],[]⟩:=by
 have aC:x∈o.op.operands:=aE4
 refine bx.val fun K' B' g1 g2 C ρ F a w ak au=>?_
 have aB:a.eval x= .pointer (some ⟨b,0,none⟩):=au.ev ((g1 x aC).trans hx);have h:=fSz aB ai bR vc s7 hi cA (w:=w);rw[ax6] at h;exact⟨.pointer (some ⟨b,off,none⟩),h,rfl⟩
def aer {I:Nat->Prop} {w:aH9} {L:List (Nat×bc)} {F:Nat->Prop} {b:Nat} {l:List bA} {h: ∀c,(a8.cells l).has c=false} (bl:fJ I w L F) (cG:eZ L b=some (bc.ch (.cells l) h)) {j:Nat} {x:D} (V:l[j]? =some (.d x)): ∃v,w.cell? ⟨b,j,none⟩=some v/\gL I w x v:=by obtain⟨cI,cS,p,cl,cY,ek,eL,vv⟩:=bl.out cG;obtain⟨E,aE,ew,G,ah⟩:=eL;obtain⟨v,aB,H⟩:=cf.get _ _ ah j _ V;rw[ek] at G;exact⟨v,o1 G aB,H⟩
def my {o:Oper} {T:aI3} {x:aI2} {q b j:Nat} {y:D} {L:List (Nat×bc)} {l:List bA} {h: ∀c,(a8.cells l).has c=false} {d:aJ4} (ai:o.op= .load T x) (bR:P.underlying T=some d) (H:d.isRow=false) (hx:a1 K x= .c (.one (.bK (.pointer (some ⟨b,j,none⟩)))))
  (a2:ae B q=some (.az (.bt L))) (cG:eZ L b=some (bc.ch (.cells l) h)) (V:l[j]? =some (.d y)) (N:Nat):bx P N ids o K B (.c (.one (.d y))) ⟨[q],[],[]⟩:=by
 have aC:x∈o.op.operands:=aE4
 refine bx.val fun K' B' g1 g2 C ρ F a w ak au=>?_
 have bl:fJ (bZ C B' F w) w L (F q):=ak.holds q _ ((g2 q aD9).trans a2);have aB:a.eval x= .pointer (some ⟨b,j,none⟩):=au.ev ((g1 x aC).trans hx);obtain⟨v,E,G⟩:=aer bl cG V;exact⟨v,FQ ai aB bR H E,G⟩
def GN {o:Oper} {T:aI3} {x v:aI2} {q b j:Nat} {y:D} {L:List (Nat×bc)} {l:List bA} {h: ∀c,(a8.cells l).has c=false} {h': ∀c,(a8.cells (l.set j (.d y))).has c=false} {i:aJ3} (ai:o.op= .store T x v) (hi:P.info? T=some i) (aM:i.size=1) (hx:a1 K x= .c (.one (.bK (.pointer (some ⟨b,j,none⟩)))))
  (aB:a1 K v= .c (.one (.d y))) (a2:ae B q=some (.az (.bt L))) (cG:eZ L b=some (bc.ch (.cells l) h)) (V:j < l.length) (E: ∀{I:Nat->Prop} {w:aH9} {aH:aI8},gL I w y aH->aH.cells=List.toArray [aH]/\aH.oneCell'=true) (N:Nat):
  bx P N ids o K B .undef ⟨[q],[],[(q,some (.az (.bt (fX L b (bc.ch (.cells (l.set j (.d y))) h')))))]⟩:=by
 have m1:x∈o.op.operands:=aE4
 have m2:v∈o.op.operands:=aE4
 refine bx.hT a2 fun K' B' g1 C ρ F a w ak au GD=>?_
 have bl:fJ (bZ C B' F w) w L (F q):=ak.holds q _ GD;obtain⟨cI,cS,p,cl,cY,ek,eL,vv⟩:=bl.out cG;obtain⟨cu,aE,ew,cp,fD⟩:=eL;have af:a.eval x= .pointer (some ⟨b,j,none⟩):=au.ev ((g1 x m1).trans hx);have ao:gL (bZ C B' F w) w y (a.eval v):=au.ev ((g1 v m2).trans aB);obtain⟨g9,ip⟩:=E ao;have bW:aE.length=l.length:=cf.length _ _ fD;rw[ek] at cp;have dK:=CQ (P:=P) (o:=o) (ev:=a.eval) (w:=w) (us:=[a.eval v]) ai af g9 hi aM cp aF5 (fun aH aM=>by rw[au5] at aM;rw[aM];exact ip);have hG:(w.setRow b (List.toArray (aE.take j++[a.eval v]++aE.drop (j+ [a.eval v].length)))).heap[b]? =some (.cells (List.toArray (aE.take j++[a.eval v]++aE.drop (j+ [a.eval v].length))) ew (0,0)):=setRow_heap w _ _ _ ew _ cp;have jx:cI b:=(cu b).2 ek.symm;have qv:F q b:=(cl b).2 (.inl jx);refine⟨_,dK,⟨rfl,rfl,rfl,by simp[World.setRow],fun k _ Z=>setRow_other w _ k _ (fun e=>Z (e▸qv))⟩,fun I aY=>?_⟩
 have dG: ∀(l:List bA) (aE:aH7) (j:Nat),j < l.length->cf (fun _=>p) (bZ C B' F w) w l aE->cf (fun _=>p) (bZ C B' F w) w (l.set j (.d y)) (aE.take j++[a.eval v]++aE.drop (j+1)):=fun l=>by
  induction l with
  |nil=>intro aE j V;simp at V
  |cons s l bk=>
   rintro _ j V ⟨u,r,rfl,cr,cv⟩
   match j with
   |0=>exact⟨a.eval v,r,aD9,ao,cv⟩
   |j+1=>exact⟨u,_,rfl,cr,bk r j aF8 cv⟩
 have GO:(fun aH=>cI aH\/cS aH)=F q:=funext fun aH=>propext (cl aH).symm
 rw[<-GO]
 exact vv I _ (bc.ch (.cells (l.set j (.d y))) h') cI p aY (by simp[World.setRow]) (fun aH aM=>setRow_other w _ aH _ (fun e=>cY b jx (e▸aM))) ek
  ⟨cu,_,ew,by rw[ek];exact hG,cf.mono aY _ _ (fun _ _=>rfl) (dG l aE j V fD)⟩ cY
def aes {o:Oper} {T kt et:aI3} {x i v:aI2} {c d q:Nat} (ai:o.op= .mapUpdate T x i v) (bR:P.underlying T=some (.map kt et)) {dk:aJ4} (jQ:P.underlying kt=some dk) {aF:bz} (jw:nv aF dk=true)
  (hx:a1 K x= .c (.one (.mp c))) {key:aa aF} (Z:yk aF (a1 K i)=some key) (aB:a1 K v= .c (.one (.ptr d 0))) {es:List (aa aF×aa .aL)} {L:List (Nat×bc)} {l:List bA} {h: ∀c,(a8.cells l).has c=false} (J:ae B c=some (.map aF .aL es)) (H:ae B d=some (.cells l)) (a2:ae B q=some (.az (.bt L)))
  (s5:c≠d) (GP:c≠q) (Si:d≠q) (ha: ∀p∈L,p.2.pc):
  Dp P ids o K B (fun dA e=> ∃b:Nat,b∉L.map (·.1)/\dA= .undef/\e=⟨[c,d,q],[],[(d,none),(c,some (.map aF .aL (dp (aF:=aF) (aJ:=.aL) es key (some b)))),(q,some (.az (.bt ((b,bc.ch (.cells l) h)::L))))]⟩):=by
 rintro N C a w ⟨hn,mx,ρ,F,ak,au⟩ bv fN Q cR;obtain⟨mZ,bT,bY,aS,bB,ej⟩:=ak.holds c _ J;have GQ:=ak.holds d _ H;have bl:fJ (bZ C B F w) w L (F q):=ak.holds q _ a2;have af:=au.mp hx;have ao:a.eval i=gM aF key:=CW Z (au.ev rfl);have br:a.eval v= .pointer (some ⟨(ρ d).bf,0,none⟩):=au.ev aB
 have c0:jn (bZ C B F w) w .aL (some (ρ d).bf:aa .aL) (a.eval v):=by
  rw[br];exact⟨rfl,⟨fun _=>rfl,fun h=>by cases h⟩,rfl⟩
 obtain⟨eC,iM,aj,fV,o5⟩:=z8 (P:=P) bR jQ jw aS bB ej key c0;have rK:=(aA8.1 aS).1;have aet:F d (ρ d).bf:=(GQ.1 _).2 rfl;have GR:(ρ d).bf∉L.map (·.1):=fun O=>ak.fd d q _ _ _ H a2 Si aet (K8 ha bl O)
 have vB: ∀y,y≠(ρ c).bf->({w with heap:=w.heap.setIfInBounds (ρ c).bf (.map (List.toArray eC) iM)}:World).heap[y]? =w.heap[y]? :=fun y aD=>az7 (az2 aD)
 have AS:F c (ρ c).bf:=(mZ _).2 rfl;have yr: ∀y,F d y->y≠(ρ c).bf:=fun y aD e=>ak.fd d c _ _ y H J (az2 s5) aD (e▸AS)
 have aeu: ∀y,F q y->y≠(ρ c).bf:=fun y aD e=>ak.fd q c _ _ y a2 J (az2 GP) aD (e▸AS)
 have DE:(execOp a.eval o).run P w= .ok .skip {w with heap:=w.heap.setIfInBounds (ρ c).bf (.map (List.toArray eC) iM)}:=by simp only[execOp,ai,aw3,af,ao,aj,au6,ax1]
 unfold Oper.wp;rw[DE,Oper.upon_skip]
 have vz: ∀j ch,ae ((q,a8.az (.bt (((ρ d).bf,bc.ch (.cells l) h)::L)))::(c,.map aF .aL (dp (aF:=aF) (aJ:=.aL) es key (some (ρ d).bf)))::gT B d) j=some ch->(j=c\/j=d\/j=q)->(j=q/\ch= .az (.bt (((ρ d).bf,bc.ch (.cells l) h)::L)))\/(j=c/\ch= .map aF .aL (dp (aF:=aF) (aJ:=.aL) es key (some (ρ d).bf))):=fun j ch V aC=>by
  rw[co] at V
  split at V
  .rename_i e;injection V with V;exact .inl ⟨e.symm,V.symm⟩
  .rename_i e;rw[co] at V
   split at V
   .rename_i ao;injection V with V;exact .inr ⟨ao.symm,V.symm⟩
   .rename_i ao;rcases aC with aC |aC |aC
    .exact at1 aC.symm ao
    .rw[aC,hD,vj rfl] at V;cases V
    .exact at1 aC.symm e
 have GS:dv F q (fun y=>F d y\/F q y) c=F c:=dD _ _ GP
 obtain⟨bH,aY⟩:=ak.step (B':=(q,.az (.bt (((ρ d).bf,bc.ch (.cells l) h)::L)))::(c,.map aF .aL (dp (aF:=aF) (aJ:=.aL) es key (some (ρ d).bf)))::gT B d) (ρ':=ρ) (F':=dv F q (fun y=>F d y\/F q y)) (w':={w with heap:=w.heap.setIfInBounds (ρ c).bf (.map (List.toArray eC) iM)}) (fun j=>j=c\/j=d\/j=q) (fun _=>False)
  ((t6 (S:=F c) AS).mono fun y _ aD=>⟨c,_,J,.inl rfl,aD⟩)
  (fun j ch V aC=>by
   rw[co,mu (fun e=>aC (.inr (.inr e.symm))),co,mu (fun e=>aC (.inl e.symm)),hD,mu (fun e=>aC (.inr (.inl e.symm)))] at V;exact V)
  (fun _ _=>rfl) (fun j aC=>dD _ _ (fun e=>aC (.inr (.inr e)))) (fun _ _ h=>h) (fun _ h=>h.elim) (fun _ _ _ _ _ _ h=>h)
  (fun j ch V aC aY=>by
   rcases vz j ch V aC with⟨rfl,rfl⟩ |⟨rfl,rfl⟩
   .rw[dB];exact⟨F d,F j,ρ d,fun _=>Iff.rfl,fun y aD d'=>ak.fd d j _ _ y H a2 Si aD d',rfl,(bc.ch (.cells l) h).cj _ _ _ _ _ _ (bc.Sh h GQ) aY (fun y aD=>vB y (yr y aD)) aD9,bl.cj aY aD9 fun y aD=>vB y (aeu y aD)⟩
   .rw[GS];exact⟨mZ,eC,iM,by simp[rK],fV.mono aY,o5⟩)
  (fun j ch V aC y aD=>by
   rcases vz j ch V aC with⟨rfl,rfl⟩ |⟨rfl,rfl⟩
   .rw[dB] at aD;rcases aD with aD |aD
    .exact⟨by simpa using(ak.own d _ H y aD).1,.inl ⟨d,_,H,.inr (.inl rfl),aD⟩⟩
    .exact⟨by simpa using(ak.own j _ a2 y aD).1,.inl ⟨j,_,a2,.inr (.inr rfl),aD⟩⟩
   .rw[GS] at aD;exact⟨by simpa using(ak.own j _ J y aD).1,.inl ⟨j,_,J,.inl rfl,aD⟩⟩)
  (fun j rI ch ch' y V kR aC fV a6 aD d'=>by
   rcases vz j ch V aC with⟨rfl,rfl⟩ |⟨rfl,rfl⟩ <;>rcases vz rI ch' kR fV with⟨rfl,rfl⟩ |⟨rfl,rfl⟩
   .exact a6 rfl
   .rw[dB] at aD;rw[GS] at d';rcases aD with aD |aD
    .exact ak.fd d rI _ _ y H J (az2 s5) aD d'
    .exact ak.fd j rI _ _ y a2 J (az2 GP) aD d'
   .rw[dB] at d';rw[GS] at aD;rcases d' with d' |d'
    .exact ak.fd d j _ _ y H J (az2 s5) d' aD
    .exact ak.fd rI j _ _ y a2 J (az2 GP) d' aD
   .exact a6 rfl)
 exact cR _ _ _ _ ⟨_,GR,rfl,rfl⟩ ⟨kN.trans hn,kO.trans mx,ρ,_,bH,(au.mono aY fun _ _ _=>rfl).kP (fun e U=>by rw[hn];exact bv e U) rfl⟩
end
end
section
def e7 (b:Nat) (q:bp):bc where
 bo:=fun I F w p=>q.bf=b/\ ∀x,¬F x
 cj:=fun _ _ _ _ _ _ h _ _ _=>h
def j' (ch:a8):Prop:= ∀(ρ ρ':Nat->bp) (I F:Nat->Prop) (w:aH9) (p ku:bp),(∀c,ch.has c=true->(ρ' c).bf=(ρ c).bf)->ku.bf=p.bf->Holds ρ I F w p ch->Holds ρ' I F w ku ch
def Lk:bA->Bool
 | .own _=>false
 | .os _ _ _ _=>false
 |_=>true
def h5.bf {ρ ρ':Nat->bp} {I:Nat->Prop} {w:aH9}: ∀(l:List kL) (aE:aH7),(∀c,mn c l=true->(ρ' c).bf=(ρ c).bf)->h5 ρ I w l aE->h5 ρ' I w l aE
 | [],_,_,h=>h
 | .p b o::l,_,dl,⟨v,r,e,E,G⟩=>⟨v,r,e,(by have e:=dl b (by simp[mn]);simp only[x9] at*;rw[e];exact E),h5.bf l r (fun c J=>dl c (by simp[mn,J])) G⟩
 | .d x::l,_,dl,⟨v,r,e,E,G⟩=>⟨v,r,e,E,h5.bf l r (fun c J=>dl c (by simpa[mn] using J)) G⟩
def dW.bf {ρ ρ':Nat->bp} {I:Nat->Prop} {w:aH9} (s:bA) (v:aI8) (O:Lk s=true) (dl: ∀c,s.has c=true->(ρ' c).bf=(ρ c).bf) (h:dW ρ I w s v):dW ρ' I w s v:=by
 cases s with
 |ptr c off=>
  have e:=dl c aG1;simp only[dW] at*;rw[e];exact h
 |ga c s i off=>
  have e:=dl c aG1;simp only[dW] at*;rw[e];exact h
 |mp c=>
  have e:=dl c aG1;simp only[dW] at*;rw[e];exact h
 |c2 f l=>obtain⟨aE,e,h⟩:=h;exact⟨aE,e,h5.bf l aE dl h⟩
 |own c=>cases O
 |os c s off n=>cases O
 |d x=>exact h
 |el u x off=>exact h
 |dC=>exact h
 |bK u=>exact h
 |any=>trivial
def cf.bf {ρ ρ':Nat->bp} {I:Nat->Prop} {w:aH9}: ∀(l:List bA) (aE:aH7),l.all Lk=true->(∀c,mR c l=true->(ρ' c).bf=(ρ c).bf)->cf ρ I w l aE->cf ρ' I w l aE
 | [],_,_,_,h=>h
 |s::l,_,O,dl,⟨v,r,e,E,G⟩=>by
  rw[List.all_cons,as8] at O;exact⟨v,r,e,dW.bf s v O.1 (fun c J=>dl c (by simp[mR,J])) E,cf.bf l r O.2 (fun c J=>dl c (by simp[mR,J])) G⟩
def j'.cells {l:List bA} (O:l.all Lk=true):j' (.cells l):=by rintro ρ ρ' I F w p ku dl ag ⟨E,aE,T,G,ah⟩;exact⟨fun b=>by rw[ag];exact E b,aE,T,by rw[ag];exact G,cf.bf l aE O dl ah⟩
def j'.map {aF aJ:bz} {es:List (aa aF×aa aJ)}:j' (.map aF aJ es):=by rintro ρ ρ' I F w p ku dl ag ⟨E,bT,bY,G,ah,aS⟩;exact⟨fun b=>by rw[ag];exact E b,bT,bY,by rw[ag];exact G,ah,aS⟩
def j'.bt {L:List (Nat×bc)}:j' (.az (.bt L)):=fun _ _ _ _ _ _ _ _ _ h=>h
def j'.iQ {c:Nat} {bq:ay} (h: ∀d ch,ae bq d=some ch->j' ch):j' (.az (.iQ c bq)):=by
 rintro mS s2 I F w p ku _ ag ⟨ρ,cg,E,G,ah,aS⟩
 have O: ∀d,(dv ρ c ku d).bf=(ρ d).bf:=fun d=>by
  by_cases e:d=c
  .subst e;rw[dB,ag,E]
  .rw[dD _ _ e]
 exact⟨dv ρ c ku,cg,dB ..,fun d ch H=>h d ch H ρ (dv ρ c ku) _ _ _ (ρ d) (dv ρ c ku d) (fun e _=>O e) (O d) (G d ch H),ah,aS⟩
def GT:ay->Prop
 | []=>True
 |(_,ch)::bq=>j' ch/\GT bq
def DF: ∀{bq:ay},GT bq-> ∀d ch,ae bq d=some ch->j' ch
 | [],_,d,ch,H=>by cases H
 |(e,x)::bq,h,d,ch,H=>by
  rw[co] at H
  split at H
  .injection H with H;subst H;exact h.1
  .exact DF h.2 d ch H
def GU (bq:ay) (bs:Nat->Nat) (I F:Nat->Prop) (w:aH9):Prop:=
 ∃(ρ:Nat->bp) (cg:Nat->Nat->Prop),(∀d ch,ae bq d=some ch->(ρ d).bf=bs d)/\(∀d ch,ae bq d=some ch->Holds ρ I (cg d) w (ρ d) ch)/\
  (∀d cZ ch ch' b,ae bq d=some ch->ae bq cZ=some ch'->d≠cZ->cg d b-> ¬cg cZ b)/\ ∀b,F b↔ ∃d ch,ae bq d=some ch/\cg d b
def bc.nD (bq:ay) (bs:Nat->Nat):bc where
 bo:=fun I F w _=>GU bq bs I F w
 cj:=fun I F w I' w' p ⟨ρ,cg,ar,G,ah,aS⟩ U bg aM=>⟨ρ,cg,ar,fun d ch H=>Holds.cj U (fun b O=>bg b ((aS b).2 ⟨d,ch,H,O⟩)) aM ch (fun _ _=>rfl) (G d ch H),ah,aS⟩
section
variable {ids:aH4} {K:aW} {B:ay}
def dF.mark (d m:Nat) (aC:g7 ids K B m=true) (a6:d≠m):dF ids K B (fun _:Nat=>K) (fun b=>(m,.b5 d (e7 b))::B):=by
 rintro N C a w ⟨hn,H,ρ,F,ak,au⟩;have cF:=ld aC
 obtain⟨bH,aY⟩:=ak.make (ch:=.b5 d (e7 (ρ d).bf)) (w':=w) aC (Below.refl _ _) ⟨0,none,0,0⟩ (fun _=>False) (fun _ h=>h.elim) (fun I _ _=>by
  show(e7 (ρ d).bf (dv ρ m _ d)).bo I _ w _;rw[dD _ _ a6];exact⟨rfl,fun _ h=>h⟩)
 exact⟨(ρ d).bf,hn,H,_,_,bH,au.mono aY fun s c J=>dD _ _ (fun e=>by subst e;rw[cF.1 s] at J;cases J)⟩
def ac.place (d m b:Nat) (H:g7 ids K B d=true) (aC:g7 ids K B m=true) (a6:d≠m):ac ids K B K ((m,.b5 d (e7 b))::B):=by
 rintro N C a w ⟨hn,mx,ρ,F,ak,au⟩;have fU:=ld H;have gV:=ld aC
 obtain⟨bH,aY⟩:=ak.step (B':=(m,.b5 d (e7 b))::B) (ρ':=dv ρ d ⟨b,none,0,0⟩) (F':=dv F m fun _=>False) (w':=w) (fun c=>c=m\/c=d) (fun c=>c=d) (cU.refl _ _)
  (fun c ch J aC=>by
   rw[co,mu (fun e=>aC (.inl e.symm))] at J;exact J)
  (fun c J=>dD _ _ J) (fun c J=>dD _ _ (fun e=>J (.inl e))) (fun c J e=>fU.2.2.2 (e▸J)) (fun c J=>.inr J)
  (fun c ch J _ j V e=>by subst e;rw[fU.2.2.1 c ch J] at V;cases V)
  (fun c ch J aC aY=>by
   rw[co] at J
   split at J
   .rename_i e;subst e;injection J with J
    subst J;rw[dB];show(e7 b (dv ρ d _ d)).bo _ _ w _;rw[dB];exact⟨rfl,fun _ h=>h⟩
   .rename_i e;rcases aC with aC |aC
    .exact at1 aC.symm e
    .rw[aC,fU.2.1] at J;cases J)
  (fun c ch J aC x hx=>by
   rw[co] at J
   split at J
   .rename_i e;subst e;rw[dB] at hx;exact hx.elim
   .rename_i e;rcases aC with aC |aC
    .exact at1 aC.symm e
    .rw[aC,fU.2.1] at J;cases J)
  (fun c cn ch ch' x J c3 aC fV K7 hx=>by
   have key: ∀c ch,ae ((m,a8.b5 d (e7 b))::B) c=some ch->(c=m\/c=d)->c=m:=fun c ch J aC=>by
    rcases aC with aC |aC
    .exact aC
    .rw[co,mu (fun e=>a6 (aC.symm.trans e.symm)),aC,fU.2.1] at J
     cases J
   exact at1 ((key c ch J aC).trans (key cn ch' c3 fV).symm) K7)
 exact⟨hn,mx,_,_,bH,au.mono aY fun s c J=>dD _ _ (fun e=>by subst e;rw[fU.1 s] at J;cases J)⟩
def GV (B:ay) (jc bs:Nat->Nat):ay->Prop
 | []=>True
 |(d,_)::bq=>ae B (jc d)=some (.b5 d (e7 (bs d)))/\GV B jc bs bq
def Ll {jc bs:Nat->Nat}: ∀{bq:ay},GV B jc bs bq-> ∀{d ch},ae bq d=some ch->ae B (jc d)=some (.b5 d (e7 (bs d)))
 | [],_,d,ch,H=>by cases H
 |(e,x)::bq,h,d,ch,H=>by
  rw[co] at H
  split at H
  .rename_i e;subst e;exact h.1
  .exact Ll h.2 H
def ac.Lm (g:Nat) (bq:ay) (jc bs:Nat->Nat) (de:la B bq) (aC:GV B jc bs bq) (aV:ae B g=none):ac ids K B K ((g,.az (.nD bq bs))::pK (ck bq) B):=by
 rintro N C a w ⟨hn,H,ρ,F,ak,au⟩;have al: ∀{d ch},ae bq d=some ch->ae B d=some ch:=fun {d ch} h=>kU de h
 have aev:g∉ck bq:=fun h=>by obtain⟨ch,h⟩:=gf.1 h;rw[al h] at aV;cases aV
 have key: ∀d ch,ae ((g,a8.az (.nD bq bs))::pK (ck bq) B) d=some ch->(d=g\/d∈ck bq)->d=g/\ch= .az (.nD bq bs):=fun d ch H aC=>by
  rw[co] at H
  split at H
  .rename_i e;injection H with H;exact⟨e.symm,H.symm⟩
  .rename_i e;rcases aC with aC |aC
   .exact at1 aC.symm e
   .rw[yN,vj aC] at H;cases H
 obtain⟨bH,aY⟩:=ak.step (B':=(g,.az (.nD bq bs))::pK (ck bq) B) (ρ':=ρ) (F':=dv F g (fun x=> ∃d ch,ae bq d=some ch/\F d x)) (w':=w) (fun d=>d=g\/d∈ck bq) (fun _=>False) (cU.refl _ _)
  (fun d ch H aC=>by
   rw[co,mu (fun e=>aC (.inl e.symm)),yN,mu (fun h=>aC (.inr h))] at H;exact H)
  (fun _ _=>rfl) (fun d aC=>dD _ _ (fun e=>aC (.inl e))) (fun _ _ h=>h) (fun _ h=>h.elim) (fun _ _ _ _ _ _ h=>h)
  (fun d ch H fV aY=>by
   obtain⟨rfl,rfl⟩:=key d ch H fV;rw[dB];refine⟨ρ,F,fun d ch h=>?_,fun d ch h=>Holds.cj aY (fun _ _=>rfl) (at0 _) ch (fun _ _=>rfl) (ak.holds d ch (al h)),fun d cZ ch ch' b h h' a6=>ak.fd d cZ ch ch' b (al h) (al h') a6,fun b=>Iff.rfl⟩;exact(ak.holds _ _ (Ll aC h)).1)
  (fun d ch H fV x hx=>by
   obtain⟨rfl,rfl⟩:=key d ch H fV;rw[dB] at hx;obtain⟨cZ,ch',E,G⟩:=hx;exact⟨(ak.own cZ ch' (al E) x G).1,.inl ⟨cZ,ch',al E,.inr (gf.2 ⟨ch',E⟩),G⟩⟩)
  (fun d cZ ch ch' x H c4 aew Ln a6=>at1 ((key d ch H aew).1.trans (key cZ ch' c4 Ln).1.symm) a6)
 exact⟨hn,H,ρ,_,bH,au.mono aY fun _ _ _=>rfl⟩
def ac.Lo (g:Nat) (bq:ay) (jc bs:Nat->Nat) (aV:ae B g=some (.az (.nD bq bs))) (aC:GV B jc bs bq) (Z:((ck bq).all fun d=>(ae B d).isNone)=true) (ha:wP (ck bq) bq=true) (vk: ∀d ch,ae bq d=some ch->j' ch):ac ids K B K (bq++gT B g):=by
 rintro N C a w ⟨hn,H,ρ,F,ak,au⟩;obtain⟨AT,cg,E,G,ah,aS⟩:GU bq bs (bZ C B F w) (F g) w:=ak.holds g _ aV
 have AR: ∀{d ch},ae bq d=some ch->ae B d=none:=fun {d ch} h=>by
  have:=av4.1 Z d (gf.2 ⟨ch,h⟩);simpa using this
 have aev:ae bq g=none:=by
  cases e:ae bq g with
  |none=>rfl
  |some ch=>rw[AR e] at aV;cases aV
 have j7: ∀{d ch},ae bq d=some ch->(ρ d).bf=(AT d).bf:=fun {d ch} h=>((ak.holds _ _ (Ll aC h)).1:(ρ d).bf=bs d).trans (E d ch h).symm
 have mt: ∀d ch,ae (bq++gT B g) d=some ch->ae bq d=some ch\/(ae bq d=none/\d≠g/\ae B d=some ch):=fun d ch h=>by
  rw[h9] at h
  cases e:ae bq d with
  |some x=>rw[e] at h;exact .inl h
  |none=>
   rw[e,hD] at h;simp only at h
   split at h
   .cases h
   .rename_i a6;exact .inr ⟨rfl,fun e=>a6 e.symm,h⟩
 let cS:Nat->Nat->Prop:=fun d=>if(ae bq d).isSome=true then cg d else F d
 have af: ∀{d ch},ae bq d=some ch->cS d=cg d:=fun {d ch} h=>vj (by rw[h];rfl)
 have ao: ∀{d},ae bq d=none->cS d=F d:=fun {d} h=>mu (by rw[h];decide)
 obtain⟨bH,aY⟩:=ak.step (B':=bq++gT B g) (ρ':=ρ) (F':=cS) (w':=w) (fun d=>d=g\/(ae bq d).isSome=true) (fun _=>False) (cU.refl _ _)
  (fun d ch H aC=>by
   rcases mt d ch H with h |⟨_,_,h⟩
   .exact at1 (.inr (by rw[h];rfl)) aC
   .exact h)
  (fun _ _=>rfl) (fun d aC=>ao (by cases e:ae bq d with
   |none=>rfl
   |some x=>exact at1 (.inr (by rw[e];rfl)) aC)) (fun _ _ h=>h) (fun _ h=>h.elim) (fun _ _ _ _ _ _ h=>h)
  (fun d ch H aC aY=>by
   rcases mt d ch H with h |⟨h,a6,h'⟩
   .rw[af h];refine vk d ch h AT ρ _ _ w (AT d) (ρ d) (fun c J=>?_) (j7 h) (Holds.cj aY (fun _ _=>rfl) (at0 _) ch (fun _ _=>rfl) (G d ch h));have:=a8.kW (yy ha h) J;obtain⟨ch',h'⟩:=gf.1 this;exact j7 h'
   .rcases aC with aC |aC
    .exact at1 aC a6
    .rw[h] at aC;cases aC)
  (fun d ch H aC x hx=>by
   rcases mt d ch H with h |⟨h,a6,h'⟩
   .rw[af h] at hx;have:F g x:=(aS x).2 ⟨d,ch,h,hx⟩;exact⟨(ak.own g _ aV x this).1,.inl ⟨g,_,aV,.inl rfl,this⟩⟩
   .rcases aC with aC |aC
    .exact at1 aC a6
    .rw[h] at aC;cases aC)
  (fun d cZ ch ch' x H c4 aC fV a6 hx dq=>by
   rcases mt d ch H with h |⟨h,hn,_⟩
   .rcases mt cZ ch' c4 with h' |⟨h',vC,_⟩
    .rw[af h] at hx;rw[af h'] at dq;exact ah d cZ ch ch' x h h' a6 hx dq
    .rcases fV with fV |fV
     .exact at1 fV vC
     .rw[h'] at fV;cases fV
   .rcases aC with aC |aC
    .exact at1 aC hn
    .rw[h] at aC;cases aC)
 exact⟨hn,H,ρ,_,bH,au.mono aY fun _ _ _=>rfl⟩
def bc.pM (am:Nat) (o:bc) (q:bp):bc where
 bo:=fun I F w p=>q.bf=am/\o.bo I F w p
 cj:=fun I F w I' w' p h U bg aM=>⟨h.1,o.cj I F w I' w' p h.2 U bg aM⟩
def ac.pM (g c am:Nat) {o s8:bc} (aV:ae B g=some (.az o)) (J:ae B c=some (.az (s8.at am))) (a6:g≠c):ac ids K B K ((c,.az s8)::(g,.b5 c (.pM am o))::B):=by
 rintro N C a w ⟨hn,H,ρ,F,ak,au⟩;have hi:(ρ c).bf=am:=(ak.holds c _ J).1;obtain⟨kV,nE⟩:=ak.hT (w':=w) (ch:=.b5 c (.pM am o)) aV (cU.refl _ _) fun I a7=>⟨hi,o.cj _ _ _ _ _ _ (ak.holds g _ aV) a7 (fun _ _=>rfl) (at0 _)⟩
 have eW:ae ((g,a8.b5 c (.pM am o))::B) c=some (.az (s8.at am)):=by rw[co,mu a6];exact J
 obtain⟨jr,yC⟩:=kV.hT (w':=w) (ch:=.az s8) eW (cU.refl _ _) fun I a7=>s8.cj _ _ _ _ _ _ (kV.holds c _ eW).2 a7 (fun _ _=>rfl) (at0 _)
 exact⟨hn,H,ρ,F,jr,au.mono (nE.trans yC) fun _ _ _=>rfl⟩
def ac.aex (g c am:Nat) {o s8:bc} (aV:ae B g=some (.b5 c (.pM am o))) (J:ae B c=some (.az s8)) (a6:g≠c):ac ids K B K ((c,.az (s8.at am))::(g,.az o)::B):=by
 rintro N C a w ⟨hn,H,ρ,F,ak,au⟩;have bd:(bc.pM am o (ρ c)).bo (bZ C B F w) (F g) w (ρ g):=ak.holds g _ aV;obtain⟨kV,nE⟩:=ak.hT (w':=w) (ch:=.az o) aV (cU.refl _ _) fun I a7=>o.cj _ _ _ _ _ _ bd.2 a7 (fun _ _=>rfl) (at0 _)
 have eW:ae ((g,a8.az o)::B) c=some (.az s8):=by rw[co,mu a6];exact J
 obtain⟨jr,yC⟩:=kV.hT (w':=w) (ch:=.az (s8.at am)) eW (cU.refl _ _) fun I a7=>⟨bd.1,s8.cj _ _ _ _ _ _ (kV.holds c _ eW) a7 (fun _ _=>rfl) (at0 _)⟩
 exact⟨hn,H,ρ,F,jr,au.mono (nE.trans yC) fun _ _ _=>rfl⟩
def ac.aey (g c m am:Nat) {o:bc} (aV:ae B g=some (.b5 c (.pM am o))) (aC:g7 ids K B m=true) (a6:c≠m):ac ids K B K ((m,.b5 c (e7 am))::B):=by
 rintro N C a w ⟨hn,H,ρ,F,ak,au⟩;have cF:=ld aC;have bd:(bc.pM am o (ρ c)).bo (bZ C B F w) (F g) w (ρ g):=ak.holds g _ aV
 obtain⟨bH,aY⟩:=ak.make (ch:=.b5 c (e7 am)) (w':=w) aC (Below.refl _ _) ⟨0,none,0,0⟩ (fun _=>False) (fun _ h=>h.elim) (fun I _ _=>by
  show(e7 am (dv ρ m _ c)).bo I _ w _;rw[dD _ _ a6];exact⟨bd.1,fun _ h=>h⟩)
 exact⟨hn,H,_,_,bH,au.mono aY fun s c J=>dD _ _ (fun e=>by subst e;rw[cF.1 s] at J;cases J)⟩
def ac.jy (g c am:Nat) {o:bc} (aV:ae B g=some (.b5 c (.pM am o))):ac ids K B K ((g,.az o)::B):=by
 rintro N C a w ⟨hn,H,ρ,F,ak,au⟩;have bd:(bc.pM am o (ρ c)).bo (bZ C B F w) (F g) w (ρ g):=ak.holds g _ aV;obtain⟨kV,nE⟩:=ak.hT (w':=w) (ch:=.az o) aV (cU.refl _ _) fun I a7=>o.cj _ _ _ _ _ _ bd.2 a7 (fun _ _=>rfl) (at0 _)
 exact⟨hn,H,ρ,F,kV,au.mono nE fun _ _ _=>rfl⟩
def ac.aez (g c m am:Nat) {o:bc} (aV:ae B g=some (.az o)) (aC:ae B m=some (.b5 c (e7 am))):ac ids K B K ((g,.b5 c (.pM am o))::B):=by
 rintro N C a w ⟨hn,H,ρ,F,ak,au⟩;have hi:(ρ c).bf=am:=(ak.holds m _ aC).1;obtain⟨kV,nE⟩:=ak.hT (w':=w) (ch:=.b5 c (.pM am o)) aV (cU.refl _ _) fun I a7=>⟨hi,o.cj _ _ _ _ _ _ (ak.holds g _ aV) a7 (fun _ _=>rfl) (at0 _)⟩
 exact⟨hn,H,ρ,F,kV,au.mono nE fun _ _ _=>rfl⟩
def ac.aeA (c b:Nat) {o:bc} (J:ae B c=some (.az (o.at b))):ac ids K B K ((c,.az o)::B):=by
 rintro N C a w ⟨hn,H,ρ,F,ak,au⟩;obtain⟨kV,nE⟩:=ak.hT (w':=w) (ch:=.az o) J (cU.refl _ _) fun I a7=>o.cj _ _ _ _ _ _ (ak.holds c _ J).2 a7 (fun _ _=>rfl) (at0 _)
 exact⟨hn,H,ρ,F,kV,au.mono nE fun _ _ _=>rfl⟩
def pN {N:Nat} {C:fc} {a:Act} {w:aH9} {ρ:Nat->bp} {F:Nat->Nat->Prop} (ak:Mem ids C B ρ F w) {m d b:Nat} (aC:ae B m=some (.b5 d (e7 b))):(ρ d).bf=b:=(ak.holds m _ aC).1
def ac.GW (s d m b:Nat) (aw:dX K s= .c (.one (.ptr d 0))) (aC:ae B m=some (.b5 d (e7 b))):ac ids K B ((s,.c (.one (.d (.aL (some b)))))::K) B:=by
 rintro N C a w ⟨hn,H,ρ,F,ak,au⟩;refine⟨hn,H,ρ,F,ak,fun t=>?_⟩;rw[kM]
 split
 .rename_i e;subst e;have h:=au s;rw[aw] at h;have e:=pN (N:=N) (a:=a) ak aC;rw[<-e];exact h
 .exact au t
def ac.Lp (s d m b:Nat) (aw:dX K s= .c (.one (.d (.aL (some b))))) (aC:ae B m=some (.b5 d (e7 b))):ac ids K B ((s,.c (.one (.ptr d 0)))::K) B:=by
 rintro N C a w ⟨hn,H,ρ,F,ak,au⟩;refine⟨hn,H,ρ,F,ak,fun t=>?_⟩;rw[kM]
 split
 .rename_i e;subst e;have h:=au s;rw[aw] at h;have e:=pN (N:=N) (a:=a) ak aC;rw[<-e] at h;exact h
 .exact au t
def ac.Lq (s d b:Nat) {o:bc} (aw:dX K s= .c (.one (.d (.aL (some b))))) (H:ae B d=some (.az (o.at b))):ac ids K B ((s,.c (.one (.ptr d 0)))::K) B:=by
 rintro N C a w ⟨hn,mx,ρ,F,ak,au⟩;refine⟨hn,mx,ρ,F,ak,fun t=>?_⟩;rw[kM]
 split
 .rename_i e;subst e;have h:=au s;rw[aw] at h;have e:(ρ d).bf=b:=(ak.holds d _ H).1;rw[<-e] at h;exact h
 .exact au t
def ac.aeB (s f g9 ip m1 m2 b1 b2:Nat) (aw:dX K s= .c (.one (.c2 f [.p g9 0,.p ip 0]))) (E:ae B m1=some (.b5 g9 (e7 b1))) (G:ae B m2=some (.b5 ip (e7 b2))):ac ids K B ((s,.c (.one (.d (.fn (f,[b1,b2])))))::K) B:=by
 rintro N C a w ⟨hn,H,ρ,F,ak,au⟩;refine⟨hn,H,ρ,F,ak,fun t=>?_⟩;rw[kM]
 split
 .rename_i e;subst e;have h:=au s;rw[aw] at h;obtain⟨aE,e,nw,r1,af,g1,v2,r2,ao,g2,cL⟩:=h;have cl:=pN (N:=N) (a:=a) ak E;have cY:=pN (N:=N) (a:=a) ak G;have g1:nw= .pointer (some ⟨(ρ g9).bf,0,none⟩):=g1;have g2:v2= .pointer (some ⟨(ρ ip).bf,0,none⟩):=g2;have cL:r2=[]:=cL;show a.tmps.getD s undef=kK (f,[b1,b2]);rw[e,af,ao,g1,g2,cL,cl,cY];rfl
 .exact au t
end
end
section
section
variable {P:aI0} {ids:aH4} {K:aW} {B:ay} {o:Oper}
abbrev DG (T b:Nat):aN:=.c (.one (.bK (.iface T (.pointer (some ⟨b,0,none⟩)))))
abbrev Sj:aN:=.c (.one (.bK .nilIface))
def aeC {T e f:Nat} {name:String} {c9:aJ3} {m:Method} {p:aI8} {w:aH9} {fuel:Nat} (hi:P.info? T=some c9) (aC:c9.methods.find? (·.name == name)=some m) (ag:m.path= #[]) (kw:m.func=some (f,true)) (aZ:P.underlying T=some (.pointer e)):
  (Go.method (fuel+1) T p name).run P w= .ok (f,p) w:=by
 unfold Go.method;simp[typeInfo,hi,aC,ag,kw,Go.follow,Go.receiverAt,underlying,aZ,Place.get,go_sem]
def GX {x:aI2} {T e b:Nat} (ai:o.op= .makeInterface T x) (aZ:P.underlying T=some (.pointer e)) (hx:a1 K x= .c (.one (.d (.aL (some b))))) (N:Nat):bx P N ids o K B (DG T b) ⟨[],[],[]⟩:=by
 have m1:x∈o.op.operands:=aE4
 refine bx.val fun K' B' g1 g2 C ρ F a w ak au=>?_
 have af:a.eval x= .pointer (some ⟨b,0,none⟩):=au.ev ((g1 x m1).trans hx);refine⟨.iface T (.pointer (some ⟨b,0,none⟩)),?_,rfl⟩;simp only[execOp,ai,af];simp[Instr.makeInterface,underlying,aZ,go_sem]
def Sk {T:Nat} {jc:Array (String×TypeId)} {v:aI8} {w:aH9} (aZ:P.underlying T=some (.interface jc)) (bz:Nat) (d:Nat):(Op.equalIn (d+1) T (.iface bz v) .nilIface).run P w= .ok false w:=by unfold Op.equalIn;simp[underlying,aZ,go_sem]
def Sl {T:Nat} {jc:Array (String×TypeId)} {w:aH9} (aZ:P.underlying T=some (.interface jc)) (d:Nat):(Op.equalIn (d+1) T .nilIface .nilIface).run P w= .ok true w:=by unfold Op.equalIn;simp[underlying,aZ,go_sem]
def pO {x:aI2} {T gc bz b:Nat} {jc:Array (String×TypeId)} (ai:o.op= .binOp .eql T x (.const .nilIface) gc) (aZ:P.underlying T=some (.interface jc)) (hx:a1 K x=DG bz b) (N:Nat):bx P N ids o K B (qq false) ⟨[],[],[]⟩:=by
 have m1:x∈o.op.operands:=aE4
 refine bx.val fun K' B' g1 g2 C ρ F a w ak au=>?_
 have af:a.eval x= .iface bz (.pointer (some ⟨b,0,none⟩)):=au.ev ((g1 x m1).trans hx);refine⟨.bool false,?_,rfl⟩;simp only[execOp,ai,af];have ao:(Op.equal T (.iface bz (.pointer (some ⟨b,0,none⟩))) .nilIface).run P w= .ok false w:=Sk aZ bz 9999;simp[eqGuard,binOp,ao,Act.eval,go_sem]
def GY {x:aI2} {T gc bz b:Nat} {jc:Array (String×TypeId)} (ai:o.op= .binOp .neq T x (.const .nilIface) gc) (aZ:P.underlying T=some (.interface jc)) (hx:a1 K x=DG bz b) (N:Nat):bx P N ids o K B (qq true) ⟨[],[],[]⟩:=by
 have m1:x∈o.op.operands:=aE4
 refine bx.val fun K' B' g1 g2 C ρ F a w ak au=>?_
 have af:a.eval x= .iface bz (.pointer (some ⟨b,0,none⟩)):=au.ev ((g1 x m1).trans hx);refine⟨.bool true,?_,rfl⟩;simp only[execOp,ai,af];have ao:(Op.equal T (.iface bz (.pointer (some ⟨b,0,none⟩))) .nilIface).run P w= .ok false w:=Sk aZ bz 9999;simp[eqGuard,binOp,ao,Act.eval,go_sem]
def Sm {x:aI2} {T gc:Nat} {jc:Array (String×TypeId)} (ai:o.op= .binOp .eql T x (.const .nilIface) gc) (aZ:P.underlying T=some (.interface jc)) (hx:a1 K x=Sj) (N:Nat):bx P N ids o K B (qq true) ⟨[],[],[]⟩:=by
 have m1:x∈o.op.operands:=aE4
 refine bx.val fun K' B' g1 g2 C ρ F a w ak au=>?_
 have af:a.eval x= .nilIface:=au.ev ((g1 x m1).trans hx);refine⟨.bool true,?_,rfl⟩;simp only[execOp,ai,af];have ao:(Op.equal T .nilIface .nilIface).run P w= .ok true w:=Sl aZ 9999;simp[eqGuard,binOp,ao,Act.eval,go_sem]
def qE {x:aI2} {T gc:Nat} {jc:Array (String×TypeId)} (ai:o.op= .binOp .neq T x (.const .nilIface) gc) (aZ:P.underlying T=some (.interface jc)) (hx:a1 K x=Sj) (N:Nat):bx P N ids o K B (qq false) ⟨[],[],[]⟩:=by
 have m1:x∈o.op.operands:=aE4
 refine bx.val fun K' B' g1 g2 C ρ F a w ak au=>?_
 have af:a.eval x= .nilIface:=au.ev ((g1 x m1).trans hx);refine⟨.bool false,?_,rfl⟩;simp only[execOp,ai,af];have ao:(Op.equal T .nilIface .nilIface).run P w= .ok true w:=Sl aZ 9999;simp[eqGuard,binOp,ao,Act.eval,go_sem]
def aeD {ev:Operand->Value} {f:aI9} {c:Call} {x:aI2} {xs:aJ8} {p:aI8} {w:aH9} {T e:Nat} {name:String} {c9:aJ3} {m:Method} {fuel:Nat} (hf:jp P f=true) (ai:o.op= .call c) (E:c.callee= .invoke x name) (G:c.args.toList=xs) (vh:ev x= .iface T p)
  (hn:P.types.size+Made.depth=fuel+1) (hi:P.info? T=some c9) (aC:c9.methods.find? (·.name == name)=some m) (ag:m.path= #[]) (kw:m.func=some (f,true)) (aZ:P.underlying T=some (.pointer e)):(execOp ev o).run P w= .ok (.enter f (p::xs.map ev).toArray) w:=by
 have e6:c.args=xs.toArray:=by rw[<-G]
 have aeE:=aeC (w:=w) (p:=p) (fuel:=fuel) hi aC ag kw aZ;obtain⟨rC,args,ct⟩:=c;simp only at E e6;subst E e6;unfold jp at hf
 split at hf
 .rename_i fn aeF;simp only[av3,ax5,beq_eq_false_iff_ne] at hf;have G: ¬fn.body=none:=fun e=>by rw[e] at hf;simp at hf
  have aeG:(Go.method (P.types.size+100) T p name).run P w= .ok (f,p) w:=by rw[show P.types.size+100=fuel+1 from hn];exact aeE
  simp[execOp,ai,resolve,invoke,vh,callMethod,callFunc,go_sem,aeF,aeG];rw[mu hf.1,mu G,ax3 (by rw[au3];exact at0 _)]
 .cases hf
def aeH {f:aI9} {c:Call} {x:aI2} {b:Nat} {xs:aJ8} {aK:ay} {res:aN} {aO:ay} {T e:Nat} {name:String} {c9:aJ3} {m:Method} {fuel:Nat} (ai:o.op= .call c) (E:c.callee= .invoke x name) (G:c.args.toList=xs) (hx:a1 K x=DG T b)
  (hn:P.types.size+Made.depth=fuel+1) (hi:P.info? T=some c9) (aC:c9.methods.find? (·.name == name)=some m) (ag:m.path= #[]) (kw:m.func=some (f,true)) (aZ:P.underlying T=some (.pointer e))
  (hf:Fn P f (.c (.one (.d (.aL (some b))))::xs.map (a1 K)) aK [] res aO) (h7:la B aK) (bu:mV aK [] aO=true) (N:Nat):
  bx P N ids o K B res ⟨ck aK,[],iC aK aO⟩:=by
 have mem: ∀aH∈xs,aH∈o.op.operands:=fun aH aM=>by
  rw[ai];simp only[Op.operands,Call.operands,aB5];exact .inr (aC0.1 (by rw[G];exact aM))
 have yu:x∈o.op.operands:=by
  rw[ai];simp only[Op.operands,Call.operands,aB5,E];exact .inl aD9
 obtain⟨v,e,⟨rfl,rfl⟩,ax,_⟩:cM P N ids o K B (fun v e=>v=res/\e=⟨ck aK,[],iC aK aO⟩):=CZ (args:=.c (.one (.d (.aL (some b))))::xs.map (a1 K)) mem (fun K' ρ I a w g1 au=>by
  have e:a.eval x= .iface T (.pointer (some ⟨b,0,none⟩)):=au.ev ((g1 x yu).trans hx);refine⟨.pointer (some ⟨b,0,none⟩)::xs.map a.eval,fun fP=>aeD fP ai E G e hn hi aC ag kw aZ,aD9,fun i v x aB hx=>?_⟩
  match i with
  |0=>
   simp only[au4,at5] at aB hx;subst aB hx;exact rfl
  |i+1=>exact Au mem g1 au i v x aG0 aG7) ⟨aK,[],res,aO,hf,h7,by rw[bu];rfl,by rw[sF];exact⟨rfl,rfl⟩⟩
 exact ax
end
end
end Go.Proofs.YtgclhiekndohdaaGreat
