/-
A part of the proof of this claim: lemmas, with no condition beyond what each says.
-/
import Derived.Deep.LoopGhost
import Derived.Orders
import Derived.OrdersIn
import Derived.TacticsIn
import Derived.Sort.LoopGhostIn
import Derived.RangeFuncRecord
import Derived.Scope
import Derived.Test.YtgclhiekndohdaaGreatRows
import Derived.Test.YtgclhiekndohdaaGreatProg
import Derived.Deep.Slices
import Derived.Deep.Fields
import Derived.OpenShut
import Derived.WalkKit
import Derived.ProofKit
import Derived.JoinedCond
import Derived.Below
import Derived.Carry
import Derived.ChangeSame
import Derived.Maps.RangeRun
import Derived.Test.YtgclhiekndohdaaGreatZp1
set_option linter.all false
set_option maxRecDepth 100000
set_option maxHeartbeats 0
namespace Go.Proofs.YtgclhiekndohdaaGreat
open Go.RowKit Go.Proofs _root_.Go.Proofs.Tryz Tryz
section
def sF (N:Nat):List Oper->Bool
 | []=>true
 |o::l=>(match o.dst with
  |some d=>Nat.blt d N
  |none=>true)&&(match o.op with
  | .defer _=>false
  |_=>true)&&sF N l
section
variable {P:aD9} {b:Frame} {a:Act} {k:List Item} {cs:List Frame} {w:aD8}
def yL {c:Code}:step P (lone (b.atR a (.code (.scope c)::k)) cs w)= .next (lone (b.atR a (.code c:: .inScope c::k)) cs w):=
 step_lone_go (by simp[stepG,stepG.exec,Frame.atR])
def Yw {c:Code}:step P (lone (b.atR a (.inScope c::k)) cs w)= .next (lone (b.atR a k) cs w):=
 step_lone_go (by simp[stepG,stepG.exec,Frame.atR])
def Yx {F:Fence} {n:Nat} {Q:Exit->Act->World->Prop} {c:Code} (h:c.wpIn F n P (Exit.noGoto Q) a w):(Code.scope c).wpIn F n P Q a w:=by
 intro b k cs Yy O aw;have au:(lone (b.atR a (.code (.scope c)::k)) cs w).fenced P F:=fenced_calm O aw rfl;obtain⟨e,Bi,Bj,aY,yM⟩:=h b (.inScope c::k) cs Yy O aw
 cases e with
 |normal=>exact⟨.normal,Bi,Bj,aY,.head au yL (StepsIn.trans yM (.one (fenced_calm O aw rfl) Yw))⟩
 |exit id=>
  have hx:exitTo id (.inScope c::k)=exitTo id k:=by simp[exitTo]
  exact⟨.exit id,Bi,Bj,aY,fun d4 Z=>.head au yL (yM.1 d4 (by rw[hx];exact Z)),fun Iv Z=>let⟨k₁,E,G⟩:=yM.2 Iv (by rw[hx];exact Z);⟨k₁,E,.head au yL G⟩⟩
 |goto l=>exact aY.elim
 |ret=>exact⟨_,Bi,Bj,aY,.of_steps (.one au yL) yM⟩
 |panic ch=>exact⟨_,Bi,Bj,aY,.of_steps (.one au yL) yM⟩
 |outgrown=>exact⟨_,Bi,Bj,aY,.of_steps (.one au yL) yM⟩
end
def iK (P:aD9) (N:Nat):Code->Bool
 | .skip=>true
 | .region _ dl tC=>sF N dl.toList&&(!tC||P.follows .mixedOrders)
 | .seq a b=>iK P N a&&iK P N b
 | .cond _ x y=>iK P N x&&iK P N y
 | .block _ b=>iK P N b
 | .loop b=>iK P N b
 | .rangeFunc _ _ a b=>iK P N a&&iK P N b
 | .scope b=>iK P N b
 | .label _=>true
 | .exit _=>true
 | .ret=>true
 |_=>false
section
variable {P:aD9} {aQ:df} {N:Nat} {ids:aD3}
def Bk {dl:Array Oper} {a:Act} {j s:Nat} (ax:(dl[j]?).bind (·.dst)=some s) {v:aE7} (ay:a.tmps.getD s undef=v):
  (∀b,v= .bool b->yielded dl a.tmps j=some b)/\((∀b,v≠ .bool b)->yielded dl a.tmps j=none):=by
 unfold yielded;rw[ax];simp only[Option.bind_some]
 cases cq:a.tmps[s]? with
 |none=>
  have ay:v=undef:=by rw[<-ay];simp[cq]
  subst ay;exact⟨fun b O=>(by simp[undef] at O),fun _=>rfl⟩
 |some x=>
  have ay:v=x:=by rw[<-ay];simp[cq]
  subst ay;refine⟨fun b O=>by rw[O],fun h=>?_⟩
  cases v <;>first |rfl |exact ap0 rfl (h _)
def Yz {all:aE9} {j s:Nat} (h:A1 all j=some s):((all.toArray)[j]?).bind (·.dst)=some s:=by
 unfold A1 at h;simp only[List.getElem?_toArray]
 split at h
 .rename_i o ai;rw[ai];exact h
 .cases h
def yN {all:aE9} {K:aW} {o:Oper} {t:Bool} (h:tA all K o.guard=some t) {ρ:Nat->bm} {I:Nat->Prop} {a:Act} {w:aD8} (ar:eh K ρ I a w):Region.wanted o (yielded all.toArray a.tmps)=t:=by
 unfold tA at h;unfold Region.wanted
 split at h
 .rename_i aV;injection h with h
  simp[aV,h]
 .rename_i j want aV;simp only[aV]
  split at h
  .cases h
  .rename_i s ax;have ax:=Yz ax;have ay:=ar s
   split at h
   .rename_i ak;rw[ak] at ay;have:=(Bk (a:=a) ax (show a.tmps.getD s undef= .bool true from ay)).1 true rfl;injection h with h
    rw[this,<-h];rfl
   .rename_i ak;rw[ak] at ay;have:=(Bk (a:=a) ax (show a.tmps.getD s undef= .bool true from ay)).1 true rfl;injection h with h
    rw[this,<-h];rfl
   .rename_i ak;rw[ak] at ay;have:=(Bk (a:=a) ax (show a.tmps.getD s undef= .bool false from ay)).1 false rfl;injection h with h
    rw[this,<-h];rfl
   .rename_i ak;rw[ak] at ay;have:=(Bk (a:=a) ax (show a.tmps.getD s undef= .bool false from ay)).1 false rfl;injection h with h
    rw[this,<-h];rfl
   .rename_i ak;rw[ak] at ay;have:=(Bk (a:=a) ax (show a.tmps.getD s undef=undef from ay)).2 (by simp[undef]);injection h with h
    rw[this,<-h];simp
   .cases h
def eS.undef {C:eZ} {K:aW} {B:av} {a:Act} {w:aD8} (h:eS N ids C K B a w) (d:aE2) (H: ∀e,d=some e->e < N):eS N ids C (l5 d .undef K) B (a.put d undef) w:=by obtain⟨E,G,ρ,F,ah,ar⟩:=h;exact⟨kf.trans E,kg.trans G,ρ,F,ah,ar.kh (fun e U=>by rw[E];exact H e U) rfl⟩
def eS.lit {C:eZ} {K:aW} {B:av} {a:Act} {w:aD8} {d:Nat} {b:Bool} (h:eS N ids C ((d,.c (.one (.d (.bool b))))::K) B a w):eS N ids C ((d,.c (.one (.d (.lit b))))::K) B a w:=by
 obtain⟨E,G,ρ,F,ah,ar⟩:=h;refine⟨E,G,ρ,F,ah,fun s=>?_⟩;have:=ar s;rw[ke] at this⊢
 split at this
 .rw[vj ‹_›];exact this
 .rw[mu ‹_›];exact this
def OW {n:Nat} {r:aE2} {f:aE8} {args:aF6} {w:aD8} {bn:Ending->World->Prop} (h:Calls P f args w bn):CallsIn (ob r) n P f args w bn:=(callsIn_wide (n:=n)).2 h
def OX {n:Nat} {r:aE2} {f:aE8} {args:aF6} {w:aD8} {bn:Ending->World->Prop} (h:CallsIn (ob r) n P f args w bn):Calls P f args w bn:=(callsIn_wide (n:=n)).1 h
def YA {n:Nat} {r:aE2} {row:String} {args:aF6} {w:aD8} {bn:Value->World->Prop} (h:Rows P row args w bn):RowsIn (ob r) n P row args w bn:=fun c cs _=>by
 obtain⟨v,w',E,G⟩:=h c cs;exact⟨v,w',E,stepsIn_wide.2 G⟩
def Iw {o:Oper} (h:(match o.op with
 | .defer _=>false
 |_=>true)=true): ∀c,o.op≠ .defer c:=fun c e=>by rw[e] at h;cases h
def Bl {r:aE2} {o:Oper} (dx: ∀c,o.op≠ .defer c) {a:Act} {w:aD8} {next:Act->World->Prop} {Q:Exit->Act->World->Prop} (h:o.wp P a w next Q):o.wpIn (ob r) 0 P a w next Q:=by
 refine⟨fun _ _=>trivial,?_⟩;rw[Oper.semAt_eq _ _ _ dx];unfold Oper.wp at h;generalize(execOp a.eval o).run P w=q at*
 cases q with
 |ok x w'=>
  cases x <;>simp only[Oper.upon,Oper.uponIn] at h⊢ <;>
   first
    |exact h
    |exact h.elim
    |exact⟨fun ax=>ap0 ax az9,OW h⟩
    |exact⟨fun ax=>ap0 ax az9,YA h⟩
 |halt x w'=>cases x <;>simp only[Oper.upon,Oper.uponIn] at h⊢ <;>exact h
def wS (bk:d5 P aQ) (all:aE9): ∀(l:aE9) (i:Nat) (K:aW) (B:av) (gg:List kJ) (k:aW->av->List kJ->Prop),sF N l=true->ss P aQ ids all i l K B gg k-> ∀(C:eZ) (a:Act) (w:aD8),eS N ids C K B a w->
  ∀(r:aE2) (Q:Exit->Act->World->Prop),(∀K' B' YB,k K' B' YB-> ∀a' w',eS N ids C K' B' a' w'->Q .normal a' w')->wpListIn (ob r) 0 P all.toArray Q l a w
 | [],i,K,B,gg,k,_,h,C,a,w,ax,r,Q,Z=>wpListIn_nil (Z K B gg h a w ax)
 |o::l,i,K,B,gg,k,H,h,C,a,w,ax,r,Q,Z=>by
  simp only[sF,ao8] at H;obtain⟨⟨va,dx⟩,dd⟩:=H;have dx:=Iw dx;have br: ∀d,o.dst=some d->d < N:=fun d e=>by rw[e] at va;simpa[Nat.blt_eq] using va
  have d6:=ax;obtain⟨_,_,ρ,F,ah,ar⟩:=d6;rw[N3] at h;unfold DX at h;simp only[HD] at h;refine wpListIn_step fun fF Bm=>?_
  split at h
  .exact h.elim
  .rename_i hw;rw[mu (by rw[yN hw ar];simp)];refine⟨fun _ _=>trivial,Bm _ _ ?_⟩;have a8:=ax.undef o.dst br
   split at h
   .rename_i d e;rw[e] at a8⊢;exact wS bk all l _ _ _ _ k dd h C _ w a8 r Q Z
   .rename_i e;rw[e] at a8⊢;exact wS bk all l _ _ _ _ k dd h C _ w a8 r Q Z
  .rename_i hw;rw[vj (yN hw ar)];obtain⟨v,e,h,aq,hf⟩:=Iu bk h;refine Bl dx (aq K B (fun _ _=>rfl) (fun _ _=>rfl) hf C a w ax br fF Q fun a' w' f0=>Bm _ _ ?_)
   split at h
   .rename_i al;rw[al] at f0;exact wS bk all l _ _ _ _ k dd h C _ w' f0 r Q Z
   .rename_i d al;rw[al] at f0
    split at h
    .rename_i b aV
     cases b with
     |true=>exact wS bk all l _ _ _ _ k dd (h.1 rfl) C _ w' f0.lit r Q Z
     |false=>exact wS bk all l _ _ _ _ k dd (h.2 rfl) C _ w' f0.lit r Q Z
    .exact wS bk all l _ _ _ _ k dd h C _ w' f0 r Q Z
def yO (P:aD9) (aQ:df) (N:Nat) (ids:aD3):Prop:= ∀(id:Nat) (dl:Array Oper) (K:aW) (B:av) (k:aW->av->Prop),sF N dl.toList=true->P.follows .mixedOrders=true->
 ss P aQ ids dl.toList 0 dl.toList K B [] (fun K' B' gg=>u4 K B dl.toList gg=true/\k K' B')-> ∀(C:eZ) (a:Act) (w:aD8),eS N ids C K B a w->
 ∀(r:aE2) (Q:Exit->Act->World->Prop),(∀K' B',k K' B'-> ∀a' w',eS N ids C K' B' a' w'->Q .normal a' w')->(Code.region id dl true).wpIn (ob r) 0 P Q a w
def eS.eval {C:eZ} {K:aW} {B:av} {a:Act} {w:aD8} (h:eS N ids C K B a w) {c:aE0} {b:Bool} (J:a1 K c= .c (.one (.d (.lit b)))\/a1 K c= .c (.one (.d (.bool b)))):a.eval c= .bool b:=by
 obtain⟨_,_,ρ,F,ah,ar⟩:=h;rcases J with J |J
 .exact ar.lit J
 .exact ar.bool J
def yP (bk:d5 P aQ) (cx:yO P aQ N ids) (stops:aD3): ∀(c:Code) (K:aW) (B:av) (Q:nt->aW->av->Prop),iK P N c=true->iI P aQ N ids stops c K B Q->bB P N ids c K B Q:=by
 intro c
 induction c with
 |skip=>exact fun K B Q _ h r aw C il aY a w ax=>wpIn_skip (aY .gv K B C.ds (fun _=>rfl) h a w ax)
 |region id dl tC=>
  intro K B Q J h;rw[WU] at h;simp only[iK,ao8,au3,aq9] at J
  split at h
  .exact h
  .split at h
   .intro r aw C il aY a w ax;refine wpIn_region_list ?_;have:=wS bk dl.toList dl.toList 0 K B [] _ J.1 h C a w ax r il (fun K' B' _ Z a' w' d6=>aY .gv K' B' C.ds (fun _=>rfl) Z a' w' d6);simpa using this
   .intro r aw C il aY a w ax;exact cx id dl K B (Q .gv) J.1 (J.2.resolve_left az9) h C a w ax r il (fun K' B' Z a' w' d6=>aY .gv K' B' C.ds (fun _=>rfl) Z a' w' d6)
 |seq x y n4 n9=>
  intro K B Q J h r aw C il aY a w ax;simp only[iK,ao8] at J;rw[WV] at h;refine wpIn_seq (n4 K B _ J.1 h r aw C _ ?_ a w ax);intro e K' B' ds hL U a' w' d6
  cases e with
  |gv=>exact n9 K' B' Q J.2 U r aw (C.at ds) il (fun e K B wT Ix=>aY e K B wT fun aG=>(Ix aG).trans (hL aG)) a' w' d6
  |ex i=>exact aY (.ex i) K' B' ds hL U a' w' d6
  |ret=>exact aY .ret K' B' ds hL U a' w' d6
 |cond c x y n4 n9=>
  intro K B Q J h r aw C il aY a w ax;simp only[iK,ao8] at J;rw[WW] at h
  split at h
  .rename_i ak;exact wpIn_cond_true (ax.eval (.inl ak)) (n4 K B Q J.1 h r aw C il aY a w ax)
  .rename_i ak;exact wpIn_cond_false (ax.eval (.inl ak)) (n9 K B Q J.2 h r aw C il aY a w ax)
  .rename_i b ak
   cases b with
   |true=>exact wpIn_cond_true (ax.eval (.inr ak)) (n4 K B Q J.1 (h.1 rfl) r aw C il aY a w ax)
   |false=>exact wpIn_cond_false (ax.eval (.inr ak)) (n9 K B Q J.2 (h.2 rfl) r aw C il aY a w ax)
  .exact h.elim
 |block i b bl=>
  intro K B Q J h r aw C il aY a w ax;rw[WX] at h;refine wpIn_block (bl K B _ J h r aw C _ ?_ a w ax);intro e K' B' ds hL U a' w' d6
  cases e with
  |gv=>exact aY .gv K' B' ds hL U a' w' d6
  |ret=>exact aY .ret K' B' ds hL U a' w' d6
  |ex j=>
   simp only[nt.to,Exit.inBlock] at U⊢
   split at U
   .rename_i e;have:=ap8 e;subst this;rw[vj rfl];exact aY .gv K' B' ds hL U a' w' d6
   .rename_i e;rw[mu (fun x=>by subst x;simp at e)];exact aY (.ex j) K' B' ds hL U a' w' d6
 |loop b bl=>exact fun K B Q J h=>h
 |rangeFunc f bE x b n4 n9=>exact fun K B Q J h=>h
 |scope b bl=>
  intro K B Q J h r aw C il aY a w ax;rw[WY] at h;refine Yx (bl K B _ J h r aw C _ ?_ a w ax);intro e K' B' ds hL U a' w' d6
  cases e with
  |gv=>exact aY .gv K' B' ds hL U a' w' d6
  |ret=>exact aY .ret K' B' ds hL U a' w' d6
  |ex j=>exact aY (.ex j) K' B' ds hL U a' w' d6
 |label l=>exact fun K B Q J h r aw C il aY a w ax=>wpIn_label (aY .gv K B C.ds (fun _=>rfl) h a w ax)
 |exit i=>exact fun K B Q J h r aw C il aY a w ax=>wpIn_exit (aY (.ex i) K B C.ds (fun _=>rfl) h a w ax)
 |ret=>exact fun K B Q J h r aw C il aY a w ax=>wpIn_ret (aY .ret K B C.ds (fun _=>rfl) h a w ax)
 |_=>intro K B Q J h;simp[iK] at J
def ac (ids:aD3) (K:aW) (B:av) (K':aW) (B':av):Prop:= ∀(N:Nat) (C:eZ) (a:Act) (w:aD8),eS N ids C K B a w->eS N ids C K' B' a w
def ac.refl (K:aW) (B:av):ac ids K B K B:=fun _ _ _ _ h=>h
def ac.trans {K K' OY:aW} {B B' OZ:av} (h:ac ids K B K' B') (h':ac ids K' B' OY OZ):ac ids K B OY OZ:=fun N C a w ax=>h' N C a w (h N C a w ax)
def bB.le {c:Code} {K K':aW} {B B':av} {Q:nt->aW->av->Prop} (h:ac ids K B K' B') (cq:bB P N ids c K' B' Q):bB P N ids c K B Q:=fun r aw C il aY a w ax=>cq r aw C il aY a w (h N C a w ax)
def bB.loop (bk:d5 P aQ) (cx:yO P aQ N ids) (stops:aD3) {b:Code} (J:iK P N b=true) {X:Type} (iL:X->aW) (eT:X->av) (inv:X->Prop) (tR:X->Nat) (gC:X) {K:aW} {B:av} {Q:nt->aW->av->Prop} (au:inv gC) (hh:ac ids K B (iL gC) (eT gC))
  (h: ∀x,inv x->iI P aQ N ids stops b (iL x) (eT x) (fun e K B=>match e with
   | .gv=> ∃y,inv y/\tR y < tR x/\ac ids K B (iL y) (eT y)
   | .ex i=>Q (.ex i) K B
   | .ret=>Q .ret K B)):bB P N ids (.loop b) K B Q:=by
 intro r aw C il aY a w ax;refine wpIn_loop_ghost (fun n a w=> ∃x ds,(su ids=true->ds=C.ds)/\inv x/\tR x=n/\eS N ids (C.at ds) (iL x) (eT x) a w) (tR gC) ⟨gC,C.ds,fun _=>rfl,au,rfl,hh N C a w ax⟩ ?_;rintro n a w ⟨x,ds,hL,hx,rfl,ax⟩;refine yP bk cx stops b _ _ _ J (h x hx) r aw (C.at ds) _ ?_ a w ax;intro e K' B' wT Ix U a' w' d6;have Iy:su ids=true->wT=C.ds:=fun aG=>(Ix aG).trans (hL aG)
 cases e with
 |gv=>
  obtain⟨y,aC,br,YC⟩:=U;exact⟨tR y,br,y,wT,Iy,aC,rfl,YC N (C.at wT) a' w' d6⟩
 |ex i=>exact aY (.ex i) K' B' wT Iy U a' w' d6
 |ret=>exact aY .ret K' B' wT Iy U a' w' d6
def ol:Nat->List aN->aW
 |_,[]=>[]
 |i,v::l=>(i,v)::ol (i+1) l
def Bn: ∀(l:List aN) (i s:Nat),dQ (ol i l) s=(if i<=s then(l[s - i]?).getD (.c (.one .any)) else .c (.one .any))
 | [],i,s=>by simp[ol,dQ]
 |v::l,i,s=>by
  simp only[ol];rw[ke,Bn l (i+1) s]
  by_cases h:i=s
  .subst h;simp
  .rw[mu h]
   by_cases G:i<=s
   .rw[vj az7,vj G,show s - i=(s - (i+1))+1 by omega];rfl
   .rw[mu az7,mu G]
def wU (aQ:df) (K:aW) (B:av):List ResultVar->Option (List dH)
 | []=>some []
 | .tmp t::l=>match dQ K t,wU aQ K B l with
  | .c x,some r=>some (x::r)
  |_,_=>none
 | .cell t T::l=>match dQ K t,wU aQ K B l,aQ.find T with
  | .c (.one (.ptr c o)),some r,some ti=>match ae B c with
   |some (.cells m)=>match ti.row with
    |true=>match Nat.ble (o+ti.size) m.length with
     |true=>some (.agg ((m.drop o).take ti.size)::r)
     |false=>none
    |false=>match m[o]? with
     |some s=>some (.one s::r)
     |none=>none
   |_=>none
  |_,_,_=>none
def sG (tmps:aF6) (r:ResultVar):Sem Value:=match r with
 | .tmp t=>pure (tmps.getD t undef)
 | .cell ad t=>do loadVar t (<-asAddr (tmps.getD ad undef))
def Iz:List dH->aN
 | [x]=>.c x
 |l=>.cm l
def Ei (bk:d5 P aQ) {ρ:Nat->bm} {F:Nat->Nat->Prop} {C:eZ} {K:aW} {B:av} {a:Act} {w:aD8} (ah:Mem ids C B ρ F w) (ar:eh K ρ (bX C B F w) a w): ∀(l:List ResultVar) (r:List dH),wU aQ K B l=some r->
  ∃aB:List Value,(l.mapM (sG a.tmps)).run P w= .ok aB w/\iv ρ (bX C B F w) w r aB
 | [],r,h=>by
  simp only[wU,ap5] at h;subst h;exact⟨[],az9,rfl⟩
 | .tmp t::l,r,h=>by
  unfold wU at h
  split at h
  .rename_i x IA hx aw;injection h with h
   subst h;obtain⟨aB,E,G⟩:=Ei bk ah ar l IA aw;have ay:=ar t;rw[hx] at ay;exact⟨_::aB,by simp[List.mapM_cons,E,sG],_,aB,rfl,ay,G⟩
  .cases h
 | .cell t T::l,r,h=>by
  unfold wU at h
  split at h
  .rename_i c o IA ti hx aw gL;obtain⟨i,d,bv⟩:=bk.at_ gL;obtain⟨aB,E,G⟩:=Ei bk ah ar l IA aw;have ay:=ar t;rw[hx] at ay;have ay:a.tmps.getD t undef= .pointer (some ⟨(ρ c).bh,o,none⟩):=ay
   split at h
   .rename_i m ak;obtain⟨bj,us,eL,O,H⟩:=ah.holds c _ ak
    split at h
    .rename_i fN
     split at h
     .rename_i hh;have hh:=aw2 hh;injection h with h
      subst h;have kL:=cb.D0 ti.size _ _ (cb.qt o _ _ H)
      have d1:=run_loadVar_mid (P:=P) w (ρ c).bh o T ((us.drop o).take ti.size) d (fun j u V=>by
       rw[au4] at V
       split at V
       .rw[ay2] at V;exact od O V
       .cases V) bv.nv (bv.row.trans fN) (by rw[bv.jW,av4,bv.size,cb.length _ _ kL,aq0,au8];congr 1;omega)
      exact⟨_::aB,by simp[List.mapM_cons,sG,ay,asAddr,d1,E],_,aB,rfl,⟨_,rfl,kL⟩,G⟩
     .cases h
    .rename_i fN
     split at h
     .rename_i s ax;injection h with h
      subst h;obtain⟨v,tS,kL⟩:=cb.get _ _ H o s ax;have d1:=Oi (P:=P) (T:=T) bv.nv (bv.row.trans fN) (od O tS);exact⟨_::aB,by simp[List.mapM_cons,sG,ay,asAddr,d1,E],_,aB,rfl,kL,G⟩
     .cases h
   .cases h
  .cases h
def yQ (l:aD3):List kc->Bool
 | []=>true
 | .p b _::m=>l.contains b&&yQ l m
 | .d _::m=>yQ l m
def IB {l:aD3} {c:Nat}: ∀{m:List kc},yQ l m=true->lC c m=true->c∈l
 | [],_,J=>by simp[lC] at J
 | .p b o::m,h,J=>by
  simp only[yQ,ao8,ar5] at h;simp only[lC,au3] at J;rcases J with J |J
  .have:=ap8 J;subst this;exact h.1
  .exact IB h.2 J
 | .d x::m,h,J=>IB (m:=m) (by simpa[yQ] using h) (by simpa[lC] using J)
def bw.iy (l:aD3):bw->Bool
 | .ptr b _=>l.contains b
 | .own b=>l.contains b
 | .fX b _ _ _=>l.contains b
 | .os b _ _ _=>l.contains b
 | .mp b=>l.contains b
 | .cW _ m=>yQ l m
 |_=>true
def Bo (l:aD3):List bw->Bool
 | []=>true
 |s::m=>s.iy l&&Bo l m
def dH.iy (l:aD3):dH->Bool
 | .one s=>s.iy l
 | .agg m=>Bo l m
 | .jV _ _=>true
def Ej (l:aD3):List dH->Bool
 | []=>true
 |s::m=>s.iy l&&Ej l m
def aN.iy (l:aD3):aN->Bool
 | .c x=>x.iy l
 | .cm m=>Ej l m
 | .undef=>true
def ba.iy (l:aD3):ba->Bool
 | .cells m=>Bo l m
 | .bY d _=>l.contains d
 |_=>true
def vb (l:aD3):av->Bool
 | []=>true
 |(_,ch)::B=>ch.iy l&&vb l B
def bw.kp {l:aD3} {s:bw} (h:s.iy l=true) {c:Nat} (J:s.has c=true):c∈l:=by
 cases s <;>simp only[bw.iy,bw.has,ar5,Bool.false_eq_true] at h J
 all_goals first |exact IB h J |(have:=ap8 J;subst this;exact h)
def IC {l:aD3} {c:Nat}: ∀{m:List bw},Bo l m=true->l3 c m=true->c∈l
 | [],_,J=>by simp[l3] at J
 |s::m,h,J=>by
  simp only[Bo,ao8] at h;simp only[l3,au3] at J;exact J.elim (bw.kp h.1) (IC h.2)
def dH.kp {l:aD3} {s:dH} (h:s.iy l=true) {c:Nat} (J:s.has c=true):c∈l:=by
 cases s with
 |one s=>exact bw.kp h J
 |agg m=>exact IC h J
 |jV u x=>cases J
def O0 {l:aD3} {c:Nat}: ∀{m:List dH},Ej l m=true->sm c m=true->c∈l
 | [],_,J=>by simp[sm] at J
 |s::m,h,J=>by
  simp only[Ej,ao8] at h;simp only[sm,au3] at J;exact J.elim (dH.kp h.1) (O0 h.2)
def aN.kp {l:aD3} {s:aN} (h:s.iy l=true) {c:Nat} (J:s.has c=true):c∈l:=by
 cases s with
 |c s=>exact dH.kp h J
 |cm m=>exact O0 h J
 |undef=>cases J
def ba.kp {l:aD3} {s:ba} (h:s.iy l=true) {c:Nat} (J:s.has c=true):c∈l:=by
 cases s with
 |cells m=>exact IC h J
 |row e u xs=>cases J
 |map aI aK es=>cases J
 |val u x=>cases J
 |aA o=>cases J
 |bY d o=>rw[<-ap8 J];exact ar5.1 h
def wV {l:aD3}: ∀{B:av},vb l B=true-> ∀{c ch},ae B c=some ch->ch.iy l=true
 | [],_,c,ch,h=>by cases h
 |(d,x)::B,h,c,ch,J=>by
  simp only[vb,ao8] at h;rw[cn] at J
  split at J
  .injection J with J;subst J;exact h.1
  .exact wV h.2 J
section
variable {ρ:Nat->bm} {I:Nat->Prop} {w:aD8}
def YD: ∀{x y:D} {v:aE7},HF x y->gA I w x v->gA I w y v:=by
 intro x y v h ay;unfold HF at h
 split at h
 .split at h
  .rename_i e;have:=nu e;subst this h;exact ay
  .exact h.elim
 .subst h;exact ay
 .subst h;exact ay
 .subst h;exact ay
 .subst h;exact ay
 .subst h;exact ay
 .subst h;exact ay
 .subst h;exact ay
 .split at h
  .rename_i e _;subst e;have h:_=_:=h;subst h;exact ay
  .exact h.elim
 .exact h.elim
def O1 {s t:bw} {v:aE7} (h:DH s t) (ay:dU ρ I w s v):dU ρ I w t v:=by
 unfold DH at h
 split at h
 .trivial
 .exact YD h ay
 .subst h;rw[show v=_ from ay];exact⟨none,0,rfl,ao9 _,ap9 _,fun h=>ap0 h (az5 0)⟩
 .subst h;exact ay
def ID: ∀{l m:List bw} {aB:aD7},AY l m->cb ρ I w l aB->cb ρ I w m aB
 | [],[],_,_,h=>h
 |s::l,t::m,_,⟨E,G⟩,⟨v,r,e,g1,g2⟩=>⟨v,r,e,O1 E g1,ID G g2⟩
 | [],_::_,_,h,_=>h.elim
 |_::_,[],_,h,_=>h.elim
def O2 {s t:dH} {v:aE7} (h:DI s t) (ay:gu ρ I w s v):gu ρ I w t v:=by
 unfold DI at h
 split at h
 .exact O1 h ay
 .obtain⟨aB,e,ay⟩:=ay;exact⟨aB,e,ID h ay⟩
 .trivial
 .split at h
  .rename_i a8 _;subst a8;have h:_=_:=h;subst h;exact ay
  .exact h.elim
 .trivial
 .exact h.elim
def O3: ∀{l m:List dH} {aB:aD7},HG l m->iv ρ I w l aB->iv ρ I w m aB
 | [],[],_,_,h=>h
 |s::l,t::m,_,⟨E,G⟩,⟨v,r,e,g1,g2⟩=>⟨v,r,e,O2 E g1,O3 G g2⟩
 | [],_::_,_,h,_=>h.elim
 |_::_,[],_,h,_=>h.elim
def vc {s t:aN} {v:aE7} (h:sr s t) (ay:cv ρ I w s v):cv ρ I w t v:=by
 unfold sr at h
 split at h
 .exact O2 h ay
 .obtain⟨aB,e,ay⟩:=ay;exact⟨aB,e,O3 h ay⟩
 .exact ay
 .trivial
 .exact h.elim
def IE: ∀{l m:List aN},DJ l m->l.length=m.length/\ ∀(i:Nat) (t:aN),m[i]? =some t-> ∃s,l[i]? =some s/\sr s t
 | [],[],_=>⟨rfl,fun i t h=>by simp at h⟩
 |s::l,t::m,⟨E,G⟩=>by
  obtain⟨g1,g2⟩:=IE G;refine⟨by simp[g1],fun i u a8=>?_⟩
  match i with
  |0=>
   simp only[aq2,ap5] at a8;subst a8;exact⟨s,rfl,E⟩
  |i+1=>exact g2 i u (by simpa using a8)
 | [],_::_,h=>h.elim
 |_::_,[],h=>h.elim
end
def Fn.arg {P:aD9} {f:aE8} {args args':List aN} {aJ:av} {bb:aD3} {res:aN} {aP:av} (h:Fn P f args' aJ bb res aP) (ak:DJ args args'):Fn P f args aJ bb res aP:=by obtain⟨E,G⟩:=IE ak;refine⟨h.1,fun ρ F I w bW bR b' a3 a4 a5 ft=>h.2 ρ F I w bW bR b' a3 a4 (a5.trans E) fun i v x ay hx=>?_⟩;obtain⟨s,g1,g2⟩:=G i v ay;exact vc g2 (ft i s x g1 hx)
def YE {C:eZ} {ds:aD3} {B:av} {ρ:Nat->bm} {F:Nat->Nat->Prop} {w w':aD8} (h:Mem ids (C.at ds) B ρ F w) (cC:cR (fun D=>D∈ds) w w'):
  Mem ids (C.at []) B ρ F w'/\cj (bX (C.at ds) B F w) w (bX (C.at []) B F w') w':=by
 have hL: ∀b,(C.yl b\/C.py b\/C.gq.heap.size<=b/\b∉ds)->b∉ds:=fun b O H=>by
  have cX:C.gq.heap.size<=b:=(h.kH.2.2 b H).2.2;rcases O with O |O |O
  .have jo:b < C.gq.heap.size:=h.kH.2.1 b (.inl O);omega
  .have jo:b < C.gq.heap.size:=h.kH.2.1 b (.inr O);omega
  .exact O.2 H
 have a2:cj (bX (C.at ds) B F w) w (bX (C.at []) B F w') w':=fun b O=>
  ⟨⟨aq8 O.1 cC.size,O.2.1.imp id fun x=>x.imp id fun x=>⟨x.1,az9⟩,O.2.2⟩,cC.block b O.1 (hL b O.2.1)⟩
 have bj: ∀c ch,ae B c=some ch-> ∀b,F c b->w'.heap[b]? =w.heap[b]? :=fun c ch J b O=>by
  obtain⟨cE,cG⟩:=h.own c ch J b O;exact cC.block b cE (hL b (.inr cG))
 refine⟨⟨h.fr.trans cC fun i aG H=>?_,fun c ch J=>Holds.cg a2 (bj c ch J) cC.size ch (fun _ _=>rfl) (h.holds c ch J),fun c ch J b O=>?_,h.e0,h.l1,av1,h.kH.2.1,fun D cx=>by cases cx⟩,a2⟩
 .have ag:C.gq.heap.size<=i:=(h.kH.2.2 i H).2.2;have aG:i < C.gq.heap.size:=aG;omega
 .obtain⟨cE,cG⟩:=h.own c ch J b O;exact⟨aq8 cE cC.size,cG.imp id fun x=>⟨x.1,az9⟩⟩
def O4 {F:Fence} {n:Nat} {fn:Func} {tmps:aF6} {bn:Ending->World->Prop}: ∀(ds:aD3) (w:aD8),ds.Nodup->(∀D,D∈ds->D < w.heap.size/\w.heap[D]? =some (.deferred (some [])))->
  (∀w',cR (fun D=>D∈ds) w w'->LeavesIn F n P fn tmps bn [] .returning w')->LeavesInM F n P fn tmps bn (ds.map wx) .returning w
 | [],w,_,_,h=>h w (cR.refl _ w)
 |D::ds,w,hn,H,h=>by
  obtain⟨c4,ec⟩:=as2.1 hn;obtain⟨hA,iY⟩:=H D (aq4 ..);have hf:cR (fun b=>b=D) w (w.putObj D (.deferred none)):=⟨rfl,rfl,rfl,Nat.le_of_eq (World.putObj_size).symm,fun k _ Z=>World.putObj_heap_other Z⟩;refine⟨fun e=>(by cases e),.inl ⟨D,w.putObj D (.deferred none),rfl,run_takeDeferred iY,O4 ds _ ec (fun wN a2=>?_) fun w' pD=>h w' ?_⟩⟩
  .obtain⟨cE,cG⟩:=H wN (ap4 _ a2);exact⟨by rw[World.putObj_size];exact cE,(World.putObj_heap_other (r:=D) (k:=wN) fun e=>c4 (e▸a2)).trans cG⟩
  .exact(hf.mono fun i _ (aG:i=D)=>by rw[aG];exact aq4 ..).trans pD fun i _ aG=>ap4 _ aG
def O5 {F:Fence} {n:Nat} {fn:Func} {bn:Ending->World->Prop} {C:eZ} {ds:aD3} {K:aW} {B:av} {a:Act} {w:aD8} (ax:eS N ids (C.at ds) K B a w)
  (h: ∀w',eS N ids (C.at []) K B {a with defers:=[]} w'-> ∃v,(results fn a.tmps).run P w'= .ok v w'/\bn (.returned v) w'):LeavesInM F n P fn a.tmps bn a.defers .returning w:=by
 obtain⟨E,G,ρ,cd,ah,ar⟩:=ax;rw[G];refine O4 ds w ah.kH.1 (fun D cx=>⟨(ah.kH.2.2 D cx).1,(ah.kH.2.2 D cx).2.1⟩) fun w' pD=>h w' ?_
 obtain⟨bK,a2⟩:=YE ah pD;exact⟨E,rfl,ρ,cd,bK,ar.mono a2 fun _ _ _=>rfl⟩
def Ek (aQ:df) (ids bb:aD3) (i6:List ResultVar) (res:aN) (aP:av) (e:nt) (K:aW) (B:av):Prop:=match e with
 | .ex _=>False
 |_=> ∃K' B' r,ac ids K B K' B'/\wU aQ K' B' i6=some r/\sr (Iz r) res/\kI B' aP/\(res.iy (ids++bb)&&vb (ids++bb) aP&&(ci aP).all (fun c=>(ids++bb).contains c))=true
def Fn.of (bk:d5 P aQ) {f:aE8} {fn:Func} {c:Code} (stops:aD3) (args:List aN) (aJ:av) (bb:aD3) (res:aN) (aP:av) (hf:P.funcs[f]? =some fn) (O:fn.body=some c) (hn:fn.ntmps=N) (fH:iX P f=true) (J:iK P N c=true) (fk:Nat.ble args.length N=true) (cx:yO P aQ N (ci aJ)) {i6:List ResultVar} (wW:fn.results.toList=i6)
  (h:iI P aQ N (ci aJ) stops c (ol 0 args) aJ (Ek aQ (ci aJ) bb i6 res aP)):Fn P f args aJ bb res aP:=by
 refine⟨fH,?_⟩;intro ρ F I w bW aZ c9 bj ew bZ dz;have fk:=aw2 fk;refine OX (r:=none) (n:=0) (callsIn_of_wp_marks hf O trivial ?_)
 let C:eZ:=⟨w,I,fun b=> ∃c ch,ae aJ c=some ch/\F c b,ρ,[]⟩
 have rD:cj I w (bX C aJ F w) w:=fun b O=>⟨⟨aZ b O,.inl O,fun c ch J pE=>(bj c ch J b pE).2 O⟩,rfl⟩
 have ah:Mem (ci aJ) C aJ ρ F w:=⟨cR.refl _ _,fun c ch J=>Holds.cg rD (fun _ _=>rfl) (ao9 _) ch (fun _ _=>rfl) (c9 c ch J),fun c ch J b O=>⟨(bj c ch J b O).1,.inl ⟨c,ch,J,O⟩⟩,ew,fun c _=>rfl,av1,fun b O=>O.elim (aZ b) fun⟨c,ch,J,Bp⟩=>(bj c ch J b Bp).1,fun D cx=>by cases cx⟩;refine yP bk cx stops c _ _ _ J h none (fun _=>rfl) C _ ?_ _ w ⟨by simp[bZ,hn];omega,rfl,ρ,F,ah,fun s=>?_⟩
 .intro e K' B' ds _ U a' w' d6
  cases e with
  |ex i=>exact U.elim
  |_=>
   obtain⟨O6,jr,r,hh,aw,ao,hN,oT⟩:=U;refine O5 d6 fun w' d6=>?_
   obtain⟨hl,kL,ρ',F',bK,Bq⟩:=hh N C _ w' d6;obtain⟨aB,d1,hm⟩: ∃aB:List Value,(i6.mapM (sG a'.tmps)).run P w'= .ok aB w'/\iv ρ' (bX C jr F' w') w' r aB:=Ei bk bK Bq i6 r aw
   have i7: ∃x,(results fn a'.tmps).run P w'= .ok x w'/\cv ρ' (bX C jr F' w') w' (Iz r) x:=by
    have E:fn.results=i6.toArray:=by rw[<-wW]
    have G:(fn.results.mapM (sG a'.tmps)).run P w'= .ok (List.toArray aB) w':=by
     rw[E,List.mapM_toArray];simp[d1]
    have ag:results fn a'.tmps=(do let aB<-fn.results.mapM (sG a'.tmps);pure (if h:aB.size=1 then aB[0] else .tuple aB)):=rfl;rw[ag]
    match r,aB,hm,G with
    | [],_,e,G=>rw[show _=[] from e] at G;exact⟨.tuple #[],by simp[G],[],rfl,rfl⟩
    | [x],_,⟨v,s,e,ay,ax⟩,G=>
     have ax:s=[]:=ax;subst ax e;exact⟨v,by simp[G],ay⟩
    |x::y::r,_,⟨v,s,e,ay,v2,bF,al,tS,f0⟩,G=>
     subst al e;exact⟨.tuple (List.toArray (v::v2::bF)),by simp[G],_,rfl,v,_,rfl,ay,v2,bF,rfl,tS,f0⟩
   obtain⟨x,hx,rB⟩:=i7;have rB:=vc ao rB;simp only[ao8] at oT
   let tT:Nat->bm:=fun c=>if c∈bb then ρ' c else ρ c
   have qA: ∀c,c∈ci aJ++bb->tT c=ρ' c:=fun c J=>by
    show(if c∈bb then ρ' c else ρ c)=ρ' c
    split
    .rfl
    .rename_i hn;rcases ar7.1 J with h |h
     .exact(bK.l1 c h).symm
     .exact ap0 h hn
   refine⟨x,hx,x,tT,F',rfl,bK.fr,fun c J=>mu J,bX C jr F' w',?_,fun b O=>⟨O.1,?_⟩,?_,?_,?_,?_⟩
   .intro b O;have vd: ¬C.py b:=fun⟨c,ch,E,G⟩=>(bj c ch E b G).2 O
    refine⟨⟨aq8 (aZ b O) bK.fr.size,.inl O,fun c ch J pE=>?_⟩,bK.fr.block b (aZ b O) vd⟩;rcases(bK.own c ch J b pE).2 with h |h
    .exact vd h
    .have:=aZ b O;exact ap0 h.1 (Nat.not_le.2 this)
   .rcases O.2.1 with h |h |h
    .exact .inl h
    .exact .inr (.inl h)
    .exact .inr (.inr h.1)
   .intro c ch J
    have Z:c∈ci aJ++bb:=by
     have:=ar3.1 oT.2 c (f1.2 ⟨ch,J⟩);simpa only[ar5] using this
    rw[qA c Z];exact Holds.cg (cj.refl _ _) (fun _ _=>rfl) (ao9 _) ch (fun d H=>qA d (ba.kp (wV oT.1.2 J) H)) (bK.holds c ch (kn hN J))
   .intro c ch J b O;have c0:=kn hN J;exact⟨(bK.own c ch c0 b O).1,fun aG=>aG.2.2 c ch c0 O,(bK.own c ch c0 b O).2.imp id fun x=>x.1⟩
   .exact fun c ck ch ch' b E G=>bK.e0 c ck ch ch' b (kn hN E) (kn hN G)
   .exact cv.mono (cj.refl _ _) res x (fun c J=>qA c (aN.kp oT.1.1 J)) rB
 .rw[Bn];simp only[ap9,if_true,Nat.sub_zero]
  cases ax:args[s]? with
  |none=>trivial
  |some v=>
   have br:s < bW.length:=by rw[bZ];exact(ap6.1 ax).1
   simp only[av3];have hx:bW[s]? =some bW[s]:=ao7 br;have:=cv.mono rD v _ (fun _ _=>rfl) (dz s v _ ax hx);simpa[Array.getElem?_append,br,hx] using this
end
end
section
section
variable {ids:aD3} {K:aW} {B:av} {C:eZ} {ρ:Nat->bm} {F:Nat->Nat->Prop} {w:aD8}
def wX (K:aW):aW->Prop
 | []=>True
 |(s,v)::l=>sr (dQ K s) v/\wX K l
def IF: ∀{K' K:aW},wX K K'-> ∀s,sr (dQ K s) (dQ K' s)\/dQ K' s= .c (.one .any)
 | [],K,h,s=>.inr rfl
 |(t,v)::K',K,h,s=>by
  rw[ke]
  split
  .rename_i e;subst e;exact .inl h.1
  .exact IF h.2 s
def ac.sub {K':aW} {B':av} (cT:wX K K') (dh:kI B B'):ac ids K B K' B':=by
 rintro N C a w ⟨E,G,ρ,F,ah,ar⟩
 obtain⟨bK,a2⟩:=ah.step (B':=B') (ρ':=ρ) (F':=F) (w':=w) (fun c=>ae B' c=none) (fun _=>False) (cR.refl _ _) (fun c ch J _=>kn dh J) (fun _ _=>rfl) (fun _ _=>rfl) (fun _ _ h=>h) (fun _ h=>h.elim) (fun _ _ _ _ _ _ h=>h)
  (fun c ch J hn=>by rw[hn] at J;cases J) (fun c ch J hn=>by rw[hn] at J;cases J) (fun c ck ch ch' b J _ hn=>by rw[hn] at J;cases J)
 refine⟨E,G,ρ,F,bK,fun s=>?_⟩;rcases IF cT s with h |h
 .exact cv.mono a2 _ _ (fun _ _=>rfl) (vc h (ar s))
 .rw[h];trivial
def bw.dX (c:Nat) (x:D):bw->bw
 | .own b=>match Nat.beq b c with
  |true=>.d x
  |false=>.own b
 |s=>s
def El (c:Nat) (x:D):List bw->List bw
 | []=>[]
 |s::l=>s.dX c x::El c x l
def dH.dX (c:Nat) (x:D):dH->dH
 | .one s=>.one (s.dX c x)
 | .agg l=>.agg (El c x l)
 | .jV u y=>.jV u y
def IG (c:Nat) (x:D):List dH->List dH
 | []=>[]
 |s::l=>s.dX c x::IG c x l
def aN.dX (c:Nat) (x:D):aN->aN
 | .c s=>.c (s.dX c x)
 | .cm l=>.cm (IG c x l)
 | .undef=>.undef
def Em (c:Nat) (x:D):aW->aW
 | []=>[]
 |(s,v)::K=>(s,v.dX c x)::Em c x K
def ba.dX (c:Nat) (x:D):ba->ba
 | .cells l=>.cells (El c x l)
 |ch=>ch
def pF (c:Nat) (x:D):av->av
 | []=>[]
 |(b,ch)::B=>match Nat.beq b c with
  |true=>pF c x B
  |false=>(b,ch.dX c x)::pF c x B
def O7 {c:Nat} {x:D}: ∀(K:aW) (s:Nat),dQ (Em c x K) s=(dQ K s).dX c x
 | [],s=>rfl
 |(t,v)::K,s=>by
  simp only[Em];rw[ke,ke,O7 K s]
  split <;>rfl
def wY {c:Nat} {x:D}: ∀(B:av) (d:Nat),ae (pF c x B) d=if c=d then none else(ae B d).map (·.dX c x)
 | [],d=>by simp[pF,ae]
 |(b,ch)::B,d=>by
  unfold pF
  split
  .rename_i e;have:=ap8 e;subst this;rw[wY B d,cn]
   split <;>rfl
  .rename_i e;have a6:b≠c:=fun h=>by subst h;simp at e
   rw[cn,cn,wY B d]
   by_cases h:b=d
   .subst h;rw[vj rfl,vj rfl,mu (au7 a6)];rfl
   .rw[mu h,mu h]
section
variable {I I':Nat->Prop} {c:Nat} {x:D}
def dU.dX (U:cj I w I' w) (hx:gA I' w x (ρ c).fa) (s:bw) (v:aE7) (h:dU ρ I w s v):dU ρ I' w (s.dX c x) v:=by
 cases s with
 |own b=>
  unfold bw.dX;simp only
  split
  .rename_i e;have:=ap8 e;subst this;rw[show v=_ from h];exact hx
  .exact h
 |d y=>exact dU.mono (ρ':=ρ) U (.d y) v (fun _ _=>rfl) h
 |el u y o=>exact dU.mono (ρ':=ρ) U (.el u y o) v (fun _ _=>rfl) h
 |cW f l=>exact dU.mono (ρ':=ρ) U (.cW f l) v (fun _ _=>rfl) h
 |_=>exact h
def cb.dX (U:cj I w I' w) (hx:gA I' w x (ρ c).fa): ∀(l:List bw) (aB:aD7),cb ρ I w l aB->cb ρ I' w (El c x l) aB
 | [],_,h=>h
 |s::l,_,⟨v,r,e,E,G⟩=>⟨v,r,e,dU.dX U hx s v E,cb.dX U hx l r G⟩
def gu.dX (U:cj I w I' w) (hx:gA I' w x (ρ c).fa) (s:dH) (v:aE7) (h:gu ρ I w s v):gu ρ I' w (s.dX c x) v:=by
 cases s with
 |one s=>exact dU.dX U hx s v h
 |agg l=>obtain⟨aB,e,h⟩:=h;exact⟨aB,e,cb.dX U hx l aB h⟩
 |jV u y=>obtain⟨aB,e,E,G⟩:=h;exact⟨aB,e,E,cw.mono U u y _ _ (fun _ _ h=>h) G⟩
def iv.dX (U:cj I w I' w) (hx:gA I' w x (ρ c).fa): ∀(l:List dH) (aB:aD7),iv ρ I w l aB->iv ρ I' w (IG c x l) aB
 | [],_,h=>h
 |s::l,_,⟨v,r,e,E,G⟩=>⟨v,r,e,gu.dX U hx s v E,iv.dX U hx l r G⟩
def cv.dX (U:cj I w I' w) (hx:gA I' w x (ρ c).fa) (s:aN) (v:aE7) (h:cv ρ I w s v):cv ρ I' w (s.dX c x) v:=by
 cases s with
 |c s=>exact gu.dX U hx s v h
 |cm l=>obtain⟨aB,e,h⟩:=h;exact⟨aB,e,iv.dX U hx l aB h⟩
 |undef=>exact h
end
def Mem.dX (ah:Mem ids C B ρ F w) {c:Nat} {e:aE4} {u:bz} {xs:List (aa u)} (J:ae B c=some (.row e u xs)):
  Mem ids C (pF c (.cr u xs) B) ρ F w/\cj (bX C B F w) w (bX C (pF c (.cr u xs) B) F w) w/\gA (bX C (pF c (.cr u xs) B) F w) w (.cr u xs) (ρ c).fa:=by
 have bf:=ah.holds c _ J
 have sH: ∀b,bX C B F w b->bX C (pF c (.cr u xs) B) F w b:=fun b ⟨E,G,ag⟩=>⟨E,G,fun d ch H O=>by
  rw[wY] at H
  split at H
  .cases H
  .obtain⟨ch',c1,_⟩:=as4.1 H;exact ag d ch' c1 O⟩
 have mJ: ∀b,F c b->bX C (pF c (.cr u xs) B) F w b:=fun b O=>by
  obtain⟨E,G⟩:=ah.own c _ J b O;refine⟨E,.inr G,fun d ch H c7=>?_⟩;rw[wY] at H
  split at H
  .cases H
  .rename_i a6;obtain⟨ch',c1,_⟩:=as4.1 H;exact ah.e0 c d _ ch' b J c1 a6 O c7
 have dz:gA (bX C (pF c (.cr u xs) B) F w) w (.cr u xs) (ρ c).fa:=Ba bf sH mJ;have a2:cj (bX C B F w) w (bX C (pF c (.cr u xs) B) F w) w:=fun b O=>⟨sH b O,rfl⟩
 refine⟨⟨ah.fr,fun d ch H=>?_,fun d ch H=>?_,fun d cY ch ch' b H c1=>?_,ah.l1,ah.kH⟩,a2,dz⟩
 .rw[wY] at H
  split at H
  .cases H
  .obtain⟨ch',c1,rfl⟩:=as4.1 H;have:=ah.holds d ch' c1
   cases ch' with
   |cells l=>
    obtain⟨E,aB,T,G,ag⟩:=this;exact⟨E,aB,T,G,cb.dX a2 dz l aB ag⟩
   |row e u xs=>exact Holds.cg a2 (fun _ _=>rfl) (ao9 _) _ (fun _ _=>rfl) this
   |map aI aK es=>exact Holds.cg a2 (fun _ _=>rfl) (ao9 _) _ (fun _ _=>rfl) this
   |val u x=>exact Holds.cg a2 (fun _ _=>rfl) (ao9 _) _ (fun _ _=>rfl) this
   |aA o=>exact Holds.cg a2 (fun _ _=>rfl) (ao9 _) _ (fun _ _=>rfl) this
   |bY d o=>exact Holds.cg a2 (fun _ _=>rfl) (ao9 _) (.bY d o) (fun _ _=>rfl) this
 .rw[wY] at H
  split at H
  .cases H
  .obtain⟨ch',c1,_⟩:=as4.1 H;exact ah.own d ch' c1
 .rw[wY] at H c1
  split at H
  .cases H
  .split at c1
   .cases c1
   .obtain⟨cy,E,_⟩:=as4.1 H;obtain⟨cu,G,_⟩:=as4.1 c1;exact ah.e0 d cY cy cu b E G
def ac.dX (c:Nat) {e:aE4} {u:bz} {xs:List (aa u)} (J:ae B c=some (.row e u xs)):ac ids K B (Em c (.cr u xs) K) (pF c (.cr u xs) B):=by rintro N C a w ⟨E,G,ρ,F,ah,ar⟩;obtain⟨bK,a2,H⟩:=ah.dX J;exact⟨E,G,ρ,F,bK,fun s=>by rw[O7];exact cv.dX a2 H _ _ (ar s)⟩
def ac.nil (s c:Nat) (e:aE4) (u:bz) (ax:dQ K s= .c (.one .dc)) (hf:gS ids K B c=true):ac ids K B ((s,.c (.one (.own c)))::K) ((c,.row e u [])::B):=by
 rintro N C a w ⟨E,G,ρ,F,ah,ar⟩;have cC:=kK hf;obtain⟨bK,a2⟩:=ah.make (ch:=.row e u []) (w':=w) hf (Below.refl _ _) ⟨0,none,0,0⟩ (fun _=>False) (fun b h=>h.elim) (fun I _ _=>⟨fun b=>by simp[bm.fa,Value.ownBlock],fun b O=>by simp[bm.fa,Value.ownBlock] at O,[],World.ownsRow_nil _ _ _ _,he.nil u⟩);refine⟨E,G,_,_,bK,fun t=>?_⟩;rw[ke]
 split
 .rename_i e;subst e;have:=ar s;rw[ax] at this;rw[show a.tmps.getD s undef= .slice none 0 0 from this];simp only[cv,gu,dU,dr,bm.fa]
 .exact cv.mono a2 _ _ (fun d H=>dt _ _ (fun e=>by subst e;rw[cC.1 t] at H;cases H)) (ar t)
def ac.yR (b j c:Nat) (e:aE4) (u:bz) {l:List bw} (O:ae B b=some (.cells l)) (V:l[j]? =some .dc) (hf:gS ids K B c=true):ac ids K B K ((b,.cells (l.set j (.own c)))::(c,.row e u [])::B):=by
 rintro N C a w ⟨E,G,ρ,F,ah,ar⟩;have cC:=kK hf;obtain⟨bK,a2⟩:=ah.make (ch:=.row e u []) (w':=w) hf (Below.refl _ _) ⟨0,none,0,0⟩ (fun _=>False) (fun b h=>h.elim) (fun I _ _=>⟨fun b=>by simp[bm.fa,Value.ownBlock],fun b O=>by simp[bm.fa,Value.ownBlock] at O,[],World.ownsRow_nil _ _ _ _,he.nil u⟩);have yS:c≠b:=fun e=>by subst e;rw[cC.2.1] at O;cases O
 have c7:ae ((c,ba.row e u [])::B) b=some (.cells l):=by rw[cn,mu yS];exact O
 have bf:=bK.holds b _ c7
 obtain⟨i5,wZ⟩:=bK.hz (ch:=.cells (l.set j (.own c))) c7 (cR.refl _ _) (fun I U=>by
  obtain⟨g1,aB,T,g2,cX⟩:=bf;refine⟨g1,aB,T,g2,?_⟩;have cX:=cb.mono (ρ':=dm ρ c ⟨0,none,0,0⟩) U l aB (fun _ _=>rfl) cX
  have key: ∀(l:List bw) (aB:aD7) (j:Nat),l[j]? =some .dc->cb (dm ρ c ⟨0,none,0,0⟩) I w l aB->cb (dm ρ c ⟨0,none,0,0⟩) I w (l.set j (.own c)) aB:=fun l=>by
   induction l with
   |nil=>intro aB j V;simp at V
   |cons s l bl=>
    rintro _ j V ⟨v,r,rfl,cE,cG⟩
    match j with
    |0=>
     simp only[aq2,ap5] at V;subst V;refine⟨v,r,rfl,?_,cG⟩;rw[show v= .slice none 0 0 from cE];simp only[dU,dr,bm.fa]
    |j+1=>exact⟨v,r,rfl,cE,bl r j aB6 cG⟩
  exact key l aB j V cX)
 refine⟨E,G,_,_,i5,fun t=>?_⟩;exact cv.mono (a2.trans wZ) _ _ (fun d H=>dt _ _ (fun e=>by subst e;rw[cC.1 t] at H;cases H)) (ar t)
def En (c d:Nat):List kc->List kc
 | []=>[]
 | .p b o::l=>(match Nat.beq b c with
  |true=>.p d o
  |false=>.p b o)::En c d l
 | .d x::l=>.d x::En c d l
def bw.a7 (c d:Nat):bw->bw
 | .ptr b o=>match Nat.beq b c with
  |true=>.ptr d o
  |false=>.ptr b o
 | .own b=>match Nat.beq b c with
  |true=>.own d
  |false=>.own b
 | .fX b s i o=>match Nat.beq b c with
  |true=>.fX d s i o
  |false=>.fX b s i o
 | .os b s o n=>match Nat.beq b c with
  |true=>.os d s o n
  |false=>.os b s o n
 | .mp b=>match Nat.beq b c with
  |true=>.mp d
  |false=>.mp b
 | .cW f l=>.cW f (En c d l)
 |s=>s
def Eo (c d:Nat):List bw->List bw
 | []=>[]
 |s::l=>s.a7 c d::Eo c d l
def dH.a7 (c d:Nat):dH->dH
 | .one s=>.one (s.a7 c d)
 | .agg l=>.agg (Eo c d l)
 | .jV u x=>.jV u x
def IH (c d:Nat):List dH->List dH
 | []=>[]
 |s::l=>s.a7 c d::IH c d l
def aN.a7 (c d:Nat):aN->aN
 | .c s=>.c (s.a7 c d)
 | .cm l=>.cm (IH c d l)
 | .undef=>.undef
def Ep (c d:Nat):aW->aW
 | []=>[]
 |(s,v)::K=>(s,v.a7 c d)::Ep c d K
def ba.a7 (c d:Nat):ba->ba
 | .cells l=>.cells (Eo c d l)
 | .bY b o=>match Nat.beq b c with
  |true=>.bY d o
  |false=>.bY b o
 |ch=>ch
def ve (c d:Nat):av->av
 | []=>[]
 |(b,ch)::B=>match Nat.beq b c with
  |true=>(d,ch.a7 c d)::ve c d B
  |false=>(b,ch.a7 c d)::ve c d B
def O8 {c d:Nat}: ∀(K:aW) (s:Nat),dQ (Ep c d K) s=(dQ K s).a7 c d
 | [],s=>rfl
 |(t,v)::K,s=>by
  simp only[Ep];rw[ke,ke,O8 K s]
  split <;>rfl
def O9 {c d:Nat}: ∀(B:av),ae B d=none-> ∀b,ae (ve c d B) b=if b=d then(ae B c).map (·.a7 c d) else if b=c then none else(ae B b).map (·.a7 c d)
 | [],_,b=>by simp[ve,ae]
 |(t,ch)::B,H,b=>by
  rw[cn] at H;have O':t≠d:=fun e=>by rw[vj e] at H;cases H
  rw[mu O'] at H;have bl:=O9 (c:=c) B H b;unfold ve
  split
  .rename_i e;have:=ap8 e;subst this;rw[cn,cn,vj rfl,bl,cn]
   by_cases E:b=d
   .subst E;simp
   .rw[mu (au7 E),mu E,mu E]
    by_cases G:b=t
    .rw[vj G,vj G]
    .rw[mu G,mu G,mu (au7 G)]
  .rename_i e;have a6:t≠c:=fun h=>by subst h;simp at e
   rw[cn,bl,cn,cn,mu a6]
   by_cases E:b=d
   .subst E;rw[mu O',vj rfl,vj rfl]
   .rw[mu E,mu E]
    by_cases G:b=c
    .subst G;rw[mu a6,vj rfl,vj rfl]
    .rw[mu G,mu G]
     by_cases ag:t=b
     .rw[vj ag,vj ag];rfl
     .rw[mu ag,mu ag]
section
variable {I:Nat->Prop} {c d:Nat}
def hK.a7: ∀(l:List kc) (aB:aD7),lC d l=false->hK ρ I w l aB->hK (dm ρ d (ρ c)) I w (En c d l) aB
 | [],_,_,h=>h
 | .p b o::l,_,H,⟨v,r,e,E,G⟩=>by
  simp only[lC,at1] at H;refine⟨v,r,e,?_,hK.a7 l r H.2 G⟩
  split
  .rename_i e;have:=ap8 e;subst this;simp only[ww,dr] at E⊢;exact E
  .simp only[ww] at E⊢;rw[dt _ _ (fun e=>by subst e;simp at H)];exact E
 | .d x::l,_,H,⟨v,r,e,E,G⟩=>⟨v,r,e,E,hK.a7 l r (by simpa[lC] using H) G⟩
def dU.a7 (s:bw) (v:aE7) (H:s.has d=false) (h:dU ρ I w s v):dU (dm ρ d (ρ c)) I w (s.a7 c d) v:=by
 have key: ∀b,Nat.beq b d=false->(match Nat.beq b c with |true=>dm ρ d (ρ c) d=ρ b |false=>dm ρ d (ρ c) b=ρ b):=fun b O=>by
  split
  .rename_i e;rw[dr,ap8 e]
  .exact dt _ _ (fun e=>by subst e;simp at O)
 cases s with
 |ptr b o=>
  have:=key b H;unfold bw.a7;simp only
  split <;>rename_i e <;>rw[e] at this <;>simp only at this <;>simp only[dU] at h⊢ <;>rw[this] <;>exact h
 |own b=>
  have:=key b H;unfold bw.a7;simp only
  split <;>rename_i e <;>rw[e] at this <;>simp only at this <;>simp only[dU] at h⊢ <;>rw[this] <;>exact h
 |fX b s i o=>
  have:=key b H;unfold bw.a7;simp only
  split <;>rename_i e <;>rw[e] at this <;>simp only at this <;>simp only[dU] at h⊢ <;>rw[this] <;>exact h
 |os b s o n=>
  have:=key b H;unfold bw.a7;simp only
  split <;>rename_i e <;>rw[e] at this <;>simp only at this <;>simp only[dU] at h⊢ <;>rw[this] <;>exact h
 |mp b=>
  have:=key b H;unfold bw.a7;simp only
  split <;>rename_i e <;>rw[e] at this <;>simp only at this <;>simp only[dU] at h⊢ <;>rw[this] <;>exact h
 |d y=>exact h
 |el u y o=>exact h
 |cW f l=>obtain⟨aB,e,h⟩:=h;exact⟨aB,e,hK.a7 l aB H h⟩
 |dc=>exact h
 |bH v=>exact h
 |any=>exact h
def cb.a7: ∀(l:List bw) (aB:aD7),l3 d l=false->cb ρ I w l aB->cb (dm ρ d (ρ c)) I w (Eo c d l) aB
 | [],_,_,h=>h
 |s::l,_,H,⟨v,r,e,E,G⟩=>by
  simp only[l3,at1] at H;exact⟨v,r,e,dU.a7 s v H.1 E,cb.a7 l r H.2 G⟩
def gu.a7 (s:dH) (v:aE7) (H:s.has d=false) (h:gu ρ I w s v):gu (dm ρ d (ρ c)) I w (s.a7 c d) v:=by
 cases s with
 |one s=>exact dU.a7 s v H h
 |agg l=>obtain⟨aB,e,h⟩:=h;exact⟨aB,e,cb.a7 l aB H h⟩
 |jV u x=>exact h
def iv.a7: ∀(l:List dH) (aB:aD7),sm d l=false->iv ρ I w l aB->iv (dm ρ d (ρ c)) I w (IH c d l) aB
 | [],_,_,h=>h
 |s::l,_,H,⟨v,r,e,E,G⟩=>by
  simp only[sm,at1] at H;exact⟨v,r,e,gu.a7 s v H.1 E,iv.a7 l r H.2 G⟩
def cv.a7 (s:aN) (v:aE7) (H:s.has d=false) (h:cv ρ I w s v):cv (dm ρ d (ρ c)) I w (s.a7 c d) v:=by
 cases s with
 |c s=>exact gu.a7 s v H h
 |cm l=>obtain⟨aB,e,h⟩:=h;exact⟨aB,e,iv.a7 l aB H h⟩
 |undef=>exact h
end
def ac.a7 (c d:Nat) (hf:gS ids K B d=true):ac ids K B (Ep c d K) (ve c d B):=by
 rintro N C a w ⟨E,G,ρ,F,ah,ar⟩;obtain⟨g3,io,f3,l8⟩:=kK hf;have Bg:=O9 (c:=c) (d:=d) B io
 have back: ∀b ch,ae (ve c d B) b=some ch-> ∃ey cA,ae B ey=some cA/\ch=cA.a7 c d/\dm F d (F c) b=F ey/\dm ρ d (ρ c) b=ρ ey/\((b=d/\ey=c)\/(b≠d/\b≠c/\ey=b)):=fun b ch O=>by
  rw[Bg] at O
  split at O
  .rename_i e;subst e;obtain⟨cA,h,rfl⟩:=as4.1 O;exact⟨c,cA,h,rfl,dr _ _ _,dr _ _ _,.inl ⟨rfl,rfl⟩⟩
  .rename_i e
   split at O
   .cases O
   .rename_i al;obtain⟨cA,h,rfl⟩:=as4.1 O;exact⟨b,cA,h,rfl,dt _ _ e,dt _ _ e,.inr ⟨e,al,rfl⟩⟩
 have a2:cj (bX C B F w) w (bX C (ve c d B) (dm F d (F c)) w) w:=fun b ⟨cE,cG,dG⟩=>⟨⟨cE,cG,fun e ch U bj=>by
  obtain⟨ey,cA,g1,_,g2,_⟩:=back e ch U;rw[g2] at bj;exact dG ey cA g1 bj⟩,rfl⟩
 refine⟨E,G,dm ρ d (ρ c),dm F d (F c),⟨ah.fr,fun b ch O=>?_,fun b ch O x hx=>?_,fun b eb ch ch' x O c7 a6 hx dF=>?_,fun e U=>?_,ah.kH⟩,fun s=>?_⟩
 .obtain⟨ey,cA,g1,rfl,g2,cX,_⟩:=back b ch O;rw[g2,cX];have:=ah.holds ey cA g1;have fx:=f3 ey cA g1
  cases cA with
  |cells l=>
   obtain⟨co,aB,T,cZ,ei⟩:=this;exact⟨co,aB,T,cZ,cb.mono a2 _ _ (fun _ _=>rfl) (cb.a7 l aB fx ei)⟩
  |row e u xs=>exact Holds.cg (ρ':=ρ) a2 (fun _ _=>rfl) (ao9 _) (.row e u xs) (fun _ _=>rfl) this
  |map aI aK es=>exact Holds.cg (ρ':=ρ) a2 (fun _ _=>rfl) (ao9 _) (.map aI aK es) (fun _ _=>rfl) this
  |val u x=>exact Holds.cg (ρ':=ρ) a2 (fun _ _=>rfl) (ao9 _) (.val u x) (fun _ _=>rfl) this
  |aA o=>exact Holds.cg (ρ':=ρ) a2 (fun _ _=>rfl) (ao9 _) (.aA o) (fun _ _=>rfl) this
  |bY j o=>
   have G:=Holds.cg (ρ':=ρ) a2 (fun _ _=>rfl) (ao9 _) (.bY j o) (fun _ _=>rfl) this;unfold ba.a7;simp only
   split
   .rename_i e;have:=ap8 e;subst this;simp only[Holds,dr] at G⊢;exact G
   .have V:j≠d:=fun e=>by subst e;simp[ba.has] at fx
    simp only[Holds] at G⊢;rw[dt _ _ V];exact G
 .obtain⟨ey,cA,g1,_,g2,_⟩:=back b ch O;rw[g2] at hx;exact ah.own ey cA g1 x hx
 .obtain⟨ey,cA,g1,_,g2,_,jo⟩:=back b ch O;obtain⟨b1,iJ,co,_,cZ,_,eI⟩:=back eb ch' c7;rw[g2] at hx;rw[cZ] at dF;refine ah.e0 ey b1 cA iJ x g1 co (fun e=>?_) hx dF;subst e;rcases jo with⟨af,al⟩ |⟨af,al,bt⟩ <;>rcases eI with⟨c3,gi⟩ |⟨c3,gi,hM⟩
  .exact a6 (af.trans c3.symm)
  .exact gi (hM.symm.trans al)
  .exact al (bt.symm.trans gi)
  .exact a6 (bt.symm.trans hM)
 .rw[dt _ _ (fun ca=>by subst ca;exact l8 U)];exact ah.l1 e U
 .rw[O8];exact cv.mono a2 _ _ (fun _ _=>rfl) (cv.a7 _ _ (g3 s) (ar s))
end
def bB.go {P:aD9} {aQ:df} {N:Nat} {ids:aD3} {K K':aW} {B B':av} {Q:nt->aW->av->Prop} {c:Code} (bk:d5 P aQ) (cx:yO P aQ N ids) (stops:aD3) (J:iK P N c=true) (h:ac ids K B K' B') (cq:iI P aQ N ids stops c K' B' Q):bB P N ids c K B Q:=
 bB.le h (yP bk cx stops c K' B' Q J cq)
end
section
section fold
variable {T md YF:Type} (get:md->Nat->YF) (js:T->md->md) (tU:T->Nat->Prop)
def fy (m:Nat->Bool):Nat->List T->md->md
 |_,[],x=>x
 |i,t::l,x=>fy m (i+1) l (if m i then js t x else x)
variable (E: ∀t x s,¬tU t s->get (js t x) s=get x s) (G: ∀t x y s,get x s=get y s->get (js t x) s=get (js t y) s)
include E G in
def yT (m g4:Nat->Bool) (s:Nat): ∀(l:List T) (i:Nat) (x y:md),(∀j t,l[j]? =some t->tU t s->m (i+j)=g4 (i+j))->get x s=get y s->get (fy js m i l x) s=get (fy js g4 i l y) s
 | [],i,x,y,_,U=>U
 |t::l,i,x,y,h,U=>by
  unfold fy;refine yT m g4 s l (i+1) _ _ (fun j u V a8=>by rw[show i+1+j=i+(j+1) by omega];exact h (j+1) u aB6 a8) ?_
  by_cases cq:tU t s
  .have:=h 0 t rfl cq;rw[aw0] at this;rw[this]
   split
   .exact G t x y s U
   .exact U
  .have af:get (if m i then js t x else x) s=get x s:=by split;exact E t x s cq;rfl
   have al:get (if g4 i then js t y else y) s=get y s:=by split;exact E t y s cq;rfl
   rw[af,al,U]
include E G in
def II (m:Nat->Bool) (k:Nat) (s:Nat): ∀(l:List T) (i:Nat) (x:md) (t:T),l[k]? =some t->m (i+k)=false->(∀j u,k < j->l[j]? =some u->m (i+j)=true->tU t s-> ¬tU u s)->
  get (fy js (fun j=>m j||j == i+k) i l x) s=get (js t (fy js m i l x)) s
 | [],i,x,t,Z,_,_=>by simp at Z
 |u::l,i,x,t,Z,aD,ak=>by
  unfold fy
  match k with
  |0=>
   simp only[aq2,ap5] at Z;subst Z;rw[aw0] at aD;simp only[aw0,aD,BEq.rfl,Bool.or_true,if_true,Bool.false_eq_true,if_false]
   by_cases cq:tU u s
   .
    have af: ∀y,get (fy js (fun j=>m j||j == i) (i+1) l y) s=get (fy js (fun _=>false) (i+1) l y) s:=fun y=>
     yT get js tU E G _ _ s l (i+1) y y (fun j v V ay=>by
      have a6:(i+1+j == i)=false:=by rw[beq_eq_false_iff_ne];omega
      rw[a6,Bool.or_false]
      cases nx:m (i+1+j) with
      |false=>rfl
      |true=>exact ap0 ay (ak (j+1) v az7 aB6 (by rw[show i+(j+1)=i+1+j by omega];exact nx) cq)) rfl
    have al: ∀y,get (fy js m (i+1) l y) s=get (fy js (fun _=>false) (i+1) l y) s:=fun y=>
     yT get js tU E G _ _ s l (i+1) y y (fun j v V ay=>by
      cases nx:m (i+1+j) with
      |false=>rfl
      |true=>exact ap0 ay (ak (j+1) v az7 aB6 (by rw[show i+(j+1)=i+1+j by omega];exact nx) cq)) rfl
    have bt: ∀(l:List T) (i:Nat) (y:md),fy js (fun _=>false) i l y=y:=fun l=>by
     induction l with
     |nil=>exact fun _ _=>rfl
     |cons v l bl=>intro i y;unfold fy;simp[bl]
    rw[af,bt];exact G u x _ s (by rw[al,bt])
   .rw[E u _ s cq]
    exact yT get js tU E G _ _ s l (i+1) _ _ (fun j v V ay=>by
     have a6:(i+1+j == i)=false:=by rw[beq_eq_false_iff_ne];omega
     rw[a6,Bool.or_false]) (E u x s cq)
  |k+1=>
   have a6:(i == i+(k+1))=false:=by rw[beq_eq_false_iff_ne];omega
   simp only[a6,Bool.or_false];have:=II m k s l (i+1) (if m i=true then js u x else x) t (by simpa using Z) (by rw[show i+1+k=i+(k+1) by omega];exact aD) (fun j v V ay YG cq=>ak (j+1) v az7 aB9 (by rw[show i+(j+1)=i+1+j by omega];exact YG) cq);rw[<-this]
   have e:(fun j=>m j||j == i+1+k)=(fun j=>m j||j == i+(k+1)):=by
    funext j
    rw[show i+1+k=i+(k+1) by omega]
   rw[e]
end fold
section
variable {P:aD9} {aQ:df} {N:Nat} {ids:aD3}
abbrev hC:=Oper×kJ
def hD (t:hC) (K:aW):aW:=l5 t.1.dst t.2.v K
def jt (t:hC) (B:av):av:=g0 t.2.e.ih B
def Er (t:hC) (s:Nat):Prop:=t.1.dst=some s
def Pa (t:hC) (s:Nat):Prop:=s∈DZ t.2.e
def Pb (t:hC) (K:aW) (s:Nat) (h: ¬Er t s):dQ (hD t K) s=dQ K s:=by
 unfold hD l5;unfold Er at h
 split
 .rename_i d e;rw[ke,mu (fun x=>h (by rw[e,x]))]
 .rfl
def Pc (t:hC) (K K':aW) (s:Nat) (h:dQ K s=dQ K' s):dQ (hD t K) s=dQ (hD t K') s:=by
 unfold hD l5
 split
 .rw[ke,ke,h]
 .exact h
def Es: ∀(l:List (Nat×Option ba)) (B B':av) (s:Nat),ae B s=ae B' s->ae (g0 l B) s=ae (g0 l B') s
 | [],B,B',s,h=>h
 |(c,none)::l,B,B',s,h=>Es l _ _ s (by rw[hg,hg,h])
 |(c,some ch)::l,B,B',s,h=>Es l _ _ s (by rw[cn,cn,h])
def Et: ∀(l:List (Nat×Option ba)) (B:av) (s:Nat),s∉l.map (·.1)->ae (g0 l B) s=ae B s
 | [],B,s,h=>rfl
 |(c,none)::l,B,s,h=>by
  simp only[aq5,ap7,not_or] at h;unfold g0;rw[Et l _ s h.2,hg,mu (au7 h.1)]
 |(c,some ch)::l,B,s,h=>by
  simp only[aq5,ap7,not_or] at h;unfold g0;rw[Et l _ s h.2,cn,mu (au7 h.1)]
def eS.congr {C:eZ} {K K':aW} {B B':av} {a:Act} {w:aD8} (cT: ∀s,dQ K' s=dQ K s) (dh: ∀c,ae B' c=ae B c) (h:eS N ids C K B a w):eS N ids C K' B' a w:=by
 obtain⟨E,G,ρ,F,ah,ar⟩:=h
 have aZ:bX C B' F w=bX C B F w:=by
  funext b
  simp only[bX,dh]
 refine⟨E,G,ρ,F,⟨ah.fr,fun c ch J=>?_,fun c ch J=>ah.own c ch (by rw[<-dh];exact J),fun c ck ch ch' b J c0=>ah.e0 c ck ch ch' b (by rw[<-dh];exact J) (by rw[<-dh];exact c0),ah.l1,ah.kH⟩,fun s=>?_⟩
 .rw[aZ];exact ah.holds c ch (by rw[<-dh];exact J)
 .rw[aZ,cT];exact ar s
def Eu (P:aD9) (N:Nat) (ids:aD3) (all:aE9) (t:hC) (K:aW) (B:av):Prop:=
 (tA all K t.1.guard=some false/\t.2.v= .undef/\t.2.e=bI)\/(tA all K t.1.guard=some true/\bC P N ids t.1 K B t.2.v t.2.e/\ ∀c,c∈t.2.e.bb->gS ids K B c=true)
def bC.lit {o:Oper} {K:aW} {B:av} {b:Bool} {e:fb} (h:bC P N ids o K B (.c (.one (.d (.bool b)))) e):bC P N ids o K B (.c (.one (.d (.lit b)))) e:=by
 intro K' B' g1 g2 cX C a w ax br fF Q cT;refine h K' B' g1 g2 cX C a w ax br fF Q fun a' w' d6=>cT a' w' ?_
 cases H:o.dst with
 |none=>rw[H] at d6;exact d6
 |some d=>rw[H] at d6;exact d6.lit
def bC.any {o:Oper} {K:aW} {B:av} {v dp:aN} {e:fb} (H:o.dst=none) (h:bC P N ids o K B v e):bC P N ids o K B dp e:=by
 intro K' B' g1 g2 cX C a w ax br fF Q cT;refine h K' B' g1 g2 cX C a w ax br fF Q fun a' w' d6=>cT a' w' ?_
 rw[H] at d6⊢;exact d6
def Br (P:aD9) (N:Nat) (ids:aD3) (all:aE9):List hC->aW->av->Prop
 | [],_,_=>True
 |t::l,K,B=>Eu P N ids all t K B/\Br P N ids all l (hD t K) (jt t B)
def runK:List hC->aW->aW
 | [],K=>K
 |t::l,K=>runK l (hD t K)
def yU:List hC->av->av
 | [],B=>B
 |t::l,B=>yU l (jt t B)
def Pd (bk:d5 P aQ) (all:aE9): ∀(l:aE9) (i:Nat) (K:aW) (B:av) (gg:List kJ) (k:aW->av->List kJ->Prop),ss P aQ ids all i l K B gg k->
  ∃ct:List hC,ct.map (·.1)=l/\Br P N ids all ct K B/\k (runK ct K) (yU ct B) ((ct.map (·.2)).reverse++gg)
 | [],i,K,B,gg,k,h=>⟨[],rfl,trivial,h⟩
 |o::l,i,K,B,gg,k,h=>by
  have qz: ∀(n:kJ),Eu P N ids all (o,n) K B->ss P aQ ids all (i+1) l (hD (o,n) K) (jt (o,n) B) (n::gg) k-> ∃ct:List hC,ct.map (·.1)=o::l/\Br P N ids all ct K B/\k (runK ct K) (yU ct B) ((ct.map (·.2)).reverse++gg):=fun n hn ay=>by
   obtain⟨ct,E,G,ag⟩:=Pd bk all l (i+1) _ _ _ k ay;exact⟨(o,n)::ct,by simp[E],⟨hn,G⟩,by simpa[runK,yU] using ag⟩
  rw[N3] at h;unfold DX at h;simp only[HD] at h
  split at h
  .exact h.elim
  .rename_i hw
   split at h
   .rename_i d e;exact qz ⟨i,.undef,bI⟩ (.inl ⟨hw,rfl,rfl⟩) (by simpa[hD,jt,l5,e,g0] using h)
   .rename_i e;exact qz ⟨i,.undef,bI⟩ (.inl ⟨hw,rfl,rfl⟩) (by simpa[hD,jt,l5,e,g0] using h)
  .rename_i hw;obtain⟨v,e,h,aq,hf⟩:=Iu (N:=N) bk h
   split at h
   .rename_i al;exact qz ⟨i,.undef,e⟩ (.inr ⟨hw,bC.any al aq,hf⟩) (by simpa[hD,jt,l5,al] using h)
   .rename_i d al
    split at h
    .rename_i b aV
     cases b with
     |true=>exact qz ⟨i,.c (.one (.d (.lit true))),e⟩ (.inr ⟨hw,aq.lit,hf⟩) (by simpa[hD,jt,l5,al] using h.1 rfl)
     |false=>exact qz ⟨i,.c (.one (.d (.lit false))),e⟩ (.inr ⟨hw,aq.lit,hf⟩) (by simpa[hD,jt,l5,al] using h.2 rfl)
    .exact qz ⟨i,_,e⟩ (.inr ⟨hw,aq,hf⟩) (by simpa[hD,jt,l5,al] using h)
def Pe {all:aE9}: ∀(ct:List hC) (i:Nat) (K:aW) (B:av),Br P N ids all ct K B-> ∀(p:Nat) (t:hC),ct[p]? =some t->Eu P N ids all t (fy hD (fun j=>decide (j < i+p)) i ct K) (fy jt (fun j=>decide (j < i+p)) i ct B)
 | [],i,K,B,_,p,t,ao=>by simp at ao
 |u::ct,i,K,B,h,0,t,ao=>by
  simp only[aq2,ap5] at ao;subst ao
  have bt: ∀{md:Type} (js:hC->md->md) (l:List hC) (q:Nat) (y:md),i<=q->fy js (fun j=>decide (j < i+0)) q l y=y:=fun {md} js l=>by
   induction l with
   |nil=>exact fun _ _ _=>rfl
   |cons v l bl=>
    intro q y aY;unfold fy;rw[bl (q+1) _ az7];simp only[as1];rw[mu az7]
  rw[bt hD _ i K (ao9 _),bt jt _ i B (ao9 _)];exact h.1
 |u::ct,i,K,B,h,p+1,t,ao=>by
  have:=Pe ct (i+1) _ _ h.2 p t (by simpa using ao);unfold fy;simp only[as1];rw[vj az7,vj az7];rw[show i+(p+1)=i+1+p by omega];exact this
def Pf: ∀(ct:List hC) (i:Nat) (m:Nat->Bool) (K:aW),(∀j,j < ct.length->m (i+j)=true)->runK ct K=fy hD m i ct K
 | [],_,_,_,_=>rfl
 |t::ct,i,m,K,h=>by
  unfold runK fy;rw[vj (by simpa using h 0 az9)];exact Pf ct (i+1) m _ fun j V=>by rw[show i+1+j=i+(j+1) by omega];exact h (j+1) aB6
def Pg: ∀(ct:List hC) (i:Nat) (m:Nat->Bool) (B:av),(∀j,j < ct.length->m (i+j)=true)->yU ct B=fy jt m i ct B
 | [],_,_,_,_=>rfl
 |t::ct,i,m,B,h=>by
  unfold yU fy;rw[vj (by simpa using h 0 az9)];exact Pg ct (i+1) m _ fun j V=>by rw[show i+1+j=i+(j+1) by omega];exact h (j+1) aB6
def Ph {c:Nat}: ∀(ct:List hC) (i:Nat) (m:Nat->Bool) (K:aW),tw c K=true->(∀(j:Nat) (t:hC),ct[j]? =some t->m (i+j)=true->named t.2 c=false)->tw c (fy hD m i ct K)=true
 | [],_,_,_,h,_=>h
 |t::ct,i,m,K,h,aD=>by
  unfold fy;refine Ph ct (i+1) m _ ?_ fun j u V a8=>aD (j+1) u aB6 (by rw[show i+(j+1)=i+1+j by omega];exact a8)
  split
  .rename_i aG;have:=aD 0 t rfl (by simpa using aG);simp only[named,at1] at this;unfold hD l5
   split
   .simp[tw,this.1,h]
   .exact h
  .exact h
def IJ {c:Nat}: ∀(B:av) (d:Nat),kj c B=true->kj c (gJ B d)=true
 | [],d,h=>h
 |(t,v)::B,d,h=>by
  simp only[kj,ao8] at h;unfold gJ
  split
  .exact IJ B d h.2
  .simp[kj,h.1,IJ B d h.2]
def IK {c:Nat}: ∀(l:List (Nat×Option ba)) (B:av),yz c l=false->kj c B=true->kj c (g0 l B)=true
 | [],B,_,h=>h
 |(d,none)::l,B,ak,h=>by
  simp only[yz,at1] at ak;exact IK l _ ak.2 (IJ B d h)
 |(d,some ch)::l,B,ak,h=>by
  simp only[yz,at1] at ak;exact IK l _ ak.2 (by simp[kj,ak.1.1,ak.1.2,h])
def Pi {c:Nat}: ∀(ct:List hC) (i:Nat) (m:Nat->Bool) (B:av),kj c B=true->(∀(j:Nat) (t:hC),ct[j]? =some t->m (i+j)=true->named t.2 c=false)->kj c (fy jt m i ct B)=true
 | [],_,_,_,h,_=>h
 |t::ct,i,m,B,h,aD=>by
  unfold fy;refine Pi ct (i+1) m _ ?_ fun j u V a8=>aD (j+1) u aB6 (by rw[show i+(j+1)=i+1+j by omega];exact a8)
  split
  .rename_i aG;have:=aD 0 t rfl (by simpa using aG);simp only[named,at1] at this;exact IK _ _ this.2 h
  .exact h
def w0 (all:aE9) (m:Nat->Bool):Prop:= ∀(j:Nat) (o:Oper),all[j]? =some o->m j=true-> ∀d∈pz o,m d=true
def Pj (all:aE9): ∀(l Bs:aE9) (acc:List aD3),all=Bs++l->acc.length=Bs.length->(∀j a,a∈acc.getD j []-> ∀m,w0 all m->m j=true->m a=true)-> ∀j a,a∈(yx l acc).getD j []-> ∀m,w0 all m->m j=true->m a=true
 | [],Bs,acc,_,_,h=>h
 |o::l,Bs,acc,U,ak,h=>by
  unfold yx;refine Pj all l (Bs++[o]) _ aC8 (by simp[ak]) ?_;intro j a ha m aD V;rw[ap2] at ha;rcases Nat.lt_trichotomy j acc.length with br |rv |tJ
  .rw[as0 br,<-ap2] at ha;exact h j a ha m aD V
  .subst rv;rw[as3 (ao9 _)] at ha;simp only[Nat.sub_self,aq2,av3,ar7,List.mem_flatMap] at ha;have ai:all[acc.length]? =some o:=by rw[U,ak];simp
   rcases ha with ha |⟨d,H,ha⟩
   .exact aD _ o ai V a ha
   .exact h d a ha m aD (aD _ o ai V d H)
  .rw[av7 aB1] at ha;simp at ha
def IL {all:aE9} {an:List aD3}: ∀(L:List (Oper×kJ×Nat)),tB all an L=true-> ∀(i j:Nat) (x y:Oper×kJ×Nat),i < j->L[i]? =some x->L[j]? =some y->((an.getD y.2.2 []).contains x.2.2&& !y.2.1.e.bb.any (named x.2.1)||apart all x.1 y.1 x.2.1 y.2.1)=true
 | [],_,i,j,x,y,_,hx,_=>by simp at hx
 |aF::L,h,0,j+1,x,y,_,hx,aC=>by
  simp only[aq2,ap5] at hx;subst hx;obtain⟨o,n,i⟩:=aF;simp only[tB,ao8] at h;have:=ar3.1 h.1 y (at9 (by simpa using aC));obtain⟨p,m,qB⟩:=y;exact this
 |aF::L,h,i+1,j+1,x,y,br,hx,aC=>by
  obtain⟨o,n,k⟩:=aF;simp only[tB,ao8] at h;exact IL L h.2 i j x y az7 aC7 (by simpa using aC)
 |aF::L,h,i,0,x,y,br,hx,aC=>by omega
def yV {a b:aD3} (h:yy a b=false) {x:Nat} (E:x∈a) (G:x∈b):False:=by unfold yy at h;rw[List.any_eq_false] at h;have:=h x E;simp at this;exact this G
def Pk {a:aD3} {f:Nat->Bool} (h:a.any f=false) {x:Nat} (E:x∈a):f x=false:=by rw[List.any_eq_false] at h;simpa using h x E
def YH {all:aE9} {lk:aW} {me:av} {ct:List hC} (jq:ct.map (·.1)=all) (dA:Br P N ids all ct lk me) (dW:u4 lk me all ((ct.map (·.2)).reverse++[])=true) {m:Nat->Bool} (aD:w0 all m) {i:Nat} {t:hC} (aG:ct[i]? =some t) (yW:m i=false) (Ev: ∀d∈pz t.1,m d=true):
  Eu P N ids all t (fy hD m 0 ct lk) (fy jt m 0 ct me)/\(∀s,dQ (fy hD (fun j=>m j||j == i) 0 ct lk) s=dQ (hD t (fy hD m 0 ct lk)) s)/\(∀s,ae (fy jt (fun j=>m j||j == i) 0 ct me) s=ae (jt t (fy jt m 0 ct me)) s)/\
  (∀d∈pz t.1,d < i):=by
 simp only[u4,at3,List.reverse_reverse,ao8] at dW;obtain⟨⟨YI,ny⟩,Pl⟩:=dW;have tV: ∀(j:Nat) (u:hC),ct[j]? =some u->all[j]? =some u.1:=fun j u V=>by rw[<-jq,ar1,V];rfl
 have cP: ∀(j:Nat) (u:hC),ct[j]? =some u->(((all.zip (ct.map (·.2))).zipIdx).map fun((o,n),i)=>(o,n,i))[j]? =some (u.1,u.2,j):=fun j u V=>by
  have aO:(all.zip (ct.map (·.2)))[j]? =some (u.1,u.2):=by
   rw[List.getElem?_zip_eq_some];exact⟨tV j u V,by rw[ar1,V];rfl⟩
  rw[ar1,List.getElem?_zipIdx,aO];simp
 have YJ: ∀d∈pz t.1,d < i:=fun d H=>by
  have mK:(t.1,i)∈all.zipIdx:=by
   rw[List.mem_iff_getElem?];exact⟨i,by rw[List.getElem?_zipIdx,tV i t aG];simp⟩
  have:=ar3.1 YI _ mK;have:=ar3.1 this d H;simpa[Nat.blt_eq] using this
 have Pm:=Pj all all [] [] az9 rfl (fun j a ha=>by simp at ha)
 have YK:w0 all (fun j=>m j||j == i):=fun j o ai V d H=>by
  simp only[au3,beq_iff_eq] at V⊢;rcases V with V |rfl
  .exact .inl (aD j o ai V d H)
  .rw[tV j t aG] at ai;injection ai with ai
   subst ai;exact .inl (Ev d H)
 have IM: ∀(j:Nat) (u:hC),ct[j]? =some u->j < i->(apart all u.1 t.1 u.2 t.2=true\/m j=true)/\t.2.e.bb.any (named u.2)=false:=fun j u V br=>by
  have:=IL _ Pl j i _ _ br (cP j u V) (cP i t aG);simp only[au3,ao8,aq9,ar5] at this;rcases this with⟨E,G⟩ |h
  .refine⟨.inr ?_,G⟩;have:=Pm i j E _ YK az9;simp only[au3,beq_iff_eq] at this;rcases this with h |h
   .exact h
   .omega
  .refine⟨.inl h,?_⟩;simp only[apart,ao8,aq9] at h;exact h.2
 have Bt: ∀(j:Nat) (u:hC),ct[j]? =some u->i < j->apart all t.1 u.1 t.2 u.2=true\/m j=false:=fun j u V br=>by
  have:=IL _ Pl i j _ _ br (cP i t aG) (cP j u V);simp only[au3,ao8,ar5] at this;rcases this with⟨E,_⟩ |h
  .right
   cases nx:m j with
   |false=>rfl
   |true=>have:=Pm j i E m aD nx;rw[yW] at this;cases this
  .exact .inl h
 have Pn: ∀s,s∈DY all t.1->dQ (fy hD m 0 ct lk) s=dQ (fy hD (fun j=>decide (j < 0+i)) 0 ct lk) s:=fun s ax=>
  yT dQ hD Er Pb Pc _ _ s ct 0 lk lk (fun j u V a8=>by
   rw[at5,at5];have Po:s∈u.1.dst.toList:=by rw[show u.1.dst=some s from a8];simp
   rcases Nat.lt_trichotomy j i with h |h |h
   .simp only[h,decide_true];refine((IM j u V h).1).resolve_left fun ha=>?_
    simp only[apart,ao8,aq9] at ha;exact yV ha.1.1.1.1.1 Po (List.mem_append_left _ ax)
   .subst h;simp[yW]
   .rw[show decide (j < i)=false by simp;omega];refine(Bt j u V h).resolve_left fun ha=>?_
    simp only[apart,ao8,aq9] at ha;exact yV ha.1.1.1.1.2 Po ax) rfl
 have YL: ∀c,c∈t.2.e.iW->ae (fy jt m 0 ct me) c=ae (fy jt (fun j=>decide (j < 0+i)) 0 ct me) c:=fun c J=>
  yT ae jt Pa (fun t x s h=>Et _ _ _ h) (fun t x y s h=>Es _ _ _ _ h) _ _ c ct 0 me me (fun j u V a8=>by
   rw[at5,at5];rcases Nat.lt_trichotomy j i with h |h |h
   .simp only[h,decide_true];refine((IM j u V h).1).resolve_left fun ha=>?_
    simp only[apart,ao8,aq9] at ha;exact yV ha.1.1.1.2 a8 (List.mem_append_left _ J)
   .subst h;simp[yW]
   .rw[show decide (j < i)=false by simp;omega];refine(Bt j u V h).resolve_left fun ha=>?_
    simp only[apart,ao8,aq9] at ha;exact yV ha.1.1.2 a8 J) rfl
 refine⟨?_,fun s=>?_,fun s=>?_,YJ⟩
 .have vf:=Pe ct 0 lk me dA i t aG
  have hw:tA all (fy hD m 0 ct lk) t.1.guard=tA all (fy hD (fun j=>decide (j < 0+i)) 0 ct lk) t.1.guard:=by
   unfold tA
   cases aV:t.1.guard with
   |none=>rfl
   |some p=>
    obtain⟨j,want⟩:=p;simp only
    cases ax:A1 all j with
    |none=>rfl
    |some s=>
     simp only;rw[Pn s (by unfold DY;rw[aV];simp[ax])]
  rcases vf with⟨E,G,ag⟩ |⟨E,G,ag⟩
  .exact .inl ⟨hw.trans E,G,ag⟩
  .refine .inr ⟨hw.trans E,?_,fun c J=>?_⟩
   .intro K' B' g1 g2 cX;refine G K' B' (fun x hx=>(g1 x hx).trans ?_) (fun c J=>(g2 c J).trans (YL c J)) cX
    cases x with
    |tmp s=>exact Pn s (List.mem_append_left _ (List.mem_filterMap.2 ⟨.tmp s,by simpa using hx,rfl⟩))
    |_=>rfl
   .have hf:=ag c J;simp only[gS,ao8] at hf⊢;have wM:=ar3.1 ny t.2 (ar6.2 ⟨t,at9 aG,rfl⟩);have wM:=ar3.1 wM c J;simp only[ao8] at wM
    have fx: ∀(j:Nat) (u:hC),ct[j]? =some u->m (0+j)=true->named u.2 c=false:=fun j u V nx=>by
     rw[at5] at nx;rcases Nat.lt_trichotomy j i with h |h |h
     .exact Pk (IM j u V h).2 J
     .subst h;rw[yW] at nx;cases nx
     .rcases Bt j u V h with ha |ha
      .simp only[apart,ao8,aq9] at ha;exact Pk ha.1.2 J
      .rw[nx] at ha;cases ha
    exact⟨⟨Ph ct 0 m lk wM.1 fx,Pi ct 0 m me wM.2 fx⟩,hf.2⟩
 .have:=II dQ hD Er Pb Pc m i s ct 0 lk t aG (by simpa using yW) (fun j u br V nx E G=>by
   rw[at5] at nx;rcases Bt j u V br with ha |ha
   .simp only[apart,ao8,aq9] at ha;exact yV (x:=s) ha.1.1.1.1.1 (by rw[show t.1.dst=some s from E];simp) (List.mem_append_right _ (by rw[show u.1.dst=some s from G];simp))
   .rw[nx] at ha;cases ha)
  simpa using this
 .have:=II ae jt Pa (fun t x s h=>Et _ _ _ h) (fun t x y s h=>Es _ _ _ _ h) m i s ct 0 me t aG (by simpa using yW) (fun j u br V nx E G=>by
   rw[at5] at nx;rcases Bt j u V br with ha |ha
   .simp only[apart,ao8,aq9] at ha;exact yV ha.1.1.1.2 E (List.mem_append_right _ G)
   .rw[nx] at ha;cases ha)
  simpa using this
def yX (bk:d5 P aQ):yO P aQ N ids:=by
 intro id dl lk me k H YM h C a w ax rd Q rE;refine wpIn_region_any YM ?_;obtain⟨ct,jq,dA,dW,Z⟩:=Pd (N:=N) bk dl.toList dl.toList 0 lk me [] _ h
 have bZ:ct.length=dl.size:=by
  have:=ap1 List.length jq;simpa using this
 have tV: ∀(j:Nat) (u:hC),ct[j]? =some u->dl.toList[j]? =some u.1:=fun j u V=>by rw[<-jq,ar1,V];rfl
 have Pp: ∀(j:Nat) (u:hC),ct[j]? =some u->(∀d,u.1.dst=some d->d < N)/\ ∀c,u.1.op≠ .defer c:=fun j u V=>by
  have key: ∀(l:aE9),sF N l=true-> ∀o∈l,(∀d,o.dst=some d->d < N)/\ ∀c,o.op≠ .defer c:=fun l=>by
   induction l with
   |nil=>intro _ o ai;cases ai
   |cons x l bl=>
    intro hx o ai;simp only[sF,ao8] at hx;rcases ap7.1 ai with rfl |ai
    .exact⟨fun d H=>by have hx:=hx.1.1;rw[H] at hx;simpa[Nat.blt_eq] using hx,Iw hx.1.2⟩
    .exact bl hx.2 o ai
  exact key _ H u.1 (at9 (tV j u V))
 have br: ∀(j:Nat) (u:hC),ct[j]? =some u-> ∀d,u.1.dst=some d->d < N:=fun j u V=>(Pp j u V).1
 have rt: ∀(fuel:Nat) (gk:Array Bool) (a:Act) (w:aD8),gk.size=dl.size->gk.toList.count false<=fuel->w0 dl.toList (fun j=>gk.getD j false)->
   eS N ids C (fy hD (fun j=>gk.getD j false) 0 ct lk) (fy jt (fun j=>gk.getD j false) 0 ct me) a w->wpAnyIn (ob rd) 0 P .any dl Q fuel gk a w:=by
  intro fuel
  have done: ∀(gk:Array Bool) (a:Act) (w:aD8),gk.size=dl.size->(∀j,j < dl.size->gk.getD j false=true)->eS N ids C (fy hD (fun j=>gk.getD j false) 0 ct lk) (fy jt (fun j=>gk.getD j false) 0 ct me) a w->Q .normal a w:=fun gk a w cL Bu d6=>by
   rw[<-Pf ct 0 _ lk (fun j V=>by simpa using Bu j az7),<-Pg ct 0 _ me (fun j V=>by simpa using Bu j az7)] at d6;exact rE _ _ Z a w d6
  have YN: ∀(gk:Array Bool),gk.size=dl.size->w0 dl.toList (fun j=>gk.getD j false)->Region.ready .any dl gk=[]-> ∀j,j < dl.size->gk.getD j false=true:=fun gk cL dI aw=>by
   intro j
   induction j using Nat.strongRecOn with
   |_ j bl=>
    intro V;obtain⟨u,a8⟩: ∃u,ct[j]? =some u:=⟨_,ao7 az7⟩
    cases w1:gk.getD j false with
    |true=>rfl
    |false=>
     exfalso
     have mK:j∈Region.ready .any dl gk:=by
      unfold Region.ready;rw[ay0];refine⟨List.mem_range.2 V,?_⟩
      have rn:gk.getD j true=false:=by
       rw[av8] at w1⊢;rw[Array.getElem?_eq_getElem az7] at w1⊢;simpa using w1
      have ai:dl[j]? =some u.1:=by simpa using tV j u a8
      simp only[rn,Bool.not_false,ax8,ai,av4,av3];rw[Array.all_eq_true_iff_forall_mem];intro e U
      cases O:Region.binds .any e with
      |false=>rfl
      |true=>
       simp only[Bool.not_true,Bool.false_or]
       have ew:e.on∈pz u.1:=by
        unfold pz;exact ar6.2 ⟨e,ay0.2 ⟨by simpa using U,O⟩,rfl⟩
       have IN:e.on < j:=by
        have dC:=dW;simp only[u4,at3,List.reverse_reverse,ao8] at dC
        have mK:(u.1,j)∈dl.toList.zipIdx:=by
         rw[List.mem_iff_getElem?];exact⟨j,by rw[List.getElem?_zipIdx,tV j u a8];simp⟩
        have:=ar3.1 dC.1.1 _ mK;have:=ar3.1 this _ ew;simpa[Nat.blt_eq] using this
       exact bl e.on IN az7
     rw[aw] at mK
     cases mK
  induction fuel with
  |zero=>
   intro gk a w cL J dI d6
   have Bu: ∀j,j < dl.size->gk.getD j false=true:=fun j V=>by
    cases w1:gk.getD j false with
    |true=>rfl
    |false=>
     exfalso
     have mK:false∈gk.toList:=by
      rw[av8,Array.getElem?_eq_getElem az7] at w1;simp only[av3] at w1;rw[<-w1];simp
     have:=List.count_pos_iff.2 mK;omega
   refine⟨?_,done gk a w cL Bu d6⟩;unfold Region.ready;rw[List.filter_eq_nil_iff];intro j V;have V:=List.mem_range.1 V;have:=Bu j V;rw[av8,Array.getElem?_eq_getElem az7] at this;simp only[av3] at this;simp[Array.getElem?_eq_getElem (show j < gk.size by omega),this]
  |succ fuel bl=>
   intro gk a w cL J dI d6;refine⟨fun aw=>done gk a w cL (YN gk cL dI aw) d6,fun i aG=>?_⟩;obtain⟨Pq,o,ai,YO⟩:=mem_ready.1 aG;have aoq:i < dl.size:=(ax2.1 ai).1;obtain⟨t,cq⟩: ∃t,ct[i]? =some t:=⟨_,ao7 az7⟩
   have YP:o=t.1:=by
    have:=tV i t cq;rw[Array.getElem?_toList,ai] at this;injection this
   subst YP
   have iOz:gk.getD i false=false:=by
    rw[av8,Array.getElem?_eq_getElem az7] at Pq⊢;simpa using Pq
   have Ev: ∀d∈pz t.1,gk.getD d false=true:=fun d H=>by
    unfold pz at H;obtain⟨e,U,rfl⟩:=ar6.1 H;obtain⟨i0,gw⟩:=ay0.1 U;exact YO e (by simpa using i0) gw
   obtain⟨vf,YQ,YR,_⟩:=YH (m:=fun j=>gk.getD j false) jq dA dW dI cq iOz Ev
   have hj:(fun j=>(gk.setIfInBounds i true).getD j false)=(fun j=>(gk.getD j false||j == i)):=by
    funext j
    by_cases e:j=i
    .subst e;simp[Array.getElem?_setIfInBounds,show j < gk.size by omega]
    .simp[Array.getElem?_setIfInBounds,au7 e,e]
   have YS:w0 dl.toList (fun j=>(gk.setIfInBounds i true).getD j false):=by
    rw[hj];intro j o' sn V d H;simp only[au3,beq_iff_eq] at V⊢;rcases V with V |rfl
    .exact .inl (dI j o' sn V d H)
    .rw[tV j t cq] at sn;injection sn with sn
     subst sn;exact .inl (Ev d H)
   have YT:(gk.setIfInBounds i true).toList.count false<=fuel:=by
    rw[Array.toList_setIfInBounds,List.count_set aB1]
    have l9:gk.toList[i]'aB1=false:=by
     rw[av8,Array.getElem?_eq_getElem az7] at iOz;simpa using iOz
    rw[l9];simp only[BEq.rfl,if_true,show(true == false)=false from rfl,Bool.false_eq_true,if_false];omega
   have next: ∀a' w',eS N ids C (hD t (fy hD (fun j=>gk.getD j false) 0 ct lk)) (jt t (fy jt (fun j=>gk.getD j false) 0 ct me)) a' w'->wpAnyIn (ob rd) 0 P .any dl Q fuel (gk.setIfInBounds i true) a' w':=fun a' w' f0=>by
    refine bl _ a' w' (by simp[cL]) YT YS ?_;rw[hj];exact f0.congr YQ YR
   have YU:=d6;obtain⟨_,_,ρ,F,ah,ar⟩:=YU;unfold wpOpIn;simp only[ai];rcases vf with⟨hw,ay,U⟩ |⟨hw,aq,hf⟩
   .have Bv:=yN hw ar;simp only[Array.toArray_toList] at Bv;rw[mu (by rw[Bv];simp)];refine⟨fun _ _=>trivial,next _ _ ?_⟩;have:=d6.undef t.1.dst (br i t cq);unfold hD jt;rw[ay,U];exact this
   .have Bv:=yN hw ar;simp only[Array.toArray_toList] at Bv;rw[vj Bv];exact Bl (Pp i t cq).2 (aq _ _ (fun _ _=>rfl) (fun _ _=>rfl) hf C a w d6 (br i t cq) _ Q fun a' w' f0=>next a' w' f0)
 refine rt dl.size _ a _ az9 (by simp[List.count_replicate]) (fun j o ai V=>?_) ?_
 .simp only[av8,Array.getElem?_replicate] at V
  split at V <;>simp at V
 .have aO:(fun j=>(Array.replicate dl.size false).getD j false)=fun _=>false:=by
   funext j
   rw[av8];simp only[Array.getElem?_replicate]
   split <;>rfl
  rw[aO]
  have bt: ∀{md:Type} (js:hC->md->md) (l:List hC) (q:Nat) (y:md),fy js (fun _=>false) q l y=y:=fun {md} js l=>by
   induction l with
   |nil=>exact fun _ _=>rfl
   |cons v l bl=>intro q y;unfold fy;simp[bl]
  rw[bt,bt];obtain⟨E,G,ρ,F,ah,ar⟩:=ax;obtain⟨bK,a2⟩:=ah.below (w':={w with drawn:=w.drawn+1}) (Wv w);exact⟨E,G,ρ,F,bK,ar.mono a2 fun _ _ _=>rfl⟩
end
end
section
def Bw (a b c:Nat):Nat:=match Nat.beq c a with
 |true=>b
 |false=>match Nat.beq c b with
  |true=>a
  |false=>c
def Ew {a b:Nat} (h:a≠b):Nat.beq a b=false:=by rw[aw6];exact fun e=>h (ap8 e)
def Pr (a b c:Nat):Bw a b (Bw a b c)=c:=by
 unfold Bw
 by_cases E:c=a
 .subst E;simp only[Nat.beq_refl]
  by_cases G:b=c
  .subst G;simp
  .simp[Ew G]
 .simp only[Ew E]
  by_cases G:c=b
  .subst G;simp
  .simp[Ew G,Ew E]
def eq:List (Nat×Nat)->Nat->Nat
 | [],c=>c
 |(a,b)::l,c=>eq l (Bw a b c)
def yY:List (Nat×Nat)->Nat->Nat
 | [],c=>c
 |(a,b)::l,c=>Bw a b (yY l c)
def Ex: ∀(l:aG0) (c:Nat),yY l (eq l c)=c
 | [],c=>rfl
 |(a,b)::l,c=>by simp only[eq,yY,Ex l,Pr]
def Ey: ∀(l:aG0) (c:Nat),eq l (yY l c)=c
 | [],c=>rfl
 |(a,b)::l,c=>by simp only[eq,yY,Pr,Ey l]
def lH:List (Nat×Nat)->List (Nat×Nat)->List (Nat×Nat)
 | [],acc=>acc
 |(a,b)::l,acc=>lH l (acc++[(eq acc a,b)])
section
variable (f:Nat->Nat)
def yZ:List kc->List kc
 | []=>[]
 | .p c o::l=>.p (f c) o::yZ l
 | .d x::l=>.d x::yZ l
def bw.eq:bw->bw
 | .ptr c o=>.ptr (f c) o
 | .own c=>.own (f c)
 | .fX c s i o=>.fX (f c) s i o
 | .os c s o n=>.os (f c) s o n
 | .mp c=>.mp (f c)
 | .cW g l=>.cW g (yZ f l)
 | .d x=>.d x
 | .el u x o=>.el u x o
 | .dc=>.dc
 | .bH v=>.bH v
 | .any=>.any
def y0:List bw->List bw
 | []=>[]
 |s::l=>s.eq f::y0 l
def dH.eq:dH->dH
 | .one s=>.one (s.eq f)
 | .agg l=>.agg (y0 f l)
 | .jV u x=>.jV u x
def Ez:List dH->List dH
 | []=>[]
 |s::l=>s.eq f::Ez l
def aN.eq:aN->aN
 | .c s=>.c (s.eq f)
 | .cm l=>.cm (Ez f l)
 | .undef=>.undef
def w2:List aN->List aN
 | []=>[]
 |s::l=>s.eq f::w2 l
def ba.eq:ba->ba
 | .cells l=>.cells (y0 f l)
 | .row e u xs=>.row e u xs
 | .map aI aK es=>.map aI aK es
 | .val u x=>.val u x
 | .aA o=>.aA o
 | .bY d o=>.bY (f d) o
def kN:av->av
 | []=>[]
 |(c,ch)::B=>(f c,ch.eq f)::kN B
def y1:aD3->aD3
 | []=>[]
 |c::l=>f c::y1 l
end
section
variable {f g:Nat->Nat} {ρ:Nat->bm} {I:Nat->Prop} {w:aD8}
def IP: ∀(l:List kc) (aB:aD7),hK ρ I w (yZ f l) aB=hK (fun c=>ρ (f c)) I w l aB
 | [],aB=>rfl
 | .p c o::l,aB=>by simp only[yZ,hK,ww,IP l]
 | .d x::l,aB=>by simp only[yZ,hK,ww,IP l]
def Ps (s:bw) (v:aE7):dU ρ I w (s.eq f) v=dU (fun c=>ρ (f c)) I w s v:=by
 cases s with
 |cW g l=>simp only[bw.eq,dU,IP]
 |_=>rfl
def IQ: ∀(l:List bw) (aB:aD7),cb ρ I w (y0 f l) aB=cb (fun c=>ρ (f c)) I w l aB
 | [],aB=>rfl
 |s::l,aB=>by simp only[y0,cb,Ps,IQ l]
def Pt (s:dH) (v:aE7):gu ρ I w (s.eq f) v=gu (fun c=>ρ (f c)) I w s v:=by
 cases s with
 |one s=>exact Ps s v
 |agg l=>simp only[dH.eq,gu,IQ]
 |jV u x=>rfl
def Pu: ∀(l:List dH) (aB:aD7),iv ρ I w (Ez f l) aB=iv (fun c=>ρ (f c)) I w l aB
 | [],aB=>rfl
 |s::l,aB=>by simp only[Ez,iv,Pt,Pu l]
def EA (s:aN) (v:aE7):cv ρ I w (s.eq f) v=cv (fun c=>ρ (f c)) I w s v:=by
 cases s with
 |c s=>exact Pt s v
 |cm l=>simp only[aN.eq,cv,Pu]
 |undef=>rfl
def Bx {F:Nat->Prop} {p:bm} (ch:ba):Holds ρ I F w p (ch.eq f)=Holds (fun c=>ρ (f c)) I F w p ch:=by
 cases ch with
 |cells l=>simp only[ba.eq,Holds,IQ]
 |row e u xs=>rfl
 |map aI aK es=>rfl
 |val u x=>rfl
 |aA o=>rfl
 |bY d o=>rfl
def By (aV: ∀c,g (f c)=c): ∀(B:av) (c:Nat),ae (kN f B) (f c)=(ae B c).map (·.eq f)
 | [],c=>rfl
 |(d,ch)::B,c=>by
  simp only[kN];rw[cn,cn,By aV B c]
  by_cases h:d=c
  .subst h;rw[vj rfl,vj rfl];rfl
  .rw[mu h,mu fun e=>h (by rw[<-aV d,e,aV])]
def IR: ∀(l:List aN),w2 f l=l.map (·.eq f)
 | []=>rfl
 |s::l=>by simp only[w2,aq5,IR l]
def IS: ∀(l:aD3) (c:Nat),c∈l->f c∈y1 f l
 | [],c,h=>by cases h
 |d::l,c,h=>by
  rcases ap7.1 h with rfl |h
  .exact aq4
  .exact ap4 _ (IS l c h)
end
def Fn.IT {P:aD9} {fn:aE8} {f g:Nat->Nat} (aV: ∀c,g (f c)=c) (hf: ∀c,f (g c)=c) {args:List aN} {aJ:av} {bb:aD3} {res:aN} {aP:av} (h:Fn P fn args aJ bb res aP):
  Fn P fn (w2 f args) (kN f aJ) (y1 f bb) (res.eq f) (kN f aP):=by
 refine⟨h.1,?_⟩;intro ρ F I w bW aZ c9 bj ew bZ dz;have lI: ∀(B:av) c,ae (kN f B) (f c)=(ae B c).map (·.eq f):=By aV;have om: ∀{B:av} {c ch},ae B c=some ch->ae (kN f B) (f c)=some (ch.eq f):=fun {B c ch} h=>by rw[lI,h];rfl
 have tW: ∀{B:av} {c ch},ae (kN f B) c=some ch-> ∃cA,ae B (g c)=some cA/\ch=cA.eq f:=fun {B c ch} h=>by
  have e:=lI B (g c);rw[hf,h] at e;obtain⟨cA,E,G⟩:=as4.1 e.symm;exact⟨cA,E,G.symm⟩
 rw[IR] at bZ dz
 have J:=h.2 (fun c=>ρ (f c)) (fun c=>F (f c)) I w bW aZ
  (fun c ch J=>by rw[<-Bx];exact c9 _ _ (om J))
  (fun c ch J=>bj _ _ (om J))
  (fun c ck ch ch' b E G a6=>ew _ _ _ _ b (om E) (om G) fun e=>a6 (by rw[<-aV c,e,aV]))
  (by simpa using bZ)
  (fun i v x ay hx=>by rw[<-EA];exact dz i _ x (by rw[ar1,ay];rfl) hx)
 refine J.mono ?_;rintro e w' ⟨x,ρ',F',rfl,cC,de,I',i0,gw,k1,aq,hB,hx⟩;have w3:(fun c=>ρ' (g (f c)))=ρ':=funext fun c=>by rw[aV]
 refine⟨x,fun c=>ρ' (g c),fun c=>F' (g c),rfl,?_,?_,I',i0,?_,?_,?_,?_,?_⟩
 .exact cC.mono fun b _ ⟨c,ch,E,G⟩=>⟨f c,_,om E,G⟩
 .intro c J;show ρ' (g c)=ρ c;rw[de (g c) (fun aD=>J (by have:=IS (f:=f) _ _ aD;rwa[hf] at this)),hf]
 .intro b O;obtain⟨E,G⟩:=gw b O;refine⟨E,?_⟩;rcases G with G |⟨c,ch,G,ag⟩ |G
  .exact .inl G
  .exact .inr (.inl ⟨f c,_,om G,ag⟩)
  .exact .inr (.inr G)
 .intro c ch J;obtain⟨cA,E,rfl⟩:=tW J;rw[Bx,w3];exact k1 _ _ E
 .intro c ch J b O;obtain⟨cA,E,rfl⟩:=tW J;obtain⟨cE,cG,dG⟩:=aq _ _ E b O;refine⟨cE,cG,?_⟩;rcases dG with⟨gK,cA,dG,e3⟩ |dG
  .exact .inl ⟨f gK,_,om dG,e3⟩
  .exact .inr dG
 .intro c ck ch ch' b J c0 a6;obtain⟨cA,E,rfl⟩:=tW J;obtain⟨iJ,G,rfl⟩:=tW c0;exact hB _ _ _ _ b E G fun e=>a6 (by rw[<-hf c,e,hf])
 .rw[EA,w3];exact hx
def Fn.a7 {P:aD9} {fn:aE8} (l:aG0) {args:List aN} {aJ:av} {bb:aD3} {res:aN} {aP:av} (h:Fn P fn args aJ bb res aP):
  Fn P fn (w2 (eq (lH l [])) args) (kN (eq (lH l [])) aJ) (y1 (eq (lH l [])) bb) (res.eq (eq (lH l []))) (kN (eq (lH l [])) aP):=
 Fn.IT (Ex _) (Ey _) h
end
section
open Go.RowKit Go.ChangeShapes Go.WideShapes Go.Deep _root_.Go.Proofs.Tryz Tryz
noncomputable def hO:(u:bz)->aa u->Nat
 | .int _,_=>1
 | .u8,_=>1
 | .bool,_=>1
 | .str,s=>1+List.length s
 | .aM,_=>1
 | .dd,_=>1
 | .fn,_=>1
 | .ce u,xs=>1+(List.map (hO u) xs).sum
 | .bT u v,p=>hO u p.1+hO v p.2
 | .arr _ u,xs=>(List.map (hO u) xs).sum
def sI:(u:bz)->aa u->Prop
 | .int k,n=>(Lit.int k n).wf=true
 | .ce u,xs=> ∀x,Dy (α:=aa u) x xs->sI u x
 | .bT u v,p=>sI u p.1/\sI v p.2
 | .arr _ u,xs=> ∀x,Dy (α:=aa u) x xs->sI u x
 |_,_=>True
def pG (P:aD9) (ty:bz->TypeId->Bool):bz->List Field->Nat->Bool
 |_,[],_=>false
 |u,[f],off=>Nat.beq f.offset off&&ty u f.type&&Nat.beq (P.cellsOf f.type) (aR u)
 | .bT u v,f::g::fs,off=>Nat.beq f.offset off&&ty u f.type&&Nat.beq (P.cellsOf f.type) (aR u)&&pG P ty v (g::fs) (off+aR u)
 |_,_::_::_,_=>false
def pH (P:aD9):Nat->bz->TypeId->Bool
 |0,_,_=>false
 |n+1,u,t=>match P.underlying t,u with
  |some (.int k),.int d4=>lD k d4
  |some (.int k),.u8=>lD k .u8
  |some .bool,.bool=>true
  |some .string,.str=>true
  |some (.slice e),.ce v=>pH P n v e&&Nat.beq (P.cellsOf e) (aR v)&&Nat.blt 0 (aR v)
  |some (.array m e),.arr g4 v=>Nat.beq m g4&&pH P n v e&&Nat.beq (P.cellsOf e) (aR v)
  |some (.struct fs),u=>pG P (pH P n) u fs.toList 0
  |_,_=>false
section
variable {hE:Type} {enc:TypeId×Value->hE} {w:aD8} {base:Nat} {IU:Nat->Bool} {held:Bool} {P:aD9}
def IV (d:DataW hE):1<=Rows.uptoBulk d:=by
 unfold Rows.uptoBulk
 split <;>omega
def Pv (l r:List (DataW hE)):Rows.uptoBulkAll (l++r)=Rows.uptoBulkAll l+Rows.uptoBulkAll r:=by
 induction l with
 |nil=>simp[Rows.uptoBulkAll]
 |cons x l bl=>simp only[List.cons_append,Rows.uptoBulkAll,bl];omega
def Pw (w:aD8) (u:bz) (cs:aD7) (b:Nat):Prop:= ∃a:aa u,cw (fun b=>b < w.heap.size) w u a (fun j=>cs[j]?)/\hO u a<=b/\sI u a
def w4 {I:Nat->Prop} {u:bz} {a:aa u} {c ck:Nat->Option Value} (h:cw I w u a c) (J: ∀j v,c j=some v->ck j=some v):cw I w u a ck:=cw.mono (cj.refl I w) u a c ck J h
def IW {cs:aD7} {o k j:Nat} {v:aE7} (h:((cs.drop o).take k)[j]? =some v):cs[o+j]? =some v:=by
 rw[au4] at h
 split at h
 .rwa[ay2] at h
 .cases h
def Px {ty:bz->TypeId->Bool} {n:Nat} (bl: ∀u t,ty u t=true-> ∀cs x,DataW.trod enc P w base IU held n t cs=some x->Pw w u cs (Rows.uptoBulk x.1)):
  ∀(fs:List Field) (u:bz) (off:Nat) (xs:List (DataW hE×List MemPlace)) (cs:aD7),pG P ty u fs off=true->xs.length=fs.length->
   (∀(i:Nat) (f:Field),fs[i]? =some f->DataW.trod enc P w base IU held n f.type ((cs.drop f.offset).take (P.cellsOf f.type))=xs[i]?)->
   ∃a:aa u,cw (fun b=>b < w.heap.size) w u a (fun j=>cs[off+j]?)/\hO u a<=Rows.uptoBulkAll (xs.map (·.1))/\sI u a
 | [],u,off,xs,cs,h,_,_=>by simp[pG] at h
 | [f],u,off,xs,cs,h,ak,hf=>by
  simp only[pG,ao8,Nat.beq_eq] at h;obtain⟨⟨E,G⟩,ag⟩:=h
  match xs,ak with
  | [x],_=>
   obtain⟨a,cE,cG,dG⟩:=bl _ _ G _ _ (hf 0 f rfl);subst E;exact⟨a,w4 cE fun j v ay=>IW ay,by simpa[Rows.uptoBulkAll] using cG,dG⟩
 |f::g::fs,.bT u v,off,xs,cs,h,ak,hf=>by
  simp only[pG,ao8,Nat.beq_eq] at h;obtain⟨⟨⟨E,G⟩,ag⟩,aS⟩:=h
  match xs,ak with
  |x::xs,ak=>
   obtain⟨a,cE,cG,dG⟩:=bl _ _ G _ _ (hf 0 f rfl);obtain⟨b,r1,r2,fI⟩:=Px bl (g::fs) v (off+aR u) xs cs aS (by simpa using ak) (fun i f aG=>hf (i+1) f aG);subst E;refine⟨(a,b),⟨w4 cE fun j v ay=>IW ay,w4 r1 fun j v ay=>by simpa only[Nat.add_assoc] using ay⟩,?_,dG,fI⟩;simp only[hO,aq5,Rows.uptoBulkAll];omega
 |_::_::_,.int _,_,_,_,h,_,_=>by simp[pG] at h
 |_::_::_,.u8,_,_,_,h,_,_=>by simp[pG] at h
 |_::_::_,.bool,_,_,_,h,_,_=>by simp[pG] at h
 |_::_::_,.str,_,_,_,h,_,_=>by simp[pG] at h
 |_::_::_,.aM,_,_,_,h,_,_=>by simp[pG] at h
 |_::_::_,.ce _,_,_,_,h,_,_=>by simp[pG] at h
 |_::_::_,.arr _ _,_,_,_,h,_,_=>by simp[pG] at h
def Py {α:Type} {l:List α} {y x:α} {i:Nat} (h:fi (l++[y]) i=some x):(i < l.length/\fi l i=some x)\/(i=l.length/\x=y):=by
 unfold fi at*;rcases Nat.lt_trichotomy i l.length with E |E |E
 .rw[as0 E] at h;exact .inl ⟨E,h⟩
 .subst E;simp only[List.getElem?_concat_length,ap5] at h;exact .inr ⟨rfl,h.symm⟩
 .rw[av7 aB1] at h
  cases h
def EB: ∀(n:Nat) (u:bz) (t:aE4),pH P n u t=true-> ∀(m:Nat) (cs:aD7) (x:DataW hE×List MemPlace),DataW.trod enc P w base IU held m t cs=some x->Pw w u cs (Rows.uptoBulk x.1)
 |0,u,t,h,_,_,_,_=>by simp[pH] at h
 |n+1,u,t,h,m,cs,x,hx=>by
  unfold pH at h
  split at h
  case h_1 k d4 a8=>
   obtain rfl:=nu h;obtain⟨i,rfl,rfl,hw⟩:=DataW.trod_int a8 hx;exact⟨i,rfl,IV _,hw⟩
  case h_2 k a8=>
   obtain rfl:=nu h;obtain⟨i,rfl,rfl,hw⟩:=DataW.trod_int a8 hx
   have Z:0<=i/\i < 256:=by
    simp[Lit.wf,IntKind.min,IntKind.max,IntKind.bits,IntKind.signed] at hw;omega
   refine⟨(UInt8.ofNat i.toNat:UInt8),?_,IV _,trivial⟩;show some (Value.int .u8 i)=some (Value.int .u8 _)
   congr 2
   rw[UInt8.toNat_ofNat'];omega
  case h_3 a8=>
   obtain⟨b,rfl,rfl⟩:=DataW.trod_bool a8 hx;exact⟨b,rfl,IV _,trivial⟩
  case h_4 a8=>
   obtain⟨s,rfl,rfl,ax⟩:=DataW.trod_string a8 hx;refine⟨(s.data.toList:aD2),rfl,?_,trivial⟩;simp only[hO,Rows.uptoBulk];omega
  case h_5 e v a8=>
   simp only[ao8,Nat.beq_eq] at h;obtain⟨⟨E,G⟩,ag⟩:=h;have ag:0 < aR v:=by simpa[Nat.blt_eq] using ag
   rcases open_slice a8 hx with⟨rfl,rfl⟩ |⟨a,len,cap,g4,rq,D,bm,rfl,fG,ak,aD,YV,rfl,y2⟩
   .refine⟨([]:List (aa v)),⟨none,0,rfl,ao9 _,ap9 _,fun h=>ap0 h (az5 0)⟩,by simp[hO,Rows.uptoBulk],fun x hx=>by cases hx⟩
   .rw[G] at y2;have k2:len<=g4:=by rw[YV];split <;>omega
    have key: ∀k,k<=len-> ∃l:List (aa v),l.length=k/\(l.map (hO v)).sum<=Rows.uptoBulkAll ((List.range k).map D)/\(∀x,x∈l->sI v x)/\
      (∀i x,fi l i=some x->cw (fun b=>b < w.heap.size) w v x (fun j=>if j < aR v then w.cell? ((a.add (i*aR v)).add j) else none)):=by
     intro k
     induction k with
     |zero=>exact fun _=>⟨[],rfl,az9,(fun x h=>by cases h),fun i x h=>by simp[fi] at h⟩
     |succ k YW=>
      intro Z;obtain⟨l,jX,hi,sJ,tX⟩:=YW az7;obtain⟨YX,J,YY⟩:=y2 k az7;obtain⟨y,tY,vg,Bz⟩:=EB n v e E _ _ _ YY;obtain⟨-,dI,nz⟩:=World.cells?_some J;refine⟨l++[y],by simp[jX],?_,?_,?_⟩
      .rw[List.range_succ,au2,au2,List.sum_append,Pv];have vg:hO v y<=Rows.uptoBulk (D k):=vg;simp only[Rows.uptoBulkAll,aq5,ay9,List.sum_cons,List.sum_nil];omega
      .intro x hx;rcases ar7.1 hx with hx |hx
       .exact sJ x hx
       .simp at hx;subst hx;exact Bz
      .intro i x aG;rcases Py aG with⟨_,aG⟩ |⟨rfl,rfl⟩
       .exact tX i x aG
       .rw[jX];refine w4 tY fun j dp ay=>?_
        have V:=(ap6.1 ay).1;rw[vj az7,nz j az7];exact ay
    obtain⟨l,jX,hi,sJ,tX⟩:=key len (ao9 _);refine⟨l,⟨some a,cap,by rw[show List.length (α:=aa v) l=len from jX];rfl,by rw[show List.length (α:=aa v) l=len from jX];exact ak,aD,fun au=>?_⟩,?_,sJ⟩
    .have au:0 < len:=by rw[<-jX];exact au
     obtain⟨YX,J,_⟩:=y2 0 az7;obtain⟨-,dI,nz⟩:=World.cells?_some J;have BA:=nz 0 az7;rw[ao7 az7] at BA;obtain⟨b,o,spot⟩:=a;have YZ:spot=none:=by simpa[Addr.add] using World.cell?_spot BA
     subst YZ;have fG:=World.block_lt_of_cell? w _ BA;refine⟨b,o,rfl,by simpa[Addr.add] using fG,fun i x aG=>w4 (tX i x aG) fun j dp ay=>?_⟩
     split at ay
     .rwa[add_plain,add_plain,Nat.add_assoc] at ay
     .cases ay
    .simp only[hO,Rows.uptoBulk];exact(show 1+(l.map (hO v)).sum<=_ by omega)
  case h_6 k e d4 v a8=>
   simp only[ao8,Nat.beq_eq] at h;obtain⟨⟨au,E⟩,G⟩:=h;subst au;obtain⟨xs,g4,rfl,rfl,ak,tM,hf⟩:=DataW.trod_array a8 hx;rw[G] at hf
   have key: ∀q,q<=k-> ∃l:List (aa v),l.length=q/\(l.map (hO v)).sum<=Rows.uptoBulkAll ((xs.take q).map (·.1))/\(∀x,x∈l->sI v x)/\
     (∀i x,fi l i=some x->cw (fun b=>b < w.heap.size) w v x (fun j=>cs[i*aR v+j]?)):=by
    intro q
    induction q with
    |zero=>exact fun _=>⟨[],rfl,az9,(fun x h=>by cases h),fun i x h=>by simp[fi] at h⟩
    |succ q Y0=>
     intro aY;obtain⟨l,jX,hi,sJ,tX⟩:=Y0 az7;have Pz:=hf q az7;rw[ao7 az7] at Pz;obtain⟨y,tY,vg,Bz⟩:=EB n v e E _ _ _ Pz;refine⟨l++[y],by simp[jX],?_,?_,?_⟩
     .rw[ax3,ao7 az7,au2,au2,List.sum_append,Pv];simp only[Rows.uptoBulkAll,aq5,ay9,List.sum_cons,List.sum_nil,Option.toList_some];omega
     .intro x hx;rcases ar7.1 hx with hx |hx
      .exact sJ x hx
      .simp at hx;subst hx;exact Bz
     .intro i x aG;rcases Py aG with⟨_,aG⟩ |⟨rfl,rfl⟩
      .exact tX i x aG
      .rw[jX];exact w4 tY fun j dp ay=>IW ay
   obtain⟨l,jX,hi,sJ,tX⟩:=key k (ao9 _);refine⟨l,⟨jX,tX⟩,?_,sJ⟩;rw[au0 az7] at hi;simp only[hO,Rows.uptoBulk];exact(show(l.map (hO v)).sum<=_ by omega)
  case h_7 sq fs a8=>
   obtain⟨xs,g4,rfl,rfl,ak,tM,hf⟩:=DataW.trod_struct a8 hx;obtain⟨a,cE,cG,dG⟩:=Px (fun u t cq cs x h=>EB n u t cq _ cs x h) fs.toList _ 0 xs cs h (by simpa using tM) (fun i f aG=>hf i f (by simpa using aG));refine⟨a,w4 cE fun j v ay=>by rw[at5] at ay;exact ay,?_,dG⟩;simp only[Rows.uptoBulk];omega
  case h_8=>cases h
end
end
section
namespace vh
def t3:b5:=⟨.int .i64,1,false,[.d (.int .i64 0)],[],some (.int .i64),8⟩
def t4:b5:=⟨.bool,1,false,[.d (.lit false)],[],some .bool,1⟩
def t5:b5:=⟨.int .u8,1,false,[.d (.int .u8 0)],[],some .u8,1⟩
def t9:b5:=⟨.str,1,false,[.d (.str [])],[],some .str,16⟩
def t20:b5:=⟨.other,1,false,[.bH .nilIface],[],none,16⟩
def Y1:b5:=⟨.int .i32,1,false,[.d (.int .i32 0)],[],some (.int .i32),4⟩
def t22:b5:=⟨.ce 29,1,false,[.dc],[],some (.ce (.bT (.int .i64) (.bT (.ce .u8) (.bT (.int .i64) .str)))),24⟩
def t25:b5:=⟨.ptr 89,1,false,[.bH (.pointer none)],[],some .aM,8⟩
def t27:b5:=⟨.ce 5,1,false,[.dc],[],some (.ce .u8),24⟩
def t29:b5:=⟨.st,4,true,[.d (.int .i64 0),.dc,.d (.int .i64 0),.d (.str [])],[(0,1),(1,1),(2,1),(3,1)],some (.bT (.int .i64) (.bT (.ce .u8) (.bT (.int .i64) .str))),56⟩
def Y2:b5:=⟨.int .i64,1,false,[.d (.int .i64 0)],[],some (.int .i64),8⟩
def Y3:b5:=⟨.other,1,false,[.bH .nilFunc],[],some .fn,8⟩
def t32:b5:=⟨.ce 234,1,false,[.dc],[],some (.ce (.bT .str (.ce (.int .i64)))),24⟩
def Y4:b5:=⟨.st,7,true,[.d (.int .i64 0),.d (.int .i64 0),.d (.int .i64 0),.dc,.d (.str []),.d (.str []),.dc],[(0,1),(1,1),(2,1),(3,1),(4,1),(5,1),(6,1)],some (.bT (.int .i64) (.bT (.int .i64) (.bT (.int .i64) (.bT (.ce .u8) (.bT .str (.bT .str (.ce (.bT .str (.ce (.int .i64)))))))))),104⟩
def Y5:b5:=⟨.ce 9,1,false,[.dc],[],some (.ce .str),24⟩
def Y6:b5:=⟨.ptr 97,1,false,[.bH (.pointer none)],[],some .aM,8⟩
def Y7:b5:=⟨.ce 3,1,false,[.dc],[],some (.ce (.int .i64)),24⟩
def t44:b5:=⟨.st,4,true,[.dc,.dc,.dc,.dc],[(0,1),(1,1),(2,1),(3,1)],some (.bT (.ce (.int .i64)) (.bT (.ce (.int .i64)) (.bT (.ce (.int .i64)) (.ce (.int .i64))))),96⟩
def t46:b5:=⟨.ptr 168,1,false,[.bH (.pointer none)],[],some .aM,8⟩
def Y8:b5:=⟨.st,5,true,[.d (.int .i64 0),.d (.int .i64 0),.d (.int .i64 0),.d (.int .i64 0),.d (.int .i64 0)],[(0,1),(1,1),(2,1),(3,1),(4,1)],some (.bT (.int .i64) (.bT (.int .i64) (.bT (.int .i64) (.bT (.int .i64) (.int .i64))))),40⟩
def Y9:b5:=⟨.ptr 198,1,false,[.bH (.pointer none)],[],some .aM,8⟩
def t57:b5:=⟨.ce 61,1,false,[.dc],[],some (.ce (.bT (.int .i64) (.bT (.int .i64) (.ce .u8)))),24⟩
def Y':b5:=⟨.st,3,true,[.d (.int .i64 0),.d (.int .i64 0),.dc],[(0,1),(1,1),(2,1)],some (.bT (.int .i64) (.bT (.int .i64) (.ce .u8))),40⟩
def Za:b5:=⟨.ce 66,1,false,[.dc],[],some (.ce (.bT (.int .i64) (.bT (.int .i64) (.int .i64)))),24⟩
def Zb:b5:=⟨.st,3,true,[.d (.int .i64 0),.d (.int .i64 0),.d (.int .i64 0)],[(0,1),(1,1),(2,1)],some (.bT (.int .i64) (.bT (.int .i64) (.int .i64))),24⟩
def Zc:b5:=⟨.ptr 126,1,false,[.bH (.pointer none)],[],some .aM,8⟩
def Zd:b5:=⟨.mp 3 31,1,false,[.bH (.map none)],[],none,8⟩
def Ze:b5:=⟨.ptr 195,1,false,[.bH (.pointer none)],[],some .aM,8⟩
def Zf:b5:=⟨.other,1,false,[.bH .nilIface],[],none,16⟩
def Zg:b5:=⟨.ptr 216,1,false,[.bH (.pointer none)],[],some .aM,8⟩
def Zh:b5:=⟨.ptr 225,1,false,[.bH (.pointer none)],[],some .aM,8⟩
def Zi:b5:=⟨.ce 128,1,false,[.dc],[],some (.ce (.bT (.int .i64) (.ce .u8))),24⟩
def Zj:b5:=⟨.st,5,true,[.d (.str []),.d (.str []),.d (.int .i64 0),.d (.int .i64 0),.dc],[(0,1),(1,1),(2,1),(3,1),(4,1)],some (.bT .str (.bT .str (.bT (.int .i64) (.bT (.int .i64) (.ce (.bT (.int .i64) (.ce .u8))))))),72⟩
def Zk:b5:=⟨.ptr 208,1,false,[.bH (.pointer none)],[],some .aM,8⟩
def Zl:b5:=⟨.st,7,true,[.d (.str []),.d (.str []),.d (.int .i64 0),.d (.int .i64 0),.dc,.d (.str []),.bH (.pointer none)],[(0,5),(5,1),(6,1)],some (.bT (.bT .str (.bT .str (.bT (.int .i64) (.bT (.int .i64) (.ce (.bT (.int .i64) (.ce .u8))))))) (.bT .str .aM)),96⟩
def Zm:b5:=⟨.st,17,true,[.d (.int .i64 0),.d (.str []),.bH (.pointer none),.bH (.pointer none),.bH (.pointer none),.bH (.pointer none),.d (.int .i64 0),.bH .nilIface,.bH (.pointer none),.bH (.pointer none),.d (.str []),.d (.str []),.d (.int .i64 0),.d (.int .i64 0),.dc,.d (.str []),.bH (.pointer none)],[(0,1),(1,1),(2,1),(3,1),(4,1),(5,1),(6,1),(7,1),(8,1),(9,1),(10,7)],none,192⟩
def Zn:b5:=⟨.other,1,false,[.bH .nilFunc],[],some .fn,8⟩
def Zo:b5:=⟨.other,1,false,[.bH .nilFunc],[],some .fn,8⟩
def Zp:b5:=⟨.mp 9 95,1,false,[.bH (.map none)],[],none,8⟩
def Zq:b5:=⟨.ptr 106,1,false,[.bH (.pointer none)],[],some .aM,8⟩
def Zr:b5:=⟨.st,3,true,[.d (.int .i64 0),.d (.int .i64 0),.bH (.map none)],[(0,1),(1,1),(2,1)],none,24⟩
def Zs:b5:=⟨.ptr 170,1,false,[.bH (.pointer none)],[],some .aM,8⟩
def Zt:b5:=⟨.st,2,true,[.bH (.pointer none),.d (.str [])],[(0,1),(1,1)],some (.bT .aM .str),24⟩
def Zu:b5:=⟨.st,2,true,[.d (.int .i64 0),.d (.int .i64 0)],[(0,1),(1,1)],some (.bT (.int .i64) (.int .i64)),16⟩
def Zv:b5:=⟨.other,1,false,[.bH .nilFunc],[],some .fn,8⟩
def Zw:b5:=⟨.st,3,true,[.bH (.pointer none),.d (.str []),.bH (.pointer none)],[(0,1),(1,1),(2,1)],some (.bT .aM (.bT .str .aM)),32⟩
def Zx:b5:=⟨.ptr 184,1,false,[.bH (.pointer none)],[],some .aM,8⟩
def Zy:b5:=⟨.other,1,false,[.bH .nilFunc],[],some .fn,8⟩
def Zz:b5:=⟨.ce 84,1,false,[.dc],[],some (.ce (.bT .str (.bT .str (.bT (.int .i64) (.bT (.int .i64) (.ce (.bT (.int .i64) (.ce .u8)))))))),24⟩
def ZA:b5:=⟨.st,1,true,[.dc],[(0,1)],some (.ce (.bT .str (.bT .str (.bT (.int .i64) (.bT (.int .i64) (.ce (.bT (.int .i64) (.ce .u8)))))))),24⟩
def ZB:b5:=⟨.st,2,true,[.d (.int .i64 0),.dc],[(0,1),(1,1)],some (.bT (.int .i64) (.ce .u8)),32⟩
def ZC:b5:=⟨.ptr 220,1,false,[.bH (.pointer none)],[],some .aM,8⟩
def ZD:b5:=⟨.other,1,false,[.bH .nilFunc],[],some .fn,8⟩
def ZE:b5:=⟨.ptr 263,1,false,[.bH (.pointer none)],[],some .aM,8⟩
def ZF:b5:=⟨.mp 3 27,1,false,[.bH (.map none)],[],none,8⟩
def ZG:b5:=⟨.ce 253,1,false,[.dc],[],some (.ce (.bT .str .aM)),24⟩
def ZH:b5:=⟨.st,5,true,[.d (.int .i64 0),.bH (.pointer none),.bH (.pointer none),.bH (.map none),.dc],[(0,1),(1,1),(2,1),(3,1),(4,1)],none,56⟩
def ZI:b5:=⟨.st,1,true,[.dc],[(0,1)],some (.ce (.int .i64)),24⟩
def ZJ:b5:=⟨.ce 164,1,false,[.dc],[],some (.ce .aM),24⟩
def ZK:b5:=⟨.other,1,false,[.bH .nilFunc],[],some .fn,8⟩
def ZL:b5:=⟨.st,3,true,[.d (.int .i64 0),.d (.int .i64 0),.d (.lit false)],[(0,1),(1,1),(2,1)],some (.bT (.int .i64) (.bT (.int .i64) .bool)),24⟩
def ZM:b5:=⟨.ce 110,1,false,[.dc],[],some (.ce (.bT (.int .i64) (.int .i64))),24⟩
def ZN:b5:=⟨.other,1,false,[.bH .nilFunc],[],some .fn,8⟩
def ZO:b5:=⟨.mp 3 180,1,false,[.bH (.map none)],[],none,8⟩
def ZP:b5:=⟨.st,2,true,[.dc,.d (.int .i64 0)],[(0,1),(1,1)],some (.bT (.ce .u8) (.int .i64)),32⟩
def ZQ:b5:=⟨.int .u64,1,false,[.d (.int .u64 0)],[],some (.int .u64),8⟩
def ZR:b5:=⟨.other,1,false,[.bH .nilFunc],[],some .fn,8⟩
def ZS:b5:=⟨.mp 9 231,1,false,[.bH (.map none)],[],none,8⟩
def ZT:b5:=⟨.st,2,true,[.d (.int .i64 0),.bH (.map none)],[(0,1),(1,1)],none,16⟩
def ZU:b5:=⟨.mp 9 209,1,false,[.bH (.map none)],[],none,8⟩
def ZV:b5:=⟨.st,1,true,[.bH (.map none)],[(0,1)],none,8⟩
def ZW:b5:=⟨.other,1,false,[.bH .nilFunc],[],some .fn,8⟩
def ZX:b5:=⟨.other,1,false,[.bH .nilFunc],[],some .fn,8⟩
def ZY:b5:=⟨.mp 3 3,1,false,[.bH (.map none)],[],none,8⟩
def ZZ:b5:=⟨.st,3,true,[.d (.int .i64 0),.d (.int .i64 0),.bH (.map none)],[(0,1),(1,1),(2,1)],none,24⟩
def Z0:b5:=⟨.ptr 212,1,false,[.bH (.pointer none)],[],some .aM,8⟩
def Z1:b5:=⟨.st,4,true,[.d (.str []),.d (.lit false),.d (.lit false),.bH (.pointer none)],[(0,1),(1,1),(2,1),(3,1)],some (.bT .str (.bT .bool (.bT .bool .aM))),32⟩
def Z2:b5:=⟨.st,5,true,[.bH (.pointer none),.d (.str []),.d (.str []),.bH (.map none),.d (.lit false)],[(0,1),(1,1),(2,1),(3,1),(4,1)],none,56⟩
def Z3:b5:=⟨.st,4,true,[.bH (.pointer none),.d (.str []),.d (.str []),.d (.lit false)],[(0,1),(1,1),(2,1),(3,1)],some (.bT .aM (.bT .str (.bT .str .bool))),48⟩
def Z4:b5:=⟨.st,9,true,[.bH (.pointer none),.d (.str []),.d (.int .i64 0),.d (.int .i64 0),.d (.int .i64 0),.bH (.map none),.bH (.map none),.d (.lit false),.d (.lit false)],[(0,1),(1,1),(2,1),(3,1),(4,1),(5,1),(6,1),(7,1),(8,1)],none,72⟩
def Z5:b5:=⟨.ptr 299,1,false,[.bH (.pointer none)],[],some .aM,8⟩
def Z6:b5:=⟨.st,2,true,[.d (.str []),.dc],[(0,1),(1,1)],some (.bT .str (.ce (.int .i64))),40⟩
def Z7:b5:=⟨.other,1,false,[.bH .nilFunc],[],some .fn,8⟩
def Z8:b5:=⟨.st,2,true,[.d (.str []),.bH (.pointer none)],[(0,1),(1,1)],some (.bT .str .aM),24⟩
def Z9:b5:=⟨.other,1,false,[.bH .nilFunc],[],some .fn,8⟩
def Z':b5:=⟨.other,1,false,[.bH .nilFunc],[],some .fn,8⟩
def aaa:b5:=⟨.other,1,false,[.bH .nilFunc],[],some .fn,8⟩
def aab:b5:=⟨.mp 3 261,1,false,[.bH (.map none)],[],none,8⟩
def aac:b5:=⟨.arr 16 176,48,true,[.d (.int .i64 0),.d (.int .i64 0),.d (.lit false),.d (.int .i64 0),.d (.int .i64 0),.d (.lit false),.d (.int .i64 0),.d (.int .i64 0),.d (.lit false),.d (.int .i64 0),.d (.int .i64 0),.d (.lit false),.d (.int .i64 0),.d (.int .i64 0),.d (.lit false),.d (.int .i64 0),.d (.int .i64 0),.d (.lit false),.d (.int .i64 0),.d (.int .i64 0),.d (.lit false),.d (.int .i64 0),.d (.int .i64 0),.d (.lit false),.d (.int .i64 0),.d (.int .i64 0),.d (.lit false),.d (.int .i64 0),.d (.int .i64 0),.d (.lit false),.d (.int .i64 0),.d (.int .i64 0),.d (.lit false),.d (.int .i64 0),.d (.int .i64 0),.d (.lit false),.d (.int .i64 0),.d (.int .i64 0),.d (.lit false),.d (.int .i64 0),.d (.int .i64 0),.d (.lit false),.d (.int .i64 0),.d (.int .i64 0),.d (.lit false),.d (.int .i64 0),.d (.int .i64 0),.d (.lit false)],[],some (.arr 16 (.bT (.int .i64) (.bT (.int .i64) .bool))),384⟩
def aad:b5:=⟨.st,2,true,[.d (.int .i64 0),.bH (.map none)],[(0,1),(1,1)],none,16⟩
def aae:b5:=⟨.other,1,false,[.bH .nilFunc],[],some .fn,8⟩
def aaf:b5:=⟨.other,1,false,[.bH .nilFunc],[],some .fn,8⟩
def aag:b5:=⟨.other,1,false,[.bH .nilFunc],[],some .fn,8⟩
def aah:b5:=⟨.st,4,true,[.d (.int .i64 0),.d (.int .i64 0),.d (.int .i64 0),.d (.int .i64 0)],[(0,1),(1,1),(2,1),(3,1)],some (.bT (.int .i64) (.bT (.int .i64) (.bT (.int .i64) (.int .i64)))),32⟩
def aai:b5:=⟨.other,1,false,[.bH .nilFunc],[],some .fn,8⟩
def aaj:b5:=⟨.other,1,false,[.bH .nilFunc],[],some .fn,8⟩
def aak:b5:=⟨.other,1,false,[.bH .nilFunc],[],some .fn,8⟩
def aal:b5:=⟨.other,1,false,[.bH .nilFunc],[],some .fn,8⟩
def aam:b5:=⟨.other,1,false,[.bH .nilFunc],[],some .fn,8⟩
def aan:b5:=⟨.mp 3 301,1,false,[.bH (.map none)],[],none,8⟩
def aao:b5:=⟨.ce 303,1,false,[.dc],[],some (.ce (.bT (.int .i64) (.arr 16 .u8))),24⟩
def aap:b5:=⟨.st,5,true,[.d (.int .i64 0),.d (.int .i64 0),.bH (.map none),.bH (.map none),.dc],[(0,1),(1,1),(2,1),(3,1),(4,1)],none,56⟩
def aaq:b5:=⟨.arr 16 5,16,true,[.d (.int .u8 0),.d (.int .u8 0),.d (.int .u8 0),.d (.int .u8 0),.d (.int .u8 0),.d (.int .u8 0),.d (.int .u8 0),.d (.int .u8 0),.d (.int .u8 0),.d (.int .u8 0),.d (.int .u8 0),.d (.int .u8 0),.d (.int .u8 0),.d (.int .u8 0),.d (.int .u8 0),.d (.int .u8 0)],[],some (.arr 16 .u8),16⟩
def aar:b5:=⟨.st,17,true,[.d (.int .i64 0),.d (.int .u8 0),.d (.int .u8 0),.d (.int .u8 0),.d (.int .u8 0),.d (.int .u8 0),.d (.int .u8 0),.d (.int .u8 0),.d (.int .u8 0),.d (.int .u8 0),.d (.int .u8 0),.d (.int .u8 0),.d (.int .u8 0),.d (.int .u8 0),.d (.int .u8 0),.d (.int .u8 0),.d (.int .u8 0)],[(0,1),(1,16)],some (.bT (.int .i64) (.arr 16 .u8)),24⟩
def aas:b5:=⟨.int .i64,1,false,[.d (.int .i64 0)],[],some (.int .i64),8⟩
def aat:b5:=⟨.int .u32,1,false,[.d (.int .u32 0)],[],some (.int .u32),4⟩
def aau:b5:=⟨.int .u64,1,false,[.d (.int .u64 0)],[],some (.int .u64),8⟩
def aav:b5:=⟨.ptr 356,1,false,[.bH (.pointer none)],[],some .aM,8⟩
def aaw:b5:=⟨.int .u64,1,false,[.d (.int .u64 0)],[],some (.int .u64),8⟩
def aax:b5:=⟨.ptr 3,1,false,[.bH (.pointer none)],[],some .aM,8⟩
def aay:b5:=⟨.ce 121,1,false,[.dc],[],some (.ce .fn),24⟩
def aaz:b5:=⟨.st,2,true,[.dc,.d (.int .i64 0)],[(0,1),(1,1)],some (.bT (.ce .fn) (.int .i64)),32⟩
def aaA:b5:=⟨.other,1,false,[.bH .nilFunc],[],some .fn,8⟩
def aaB:b5:=⟨.ptr 341,1,false,[.bH (.pointer none)],[],some .aM,8⟩
def aaC:b5:=⟨.ce 27,1,false,[.dc],[],some (.ce (.ce .u8)),24⟩
def aaD:b5:=⟨.other,1,false,[.bH .nilFunc],[],some .fn,8⟩
def aaE:b5:=⟨.mp 3 121,1,false,[.bH (.map none)],[],none,8⟩
def aaF:b5:=⟨.other,1,false,[.bH .nilFunc],[],some .fn,8⟩
def types:df:=(.node (.node (.node (.node (.node (.node (.node .leaf 3 t3 .leaf) 4 t4 (.node .leaf 5 t5 .leaf)) 9 t9 (.node (.node .leaf 20 t20 .leaf) 21 Y1 (.node .leaf 22 t22 .leaf))) 25 t25 (.node (.node (.node .leaf 27 t27 .leaf) 29 t29 (.node .leaf 30 Y2 .leaf)) 31 Y3 (.node (.node .leaf 32 t32 .leaf) 34 Y4 .leaf))) 37 Y5 (.node (.node (.node (.node .leaf 38 Y6 .leaf) 42 Y7 (.node .leaf 44 t44 .leaf)) 46 t46 (.node (.node .leaf 51 Y8 .leaf) 55 Y9 (.node .leaf 57 t57 .leaf))) 61 Y' (.node (.node (.node .leaf 62 Za .leaf) 66 Zb (.node .leaf 70 Zc .leaf)) 75 Zd (.node (.node .leaf 77 Ze .leaf) 79 Zf .leaf)))) 80 Zg (.node (.node (.node (.node (.node .leaf 81 Zh .leaf) 82 Zi (.node .leaf 84 Zj .leaf)) 85 Zk (.node (.node .leaf 87 Zl .leaf) 89 Zm (.node .leaf 91 Zn .leaf))) 92 Zo (.node (.node (.node .leaf 94 Zp .leaf) 95 Zq (.node .leaf 97 Zr .leaf)) 98 Zs (.node (.node .leaf 106 Zt .leaf) 110 Zu .leaf))) 112 Zv (.node (.node (.node (.node .leaf 114 Zw .leaf) 118 Zx (.node .leaf 121 Zy .leaf)) 124 Zz (.node (.node .leaf 126 ZA .leaf) 128 ZB (.node .leaf 143 ZC .leaf))) 146 ZD (.node (.node (.node .leaf 164 ZE .leaf) 165 ZF (.node .leaf 166 ZG .leaf)) 168 ZH (.node (.node .leaf 170 ZI .leaf) 171 ZJ .leaf))))) 173 ZK (.node (.node (.node (.node (.node (.node .leaf 176 ZL .leaf) 177 ZM (.node .leaf 180 ZN .leaf)) 181 ZO (.node (.node .leaf 184 ZP .leaf) 186 ZQ (.node .leaf 189 ZR .leaf))) 193 ZS (.node (.node (.node .leaf 195 ZT .leaf) 196 ZU (.node .leaf 198 ZV .leaf)) 202 ZW (.node (.node .leaf 204 ZX .leaf) 206 ZY .leaf))) 208 ZZ (.node (.node (.node (.node .leaf 209 Z0 .leaf) 212 Z1 (.node .leaf 216 Z2 .leaf)) 220 Z3 (.node (.node .leaf 225 Z4 .leaf) 231 Z5 (.node .leaf 234 Z6 .leaf))) 235 Z7 (.node (.node (.node .leaf 253 Z8 .leaf) 254 Z9 (.node .leaf 256 Z' .leaf)) 257 aaa (.node (.node .leaf 259 aab .leaf) 261 aac .leaf)))) 263 aad (.node (.node (.node (.node (.node .leaf 264 aae .leaf) 268 aaf (.node .leaf 269 aag .leaf)) 272 aah (.node (.node .leaf 280 aai .leaf) 283 aaj (.node .leaf 284 aak .leaf))) 290 aal (.node (.node (.node .leaf 293 aam .leaf) 296 aan (.node .leaf 297 aao .leaf)) 299 aap (.node (.node .leaf 301 aaq .leaf) 303 aar .leaf))) 312 aas (.node (.node (.node (.node .leaf 321 aat .leaf) 323 aau (.node .leaf 338 aav .leaf)) 341 aaw (.node (.node .leaf 345 aax .leaf) 354 aay .leaf)) 356 aaz (.node (.node (.node .leaf 358 aaA .leaf) 359 aaB (.node .leaf 368 aaC .leaf)) 369 aaD (.node (.node .leaf 390 aaE .leaf) 393 aaF .leaf))))))
end vh
def eC:d5 prog vh.types:=d5.of aA0
def mixed:prog.follows .mixedOrders=true:=by kernel_rfl
end
section
open Go.ChangeShapes Go.WideShapes Go.ChangeAt Go.RowKit
section
variable {hE:Type} {enc:TypeId×Value->hE} {P:aD9}
def aaG {f:Func} {s:ChangeSpec} {apart fresh handsOn again:Bool} {W mL:aD8} {args:aF6} {v:aE7} {ds gs:List (DataW hE)} {oo pa pv:List MemPlace}
  (cV:DataW.Whole enc P f.params.toList s.vars apart W args.toList ds gs oo)
  (i7: ∀(b:Nat) (sp:Nat->Bool) (H:Bool),DataW.TrodAll enc P mL b sp H f.resultTypes.toList (v.resultList f.resultTypes.size) (s.fn hE (ds++gs)).results [])
  (fk: ∀sp:Nat->Bool,(∀p∈oo,sp p.block=true)->DataW.TrodAll enc P mL 0 sp true f.params.toList args.toList (s.fn hE (ds++gs)).args pa)
  (BB: ∀sp:Nat->Bool,(∀p∈oo,sp p.block=true)->DataW.TrodVars enc P mL sp s.vars (s.fn hE (ds++gs)).vars pv)
  (lh:oo=pa++pv) (O:Below W.heap.size W mL)
  (bv: ∀(j:Nat) (t:TypeId) (r:Value),f.resultTypes[j]? =some t->(v.resultList f.resultTypes.size)[j]? =some r->Value.okWide P mL .any 0 t r):
  s.post enc P f apart fresh handsOn again W args v mL:=by
 have br: ∀p∈oo,p.block < W.heap.size:=fun p ao=>cV.lt p ao
 have mf: ∀p∈oo,(fun b=>decide (b < W.heap.size)) p.block=true:=fun p ao=>by simpa using br p ao
 refine⟨ds,gs,oo,[],pa,pv,cV,i7 _ _ _,fk _ mf,BB _ mf,World.keptBut_mono (fun p ao=>⟨ao,?_⟩) (O.frame (· ∈oo)),fun _=>?_⟩
 .rw[lh,ar7] at ao;exact Or.inr ao
 .obtain⟨_,_,_,_,_,aO,hn⟩:=cV;refine⟨bv,_,_,([]++pa)++pv,⟨[]++pa,pv,trodAll_append (fk _ (fun _ _=>rfl)) (i7 _ _ _),BB _ (fun _ _=>rfl),rfl,?_,?_⟩,?_⟩
  .intro b off ao;have dW:MemPlace.cell b off∈oo:=by rw[lh];simpa using ao
   rw[O.frozen (br _ dW)];exact aO b off dW
  .intro ha;have:=hn ha;rw[lh] at this;simpa using this
  .intro p ao _;rw[lh];simpa using ao
end
def PA:(u:bz)->aa u->aN
 | .bT u v,x=>.c (.agg (fE (.bT u v) x 0 (aR (.bT u v))))
 | .arr n u,x=>.c (.agg (fE (.arr n u) x 0 (aR (.arr n u))))
 | .int k,x=>.c (.one (.d (fq (.int k) x 0)))
 | .u8,x=>.c (.one (.d (fq .u8 x 0)))
 | .bool,x=>.c (.one (.d (fq .bool x 0)))
 | .str,x=>.c (.one (.d (fq .str x 0)))
 | .aM,x=>.c (.one (.d (fq .aM x 0)))
 | .dd,x=>.c (.one (.d (fq .dd x 0)))
 | .fn,x=>.c (.one (.d (fq .fn x 0)))
 | .ce u,x=>.c (.one (.d (fq (.ce u) x 0)))
def tZ (P:aD9) (t:aE4):Bool:=match P.underlying t with
 |some (.struct _)=>false
 |some (.array _ _)=>false
 |some _=>true
 |none=>false
def EC (P:aD9) (u:bz) (t:aE4):Bool:=pH P 20 u t&&(mE u == tZ P t)&&Nat.beq (P.cellsOf t) (aR u)&&P.readableRec t&&Nat.blt t P.types.size
section
variable {hE:Type} {enc:TypeId×Value->hE} {W:aD8} {P:aD9} {ρ:Nat->bm} {I:Nat->Prop}
def PB {u:bz} {x:aa u} {cs:aD7} (H:cw I W u x (fun j=>cs[j]?)): ∀(n o:Nat),o+n<=aR u->o+n<=cs.length->cb ρ I W (fE u x o n) ((cs.drop o).take n)
 |0,o,_,_=>by simp[fE,cb]
 |n+1,o,h,ak=>by
  obtain⟨v,ay,tS⟩:=cw.cell u x _ o H az7;refine⟨v,(cs.drop (o+1)).take n,?_,tS,PB H n (o+1) az7 az7⟩;have:=(ap6.1 ay).2;rw[aw3 (by omega:o < cs.length),List.take_succ_cons,this]
def aaH {t:aE4} {v:aE7} {base:Nat} (E:tZ P t=true) (h:Value.okWide P W .any base t v) {fuel:Nat} {sp:Nat->Bool} {u:bz} {n:Nat} {x:DataW hE×List MemPlace} (a8:pH P n u t=true) (G:mE u=true):v.cells.toList=[v]:=by
 cases n with
 |zero=>simp[pH] at a8
 |succ n=>
  unfold pH at a8
  split at a8
  case h_1 k d4 cq=>obtain⟨n,rfl⟩:=okWide_int cq h;rfl
  case h_2 k cq=>obtain⟨n,rfl⟩:=okWide_int cq h;rfl
  case h_3 cq=>obtain⟨n,rfl⟩:=okWide_bool cq h;rfl
  case h_4 cq=>obtain⟨n,rfl⟩:=okWide_string cq h;rfl
  case h_5 e v cq=>obtain⟨a,b,c,rfl⟩:=okWide_slice cq h;rfl
  case h_6=>simp[mE] at G
  case h_7 fs u cq=>simp[tZ,cq] at E
  case h_8=>cases a8
def aaI {t:aE4} {v:aE7} {base:Nat} (E:tZ P t=false) (h:Value.okWide P W .any base t v) {n:Nat} {u:bz} (a8:pH P n u t=true): ∃cs,v= .agg cs/\cs.size=P.cellsOf t:=by
 cases n with
 |zero=>simp[pH] at a8
 |succ n=>
  unfold pH at a8;unfold Value.okWide at h
  split at a8
  case h_1 k d4 cq=>simp[tZ,cq] at E
  case h_2 k cq=>simp[tZ,cq] at E
  case h_3 cq=>simp[tZ,cq] at E
  case h_4 cq=>simp[tZ,cq] at E
  case h_5 e v cq=>simp[tZ,cq] at E
  case h_6 k e d4 v cq=>rw[cq] at h;obtain⟨cs,E,G,_⟩:=h;exact⟨cs,E,G⟩
  case h_7 fs u cq=>rw[cq] at h;obtain⟨cs,E,G,_⟩:=h;exact⟨cs,E,G⟩
  case h_8=>cases a8
def aaJ {u:bz} {t:aE4} {v:aE7} {d:DataW hE} {bE:List MemPlace} {base:Nat} {sp:Nat->Bool} (h:EC P u t=true) (bv:Value.okWide P W .any base t v) (b4:DataW.Trod enc P W 0 sp true t v d bE):
  ∃a:aa u,cv ρ (fun b=>b < W.heap.size) W (PA u a) v/\hO u a<=Rows.uptoBulk d/\sI u a:=by
 simp only[EC,ao8,Nat.beq_eq,beq_iff_eq] at h;obtain⟨⟨⟨⟨E,G⟩,ag⟩,_⟩,_⟩:=h;obtain⟨n,hn⟩:=b4;obtain⟨a,cE,cG,dG⟩:=EB _ _ _ E _ _ _ hn;refine⟨a,?_,cG,dG⟩
 cases ai:mE u with
 |true=>
  rw[aaH (x:=(d,bE)) (fuel:=n) (sp:=sp) (by rw[<-G,ai]) bv E ai] at cE;obtain⟨dp,af,al⟩:=cw.cell u a _ 0 cE (by rcases u with _ |_ |_ |_ |_ |_ |_ <;>simp[aR,mE] at*);simp only[aq2,ap5] at af;subst af
  cases u <;>first |exact al |(simp[mE] at ai)
 |false=>
  obtain⟨cs,rfl,cL⟩:=aaI (by rw[<-G,ai]) bv E;have ak:cs.toList.length=aR u:=by rw[Array.length_toList];omega
  have:=PB (ρ:=ρ) cE (aR u) 0 az7 (by simpa[Value.cells] using(show 0+aR u<=cs.toList.length by omega));rw[List.drop_zero,au0 (by simp only[Value.cells];omega)] at this
  cases u <;>first |exact⟨_,rfl,this⟩ |(simp[mE] at ai)
def y3:List bz->Type
 | []=>Unit
 |u::us=>aa u×y3 us
def vi:(us:List bz)->y3 us->List aN
 | [],_=>[]
 |u::us,x=>PA u x.1::vi us x.2
noncomputable def ED:(us:List bz)->y3 us->Nat
 | [],_=>0
 |u::us,x=>hO u x.1+ED us x.2
def IX:(us:List bz)->y3 us->Prop
 | [],_=>True
 |u::us,x=>sI u x.1/\IX us x.2
def sK (P:aD9):List bz->List TypeId->Bool
 | [],[]=>true
 |u::us,t::ct=>EC P u t&&sK P us ct
 |_,_=>false
def PC {base:Nat} {sp:Nat->Bool}: ∀(us:List bz) (ct:List TypeId) (aB:aD7) (ds:List (DataW hE)) (bE:List MemPlace),sK P us ct=true->(∀(j:Nat) t v,ct[j]? =some t->aB[j]? =some v->Value.okWide P W .any base t v)->
  DataW.TrodAll enc P W 0 sp true ct aB ds bE-> ∃a:y3 us,aB.length=(vi us a).length/\(∀(i:Nat) (s:aN) (x:aE7),(vi us a)[i]? =some s->aB[i]? =some x->cv ρ (fun b=>b < W.heap.size) W s x)/\ED us a<=Rows.uptoBulkAll ds/\IX us a
 | [],[],aB,ds,bE,_,_,b4=>by
  obtain⟨rfl,rfl,rfl⟩:=trodAll_nil b4;exact⟨(),rfl,fun i s x h=>by simp[vi] at h,ap9 _,trivial⟩
 | [],_::_,_,_,_,h,_,_=>by simp[sK] at h
 |_::_,[],_,_,_,h,_,_=>by simp[sK] at h
 |u::us,t::ct,aB,ds,bE,h,bv,b4=>by
  simp only[sK,ao8] at h;obtain⟨v,aB,d,ds,p,q,rfl,rfl,rfl,au,aw⟩:=trodAll_cons b4;obtain⟨a,bR,b',a3⟩:=aaJ (ρ:=ρ) h.1 (bv 0 t v rfl rfl) au;obtain⟨b,b1,b2,b3,ej⟩:=PC us ct aB ds q h.2 (fun j t v E G=>bv (j+1) t v E G) aw;refine⟨(a,b),by simp[vi,b1],fun i s x E G=>?_,by simp only[ED,Rows.uptoBulkAll];omega,a3,ej⟩
  match i with
  |0=>simp only[vi,aq2,ap5] at E G;subst E G;exact bR
  |i+1=>exact b2 i s x (by simpa[vi] using E) (by simpa using G)
def PD (laid:laidOutB P=true) {mL:aD8} {PE:Nat->Bool}: ∀(us:List bz) (ct:List TypeId) (aB:aD7) (ds:List (DataW hE)) (bE:List MemPlace),sK P us ct=true->
  DataW.TrodAll enc P W 0 (fun _=>true) true ct aB ds bE->Below W.heap.size W mL->(∀x∈bE,x.block < W.heap.size)->(∀x∈bE,PE x.block=true)->DataW.TrodAll enc P mL 0 PE true ct aB ds bE
 | [],[],aB,ds,bE,_,b4,_,_,_=>by
  obtain⟨rfl,rfl,rfl⟩:=trodAll_nil b4;exact trodAll_mk0
 | [],_::_,_,_,_,h,_,_,_,_=>by simp[sK] at h
 |_::_,[],_,_,_,h,_,_,_,_=>by simp[sK] at h
 |u::us,t::ct,aB,ds,bE,h,b4,O,br,BC=>by
  simp only[sK,ao8] at h;obtain⟨v,aB,d,ds,p,q,rfl,rfl,rfl,au,aw⟩:=trodAll_cons b4;have E:=h.1;simp only[EC,ao8,Nat.blt_eq] at E;exact trodAll_cons_mk (WideElems.Trod_stays laid E.1.2 E.2 au (fun x hx=>O.same (br x (by simp[hx]))) (fun x hx=>BC x (by simp[hx]))) (PD laid us ct aB ds q h.2 aw O (fun x hx=>br x (by simp[hx])) (fun x hx=>BC x (by simp[hx])))
def Fn.aaK {f:aE8} {args:List aN} (bj:Fn P f args [] [] (gT true) []) (bW:aF6) (ak:bW.toList.length=args.length)
  (H: ∀(i:Nat) (s:aN) (x:Value),args[i]? =some s->bW.toList[i]? =some x->cv ρ (fun b=>b < W.heap.size) W s x):Calls P f bW W fun e mL=>e= .returned (.bool true)/\Below W.heap.size W mL:=by
 have h:=bj.2 ρ (fun _ _=>False) (fun b=>b < W.heap.size) W bW.toList (fun b h=>h) (fun c ch J=>by simp[ae] at J) (fun c ch J=>by simp[ae] at J) (fun c ck ch ch' b J=>by simp[ae] at J) ak H;rw[Array.toArray_toList] at h;refine h.mono ?_;rintro e mL ⟨x,ρ',F',rfl,cC,-,I',-,-,-,-,-,hx⟩;rw[show x= .bool true from hx];exact⟨rfl,cC.below (ao9 _) (by rintro i _ ⟨c,ch,J,_⟩;simp[ae] at J)⟩
end
def aaL:ownKnob prog.godebug=none:=by kernel_rfl
def aaM:laidOutB prog=true:=by kernel_rfl
def aaN {hE:Type} {enc:TypeId×Value->hE} {W:aD8} {args:aF6} {ds gs:List (DataW hE)} {oo:List MemPlace} {base:Nat} (f:aE8) (fn:Func) (s:ChangeSpec) (us:List bz) (n:Nat)
  (i7:fn.resultTypes= #[4]) (BB:s.vars=[]) (PF:sK prog us fn.params.toList=true)
  (j0: ∀ds:List (DataW hE),ds.length=fn.params.toList.length->(s.fn hE ds).results=[.lit (.bool true)]/\(s.fn hE ds).vars=[]/\(s.fn hE ds).args=ds)
  (BD: ∀(j:Nat) t v,fn.params[j]? =some t->args[j]? =some v->Value.okWide prog W .any base t v)
  (cV:DataW.Whole enc prog fn.params.toList s.vars false W args.toList ds gs oo) (Z:Rows.uptoBulkAll (ds++gs)<=n)
  (bj: ∀a:y3 us,ED us a<=n->IX us a->Fn prog f (vi us a) [] [] (gT true) []):
  Calls prog f args W fun e mL=> ∃v,e= .returned v/\s.post enc prog fn false true false false W args v mL:=by
 have PG:=cV;have br:=cV.lt;obtain⟨p,q,eR,w5,rfl,aor,dx⟩:=cV;rw[BB] at w5;obtain⟨rfl,rfl⟩:=trodVars_none w5;simp only[at3] at PG Z br;obtain⟨a,bR,b',a3,a4⟩:=PC (ρ:=fun _=>⟨0,none,0,0⟩) us fn.params.toList args.toList ds p PF (fun j t v E G=>BD j t v aC9 (by simpa using G)) eR
 have bZ:ds.length=fn.params.toList.length:=by
  have: ∀(ct:List TypeId) (aB:aD7) (ds:List (DataW hE)) (bE:List MemPlace),DataW.TrodAll enc prog W 0 (fun _=>true) true ct aB ds bE->ds.length=ct.length:=fun ct=>by
   induction ct with
   |nil=>intro aB ds bE h;obtain⟨_,rfl,_⟩:=trodAll_nil h;rfl
   |cons t ct bl=>intro aB ds bE h;obtain⟨v,aB,d,ds,p,q,rfl,rfl,rfl,au,aw⟩:=trodAll_cons h;simp[bl _ _ _ aw]
  exact this _ _ _ _ eR
 obtain⟨r1,r2,fI⟩:=j0 ds bZ;refine((bj a az7 a4).aaK args bR b').mono fun e mL ⟨U,O⟩=>?_
 subst U;refine⟨_,rfl,aaG (pa:=p) (pv:=[]) PG ?_ ?_ ?_ az9 O ?_⟩
 .intro b sp H;rw[at3,r1,i7];exact trodAll_cons_mk (shut_bool underlying4 _) trodAll_mk0
 .intro sp BC;rw[at3,fI];exact PD aaM us _ _ _ _ PF eR O (fun x hx=>br x aC7) (fun x hx=>BC x aC7)
 .intro sp BC;rw[at3,r2,BB];rfl
 .exact Go.RowKit.ok_one i7 rfl (okWide_bool_mk underlying4 _)
end
section
set_option maxRecDepth 100000
open Go.ChangeShapes Go.WideShapes Go.ChangeAt Go.RowKit
def h7 {a b:Bool} (h:a=true) (k:b=true):(a&&b)=true:=by rw[h,k];rfl
def IY:OpenClaim:={program:= "",sum:= "",func:= "",spec:= "" }
def aaO:laidOutB prog=true:=by kernel_rfl
def aaP:mapsRowed prog=true:=by kernel_rfl
def aaQ:(IY.plainKeys == prog.plainKeys)=true:=by kernel_rfl
def aaR:prog.mayEnter=true:=by kernel_rfl
def aaS:(IY.lifted == prog.liftsFinal)=true:=by kernel_rfl
def aaT:(prog.make == some IY.make)=true:=by kernel_rfl
end
section
def BE:aD3->aD3->aD3
 | [],r=>r
 |x::l,r=>match r.contains x with
  |true=>BE l r
  |false=>BE l (x::r)
def IZ {a:Nat}: ∀{l r:aD3},a∈BE l r->a∈l\/a∈r
 | [],r,h=>.inr h
 |x::l,r,h=>by
  unfold BE at h
  split at h
  .rcases IZ h with h |h
   .exact .inl (ap4 _ h)
   .exact .inr h
  .rcases IZ h with h |h
   .exact .inl (ap4 _ h)
   .rcases ap7.1 h with rfl |h
    .exact .inl (aq4 ..)
    .exact .inr h
def I0 (acc:List aD3):aD3->aD3
 | []=>[]
 |d::l=>BE (d::acc.getD d []) (I0 acc l)
def PH {acc:List aD3} {a:Nat}: ∀{l:aD3},a∈I0 acc l->a∈l\/ ∃d∈l,a∈acc.getD d []
 | [],h=>by cases h
 |d::l,h=>by
  rcases IZ h with h |h
  .rcases ap7.1 h with rfl |h
   .exact .inl (aq4 ..)
   .exact .inr ⟨d,aq4 ..,h⟩
  .rcases PH h with h |⟨e,U,h⟩
   .exact .inl (ap4 _ h)
   .exact .inr ⟨e,ap4 _ U,h⟩
def EE:List Oper->List aD3->List aD3
 | [],acc=>acc
 |o::l,acc=>EE l (acc++[I0 acc (pz o)])
def PI: ∀(l:aE9) (acc vk:List aD3),acc.length=vk.length->(∀j a,a∈acc.getD j []->a∈vk.getD j [])-> ∀j a,a∈(EE l acc).getD j []->a∈(yx l vk).getD j []
 | [],acc,vk,_,h=>h
 |o::l,acc,vk,ak,h=>by
  unfold EE yx;refine PI l _ _ (by simp[ak]) ?_;intro j a ha;rw[ap2] at ha⊢;rcases Nat.lt_trichotomy j acc.length with br |rv |tJ
  .rw[as0 br,<-ap2] at ha;rw[as0 (ak▸br),<-ap2];exact h j a ha
  .subst rv;rw[as3 (ao9 _)] at ha;rw[as3 (Nat.le_of_eq ak.symm)];simp only[Nat.sub_self,aq2,av3] at ha;simp only[ak,Nat.sub_self,aq2,av3,ar7,List.mem_flatMap];rcases PH ha with ha |⟨d,H,ha⟩
   .exact .inl ha
   .exact .inr ⟨d,H,h d a ha⟩
  .rw[av7 aB1] at ha;simp at ha
def PJ {all:aE9} {an PK:List aD3} (h: ∀j a,a∈an.getD j []->a∈PK.getD j []): ∀l:List (Oper×kJ×Nat),tB all an l=true->tB all PK l=true
 | [],_=>rfl
 |(o,n,i)::l,ao=>by
  simp only[tB,ao8] at ao⊢;refine⟨ar3.2 fun x hx=>?_,PJ h l ao.2⟩;have:=ar3.1 ao.1 x hx;obtain⟨p,m,j⟩:=x;simp only[au3,ao8,ar5] at this⊢;exact this.imp (fun g=>⟨h _ _ g.1,g.2⟩) id
def PL (K:aW) (B:av) (dl:aE9) (gg:List kJ):Bool:=
 let es:=gg.reverse
 (dl.zipIdx.all fun(o,i)=>(pz o).all fun d=>Nat.blt d i)&&(es.all fun n=>n.e.bb.all fun c=>tw c K&&kj c B)&&tB dl (EE dl []) ((dl.zip es).zipIdx.map fun((o,n),i)=>(o,n,i))
def eJ {K:aW} {B:av} {dl:aE9} {gg:List kJ} (h:PL K B dl gg=true):u4 K B dl gg=true:=by simp only[PL,ao8] at h;simp only[u4,ao8];exact⟨h.1,PJ (PI dl [] [] rfl fun _ _ h=>h) _ h.2⟩
end
section
def cz (P:aD9) (f:aE8) (args:List aN) (aJ:av) (bb:aD3) {X:Type} (res:X->aN) (aP:X->av):Prop:=
 iX P f=true/\ ∀(ρ:Nat->bm) (F:Nat->Nat->Prop) (I:Nat->Prop) (w:aD8) (bW:aD7),
  (∀b,I b->b < w.heap.size)->(∀c ch,ae aJ c=some ch->Holds ρ I (F c) w (ρ c) ch)->(∀c ch,ae aJ c=some ch-> ∀b,F c b->b < w.heap.size/\ ¬I b)->
  (∀c ck ch ch' b,ae aJ c=some ch->ae aJ ck=some ch'->c≠ck->F c b-> ¬F ck b)->
  bW.length=args.length->(∀(i:Nat) (v:aN) (x:aE7),args[i]? =some v->bW[i]? =some x->cv ρ I w v x)->
  Calls P f bW.toArray w fun e w'=> ∃(g:X) (x:aE7) (ρ':Nat->bm) (F':Nat->Nat->Prop),e= .returned x/\cR (fun b=> ∃c ch,ae aJ c=some ch/\F c b) w w'/\(∀c,c∉bb->ρ' c=ρ c)/\
   ∃I':Nat->Prop,cj I w I' w'/\(∀b,I' b->b < w'.heap.size/\(I b\/(∃c ch,ae aJ c=some ch/\F c b)\/w.heap.size<=b))/\
   (∀c ch,ae (aP g) c=some ch->Holds ρ' I' (F' c) w' (ρ' c) ch)/\
   (∀c ch,ae (aP g) c=some ch-> ∀b,F' c b->b < w'.heap.size/\ ¬I' b/\((∃gK cA,ae aJ gK=some cA/\F gK b)\/w.heap.size<=b))/\
   (∀c ck ch ch' b,ae (aP g) c=some ch->ae (aP g) ck=some ch'->c≠ck->F' c b-> ¬F' ck b)/\cv ρ' I' w' (res g) x
def Fn.x {P:aD9} {f:aE8} {args:List aN} {aJ:av} {bb:aD3} {res:aN} {aP:av} (h:Fn P f args aJ bb res aP):cz P f args aJ bb (fun _:Unit=>res) (fun _=>aP):=
 ⟨h.1,fun ρ F I w bW bR b' a3 a4 a5 ft=>(h.2 ρ F I w bW bR b' a3 a4 a5 ft).mono fun e w' q=>⟨(),q⟩⟩
section
variable {P:aD9} {aQ:df} {N:Nat} {ids:aD3} {o:Oper} {K:aW} {B:av}
def eS.back {aJ:av} {bb:aD3} {r:aN} {aP:av} (hN:kI B aJ) (I1:rp ids K B bb=true) (lG:l7 aJ bb aP=true) {C:eZ} {a:Act} {w w':aD8} {ρ ρ':Nat->bm} {F F':Nat->Nat->Prop} {I':Nat->Prop} {x:aE7} {dst:aE2}
  (hn:a.tmps.size=N) (H:a.defers=C.ds.map wx) (ah:Mem ids C B ρ F w) (ar:eh K ρ (bX C B F w) a w) (br: ∀d,dst=some d->d < N)
  (cC:cR (fun b=> ∃c ch,ae aJ c=some ch/\F c b) w w') (de: ∀c,c∉bb->ρ' c=ρ c) (gw: ∀b,I' b->b < w'.heap.size/\(bX C B F w b\/(∃c ch,ae aJ c=some ch/\F c b)\/w.heap.size<=b))
  (c9: ∀c ch,ae aP c=some ch->Holds ρ' I' (F' c) w' (ρ' c) ch) (aq: ∀c ch,ae aP c=some ch-> ∀b,F' c b->b < w'.heap.size/\ ¬I' b/\((∃gK cA,ae aJ gK=some cA/\F gK b)\/w.heap.size<=b))
  (hB: ∀c ck ch ch' b,ae aP c=some ch->ae aP ck=some ch'->c≠ck->F' c b-> ¬F' ck b) (dz:cv ρ' I' w' r x):eS N ids C (l5 dst r K) (g0 (ij aJ aP) B) (a.put dst x) w':=by
 have eM: ∀{c ch},ae aJ c=some ch->ae B c=some ch:=fun {c ch} J=>kn hN J
 have oi: ∀c∈bb,(∀s,(dQ K s).has c=false)/\ae B c=none/\(∀d ch,ae B d=some ch->ch.has c=false)/\c∉ids:=fun c J=>kK (Eg I1 c J)
 have Bg: ∀c,ae (g0 (ij aJ aP) B) c=(match ae aP c with |some ch=>some ch |none=>if c∈ci aJ then none else ae B c):=Ef aJ aJ bb aP B lG
 have oS: ∀c ch,ae (g0 (ij aJ aP) B) c=some ch->ae aP c=some ch\/(ae aP c=none/\c∉ci aJ/\ae B c=some ch):=fun c ch J=>by
  rw[Bg] at J
  cases O:ae aP c with
  |some ch'=>rw[O] at J;exact .inl J
  |none=>
   rw[O] at J;simp only at J
   split at J
   .cases J
   .rename_i Z;exact .inr ⟨rfl,Z,J⟩
 let cN:Nat->Nat->Prop:=fun c=>if c∈ci aP then F' c else F c
 have jZ: ∀c ch,ae aP c=some ch->cN c=F' c:=fun c ch J=>vj (f1.2 ⟨ch,J⟩)
 have Bh: ∀c,ae aP c=none->cN c=F c:=fun c J=>mu (fun Z=>by
  obtain⟨ch,h⟩:=f1.1 Z;rw[J] at h;cases h)
 have ko: ∀c ch,ae aP c=some ch->c∈ci aJ\/c∈bb:=fun c ch J=>Is lG (f1.2 ⟨ch,J⟩)
 have tP: ∀c ch,ae (g0 (ij aJ aP) B) c=some ch->(c∈ci aJ\/c∈bb)->ae aP c=some ch:=fun c ch J bK=>by
  rcases oS c ch J with h |⟨E,G,ag⟩
  .exact h
  .rcases bK with h |h
   .exact ap0 h G
   .rw[(oi c h).2.1] at ag;cases ag
 have mJ:cj I' w' (bX C (g0 (ij aJ aP) B) cN w') w':=fun b O=>by
  obtain⟨af,al⟩:=gw b O;refine⟨⟨af,?_,fun c ch J bj=>?_⟩,rfl⟩
  .rcases al with al |⟨c,ch,al,bt⟩ |al
   .exact al.2.1
   .exact .inr ((ah.own c ch (eM al) b bt).2)
   .exact .inr (.inr (ah.fresh al))
  .rcases oS c ch J with h |⟨E,G,ag⟩
   .rw[jZ c ch h] at bj;exact(aq c ch h b bj).2.1 O
   .rw[Bh c E] at bj;rcases al with al |⟨d,ch',al,bt⟩ |al
    .exact al.2.2 c ch ag bj
    .exact ah.e0 d c ch' ch b (eM al) ag (fun e=>G (e▸f1.2 ⟨ch',al⟩)) bt bj
    .have:=(ah.own c ch ag b bj).1;omega
 obtain⟨bK,a2⟩:=ah.step (B':=g0 (ij aJ aP) B) (ρ':=ρ') (F':=cN) (w':=w') (fun c=>c∈ci aJ\/c∈bb) (fun c=>c∈bb)
  (cC.mono fun b _ ⟨c,ch,E,G⟩=>⟨c,ch,eM E,.inl (f1.2 ⟨ch,E⟩),G⟩)
  (fun c ch J hn=>by
   rcases oS c ch J with h |⟨_,_,ag⟩
   .exact ap0 (ko c ch h) hn
   .exact ag)
  de
  (fun c hn=>by
   cases O:ae aP c with
   |none=>exact Bh c O
   |some ch=>exact ap0 (ko c ch O) hn)
  (fun c J hn=>(oi c hn).2.2.2 J) (fun c h=>.inr h)
  (fun c ch J _ d H hn=>by rw[(oi d hn).2.2.1 c ch J] at H;cases H)
  (fun c ch J bK _=>by
   have O:=tP c ch J bK;rw[jZ c ch O];exact Holds.cg mJ (fun _ _=>rfl) (ao9 _) ch (fun _ _=>rfl) (c9 c ch O))
  (fun c ch J bK b O=>by
   have tQ:=tP c ch J bK;rw[jZ c ch tQ] at O;obtain⟨af,_,bt⟩:=aq c ch tQ b O;refine⟨af,bt.imp (fun⟨gK,cA,E,G⟩=>⟨gK,cA,eM E,.inl (f1.2 ⟨cA,E⟩),G⟩) id⟩)
  (fun c ck ch ch' b J c0 ko i5 a6 O c7=>by
   have E:=tP c ch J ko;have G:=tP ck ch' c0 i5;rw[jZ c ch E] at O;rw[jZ ck ch' G] at c7;exact hB c ck ch ch' b E G a6 O c7)
 refine⟨kf.trans hn,kg.trans H,ρ',cN,bK,(ar.mono a2 fun s d H=>de d fun hn=>by rw[(oi d hn).1 s] at H;cases H).kh (fun e U=>by rw[hn];exact br e U) (cv.mono mJ _ _ (fun _ _=>rfl) dz)⟩
def aaU {f:aE8} {args:List aN}
  (tK: ∀(ρ:Nat->bm) (I:Nat->Prop) (a:Act) (w:aD8),eh K ρ I a w-> ∃bW:List Value,(iX P f=true->(execOp a.eval o).run P w= .ok (.enter f bW.toArray) w)/\bW.length=args.length/\ ∀(i:Nat) (v:aN) (x:aE7),args[i]? =some v->bW[i]? =some x->cv ρ I w v x)
  {X:Type} {aJ:av} {bb:aD3} {res:X->aN} {aP:X->av} (aaV:cz P f args aJ bb res aP) (hN:kI B aJ) (I1:rp ids K B bb=true) (bv: ∀g,(rp ids K B bb&&l7 aJ bb (aP g))=true)
  {C:eZ} {a:Act} {w:aD8} (ax:eS N ids C K B a w) (br: ∀d,o.dst=some d->d < N) {fF:Act->World->Prop} {Q:Exit->Act->World->Prop} (cT: ∀g a' w',eS N ids C (l5 o.dst (res g) K) (g0 (ij aJ (aP g)) B) a' w'->fF a' w'):o.wp P a w fF Q:=by
 obtain⟨fH,j0⟩:=aaV;obtain⟨hn,H,ρ,F,ah,ar⟩:=ax;have eM: ∀{c ch},ae aJ c=some ch->ae B c=some ch:=fun {c ch} J=>kn hN J
 obtain⟨bW,d1,qy,sE⟩:=tK ρ _ a w ar
 have J:=j0 ρ F (bX C B F w) w bW (fun b O=>O.1) (fun c ch J=>ah.holds c ch (eM J)) (fun c ch J b O=>⟨(ah.own c ch (eM J) b O).1,fun aZ=>aZ.2.2 c ch (eM J) O⟩)
  (fun c ck ch ch' b E G=>ah.e0 c ck ch ch' b (eM E) (eM G)) qy sE
 unfold Oper.wp;rw[d1 fH,Oper.upon_enter];refine J.mono ?_;rintro e w' ⟨g,x,ρ',F',rfl,cC,de,I',i0,gw,c9,aq,hB,dz⟩;exact cT g _ _ (eS.back hN I1 (ao8 _ _▸bv g).2 hn H ah ar br cC de gw c9 aq hB dz)
def cz.of (bk:d5 P aQ) {f:aE8} {fn:Func} {c:Code} (stops:aD3) (args:List aN) (aJ:av) (bb:aD3) {X:Type} (res:X->aN) (aP:X->av) (hf:P.funcs[f]? =some fn) (O:fn.body=some c) (hn:fn.ntmps=N) (fH:iX P f=true) (J:iK P N c=true) (fk:Nat.ble args.length N=true) (cx:yO P aQ N (ci aJ)) {i6:List ResultVar} (wW:fn.results.toList=i6)
  (h:iI P aQ N (ci aJ) stops c (ol 0 args) aJ (fun e K B=> ∃g,Ek aQ (ci aJ) bb i6 (res g) (aP g) e K B)):cz P f args aJ bb res aP:=by
 refine⟨fH,?_⟩;intro ρ F I w bW aZ c9 bj ew bZ dz;have fk:=aw2 fk;refine OX (r:=none) (n:=0) (callsIn_of_wp_marks hf O trivial ?_)
 let C:eZ:=⟨w,I,fun b=> ∃c ch,ae aJ c=some ch/\F c b,ρ,[]⟩
 have rD:cj I w (bX C aJ F w) w:=fun b O=>⟨⟨aZ b O,.inl O,fun c ch J pE=>(bj c ch J b pE).2 O⟩,rfl⟩
 have ah:Mem (ci aJ) C aJ ρ F w:=⟨cR.refl _ _,fun c ch J=>Holds.cg rD (fun _ _=>rfl) (ao9 _) ch (fun _ _=>rfl) (c9 c ch J),fun c ch J b O=>⟨(bj c ch J b O).1,.inl ⟨c,ch,J,O⟩⟩,ew,fun c _=>rfl,av1,fun b O=>O.elim (aZ b) fun⟨c,ch,J,Bp⟩=>(bj c ch J b Bp).1,fun D cx=>by cases cx⟩;refine yP bk cx stops c _ _ _ J h none (fun _=>rfl) C _ ?_ _ w ⟨by simp[bZ,hn];omega,rfl,ρ,F,ah,fun s=>?_⟩
 .intro e K' B' ds _ U a' w' d6;obtain⟨g,U⟩:=U
  cases e with
  |ex i=>exact U.elim
  |_=>
   obtain⟨O6,jr,r,hh,aw,ao,hN,oT⟩:=U;refine O5 d6 fun w' d6=>?_
   obtain⟨hl,kL,ρ',F',bK,Bq⟩:=hh N C _ w' d6;obtain⟨aB,d1,hm⟩: ∃aB:List Value,(i6.mapM (sG a'.tmps)).run P w'= .ok aB w'/\iv ρ' (bX C jr F' w') w' r aB:=Ei bk bK Bq i6 r aw
   have i7: ∃x,(results fn a'.tmps).run P w'= .ok x w'/\cv ρ' (bX C jr F' w') w' (Iz r) x:=by
    have E:fn.results=i6.toArray:=by rw[<-wW]
    have G:(fn.results.mapM (sG a'.tmps)).run P w'= .ok (List.toArray aB) w':=by
     rw[E,List.mapM_toArray];simp[d1]
    have ag:results fn a'.tmps=(do let aB<-fn.results.mapM (sG a'.tmps);pure (if h:aB.size=1 then aB[0] else .tuple aB)):=rfl;rw[ag]
    match r,aB,hm,G with
    | [],_,e,G=>rw[show _=[] from e] at G;exact⟨.tuple #[],by simp[G],[],rfl,rfl⟩
    | [x],_,⟨v,s,e,ay,ax⟩,G=>
     have ax:s=[]:=ax;subst ax e;exact⟨v,by simp[G],ay⟩
    |x::y::r,_,⟨v,s,e,ay,v2,bF,al,tS,f0⟩,G=>
     subst al e;exact⟨.tuple (List.toArray (v::v2::bF)),by simp[G],_,rfl,v,_,rfl,ay,v2,bF,rfl,tS,f0⟩
   obtain⟨x,hx,rB⟩:=i7;have rB:=vc ao rB;simp only[ao8] at oT
   let tT:Nat->bm:=fun c=>if c∈bb then ρ' c else ρ c
   have qA: ∀c,c∈ci aJ++bb->tT c=ρ' c:=fun c J=>by
    show(if c∈bb then ρ' c else ρ c)=ρ' c
    split
    .rfl
    .rename_i hn;rcases ar7.1 J with h |h
     .exact(bK.l1 c h).symm
     .exact ap0 h hn
   refine⟨x,hx,g,x,tT,F',rfl,bK.fr,fun c J=>mu J,bX C jr F' w',?_,fun b O=>⟨O.1,?_⟩,?_,?_,?_,?_⟩
   .intro b O;have vd: ¬C.py b:=fun⟨c,ch,E,G⟩=>(bj c ch E b G).2 O
    refine⟨⟨aq8 (aZ b O) bK.fr.size,.inl O,fun c ch J pE=>?_⟩,bK.fr.block b (aZ b O) vd⟩;rcases(bK.own c ch J b pE).2 with h |h
    .exact vd h
    .have:=aZ b O;exact ap0 h.1 (Nat.not_le.2 this)
   .rcases O.2.1 with h |h |h
    .exact .inl h
    .exact .inr (.inl h)
    .exact .inr (.inr h.1)
   .intro c ch J
    have Z:c∈ci aJ++bb:=by
     have:=ar3.1 oT.2 c (f1.2 ⟨ch,J⟩);simpa only[ar5] using this
    rw[qA c Z];exact Holds.cg (cj.refl _ _) (fun _ _=>rfl) (ao9 _) ch (fun d H=>qA d (ba.kp (wV oT.1.2 J) H)) (bK.holds c ch (kn hN J))
   .intro c ch J b O;have c0:=kn hN J;exact⟨(bK.own c ch c0 b O).1,fun aG=>aG.2.2 c ch c0 O,(bK.own c ch c0 b O).2.imp id fun x=>x.1⟩
   .exact fun c ck ch ch' b E G=>bK.e0 c ck ch ch' b (kn hN E) (kn hN G)
   .exact cv.mono (cj.refl _ _) (res g) x (fun c J=>qA c (aN.kp oT.1.1 J)) rB
 .rw[Bn];simp only[ap9,if_true,Nat.sub_zero]
  cases ax:args[s]? with
  |none=>trivial
  |some v=>
   have br:s < bW.length:=by rw[bZ];exact(ap6.1 ax).1
   simp only[av3];have hx:bW[s]? =some bW[s]:=ao7 br;have:=cv.mono rD v _ (fun _ _=>rfl) (dz s v _ ax hx);simpa[Array.getElem?_append,br,hx] using this
def PM {ev:Operand->Value} {f:aE8} {c:Call} {x:aE0} {xs:aF7} {p:aE7} {w:aD8} (hf:iX P f=true) (ai:o.op= .call c) (E:c.callee= .value x) (G:c.args.toList=xs) (tO:ev x= .func (.func f) #[p] #[]):(execOp ev o).run P w= .ok (.enter f (p::xs.map ev).toArray) w:=by
 have fk:c.args=xs.toArray:=by rw[<-G]
 obtain⟨rx,args,ct⟩:=c;simp only at E fk;subst E fk;unfold iX at hf
 split at hf
 .rename_i fn j0;simp only[aq9,at1,beq_eq_false_iff_ne] at hf;have G: ¬fn.body=none:=fun e=>by rw[e] at hf;simp at hf
  simp[execOp,ai,resolve,invoke,tO,Deferred.ofValue,callFunc,go_sem,j0];rw[mu hf.1,mu G]
 .cases hf
def I2 (K:aW) (o:Oper):Option (FuncId×List aN):=match o.op with
 | .call c=>match c.callee with
  | .value (.func f)=>some (f,c.args.toList.map (a1 K))
  | .value (.tmp t)=>match dQ K t with
   | .c (.one (.cW f l))=>some (f,c.args.toList.map (a1 K)++nr l)
   | .c (.one (.bH (.func (.func f) bs cs)))=>match bs.toList,cs.toList with
    | [.pointer (some ⟨b,0,none⟩)],[]=>some (f,.c (.one (.d (.aM (some b))))::c.args.toList.map (a1 K))
    |_,_=>none
   |_=>none
  |_=>none
 |_=>none
def aaW (P:aD9) (f:aE8) (args:List aN) (ids:aD3) (K:aW) (B:av) (k:aN->fb->Prop):Prop:=
 ∃(X:Type) (aJ:av) (bb:aD3) (res:X->aN) (aP:X->av),cz P f args aJ bb res aP/\kI B aJ/\rp ids K B bb=true/\(∀g,(rp ids K B bb&&l7 aJ bb (aP g))=true)/\ ∀g,n' (res g) fun r=>k r ⟨ci aJ,bb,ij aJ (aP g)⟩
def BF (P:aD9) (ids:aD3) (o:Oper) (K:aW) (B:av) (S:aN->fb->Prop):Prop:=
 ∀(N:Nat) (C:eZ) (a:Act) (w:aD8),eS N ids C K B a w->(∀d,o.dst=some d->d < N)-> ∀(fF:Act->World->Prop) (Q:Exit->Act->World->Prop),(∀v e a' w',S v e->eS N ids C (l5 o.dst v K) (g0 e.ih B) a' w'->fF a' w')->o.wp P a w fF Q
def aaX (o:Oper):Bool:=match o.op with
 | .next _ _=>true
 | .binOp .eql _ _ (.const (.slice none 0 0)) _=>true
 | .call c=>match c.callee with
  | .builtin .delete=>true
  |_=>false
 |_=>false
def sL (P:aD9) (l:Nat) (args:List aN) (aJ:av) {X:Type} (res:X->aN) (aP:X->av):Prop:=
 ∀(ρ:Nat->bm) (F:Nat->Nat->Prop) (I:Nat->Prop) (w:aD8) (bW:aD7),
  (∀b,I b->b < w.heap.size)->(∀c ch,ae aJ c=some ch->Holds ρ I (F c) w (ρ c) ch)->(∀c ch,ae aJ c=some ch-> ∀b,F c b->b < w.heap.size/\ ¬I b)->
  (∀c ck ch ch' b,ae aJ c=some ch->ae aJ ck=some ch'->c≠ck->F c b-> ¬F ck b)->
  bW.length=args.length->(∀(i:Nat) (v:aN) (x:aE7),args[i]? =some v->bW[i]? =some x->cv ρ I w v x)->
  ∃f tmps assign body,(Instr.yield l bW.toArray).run P w= .ok (.round l f tmps assign body) w/\RoundIn (ob none) 0 P l f tmps assign body w fun e w'=> ∃(g:X) (x:aE7) (ρ':Nat->bm) (F':Nat->Nat->Prop),e= .returned x/\cR (fun b=> ∃c ch,ae aJ c=some ch/\F c b) w w'/\(∀c,ρ' c=ρ c)/\
   ∃I':Nat->Prop,cj I w I' w'/\(∀b,I' b->b < w'.heap.size/\(I b\/(∃c ch,ae aJ c=some ch/\F c b)\/w.heap.size<=b))/\
   (∀c ch,ae (aP g) c=some ch->Holds ρ' I' (F' c) w' (ρ' c) ch)/\
   (∀c ch,ae (aP g) c=some ch-> ∀b,F' c b->b < w'.heap.size/\ ¬I' b/\((∃gK cA,ae aJ gK=some cA/\F gK b)\/w.heap.size<=b))/\
   (∀c ck ch ch' b,ae (aP g) c=some ch->ae (aP g) ck=some ch'->c≠ck->F' c b-> ¬F' ck b)/\cv ρ' I' w' (res g) x
def EF (K:aW) (o:Oper):Option (Nat×List aN):=match o.op with
 | .call c=>match c.callee with
  | .value (.tmp t)=>match dQ K t with
   | .c (.one (.bH (.func (.yield l) fs cs)))=>match fs.toList,cs.toList with
    | [],[]=>some (l,c.args.toList.map (a1 K))
    |_,_=>none
   |_=>none
  |_=>none
 |_=>none
def aaY (P:aD9) (l:Nat) (args:List aN) (B:av) (k:aN->fb->Prop):Prop:=
 ∃(X:Type) (aJ:av) (res:X->aN) (aP:X->av),sL P l args aJ res aP/\kI B aJ/\(∀g,l7 aJ [] (aP g)=true)/\ ∀g,n' (res g) fun r=>k r ⟨ci aJ,[],ij aJ (aP g)⟩
def aaZ {ev:Operand->Value} {l:Nat} {c:Call} {x:aE0} {xs:aF7} {w:aD8} (ai:o.op= .call c) (E:c.callee= .value x) (G:c.args.toList=xs) (tO:ev x= .func (.yield l) #[] #[]):(execOp ev o).run P w=(Instr.yield l (xs.map ev).toArray).run P w:=by
 have fk:c.args=xs.toArray:=by rw[<-G]
 obtain⟨rx,args,ct⟩:=c;simp only at E fk;subst E fk;simp[execOp,ai,resolve,invoke,tO,Deferred.ofValue]
def aa0 {l:Nat} {xs:List aN} (h:EF K o=some (l,xs)) {ρ:Nat->bm} {I:Nat->Prop} {a:Act} {w:aD8} (ar:eh K ρ I a w): ∃bW:List Value,(execOp a.eval o).run P w=(Instr.yield l bW.toArray).run P w/\(∀c,o.op≠ .defer c)/\bW.length=xs.length/\ ∀(i:Nat) (v:aN) (x:aE7),xs[i]? =some v->bW[i]? =some x->cv ρ I w v x:=by
 unfold EF at h
 split at h
 .rename_i c ai
  split at h
  .rename_i t J
   split at h
   .rename_i l' fs cs ak
    split at h
    .rename_i u' fZ;injection h with h
     injection h with E G
     subst E G;have u':fs= #[]:=by rw[<-au5];exact u'
     have fZ:cs= #[]:=by rw[<-au5];exact fZ
     subst u' fZ;have ay:a.eval (.tmp t)= .func (.yield l') #[] #[]:=ar.ev (x:=.tmp t) (s:=.c (.one (.bH (.func (.yield l') #[] #[])))) ak;have dx: ∀d,o.op≠ .defer d:=fun d e=>by rw[ai] at e;cases e
     refine⟨c.args.toList.map a.eval,?_,dx,az9,fun i v x ay hx=>?_⟩
     .exact aaZ ai J rfl ay
     .rw[ar1] at ay hx;obtain⟨aF,aO,rfl⟩:=as4.1 ay;rw[aO] at hx;simp only[av4,ap5] at hx;subst hx;exact ar.get aF
    .cases h
   .cases h
  .cases h
 .cases h
def aa1 {l:Nat} {args:List aN} (ai:EF K o=some (l,args)) {X:Type} {aJ:av} {res:X->aN} {aP:X->av} (aC:sL P l args aJ res aP) (hN:kI B aJ) (bv: ∀g,l7 aJ [] (aP g)=true)
  {C:eZ} {a:Act} {w:aD8} (ax:eS N ids C K B a w) (br: ∀d,o.dst=some d->d < N) {r:aE2} {fF:Act->World->Prop} {Q:Exit->Act->World->Prop} (cT: ∀g a' w',eS N ids C (l5 o.dst (res g) K) (g0 (ij aJ (aP g)) B) a' w'->fF a' w'):o.wpIn (ob r) 0 P a w fF Q:=by
 obtain⟨hn,H,ρ,F,ah,ar⟩:=ax;have eM: ∀{c ch},ae aJ c=some ch->ae B c=some ch:=fun {c ch} J=>kn hN J
 obtain⟨bW,d1,dx,qy,sE⟩:=aa0 (P:=P) (w:=w) ai ar
 obtain⟨f,tmps,assign,body,PN,PO⟩:=aC ρ F (bX C B F w) w bW (fun b O=>O.1) (fun c ch J=>ah.holds c ch (eM J)) (fun c ch J b O=>⟨(ah.own c ch (eM J) b O).1,fun aZ=>aZ.2.2 c ch (eM J) O⟩)
  (fun c ck ch ch' b E G=>ah.e0 c ck ch ch' b (eM E) (eM G)) qy sE
 refine⟨fun _ _=>trivial,?_⟩;rw[Oper.semAt_eq _ _ _ dx,d1,PN,Oper.uponIn_round];refine⟨fun ax=>ap0 ax az9,RoundIn.mono (F:=ob r) (n:=0 - 1) PO ?_⟩;rintro e w' ⟨g,x,ρ',F',rfl,cC,de,I',i0,gw,c9,aq,hB,dz⟩;exact cT g _ _ (eS.back hN rfl (bv g) hn H ah ar br cC (fun c _=>de c) gw c9 aq hB dz)
def aa2 (K:aW) (o:Oper):Bool:=match o.op with
 | .mapUpdate _ _ _ v=>match a1 K v with
  | .c (.one (.ptr _ 0))=>true
  |_=>false
 |_=>false
def I3 (P:aD9) (aQ:df) (ids:aD3) (o:Oper) (K:aW) (B:av) (k:aN->fb->Prop):Prop:=match I2 K o with
 |some (f,xs)=>aaW P f xs ids K B k
 |none=>match EF K o with
  |some (l,xs)=>aaY P l xs B k
  |none=>match aaX o||aa2 K o with
   |true=> ∃S:aN->fb->Prop,BF P ids o K B S/\ ∀v e,S v e->n' v fun v=>k v e
   |false=>DV P aQ ids o K B k
noncomputable def I4 (P:aD9) (aQ:df) (ids:aD3) (all:aE9) (o:Oper) (l:aE9) (bl:aW->av->Prop) (K:aW) (B:av):Prop:=
 match tA all K o.guard with
 |none=>False
 |some false=>match o.dst with
  |some d=>bl ((d,.undef)::K) B
  |none=>bl K B
 |some true=>I3 P aQ ids o K B fun v e=>match o.dst with
  |none=>wz e.ih B fun B=>bl K B
  |some d=>match DW (all.length - l.length - 1) l,v with
   |true,.c (.one (.d (.bool b)))=>wz e.ih B fun B=>(b=true->bl ((d,.c (.one (.d (.lit true))))::K) B)/\(b=false->bl ((d,.c (.one (.d (.lit false))))::K) B)
   |_,v=>wz e.ih B fun B=>bl ((d,v)::K) B
noncomputable def EG (P:aD9) (aQ:df) (ids:aD3) (all l:aE9) (K:aW) (B:av) (k:aW->av->Prop):Prop:=
 List.rec (motive:=fun _=>aW->av->Prop) k (fun o l bl K B=>I4 P aQ ids all o l bl K B) l K B
def aa3 {all l:aE9} {k:aW->av->Prop}:EG P aQ ids all (o::l) K B k=I4 P aQ ids all o l (fun K B=>EG P aQ ids all l K B k) K B:=rfl
def aa4 {f:aE8} {xs:List aN} (h:I2 K o=some (f,xs)) (ρ:Nat->bm) (I:Nat->Prop) (a:Act) (w:aD8) (ar:eh K ρ I a w): ∃bW:List Value,(iX P f=true->(execOp a.eval o).run P w= .ok (.enter f bW.toArray) w)/\bW.length=xs.length/\ ∀(i:Nat) (v:aN) (x:aE7),xs[i]? =some v->bW[i]? =some x->cv ρ I w v x:=by
 unfold I2 at h
 split at h
 .rename_i c ai
  split at h
  .rename_i pI J;injection h with h
   injection h with E G
   subst E G;refine⟨c.args.toList.map a.eval,fun fH=>ON fH ai J rfl rfl,az9,fun i v x ay hx=>?_⟩;rw[ar1] at ay hx;obtain⟨aF,aO,rfl⟩:=as4.1 ay;rw[aO] at hx;simp only[av4,ap5] at hx;subst hx;exact ar.get aF
  .rename_i t J
   split at h
   .rename_i pI l ak;injection h with h
    injection h with E G
    subst E G;have ay:=ar t;rw[ak] at ay;obtain⟨aB,e,w6⟩:=ay;obtain⟨cE,cG⟩:=hK.bW l aB w6;refine⟨c.args.toList.map a.eval++aB,fun fH=>It fH ai J rfl e,by simp[cE],fun i v x ay hx=>?_⟩
    by_cases aG:i < c.args.toList.length
    .rw[as0 (by simpa using aG)] at ay hx;rw[ar1] at ay hx;obtain⟨aF,aO,rfl⟩:=as4.1 ay;rw[aO] at hx;simp only[av4,ap5] at hx;subst hx;exact ar.get aF
    .rw[as3 (by simpa using aG)] at ay hx;simp only[aq3] at ay hx;exact cG _ v x ay hx
   .rename_i pI bs cs ak
    split at h
    .rename_i b O fw;injection h with h
     injection h with E G
     subst E G
     have ay:a.eval (.tmp t)= .func (.func pI) bs cs:=by
      have au:=ar t;rw[ak] at au;exact au
     have af:bs= #[.pointer (some ⟨b,0,none⟩)]:=au5.1 O;have al:cs= #[]:=au5.1 fw;subst af al;refine⟨.pointer (some ⟨b,0,none⟩)::c.args.toList.map a.eval,fun fH=>PM fH ai J rfl ay,az9,fun i v x ay hx=>?_⟩
     cases i with
     |zero=>
      simp only[aq2,ap5] at ay hx;subst ay hx;rfl
     |succ i=>
      rw[ay7,ar1] at ay hx;obtain⟨aF,aO,rfl⟩:=as4.1 ay;rw[aO] at hx;simp only[av4,ap5] at hx;subst hx;exact ar.get aF
    .cases h
   .cases h
  .cases h
 .cases h
def aa5 (bk:d5 P aQ) (dx: ∀c,o.op≠ .defer c) (r:aE2) {k:aN->fb->Prop} (h:I3 P aQ ids o K B k) {C:eZ} {a:Act} {w:aD8} (ax:eS N ids C K B a w) (br: ∀d,o.dst=some d->d < N) {fF:Act->World->Prop} {Q:Exit->Act->World->Prop} (cT: ∀v e a' w',k v e->eS N ids C (l5 o.dst v K) (g0 e.ih B) a' w'->fF a' w'):o.wpIn (ob r) 0 P a w fF Q:=by
 unfold I3 at h
 split at h
 .rename_i f xs J;obtain⟨X,aJ,bb,res,aP,E,G,ag,aS,bG⟩:=h;refine Bl dx (aaU (aa4 J) E G ag aS ax br fun g a' w' d6=>?_);have bG:=bG g;rw[ro] at bG;exact cT _ _ _ _ bG d6
 .split at h
  .rename_i l xs J;obtain⟨X,aJ,res,aP,E,G,ag,aS⟩:=h;refine aa1 J E G ag ax br fun g a' w' d6=>?_
   have aS:=aS g;rw[ro] at aS;exact cT _ _ _ _ aS d6
  .split at h
   .obtain⟨S,ar,h⟩:=h;refine Bl dx (ar N C a w ax br fF Q fun v e a' w' ay d6=>?_);have h:=h v e ay;rw[ro] at h;exact cT _ _ _ _ h d6
   .obtain⟨v,e,h,aq,hf⟩:=Iu bk h;exact Bl dx (aq K B (fun _ _=>rfl) (fun _ _=>rfl) hf C a w ax br fF Q fun a' w' f0=>cT _ _ _ _ h f0)
def w7 (bk:d5 P aQ) (all:aE9): ∀(l:aE9) (K:aW) (B:av) (k:aW->av->Prop),sF N l=true->EG P aQ ids all l K B k-> ∀(C:eZ) (a:Act) (w:aD8),eS N ids C K B a w->
  ∀(r:aE2) (Q:Exit->Act->World->Prop),(∀K' B',k K' B'-> ∀a' w',eS N ids C K' B' a' w'->Q .normal a' w')->wpListIn (ob r) 0 P all.toArray Q l a w
 | [],K,B,k,_,h,C,a,w,ax,r,Q,Z=>wpListIn_nil (Z K B h a w ax)
 |o::l,K,B,k,H,h,C,a,w,ax,r,Q,Z=>by
  simp only[sF,ao8] at H;obtain⟨⟨va,dx⟩,dd⟩:=H;have dx:=Iw dx;have br: ∀d,o.dst=some d->d < N:=fun d e=>by rw[e] at va;simpa[Nat.blt_eq] using va
  have d6:=ax;obtain⟨_,_,ρ,F,ah,ar⟩:=d6;rw[aa3] at h;unfold I4 at h;simp only[HD] at h;refine wpListIn_step fun fF Bm=>?_
  split at h
  .exact h.elim
  .rename_i hw;rw[mu (by rw[yN hw ar];simp)];refine⟨fun _ _=>trivial,Bm _ _ ?_⟩;have a8:=ax.undef o.dst br
   split at h
   .rename_i d e;rw[e] at a8⊢;exact w7 bk all l _ _ k dd h C _ w a8 r Q Z
   .rename_i e;rw[e] at a8⊢;exact w7 bk all l _ _ k dd h C _ w a8 r Q Z
  .rename_i hw;rw[vj (yN hw ar)];refine aa5 bk dx r h ax br fun v e a' w' h f0=>Bm _ _ ?_
   split at h
   .rename_i al;rw[al] at f0;exact w7 bk all l _ _ k dd h C _ w' f0 r Q Z
   .rename_i d al;rw[al] at f0
    split at h
    .rename_i b aV
     cases b with
     |true=>exact w7 bk all l _ _ k dd (h.1 rfl) C _ w' f0.lit r Q Z
     |false=>exact w7 bk all l _ _ k dd (h.2 rfl) C _ w' f0.lit r Q Z
    .exact w7 bk all l _ _ k dd h C _ w' f0 r Q Z
def bB.hP (bk:d5 P aQ) {id:Nat} {dl:Array Oper} {Q:nt->aW->av->Prop} (H:sF N dl.toList=true) (h:EG P aQ ids dl.toList dl.toList K B (fun K B=>Q .gv K B)):bB P N ids (.region id dl false) K B Q:=by intro r aw C il aY a w ax;refine wpIn_region_list ?_;have:=w7 bk dl.toList dl.toList K B _ H h C a w ax r il (fun K' B' Z a' w' d6=>aY .gv K' B' C.ds (fun _=>rfl) Z a' w' d6);simpa using this
def du (ids:aD3) (K:aW) (B:av) {X:Type} (K':X->aW) (B':X->av):Prop:= ∀(N:Nat) (C:eZ) (a:Act) (w:aD8),eS N ids C K B a w-> ∃x,eS N ids C (K' x) (B' x) a w
def bB.fJ {c:Code} {X:Type} {K':X->aW} {B':X->av} {Q:nt->aW->av->Prop} (h:du ids K B K' B') (cq: ∀x,bB P N ids c (K' x) (B' x) Q):bB P N ids c K B Q:=fun r aw C il aY a w ax=>by
 obtain⟨x,hx⟩:=h N C a w ax;exact cq x r aw C il aY a w hx
end
end
section
def j1 (c:Nat) (bp:av) (I F:Nat->Prop) (w:aD8) (p:bm):Prop:=
 ∃(ρ:Nat->bm) (cd:Nat->Nat->Prop),ρ c=p/\(∀d ch,ae bp d=some ch->Holds ρ I (cd d) w (ρ d) ch)/\
  (∀d cY ch ch' b,ae bp d=some ch->ae bp cY=some ch'->d≠cY->cd d b-> ¬cd cY b)/\ ∀b,F b↔ ∃d ch,ae bp d=some ch/\cd d b
def bc.iz (c:Nat) (bp:av):bc where
 bn:=j1 c bp
 cg:=fun I F w I' w' p ⟨ρ,cd,E,G,ag,aS⟩ U bj aO=>⟨ρ,cd,E,fun d ch H=>Holds.cg U (fun b O=>bj b ((aS b).2 ⟨d,ch,H,O⟩)) aO ch (fun _ _=>rfl) (G d ch H),ag,aS⟩
def bc.at (o:bc) (b:Nat):bc where
 bn:=fun I F w p=>p.bh=b/\o.bn I F w p
 cg:=fun I F w I' w' p h U bj aO=>⟨h.1,o.cg I F w I' w' p h.2 U bj aO⟩
def fz (I:Nat->Prop) (w:aD8):List (Nat×bc)->(Nat->Prop)->Prop
 | [],F=> ∀b,¬F b
 |(a,o)::L,F=> ∃(cF cN:Nat->Prop) (p:bm),(∀b,F b↔cF b\/cN b)/\(∀b,cF b-> ¬cN b)/\p.bh=a/\o.bn I cF w p/\fz I w L cN
def fz.cg {I I':Nat->Prop} {w w':aD8} (U:cj I w I' w') (aO:w.heap.size<=w'.heap.size): ∀{L:List (Nat×bc)} {F:Nat->Prop},(∀b,F b->w'.heap[b]? =w.heap[b]?)->fz I w L F->fz I' w' L F
 | [],_,_,h=>h
 |(a,o)::L,F,bj,⟨cF,cN,p,E,G,ag,aS,bG⟩=>⟨cF,cN,p,E,G,ag,o.cg _ _ _ _ _ _ aS U (fun b O=>bj b ((E b).2 (.inl O))) aO,bG.cg U aO (fun b O=>bj b ((E b).2 (.inr O)))⟩
def bc.bD (L:List (Nat×bc)):bc where
 bn:=fun I F w _=>fz I w L F
 cg:=fun I F w I' w' p h U bj aO=>h.cg U aO bj
def eN:List (Nat×bc)->Nat->Option bc
 | [],_=>none
 |(a,o)::L,b=>if a=b then some o else eN L b
def gr:List (Nat×bc)->Nat->bc->List (Nat×bc)
 | [],_,_=>[]
 |(a,o)::L,b,o'=>if a=b then(a,o')::L else(a,o)::gr L b o'
def fz.out {I:Nat->Prop} {w:aD8} {b:Nat} {o:bc}: ∀{L:List (Nat×bc)} {F:Nat->Prop},eN L b=some o->fz I w L F-> ∃(cF cN:Nat->Prop) (p:bm),(∀x,F x↔cF x\/cN x)/\(∀x,cF x-> ¬cN x)/\p.bh=b/\o.bn I cF w p/\
  ∀(I':Nat->Prop) (w':aD8) (o':bc) (vl:Nat->Prop) (jY:bm),cj I w I' w'->w.heap.size<=w'.heap.size->(∀x,cN x->w'.heap[x]? =w.heap[x]?)->jY.bh=b->o'.bn I' vl w' jY->(∀x,vl x-> ¬cN x)->fz I' w' (gr L b o') (fun x=>vl x\/cN x)
 | [],F,h,_=>by cases h
 |(a,q)::L,F,h,⟨qC,sM,p,E,G,ag,aS,bG⟩=>by
  unfold eN at h
  split at h
  .rename_i e;injection h with h
   subst h;refine⟨qC,sM,p,E,G,ag.trans e,aS,fun I' w' o' vl jY U aO hf ao ai H=>?_⟩;unfold gr;rw[vj e];exact⟨vl,sM,jY,fun x=>Iff.rfl,H,ao.trans e.symm,ai,bG.cg U aO hf⟩
  .rename_i e;obtain⟨cF,cN,d0,g1,g2,cX,jo,BG⟩:=fz.out h bG;refine⟨cF,fun x=>qC x\/cN x,d0,fun x=>?_,fun x hx=>?_,cX,jo,fun I' w' o' vl jY U aO hf ao ai H=>?_⟩
   .rw[E,g1];constructor
    .rintro(h |h |h)
     .exact .inr (.inl h)
     .exact .inl h
     .exact .inr (.inr h)
    .rintro(h |h |h)
     .exact .inr (.inl h)
     .exact .inl h
     .exact .inr (.inr h)
   .rintro(h |h)
    .exact G x h ((g1 x).2 (.inl hx))
    .exact g2 x hx h
   .unfold gr;rw[mu e];refine⟨qC,fun x=>vl x\/cN x,p,fun x=>?_,fun x hx=>?_,ag,q.cg _ _ _ _ _ _ aS U (fun x hx=>hf x (.inl hx)) aO,BG I' w' o' vl jY U aO (fun x hx=>hf x (.inr hx)) ao ai (fun x hx h=>H x hx (.inr h))⟩
    .constructor
     .rintro(h |h |h)
      .exact .inr (.inl h)
      .exact .inl h
      .exact .inr (.inr h)
     .rintro(h |h |h)
      .exact .inr (.inl h)
      .exact .inl h
      .exact .inr (.inr h)
    .rintro(h |h)
     .exact H x h (.inl hx)
     .exact G x hx ((g1 x).2 (.inr h))
def fz.add {I:Nat->Prop} {w:aD8} {L:List (Nat×bc)} {F cF:Nat->Prop} {o:bc} {p:bm} (h:fz I w L F) (ai:o.bn I cF w p) (H: ∀x,cF x-> ¬F x):fz I w ((p.bh,o)::L) (fun x=>cF x\/F x):=
 ⟨cF,F,p,fun _=>Iff.rfl,H,rfl,ai,h⟩
def cz.fn {P:aD9} {f:aE8} {args:List aN} {aJ:av} {bb:aD3} {res:aN} {aP:av} (h:cz P f args aJ bb (fun _:Unit=>res) (fun _=>aP)):Fn P f args aJ bb res aP:=
 ⟨h.1,fun ρ F I w bW bR b' a3 a4 a5 ft=>(h.2 ρ F I w bW bR b' a3 a4 a5 ft).mono fun e w' ⟨_,q⟩=>q⟩
def cz.bD {P:aD9} {f:aE8} {c q b:Nat} {args:List aN} {aJ:av} {bb:aD3} {X:Type} {res:X->aN} {aP:X->av} {o:bc} {o':X->bc} {L:List (Nat×bc)}
  (h:cz P f (.c (.one (.ptr c 0))::args) ((c,.aA o)::aJ) bb res (fun g=>(c,.aA (o' g))::aP g)) (cP:eN L b=some o)
  (E:(args.all fun v=> !v.has c)=true) (G:kj c aJ=true/\(ae aJ q).isNone=true) (ag:(bb.contains c||bb.contains q)=false) (aS: ∀g,(kj c (aP g)&&(ae (aP g) q).isNone&& !(res g).has c)=true):
  cz P f (.c (.one (.d (.aM (some b))))::args) ((q,.aA (.bD L))::aJ) bb res (fun g=>(q,.aA (.bD (gr L b (o' g))))::aP g):=by
 obtain⟨fH,h⟩:=h;refine⟨fH,fun ρ F I w bW aZ c9 bj ew bZ dz=>?_⟩;have aY:ae ((q,ba.aA (.bD L))::aJ) q=some (.aA (.bD L)):=aB7
 have bk:fz I w L (F q):=c9 q _ aY;obtain⟨cF,cN,p,co,cZ,ei,eI,t1⟩:=bk.out cP;obtain⟨aa6,aa7⟩:=tF G.1;have t2:ae aJ q=none:=by simpa using G.2
 have eM: ∀{d ch},ae aJ d=some ch->d≠q/\d≠c/\ae ((q,ba.aA (.bD L))::aJ) d=some ch:=fun {d ch} H=>by
  have af:d≠q:=fun e=>by rw[e,t2] at H;cases H
  exact⟨af,fun e=>(by rw[e,aa6] at H;cases H),by rw[cn,mu (au7 af)];exact H⟩
 have aa8: ∀(v:aN),v.has c=false-> ∀d,v.has d=true->dm ρ c p d=ρ d:=fun v ay d H=>dt _ _ (fun e=>by rw[e,ay] at H;cases H)
 match bW,bZ with
 |v0::bW,bZ=>
  have w8:v0= .pointer (some ⟨b,0,none⟩):=dz 0 _ v0 rfl rfl
  have ip: ∀{d ch},ae ((c,ba.aA o)::aJ) d=some ch->(d=c/\ch= .aA o)\/(d≠c/\ae aJ d=some ch):=fun {d ch} H=>by
   rw[cn] at H
   split at H
   .rename_i e;injection H with H;exact .inl ⟨e.symm,H.symm⟩
   .rename_i e;exact .inr ⟨au7 e,H⟩
  refine(h (dm ρ c p) (dm F c cF) I w (v0::bW) aZ ?_ ?_ ?_ (by simpa using bZ) ?_).mono ?_
  .intro d ch H;rcases ip H with⟨rfl,rfl⟩ |⟨e,H⟩
   .rw[dr,dr];exact eI
   .rw[dt _ _ e,dt _ _ e];exact Holds.cg (cj.refl _ _) (fun _ _=>rfl) (ao9 _) ch (fun j V=>dt _ _ (fun ca=>by rw[ca,aa7 d ch H] at V;cases V)) (c9 d ch (eM H).2.2)
  .intro d ch H x hx;rcases ip H with⟨rfl,rfl⟩ |⟨e,H⟩
   .rw[dr] at hx;exact bj q _ aY x ((co x).2 (.inl hx))
   .rw[dt _ _ e] at hx;exact bj d ch (eM H).2.2 x hx
  .intro d cY ch ch' x H c1 a6 hx dF;rcases ip H with⟨In,_⟩ |⟨e,BH⟩
   .rcases ip c1 with⟨I5,_⟩ |⟨ca,EH⟩
    .exact a6 (In.trans I5.symm)
    .rw[In,dr] at hx;rw[dt _ _ ca] at dF;exact ew q cY _ ch' x aY (eM EH).2.2 (au7 (eM EH).1) ((co x).2 (.inl hx)) dF
   .rw[dt _ _ e] at hx;rcases ip c1 with⟨I5,_⟩ |⟨ca,EH⟩
    .rw[I5,dr] at dF;exact ew q d _ ch x aY (eM BH).2.2 (au7 (eM BH).1) ((co x).2 (.inl dF)) hx
    .rw[dt _ _ ca] at dF;exact ew d cY ch ch' x (eM BH).2.2 (eM EH).2.2 a6 hx dF
  .intro i v x ay hx
   match i with
   |0=>
    simp only[aq2,ap5] at ay hx;subst ay hx;show v0=_;rw[dr,ei];exact w8
   |i+1=>
    have oe:args[i]? =some v:=aB9
    have:=ar3.1 E v (at9 oe);exact cv.mono (cj.refl _ _) v x (aa8 v (by simpa using this)) (dz (i+1) v x aB9 hx)
  .rintro e w' ⟨g,x,ρ',F',rfl,cC,de,I',i0,gw,k1,aq,hB,rF⟩;have aV:=aS g;simp only[ao8,aq9] at aV;obtain⟨⟨g1,g2⟩,cX⟩:=aV;obtain⟨m1,m2⟩:=tF g1;have bo:ae (aP g) q=none:=by simpa using g2
   simp only[at1] at ag;have lg:c∉bb:=fun bf=>by have:=ar5.2 bf;rw[ag.1] at this;cases this
   have aos:q∉bb:=fun bf=>by have:=ar5.2 bf;rw[ag.2] at this;cases this
   have nz:ae ((c,ba.aA (o' g))::aP g) c=some (.aA (o' g)):=aB7
   have mM: ∀{d ch},ae (aP g) d=some ch->d≠c/\d≠q/\ae ((c,ba.aA (o' g))::aP g) d=some ch:=fun {d ch} H=>by
    have af:d≠c:=fun e=>by rw[e,m1] at H;cases H
    exact⟨af,fun e=>(by rw[e,bo] at H;cases H),by rw[cn,mu (au7 af)];exact H⟩
   have mg: ∀y,(∃d ch,ae ((c,ba.aA o)::aJ) d=some ch/\dm F c cF d y)-> ∃d ch,ae ((q,ba.aA (.bD L))::aJ) d=some ch/\F d y:=by
    rintro y ⟨d,ch,H,aC⟩;rcases ip H with⟨rfl,rfl⟩ |⟨e,H⟩
    .rw[dr] at aC;exact⟨q,_,aY,(co y).2 (.inl aC)⟩
    .rw[dt _ _ e] at aC;exact⟨d,ch,(eM H).2.2,aC⟩
   have jZ: ∀y,cN y-> ¬ ∃d ch,ae ((c,ba.aA o)::aJ) d=some ch/\dm F c cF d y:=by
    rintro y aC ⟨d,ch,H,d2⟩;rcases ip H with⟨rfl,rfl⟩ |⟨e,H⟩
    .rw[dr] at d2;exact cZ y d2 aC
    .rw[dt _ _ e] at d2;exact ew q d _ ch y aY (eM H).2.2 (au7 (eM H).1) ((co y).2 (.inr aC)) d2
   have rG: ∀y,cN y->y < w.heap.size/\ ¬I y:=fun y aC=>bj q _ aY y ((co y).2 (.inr aC))
   have mf: ∀y,cN y->w'.heap[y]? =w.heap[y]? :=fun y aC=>cC.block y (rG y aC).1 (jZ y aC)
   have vm: ∀d ch y,ae ((c,ba.aA (o' g))::aP g) d=some ch->F' d y-> ¬cN y:=fun d ch y H aC BI=>by
    rcases(aq d ch H y aC).2.2 with h |h
    .exact jZ y BI h
    .have:=(rG y BI).1;omega
   have aa9:ρ' c=p:=by rw[de c lg,dr]
   have og:=t1 I' w' (o' g) (F' c) (ρ' c) i0 cC.size mf (by rw[aa9];exact ei) (k1 c _ nz) (fun y aC=>vm c _ y nz aC);refine⟨g,x,dm ρ' c (ρ c),fun d=>if d=q then(fun y=>F' c y\/cN y) else F' d,rfl,cC.mono fun y _ aC=>mg y aC,fun d H=>?_,I',i0,fun y aC=>⟨(gw y aC).1,?_⟩,?_,?_,?_,?_⟩
   .by_cases e:d=c
    .subst e;rw[dr]
    .rw[dt _ _ e,de d H,dt _ _ e]
   .rcases(gw y aC).2 with h |h |h
    .exact .inl h
    .exact .inr (.inl (mg y h))
    .exact .inr (.inr h)
   .intro d ch H;rw[cn] at H
    split at H
    .rename_i e;injection H with H
     subst H e;simp only[if_true];exact og
    .rename_i e;obtain⟨af,al,bt⟩:=mM H;simp only[mu al];rw[dt _ _ af];exact Holds.cg (cj.refl _ _) (fun _ _=>rfl) (ao9 _) ch (fun j V=>dt _ _ (fun ca=>by rw[ca,m2 d ch H] at V;cases V)) (k1 d ch bt)
   .intro d ch H y aC;rw[cn] at H
    split at H
    .rename_i e;subst e;simp only[if_true] at aC;rcases aC with aC |aC
     .obtain⟨bR,b',a3⟩:=aq c _ nz y aC;exact⟨bR,b',a3.imp (mg y) id⟩
     .refine⟨aq8 (rG y aC).1 cC.size,fun aG=>?_,.inl ⟨q,_,aY,(co y).2 (.inr aC)⟩⟩;rcases(gw y aG).2 with h |h |h
      .exact(rG y aC).2 h
      .exact jZ y aC h
      .have:=(rG y aC).1;omega
    .obtain⟨af,al,bt⟩:=mM H;simp only[mu al] at aC;obtain⟨bR,b',a3⟩:=aq d ch bt y aC;exact⟨bR,b',a3.imp (mg y) id⟩
   .intro d cY ch ch' y H c1 a6 aC d2;rw[cn] at H c1
    split at H
    .rename_i e;subst e;rw[mu a6] at c1;obtain⟨af,al,bt⟩:=mM c1;simp only[if_true] at aC;simp only[mu al] at d2;rcases aC with aC |aC
     .exact hB c cY _ ch' y nz bt (au7 af) aC d2
     .exact vm cY ch' y bt d2 aC
    .obtain⟨af,al,bt⟩:=mM H;simp only[mu al] at aC
     split at c1
     .rename_i e;subst e;simp only[if_true] at d2;rcases d2 with d2 |d2
      .exact hB d c ch _ y bt nz af aC d2
      .exact vm d ch y bt aC d2
     .obtain⟨k0,jp,y4⟩:=mM c1;simp only[mu jp] at d2;exact hB d cY ch ch' y bt y4 a6 aC d2
   .exact cv.mono (cj.refl _ _) (res g) x (fun j V=>dt _ _ (fun ca=>by rw[ca,cX] at V;cases V)) rF
def hQ: ∀(B B':av) (c:Nat),ae (B++B') c=(match ae B c with
  |some ch=>some ch
  |none=>ae B' c)
 | [],B',c=>rfl
 |(d,ch)::B,B',c=>by
  rw[List.cons_append,cn,cn,hQ B B' c]
  split <;>rfl
def BJ (l:aD3):av->Bool
 | []=>true
 |(c,ch)::B=> !l.contains c&&(l.all fun d=> !ch.has d)&&BJ l B
def BK {l:aD3}: ∀{B:av},BJ l B=true-> ∀{c ch},ae B c=some ch->c∉l/\ ∀d,d∈l->ch.has d=false
 |(c,ch)::B,h,d,ch',H=>by
  simp only[BJ,ao8,aq9] at h;rw[cn] at H
  split at H
  .rename_i e;subst e;injection H with H
   subst H;refine⟨fun bf=>?_,fun x hx=>?_⟩
   .have:=ar5.2 bf;rw[h.1.1] at this
    cases this
   .have:=ar3.1 h.1.2 x hx;simpa using this
  .exact BK h.2 H
def mh (f2 bb i9:aD3):aD3:=f2++bb.filter fun d=> !i9.contains d
def rH {l:aD3} {d:Nat} (h:l.contains d=true):d∈l:=ar5.1 h
def vn {l:aD3} {d:Nat} (h:l.contains d=false):d∉l:=fun bf=>by rw[ar5.2 bf] at h;cases h
def nA (c:Nat) (f2:aD3) (args:List aN) (bp aJ:av) (bb i9:aD3):Bool:=
 (ci bp).contains c&&(ci bp).all (fun d=>(c::f2).contains d)&&vb (c::f2) bp&& !bb.contains c&& !f2.contains c&&i9.all (fun d=>bb.contains d&& !f2.contains d)&&(args.all fun v=>f2.all fun d=> !v.has d)&&BJ f2 aJ&&(ae aJ c).isNone
def nB (c:Nat) (hid:aD3) (res:aN) (dD aP:av):Bool:=
 (ci dD).contains c&&(ci dD).all (fun d=>(c::hid).contains d)&&BJ hid aP&&(ae aP c).isNone&&(hid.all fun d=> !res.has d)
def cz.close {P:aD9} {f:aE8} {c:Nat} {args:List aN} {bp aJ:av} {bb i9:aD3} {X:Type} {res:X->aN} {dD aP:X->av} {o:bc} {o':X->bc} (f2:aD3)
  (h:cz P f args (bp++aJ) bb res (fun g=>dD g++aP g)) (dW: ∀I F w p,o.bn I F w p->j1 c bp I F w p) (lG: ∀g I F w p,j1 c (dD g) I F w p->(o' g).bn I F w p)
  (E:nA c f2 args bp aJ bb i9=true) (G: ∀g,nB c (mh f2 bb i9) (res g) (dD g) (aP g)=true):
  cz P f args ((c,.aA o)::aJ) i9 res (fun g=>(c,.aA (o' g))::aP g):=by
 obtain⟨fH,h⟩:=h;simp only[nA,ao8,aq9,ay5] at E;obtain⟨⟨⟨⟨⟨⟨⟨⟨bR,b'⟩,a3⟩,a4⟩,a5⟩,ft⟩,qp⟩,EI⟩,a9⟩:=E;have bR:=rH bR;have a4:=vn a4;have a5:=vn a5
 have PP: ∀d,d∈ci bp->d=c\/d∈f2:=fun d H=>by
  have:=rH (ar3.1 b' d H);exact ap7.1 this
 have aot: ∀d,d∈i9->d∈bb/\d∉f2:=fun d H=>by
  have:=ar3.1 ft d H;simp only[ao8,aq9] at this;exact⟨rH this.1,vn this.2⟩
 refine⟨fH,fun ρ F I w bW aZ c9 bj ew bZ dz=>?_⟩;have dI:ae ((c,ba.aA o)::aJ) c=some (.aA o):=aB7
 obtain⟨nC,cd,cE,cG,dG,e3⟩:=dW _ _ _ _ (c9 c _ dI)
 have eM: ∀{d ch},ae aJ d=some ch->d≠c/\d∉f2/\ae ((c,ba.aA o)::aJ) d=some ch:=fun {d ch} H=>by
  have af:d≠c:=fun e=>by rw[e,a9] at H;cases H
  exact⟨af,(BK EI H).1,by rw[cn,mu (au7 af)];exact H⟩
 have ip: ∀{d ch},ae (bp++aJ) d=some ch->(ae bp d=some ch/\d∈ci bp)\/(d∉ci bp/\ae aJ d=some ch):=fun {d ch} H=>by
  rw[hQ] at H
  cases e:ae bp d with
  |some ch'=>
   rw[e] at H;exact .inl ⟨H,f1.2 ⟨ch',e⟩⟩
  |none=>
   rw[e] at H;exact .inr ⟨fun Z=>(by obtain⟨ch',Z⟩:=f1.1 Z;rw[e] at Z;cases Z),H⟩
 let t6:Nat->bm:=fun d=>if d∈f2 then nC d else ρ d
 let iA:Nat->Nat->Prop:=fun d=>if d∈ci bp then cd d else F d
 have BL: ∀d,d∉f2->t6 d=ρ d:=fun d H=>mu H
 have w9: ∀d,d∈c::f2->t6 d=nC d:=fun d H=>by
  rcases ap7.1 H with rfl |H
  .rw[BL _ a5,cE]
  .exact vj H
 have mg: ∀y,(∃d ch,ae (bp++aJ) d=some ch/\iA d y)-> ∃d ch,ae ((c,ba.aA o)::aJ) d=some ch/\F d y:=by
  rintro y ⟨d,ch,H,aC⟩;rcases ip H with⟨af,al⟩ |⟨af,al⟩
  .have aC:cd d y:=by simpa only[iA,vj al] using aC
   exact⟨c,_,dI,(e3 y).2 ⟨d,ch,af,aC⟩⟩
  .have aC:F d y:=by simpa only[iA,mu af] using aC
   exact⟨d,ch,(eM al).2.2,aC⟩
 refine(h t6 iA I w bW aZ ?_ ?_ ?_ bZ ?_).mono ?_
 .intro d ch H;rcases ip H with⟨af,al⟩ |⟨af,al⟩
  .have Z:d∈c::f2:=ap7.2 (PP d al);rw[w9 d Z];simp only[iA,vj al];exact Holds.cg (cj.refl _ _) (fun _ _=>rfl) (ao9 _) ch (fun j V=>w9 j (ba.kp (wV a3 af) V)) (cG d ch af)
  .rw[BL d (eM al).2.1];simp only[iA,mu af];exact Holds.cg (cj.refl _ _) (fun _ _=>rfl) (ao9 _) ch (fun j V=>BL j (fun kM=>by rw[(BK EI al).2 j kM] at V;cases V)) (c9 d ch (eM al).2.2)
 .intro d ch H x hx;rcases ip H with⟨af,al⟩ |⟨af,al⟩
  .simp only[iA,vj al] at hx;exact bj c _ dI x ((e3 x).2 ⟨d,ch,af,hx⟩)
  .simp only[iA,mu af] at hx;exact bj d ch (eM al).2.2 x hx
 .intro d cY ch ch' x H c1 a6 hx dF;rcases ip H with⟨af,al⟩ |⟨af,al⟩
  .simp only[iA,vj al] at hx;rcases ip c1 with⟨k0,jp⟩ |⟨k0,jp⟩
   .simp only[iA,vj jp] at dF;exact dG d cY ch ch' x af k0 a6 hx dF
   .simp only[iA,mu k0] at dF;exact ew c cY _ ch' x dI (eM jp).2.2 (au7 (eM jp).1) ((e3 x).2 ⟨d,ch,af,hx⟩) dF
  .simp only[iA,mu af] at hx;rcases ip c1 with⟨k0,jp⟩ |⟨k0,jp⟩
   .simp only[iA,vj jp] at dF;exact ew c d _ ch x dI (eM al).2.2 (au7 (eM al).1) ((e3 x).2 ⟨cY,ch',k0,dF⟩) hx
   .simp only[iA,mu k0] at dF;exact ew d cY ch ch' x (eM al).2.2 (eM jp).2.2 a6 hx dF
 .intro i v x ay hx;have I6:=ar3.1 qp v (at9 ay)
  exact cv.mono (cj.refl _ _) v x (fun j V=>BL j (fun kM=>by
   have:=ar3.1 I6 j kM;rw[V] at this
   cases this)) (dz i v x ay hx)
 .rintro e w' ⟨g,x,ρ',F',rfl,cC,de,I',i0,gw,k1,aq,hB,rF⟩;have aV:=G g;simp only[nB,ao8,ay5] at aV;obtain⟨⟨⟨⟨b1,b2⟩,b3⟩,ej⟩,e4⟩:=aV;have b1:=rH b1
  have aa': ∀d,d∉mh f2 bb i9->d∉f2/\(d∈bb->d∈i9):=fun d H=>by
   refine⟨fun bf=>H (ar7.2 (.inl bf)),fun bf=>?_⟩;rcases Decidable.em (d∈i9) with h |h
   .exact h
   .exact ap0 (ar7.2 (.inr (ay0.2 ⟨bf,by simpa using h⟩))) H
  have I7:c∉mh f2 bb i9:=fun bf=>by
   rcases ar7.1 bf with h |h
   .exact a5 h
   .exact a4 (ay0.1 h).1
  let tT:Nat->bm:=fun d=>if d∈i9 then ρ' d else ρ d
  have qA: ∀d,d∉mh f2 bb i9->tT d=ρ' d:=fun d H=>by
   obtain⟨af,al⟩:=aa' d H;show(if d∈i9 then ρ' d else ρ d)=ρ' d
   split
   .rfl
   .rename_i hn;rw[de d (fun bf=>hn (al bf)),BL d af]
  have oq: ∀{d ch},ae (dD g) d=some ch->ae (dD g++aP g) d=some ch:=fun {d ch} H=>by rw[hQ,H]
  have mM: ∀{d ch},ae (aP g) d=some ch->d≠c/\d∉mh f2 bb i9/\ae (dD g) d=none/\ae (dD g++aP g) d=some ch:=fun {d ch} H=>by
   have af:d≠c:=fun e=>by rw[e,ej] at H;cases H
   have al:=(BK b3 H).1
   have bt:ae (dD g) d=none:=by
    cases e:ae (dD g) d with
    |none=>rfl
    |some ch'=>
     have:=rH (ar3.1 b2 d (f1.2 ⟨ch',e⟩));rcases ap7.1 this with h |h
     .exact ap0 h af
     .exact ap0 h al
   exact⟨af,al,bt,by rw[hQ,bt];exact H⟩
  refine⟨g,x,tT,fun d=>if d=c then(fun y=> ∃cY ch',ae (dD g) cY=some ch'/\F' cY y) else F' d,rfl,cC.mono fun y _ aC=>mg y aC,fun d H=>mu H,I',i0,fun y aC=>⟨(gw y aC).1,?_⟩,?_,?_,?_,?_⟩
  .rcases(gw y aC).2 with h |h |h
   .exact .inl h
   .exact .inr (.inl (mg y h))
   .exact .inr (.inr h)
  .intro d ch H;rw[cn] at H
   split at H
   .rename_i e;injection H with H
    subst H e;simp only[if_true];rw[qA _ I7];exact lG g _ _ _ _ ⟨ρ',F',rfl,fun d ch H=>k1 d ch (oq H),fun d cY ch ch' b H c1 a6=>hB d cY ch ch' b (oq H) (oq c1) a6,fun b=>Iff.rfl⟩
   .obtain⟨af,al,bt,c3⟩:=mM H;simp only[mu af];rw[qA d al];exact Holds.cg (cj.refl _ _) (fun _ _=>rfl) (ao9 _) ch (fun j V=>qA j (fun kM=>by rw[(BK b3 H).2 j kM] at V;cases V)) (k1 d ch c3)
  .intro d ch H y aC;rw[cn] at H
   split at H
   .rename_i e;subst e;simp only[if_true] at aC;obtain⟨cY,ch',E,G⟩:=aC;obtain⟨cy,cu,gl⟩:=aq cY ch' (oq E) y G;exact⟨cy,cu,gl.imp (mg y) id⟩
   .obtain⟨af,al,bt,c3⟩:=mM H;simp only[mu af] at aC;obtain⟨cy,cu,gl⟩:=aq d ch c3 y aC;exact⟨cy,cu,gl.imp (mg y) id⟩
  .intro d cY ch ch' y H c1 a6 aC d2;rw[cn] at H c1
   split at H
   .rename_i e;subst e;rw[mu a6] at c1;obtain⟨af,al,bt,c3⟩:=mM c1;simp only[if_true] at aC;simp only[mu af] at d2;obtain⟨hA,iJ,E,G⟩:=aC;exact hB hA cY iJ ch' y (oq E) c3 (fun e=>by rw[e,bt] at E;cases E) G d2
   .obtain⟨af,al,bt,c3⟩:=mM H;simp only[mu af] at aC
    split at c1
    .rename_i e;subst e;simp only[if_true] at d2;obtain⟨hA,iJ,E,G⟩:=d2;exact hB d hA ch iJ y c3 (oq E) (fun e=>by rw[<-e,bt] at E;cases E) aC G
    .obtain⟨k0,jp,y4,aba⟩:=mM c1;simp only[mu k0] at d2;exact hB d cY ch ch' y c3 aba a6 aC d2
  .exact cv.mono (cj.refl _ _) (res g) x (fun j V=>qA j (fun kM=>by
    have:=ar3.1 e4 j kM;rw[V] at this
    cases this)) rF
def j1.abb {f g:Nat->Nat} (BM: ∀c,g (f c)=c) (I8: ∀c,f (g c)=c) {c:Nat} {bp:av} {I F:Nat->Prop} {w:aD8} {p:bm} (h:j1 c bp I F w p):j1 (f c) (kN f bp) I F w p:=by
 obtain⟨ρ,cd,E,G,ag,aS⟩:=h
 have ak: ∀{d ch},ae (kN f bp) d=some ch-> ∃cA,ae bp (g d)=some cA/\ch=cA.eq f:=fun {d ch} H=>by
  rw[<-I8 d,By BM] at H;obtain⟨cA,af,al⟩:=as4.1 H;exact⟨cA,af,al.symm⟩
 refine⟨fun d=>ρ (g d),fun d=>cd (g d),by simp only[BM];exact E,fun d ch H=>?_,fun d cY ch ch' b H c1 a6=>?_,fun b=>?_⟩
 .obtain⟨cA,af,rfl⟩:=ak H;rw[Bx];simp only[BM];exact G _ _ af
 .obtain⟨cA,af,_⟩:=ak H;obtain⟨iJ,al,_⟩:=ak c1;exact ag _ _ _ _ b af al (fun e=>a6 (by rw[<-I8 d,<-I8 cY,e]))
 .rw[aS];constructor
  .rintro⟨d,ch,af,al⟩;exact⟨f d,ch.eq f,by rw[By BM,af];rfl,by simp only[BM];exact al⟩
  .rintro⟨d,ch,af,al⟩;obtain⟨cA,bt,_⟩:=ak af;exact⟨g d,cA,bt,al⟩
def j1.a7 (l:aG0) {c:Nat} {bp:av} {I F:Nat->Prop} {w:aD8} {p:bm} (h:j1 c bp I F w p):j1 (eq (lH l []) c) (kN (eq (lH l [])) bp) I F w p:=
 h.abb (g:=yY (lH l [])) (Ex _) (Ey _)
section
variable {ids:aD3} {K:aW} {B:av}
def du.name (s c:Nat) {o:bc} (ax:dQ K s= .c (.one (.ptr c 0))) (J:ae B c=some (.aA o)):du ids K B (fun b:Nat=>(s,.c (.one (.d (.aM (some b)))))::K) (fun b=>(c,.aA (o.at b))::B):=by
 rintro N C a w ⟨hn,H,ρ,F,ah,ar⟩;obtain⟨bK,a2⟩:=ah.hz (w':=w) (ch:=.aA (o.at (ρ c).bh)) J (cR.refl _ _) fun I aZ=>⟨rfl,Holds.cg (ρ':=ρ) aZ (fun _ _=>rfl) (ao9 _) (.aA o) (fun _ _=>rfl) (ah.holds c _ J)⟩
 refine⟨(ρ c).bh,hn,H,ρ,F,bK,fun t=>?_⟩;rw[ke]
 split
 .rename_i e;subst e;have:=ar s;rw[ax] at this;exact this
 .exact ar.mono a2 (fun _ _ _=>rfl) t
def ac.put (q c:Nat) {o:bc} {b:Nat} {L:List (Nat×bc)} (a6:c≠q) (aY:ae B q=some (.aA (.bD L))) (J:ae B c=some (.aA (o.at b))):ac ids K B K ((q,.aA (.bD ((b,o)::L)))::gJ B c):=by
 rintro N C a w ⟨hn,H,ρ,F,ah,ar⟩;have bk:fz _ _ L (F q):=ah.holds q _ aY;have aq:(ρ c).bh=b/\o.bn _ (F c) w (ρ c):=ah.holds c _ J;obtain⟨rfl,aq⟩:=aq;have ew: ∀x,F c x-> ¬F q x:=fun x hx dF=>ah.e0 c q _ _ x J aY a6 hx dF
 obtain⟨bK,a2⟩:=ah.step (B':=(q,.aA (.bD (((ρ c).bh,o)::L)))::gJ B c) (ρ':=ρ) (F':=dm F q (fun x=>F c x\/F q x)) (w':=w) (fun d=>d=c\/d=q) (fun _=>False) (cR.refl _ _)
  (fun d ch H aD=>by
   rw[cn,mu (fun e=>aD (.inr e.symm)),hg,mu (fun e=>aD (.inl e.symm))] at H;exact H)
  (fun _ _=>rfl) (fun d aD=>dt _ _ (fun e=>aD (.inr e))) (fun _ _ h=>h) (fun _ h=>h.elim) (fun _ _ _ _ _ _ h=>h)
  (fun d ch H aD a2=>by
   rw[cn] at H
   split at H
   .rename_i e;subst e;injection H with H
    subst H;rw[dr];exact fz.add (bk.cg a2 (ao9 _) (fun _ _=>rfl)) (o.cg _ _ _ _ _ _ aq a2 (fun _ _=>rfl) (ao9 _)) ew
   .rename_i e;rcases aD with rfl |rfl
    .rw[hg,vj rfl] at H;cases H
    .exact ap0 rfl e)
  (fun d ch H aD x hx=>by
   rw[cn] at H
   split at H
   .rename_i e;subst e;rw[dr] at hx;rcases hx with hx |hx
    .exact⟨(ah.own c _ J x hx).1,.inl ⟨c,_,J,.inl rfl,hx⟩⟩
    .exact⟨(ah.own q _ aY x hx).1,.inl ⟨q,_,aY,.inr rfl,hx⟩⟩
   .rename_i e;rcases aD with rfl |rfl
    .rw[hg,vj rfl] at H;cases H
    .exact ap0 rfl e)
  (fun d cY ch ch' x H c1 aD gj I9=>by
   have key: ∀d ch,ae ((q,ba.aA (.bD (((ρ c).bh,o)::L)))::gJ B c) d=some ch->(d=c\/d=q)->d=q:=fun d ch H aD=>by
    rcases aD with rfl |rfl
    .rw[cn,mu (au7 a6),hg,vj rfl] at H;cases H
    .rfl
   exact ap0 ((key d ch H aD).trans (key cY ch' c1 gj).symm) I9)
 exact⟨hn,H,ρ,_,bK,ar.mono a2 fun _ _ _=>rfl⟩
def oU:aD3->av->av
 | [],B=>B
 |c::l,B=>oU l (gJ B c)
def xa: ∀(l:aD3) (B:av) (d:Nat),ae (oU l B) d=if d∈l then none else ae B d
 | [],B,d=>by simp[oU]
 |c::l,B,d=>by
  rw[oU,xa l,hg]
  by_cases h:d∈l
  .rw[vj h,vj (ap4 _ h)]
  .rw[mu h]
   by_cases e:c=d
   .subst e;rw[vj rfl,vj (aq4 ..)]
   .rw[mu e,mu];intro bf;rcases ap7.1 bf with rfl |bf
    .exact e rfl
    .exact h bf
def ac.close (c:Nat) (bp:av) {o:bc} (dh:kI B bp) (J:(ci bp).contains c=true) (ai: ∀I F w p,j1 c bp I F w p->o.bn I F w p):ac ids K B K ((c,.aA o)::oU (ci bp) B):=by
 rintro N C a w ⟨hn,H,ρ,F,ah,ar⟩;have J:=rH J;have ak: ∀{d ch},ae bp d=some ch->ae B d=some ch:=fun {d ch} h=>kn dh h
 have vo: ∀{d ch},ae ((c,ba.aA o)::oU (ci bp) B) d=some ch->d∈ci bp->d=c/\ch= .aA o:=fun {d ch} H aD=>by
  rw[cn] at H
  split at H
  .rename_i e;injection H with H;exact⟨e.symm,H.symm⟩
  .rw[xa,vj aD] at H;cases H
 obtain⟨bK,a2⟩:=ah.step (B':=(c,.aA o)::oU (ci bp) B) (ρ':=ρ) (F':=fun d=>if d∈ci bp then(fun x=> ∃d ch,ae bp d=some ch/\F d x) else F d) (w':=w) (fun d=>d∈ci bp) (fun _=>False) (cR.refl _ _)
  (fun d ch H aD=>by
   have a6:c≠d:=fun e=>aD (by rw[<-e];exact J)
   rw[cn,mu a6,xa,mu aD] at H;exact H)
  (fun _ _=>rfl) (fun d aD=>mu aD) (fun _ _ h=>h) (fun _ h=>h.elim) (fun _ _ _ _ _ _ h=>h)
  (fun d ch H aD a2=>by
   obtain⟨rfl,rfl⟩:=vo H aD;simp only[vj aD];exact ai _ _ _ _ ⟨ρ,F,rfl,fun d ch h=>Holds.cg a2 (fun _ _=>rfl) (ao9 _) ch (fun _ _=>rfl) (ah.holds d ch (ak h)),fun d cY ch ch' b h h' a6=>ah.e0 d cY ch ch' b (ak h) (ak h') a6,fun b=>Iff.rfl⟩)
  (fun d ch H aD x hx=>by
   simp only[vj aD] at hx;obtain⟨cY,ch',E,G⟩:=hx;exact⟨(ah.own cY ch' (ak E) x G).1,.inl ⟨cY,ch',ak E,f1.2 ⟨ch',E⟩,G⟩⟩)
  (fun d cY ch ch' x H c1 aD gj a6=>ap0 ((vo H aD).1.trans (vo c1 gj).1.symm) a6)
 exact⟨hn,H,ρ,_,bK,ar.mono a2 fun _ _ _=>rfl⟩
def ac.t7 (q:Nat) (hf:gS ids K B q=true):ac ids K B K ((q,.aA (.bD []))::B):=by
 rintro N C a w ⟨hn,H,ρ,F,ah,ar⟩;have cC:=kK hf;obtain⟨bK,a2⟩:=ah.make hf (Below.refl _ w) (ρ q) (fun _=>False) (fun _ h=>h.elim) (ch:=.aA (.bD [])) fun I _ _=>fun b h=>h
 exact⟨hn,H,_,_,bK,ar.mono a2 fun s d H=>dt _ _ (fun e=>by subst e;rw[cC.1 s] at H;cases H)⟩
end
end
section
abbrev aj:bz:=.int .i64
abbrev aD4:=List (aa aj×aa aj)
abbrev oV:dH:=.one (.bH (.pointer none))
abbrev dJ (n:Int):dH:=.one (.d (.int .i64 n))
abbrev gU:aN:=.cm []
abbrev di (b:Nat):aN:=.c (.one (.d (.aM (some b))))
abbrev PQ (x:aE2):dH:=.one (.d (.aM x))
def j2 {α:Type} {L:List α} {n:Nat} (h:n < L.length):fi L n=some L[n]:=ao7 h
def Fn.close {P:aD9} {f:aE8} {c:Nat} {args:List aN} {bp aJ:av} {bb i9:aD3} {res:aN} {dD aP:av} {o o':bc} (f2:aD3)
  (h:Fn P f args (bp++aJ) bb res (dD++aP)) (dW: ∀I F w p,o.bn I F w p->j1 c bp I F w p) (lG: ∀I F w p,j1 c dD I F w p->o'.bn I F w p)
  (E:nA c f2 args bp aJ bb i9=true) (G:nB c (mh f2 bb i9) res dD aP=true):
  Fn P f args ((c,.aA o)::aJ) i9 res ((c,.aA o')::aP):=
 (cz.close (bp:=bp) (dD:=fun _:Unit=>dD) (aP:=fun _=>aP) (o:=o) (o':=fun _=>o') f2 h.x dW (fun _=>lG) E (fun _=>G)).fn
def Fn.BN {P:aD9} {f:aE8} {args:List aN} {c:Nat} {aJ:av} {bb:aD3} {res:aN} {aP:av} {o:bc} {Y:Type} {qD:Y->bc} (J:iX P f=true) (ai: ∀I F w p,o.bn I F w p-> ∃y,(qD y).bn I F w p)
  (h: ∀y,Fn P f args ((c,.aA (qD y))::aJ) bb res aP):Fn P f args ((c,.aA o)::aJ) bb res aP:=by
 refine⟨J,fun ρ F I w bW bR b' a3 a4 a5 ft=>?_⟩;have ak:ae ((c,ba.aA o)::aJ) c=some (.aA o):=aB7
 obtain⟨y,aC⟩:=ai _ _ _ _ (b' c _ ak)
 have key: ∀d ch,ae ((c,ba.aA (qD y))::aJ) d=some ch->(d=c/\ch= .aA (qD y))\/ae ((c,ba.aA o)::aJ) d=some ch:=fun d ch H=>by
  rw[cn] at H
  split at H
  .rename_i e;injection H with H;exact .inl ⟨e.symm,H.symm⟩
  .rename_i e;exact .inr (by rw[cn,mu e];exact H)
 have t8: ∀d ch,ae ((c,ba.aA (qD y))::aJ) d=some ch-> ∃cA,ae ((c,ba.aA o)::aJ) d=some cA:=fun d ch H=>by
  rcases key d ch H with⟨e,_⟩ |h
  .rw[e];exact⟨_,ak⟩
  .exact⟨_,h⟩
 have abc: ∀d ch,ae ((c,ba.aA o)::aJ) d=some ch-> ∃cA,ae ((c,ba.aA (qD y))::aJ) d=some cA:=fun d ch H=>by
  rw[cn] at H⊢
  split at H
  .rename_i e;exact⟨_,by rw[vj e]⟩
  .rename_i e;exact⟨ch,by rw[mu e];exact H⟩
 have bj: ∀b,(∃d ch,ae ((c,ba.aA (qD y))::aJ) d=some ch/\F d b)↔ ∃d ch,ae ((c,ba.aA o)::aJ) d=some ch/\F d b:=fun b=>
  ⟨fun⟨d,ch,E,G⟩=>let⟨cA,h⟩:=t8 d ch E;⟨d,cA,h,G⟩,fun⟨d,ch,E,G⟩=>let⟨cA,h⟩:=abc d ch E;⟨d,cA,h,G⟩⟩
 refine((h y).2 ρ F I w bW bR (fun d ch H=>?_) (fun d ch H b O=>?_) (fun d cY ch ch' b E G=>?_) a5 ft).mono ?_
 .rcases key d ch H with⟨rfl,rfl⟩ |h
  .exact aC
  .exact b' d ch h
 .obtain⟨cA,h⟩:=t8 d ch H;exact a3 d cA h b O
 .obtain⟨gK,g1⟩:=t8 d ch E;obtain⟨cy,g2⟩:=t8 cY ch' G;exact a4 d cY gK cy b g1 g2
 .rintro e w' ⟨x,ρ',F',r1,r2,fI,I',jI,ll,lJ,lm,mi,nD⟩;refine⟨x,ρ',F',r1,r2.mono fun b _ O=>(bj b).1 O,fI,I',jI,fun b O=>⟨(ll b O).1,(ll b O).2.imp id (Or.imp (bj b).1 id)⟩,lJ,fun d ch H b O=>?_,mi,nD⟩;obtain⟨g1,g2,cX⟩:=lm d ch H b O;exact⟨g1,g2,cX.imp (bj b).1 id⟩
end
section
def cz.IT {P:aD9} {fn:aE8} {f g:Nat->Nat} (aV: ∀c,g (f c)=c) (hf: ∀c,f (g c)=c) {args:List aN} {aJ:av} {bb:aD3} {X:Type} {res:X->aN} {aP:X->av} (h:cz P fn args aJ bb res aP):
  cz P fn (w2 f args) (kN f aJ) (y1 f bb) (fun x=>(res x).eq f) (fun x=>kN f (aP x)):=by
 refine⟨h.1,?_⟩;intro ρ F I w bW aZ c9 bj ew bZ dz;have lI: ∀(B:av) c,ae (kN f B) (f c)=(ae B c).map (·.eq f):=By aV;have om: ∀{B:av} {c ch},ae B c=some ch->ae (kN f B) (f c)=some (ch.eq f):=fun {B c ch} h=>by rw[lI,h];rfl
 have tW: ∀{B:av} {c ch},ae (kN f B) c=some ch-> ∃cA,ae B (g c)=some cA/\ch=cA.eq f:=fun {B c ch} h=>by
  have e:=lI B (g c);rw[hf,h] at e;obtain⟨cA,E,G⟩:=as4.1 e.symm;exact⟨cA,E,G.symm⟩
 rw[IR] at bZ dz
 have J:=h.2 (fun c=>ρ (f c)) (fun c=>F (f c)) I w bW aZ
  (fun c ch J=>by rw[<-Bx];exact c9 _ _ (om J))
  (fun c ch J=>bj _ _ (om J))
  (fun c ck ch ch' b E G a6=>ew _ _ _ _ b (om E) (om G) fun e=>a6 (by rw[<-aV c,e,aV]))
  (by simpa using bZ)
  (fun i v x ay hx=>by rw[<-EA];exact dz i _ x (by rw[ar1,ay];rfl) hx)
 refine J.mono ?_;rintro e w' ⟨y,x,ρ',F',rfl,cC,de,I',i0,gw,k1,aq,hB,hx⟩;have w3:(fun c=>ρ' (g (f c)))=ρ':=funext fun c=>by rw[aV]
 refine⟨y,x,fun c=>ρ' (g c),fun c=>F' (g c),rfl,?_,?_,I',i0,?_,?_,?_,?_,?_⟩
 .exact cC.mono fun b _ ⟨c,ch,E,G⟩=>⟨f c,_,om E,G⟩
 .intro c J;show ρ' (g c)=ρ c;rw[de (g c) (fun aD=>J (by have:=IS (f:=f) _ _ aD;rwa[hf] at this)),hf]
 .intro b O;obtain⟨E,G⟩:=gw b O;refine⟨E,?_⟩;rcases G with G |⟨c,ch,G,ag⟩ |G
  .exact .inl G
  .exact .inr (.inl ⟨f c,_,om G,ag⟩)
  .exact .inr (.inr G)
 .intro c ch J;obtain⟨cA,E,rfl⟩:=tW J;rw[Bx,w3];exact k1 _ _ E
 .intro c ch J b O;obtain⟨cA,E,rfl⟩:=tW J;obtain⟨cE,cG,dG⟩:=aq _ _ E b O;refine⟨cE,cG,?_⟩;rcases dG with⟨gK,cA,dG,e3⟩ |dG
  .exact .inl ⟨f gK,_,om dG,e3⟩
  .exact .inr dG
 .intro c ck ch ch' b J c0 a6;obtain⟨cA,E,rfl⟩:=tW J;obtain⟨iJ,G,rfl⟩:=tW c0;exact hB _ _ _ _ b E G fun e=>a6 (by rw[<-hf c,e,hf])
 .rw[EA,w3];exact hx
def cz.a7 {P:aD9} {fn:aE8} (l:aG0) {args:List aN} {aJ:av} {bb:aD3} {X:Type} {res:X->aN} {aP:X->av} (h:cz P fn args aJ bb res aP):
  cz P fn (w2 (eq (lH l [])) args) (kN (eq (lH l [])) aJ) (y1 (eq (lH l [])) bb) (fun x=>(res x).eq (eq (lH l []))) (fun x=>kN (eq (lH l [])) (aP x)):=
 cz.IT (Ex _) (Ey _) h
def cz.arg {P:aD9} {f:aE8} {args args':List aN} {aJ:av} {bb:aD3} {X:Type} {res:X->aN} {aP:X->av} (h:cz P f args' aJ bb res aP) (ak:DJ args args'):cz P f args aJ bb res aP:=by obtain⟨E,G⟩:=IE ak;refine⟨h.1,fun ρ F I w bW bR b' a3 a4 a5 ft=>h.2 ρ F I w bW bR b' a3 a4 (a5.trans E) fun i v x ay hx=>?_⟩;obtain⟨s,g1,g2⟩:=G i v ay;exact vc g2 (ft i s x g1 hx)
def bc.ot (o:bc):Prop:= ∀I F w p,o.bn I F w p->F p.bh
def Ja {I:Nat->Prop} {w:aD8} {b:Nat}: ∀{L:List (Nat×bc)} {F:Nat->Prop},(∀p∈L,p.2.ot)->fz I w L F->b∈L.map (·.1)->F b
 | [],_,_,_,h=>by cases h
 |p::L,F,ha,⟨cF,cN,q,E,G,ag,aS,bG⟩,h=>by
  rcases ap7.1 h with h |h
  .exact(E b).2 (.inl (by rw[h];have:=ha p (aq4 ..) _ _ _ _ aS;rwa[ag] at this))
  .exact(E b).2 (.inr (Ja (fun p ao=>ha p (ap4 _ ao)) bG h))
def PR {I:Nat->Prop} {w:aD8}: ∀{L:List (Nat×bc)} {F:Nat->Prop},(∀p∈L,p.2.ot)->fz I w L F->(L.map (·.1)).Nodup
 | [],_,_,_=>av1
 |p::L,F,ha,⟨cF,cN,q,E,G,ag,aS,bG⟩=>by
  have PS: ∀p∈L,p.2.ot:=fun p ao=>ha p (ap4 _ ao)
  rw[aq5];refine as2.2 ⟨fun aD=>?_,PR PS bG⟩;have af:=ha p (aq4 ..) _ _ _ _ aS;rw[ag] at af;exact G _ af (Ja PS bG aD)
def du.BO {ids:aD3} {K:aW} {B:av} (q:Nat) {L:List (Nat×bc)} (ha: ∀p∈L,p.2.ot) (aY:ae B q=some (.aA (.bD L))):du ids K B (X:=PLift ((L.map (·.1)).Nodup)) (fun _=>K) (fun _=>B):=by rintro N C a w ⟨hn,H,ρ,F,ah,ar⟩;have bk:fz (bX C B F w) w L (F q):=ah.holds q _ aY;exact⟨⟨PR ha bk⟩,hn,H,ρ,F,ah,ar⟩
end
section
def Fn.via {P:aD9} {f:aE8} {args:List aN} {aJ:av} {bb:aD3} {res:aN} {aP:av} {X:Type} {args':X->List aN} {t':X->av} {mI:X->av} {i9:X->aD3} {res':X->aN} {nE:X->av} (fH:iX P f=true) (n:Nat) (hn:args.length=n)
  (dW:du (ci aJ) (ol 0 args) aJ (fun x=>ol 0 (args' x)) t') (h: ∀x,Fn P f (args' x) (mI x) (i9 x) (res' x) (nE x)) (hN: ∀x,kI (t' x) (mI x)) (cC: ∀x,(rp (ci aJ) (ol 0 (args' x)) (t' x) (i9 x)&&l7 (mI x) (i9 x) (nE x))=true) (bZ: ∀x,(args' x).length=n)
  (lG: ∀x,∃(r:aN) (jr:av),ac (ci aJ) ((n,res' x)::ol 0 (args' x)) (g0 (ij (mI x) (nE x)) (t' x)) [(n,r)] jr/\sr r res/\kI jr aP/\(res.iy (ci aJ++bb)&&vb (ci aJ++bb) aP&&(ci aP).all (fun c=>(ci aJ++bb).contains c))=true):Fn P f args aJ bb res aP:=by
 refine⟨fH,fun ρ F I w bW aZ c9 bj ew qy dz=>?_⟩
 let C:eZ:=⟨w,I,fun b=> ∃c ch,ae aJ c=some ch/\F c b,ρ,[]⟩
 let a:Act:={tmps:=(bW++[undef]).toArray,defers:=[]}
 have rD:cj I w (bX C aJ F w) w:=fun b O=>⟨⟨aZ b O,.inl O,fun c ch J pE=>(bj c ch J b pE).2 O⟩,rfl⟩
 have abd:Mem (ci aJ) C aJ ρ F w:=⟨cR.refl _ _,fun c ch J=>Holds.cg rD (fun _ _=>rfl) (ao9 _) ch (fun _ _=>rfl) (c9 c ch J),fun c ch J b O=>⟨(bj c ch J b O).1,.inl ⟨c,ch,J,O⟩⟩,ew,fun c _=>rfl,av1,fun b O=>O.elim (aZ b) fun⟨c,ch,J,Bp⟩=>(bj c ch J b Bp).1,fun D cx=>by cases cx⟩
 have jq: ∀(i:Nat) (aG:i < bW.length),a.tmps.getD i undef=bW[i]:=fun i aG=>by
  show(bW++[undef]).toArray.getD i undef=_;rw[av8,List.getElem?_toArray,as0 aG,ao7 aG];rfl
 have abe:eS (n+1) (ci aJ) C (ol 0 args) aJ a w:=by
  refine⟨by show(bW++[undef]).toArray.size=n+1;simp[qy,hn],rfl,ρ,F,abd,fun s=>?_⟩;rw[Bn];simp only[ap9,if_true,Nat.sub_zero]
  cases ax:args[s]? with
  |none=>trivial
  |some v=>
   have br:s < bW.length:=by rw[qy];exact(ap6.1 ax).1
   simp only[av3];have hx:bW[s]? =some bW[s]:=ao7 br;have:=cv.mono rD v _ (fun _ _=>rfl) (dz s v _ ax hx);rw[jq s br];exact this
 obtain⟨x,km,wO,rI,cF,ah,ar⟩:=dW (n+1) C a w abe;have pJ: ∀{c ch},ae (mI x) c=some ch->ae (t' x) c=some ch:=fun {c ch} J=>kn (hN x) J
 have cC:=cC x;rw[ao8] at cC
 have J:=(h x).2 rI cF (bX C (t' x) cF w) w bW (fun b O=>O.1) (fun c ch J=>ah.holds c ch (pJ J)) (fun c ch J b O=>⟨(ah.own c ch (pJ J) b O).1,fun aZ=>aZ.2.2 c ch (pJ J) O⟩)
  (fun c ck ch ch' b E G=>ah.e0 c ck ch ch' b (pJ E) (pJ G)) (by rw[qy,hn,bZ x]) (fun i v y ay aC=>by
   have aG:i < bW.length:=(ap6.1 aC).1;have E:=ar i;rw[Bn] at E;simp only[ap9,if_true,Nat.sub_zero,ay,av3] at E;rw[jq i aG] at E;rw[ao7 aG] at aC;injection aC with aC
   rw[<-aC];exact E)
 refine J.mono ?_;rintro e w' ⟨y,tT,cN,rfl,cE,cG,I',dG,e3,xb,vp,xc,Jb⟩;have w3:=eS.back (dst:=some n) (hN x) cC.1 cC.2 km wO ah ar (fun d H=>by injection H with H;omega) cE cG e3 xb vp xc Jb;obtain⟨r,jr,hh,abf,EJ,oT⟩:=lG x;obtain⟨EK,aou,ρ',F',bK,Bq⟩:=hh _ _ _ _ w3;simp only[ao8] at oT
 let y5:Nat->bm:=fun c=>if c∈bb then ρ' c else ρ c
 have Jc: ∀c,c∈ci aJ++bb->y5 c=ρ' c:=fun c J=>by
  show(if c∈bb then ρ' c else ρ c)=ρ' c
  split
  .rfl
  .rename_i hn;rcases ar7.1 J with h |h
   .exact(bK.l1 c h).symm
   .exact ap0 h hn
 have rB:cv ρ' (bX C jr F' w') w' res y:=by
  have E:=Bq n;rw[ke,vj rfl] at E;have G:(a.put (some n) y).tmps.getD n undef=y:=NM (by show n < (bW++[undef]).toArray.size;simp[qy,hn]);rw[G] at E;exact vc abf E
 refine⟨y,y5,F',rfl,bK.fr,fun c J=>mu J,bX C jr F' w',?_,fun b O=>⟨O.1,?_⟩,?_,?_,?_,?_⟩
 .intro b O;have vd: ¬C.py b:=fun⟨c,ch,E,G⟩=>(bj c ch E b G).2 O
  refine⟨⟨aq8 (aZ b O) bK.fr.size,.inl O,fun c ch J pE=>?_⟩,bK.fr.block b (aZ b O) vd⟩;rcases(bK.own c ch J b pE).2 with h |h
  .exact vd h
  .have:=aZ b O;exact ap0 h.1 (Nat.not_le.2 this)
 .rcases O.2.1 with h |h |h
  .exact .inl h
  .exact .inr (.inl h)
  .exact .inr (.inr h.1)
 .intro c ch J
  have Z:c∈ci aJ++bb:=by
   have:=ar3.1 oT.2 c (f1.2 ⟨ch,J⟩);simpa only[ar5] using this
  rw[Jc c Z];exact Holds.cg (cj.refl _ _) (fun _ _=>rfl) (ao9 _) ch (fun d H=>Jc d (ba.kp (wV oT.1.2 J) H)) (bK.holds c ch (kn EJ J))
 .intro c ch J b O;have c0:=kn EJ J;exact⟨(bK.own c ch c0 b O).1,fun aG=>aG.2.2 c ch c0 O,(bK.own c ch c0 b O).2.imp id fun x=>x.1⟩
 .exact fun c ck ch ch' b E G=>bK.e0 c ck ch ch' b (kn EJ E) (kn EJ G)
 .exact cv.mono (cj.refl _ _) res y (fun c J=>Jc c (aN.kp oT.1.1 J)) rB
end
section
open Go.ChangeMaps (setBlock map_eraseIdx)
def EL:(u:bz)->aa u->dH
 | .int k,n=>.one (.d (.int k n))
 | .str,s=>.one (.d (.str s))
 |_,_=>.one .any
def BP (b:Nat) (aI aK:bz) (l:List (Nat×(aa aI×aa aK))) (bU:Nat) (I F:Nat->Prop) (w:aD8) (p:bm):Prop:=
 p.bh=b/\(∀x,F x↔x=p.bh)/\ ∃bP,w.heap[p.bh]? =some (.map (List.toArray bP) bU)/\h4 I w aI aK (l.map (·.2)) bP/\bP.map (·.born)=l.map (·.1)/\lB bP bU
def bc.xd (b:Nat) (aI aK:bz) (l:List (Nat×(aa aI×aa aK))) (bU:Nat):bc where
 bn:=BP b aI aK l bU
 cg:=fun I F w I' w' p ⟨E,G,bP,ag,aS,bG,eH⟩ U bj aO=>⟨E,G,bP,(bj _ ((G _).2 rfl)).trans ag,aS.mono U,bG,eH⟩
def Jd (b kq:Nat) (b8:aD3) (at_:Nat) (I F:Nat->Prop) (w:aD8) (p:bm):Prop:=(∀x,F x↔x=p.bh)/\w.heap[p.bh]? =some (.mapIter (some b) kq (List.toArray b8) at_)
def bc.xe (b kq:Nat) (b8:aD3) (at_:Nat):bc where
 bn:=Jd b kq b8 at_
 cg:=fun I F w I' w' p ⟨E,G⟩ U bj aO=>⟨E,(bj _ ((E _).2 rfl)).trans G⟩
section
variable {P:aD9} {ids:aD3} {K:aW} {B:av}
def abg {bP:aF0} {bU:Nat} (h:lB bP bU):(bP.map (·.born)).Pairwise (· < ·)/\ ∀x∈bP.map (·.born),x < bU:=⟨h.1,fun x hx=>by
 obtain⟨e,U,rfl⟩:=ar6.1 hx;exact h.2 e U⟩
def PT {α mj:Type}: ∀{l:List α} {m:List mj},l.length=m.length->(l.zip m).map (·.1)=l/\(l.zip m).map (·.2)=m
 | [],[],_=>⟨rfl,rfl⟩
 |a::l,b::m,h=>by
  obtain⟨E,G⟩:=PT (l:=l) (m:=m) aA6;simp[E,G]
structure PU (aI aK:bz) (es:List (aa aI×aa aK)) where
 b:Nat
 l:List (Nat×(aa aI×aa aK))
 bU:Nat
 snd:l.map (·.2)=es
 aov:(l.map (·.1)).Pairwise (· < ·)
 lt: ∀x∈l.map (·.1),x < bU
def du.abh (c:Nat) {aI aK:bz} {es:List (aa aI×aa aK)} (J:ae B c=some (.map aI aK es)):du ids K B (X:=PU aI aK es) (fun _=>K) (fun x=>(c,.aA (.xd x.b aI aK x.l x.bU))::B):=by
 rintro N C a w ⟨hn,H,ρ,F,ah,ar⟩;obtain⟨bj,bP,bU,O,aD,dh⟩:=ah.holds c _ J;have bZ:(bP.map (·.born)).length=es.length:=by rw[aq3,AU aD]
 obtain⟨kl,qv⟩:=PT bZ;obtain⟨r1,r2⟩:=abg dh
 let x:PU aI aK es:=⟨(ρ c).bh,(bP.map (·.born)).zip es,bU,qv,by rw[kl];exact r1,by rw[kl];exact r2⟩
 obtain⟨bK,a2⟩:=ah.hz (w':=w) (ch:=.aA (.xd x.b aI aK x.l x.bU)) J (cR.refl _ _) fun I aZ=>⟨rfl,bj,bP,O,by
  show h4 I w aI aK (((bP.map (·.born)).zip es).map (·.2)) bP;rw[qv];exact aD.mono aZ,kl.symm,dh⟩
 exact⟨x,hn,H,ρ,F,bK,ar.mono a2 fun _ _ _=>rfl⟩
def ac.abi (c:Nat) {b:Nat} {aI aK:bz} {l:List (Nat×(aa aI×aa aK))} {bU:Nat} (J:ae B c=some (.aA (.xd b aI aK l bU))):ac ids K B K ((c,.map aI aK (l.map (·.2)))::B):=by
 rintro N C a w ⟨hn,H,ρ,F,ah,ar⟩;obtain⟨O,bj,bP,ag,aS,bG,eH⟩:BP b aI aK l bU _ (F c) w (ρ c):=ah.holds c _ J;obtain⟨bK,a2⟩:=ah.hz (w':=w) (ch:=.map aI aK (l.map (·.2))) J (cR.refl _ _) fun I aZ=>⟨bj,bP,bU,ag,aS.mono aZ,eH⟩
 exact⟨hn,H,ρ,F,bK,ar.mono a2 fun _ _ _=>rfl⟩
def abj {o:Oper} {T kt et:aE4} {x:aE0} {c d:Nat} (ai:o.op= .range T x) (b4:P.underlying T=some (.map kt et)) (hx:a1 K x= .c (.one (.mp c))) {b:Nat} {aI aK:bz} {l:List (Nat×(aa aI×aa aK))} {bU:Nat}
  (J:ae B c=some (.aA (.xd b aI aK l bU))) (N:Nat):bC P N ids o K B (.c (.one (.ptr d 0))) ⟨[c],[d],[(d,some (.aA (.xe b bU [] bU)))]⟩:=by
 have aD:x∈o.op.operands:=aA4
 refine bC.make (fun e U=>(ap8 U).symm) fun K' B' g1 g2 C ρ F a w ah ar _=>?_
 have c0:=(g2 c az9).trans J;obtain⟨O,bj,bP,ag,aS,bG,eH⟩:BP b aI aK l bU _ (F c) w (ρ c):=ah.holds c _ c0;have af:=ar.mp ((g1 x aD).trans hx);refine⟨.pointer (some ⟨w.heap.size,0,none⟩),w.alloc (.mapIter (some (ρ c).bh) bU #[] bU),⟨w.heap.size,none,0,0⟩,fun y=>y=w.heap.size,?_,(Below.refl _ _).alloc (ao9 _) _,fun y aC=>?_,fun I a2 aZ=>⟨⟨fun y=>Iff.rfl,?_⟩,?_⟩⟩
 .simp[execOp,ai,af,run_range_map w T kt et (ρ c).bh _ bU b4 ag,Result.andThen]
 .subst aC;simp
 .rw[<-O];exact heap_alloc_new w _
 .show _=Value.pointer (some ⟨(dm ρ d _ d).bh,0,none⟩);rw[dr]
def Je {I:Nat->Prop} {w:aD8} {aI aK:bz}: ∀{l:List (aa aI×aa aK)} {es:aF0},h4 I w aI aK l es-> ∀{j:Nat} {e:MapEntry},es[j]? =some e-> ∃p,l[j]? =some p/\e.key=gI aI p.1/\jn I w aK p.2 e.val
 | [],_,h,j,e,U=>by rw[show _=[] from h] at U;simp at U
 |p::l,_,⟨ca,r,h,E,G,ag⟩,0,e,U=>by
  rw[h] at U;simp only[aq2,ap5] at U;subst U;exact⟨p,rfl,E,G⟩
 |p::l,_,⟨ca,r,h,E,G,ag⟩,j+1,e,U=>by
  rw[h] at U;simp only[ay7] at U⊢;exact Je ag U
def PV {b:Nat} {aI aK:bz} {l:List (Nat×(aa aI×aa aK))} {I:Nat->Prop} {w:aD8} {bP:aF0} (aD:h4 I w aI aK (l.map (·.2)) bP) (O:bP.map (·.born)=l.map (·.1)) {e:MapEntry} (U:e∈bP): ∃p∈l,p.1=e.born/\e.key=gI aI p.2.1/\jn I w aK p.2.2 e.val:=by
 obtain⟨j,V,rfl⟩:=aw4 U;have kk:bP[j]? =some bP[j]:=ao7 V;obtain⟨q,aY,E,G⟩:=Je aD kk;rw[ar1] at aY;obtain⟨p,ao,rfl⟩:=as4.1 aY;have BQ:(bP.map (·.born))[j]? =(l.map (·.1))[j]? :=by rw[O]
 rw[ar1,ar1,kk,ao] at BQ;exact⟨p,at9 ao,by simpa using BQ.symm,E,G⟩
def PW {aI aK:bz} {l:List (Nat×(aa aI×aa aK))} {I:Nat->Prop} {w:aD8} {bP:aF0} (aD:h4 I w aI aK (l.map (·.2)) bP) (O:bP.map (·.born)=l.map (·.1)) {p:Nat×(aa aI×aa aK)} (ao:p∈l): ∃e∈bP,e.born=p.1/\e.key=gI aI p.2.1/\jn I w aK p.2.2 e.val:=by
 obtain⟨j,V,rfl⟩:=aw4 ao;have kk:l[j]? =some l[j]:=ao7 V;have bZ:bP.length=l.length:=by have:=ap1 List.length O;simpa using this
 have U:bP[j]? =some (bP[j]'az7):=ao7 az7;obtain⟨q,aY,E,G⟩:=Je aD U;rw[ar1,kk] at aY;simp only[av4,ap5] at aY;subst aY;have BQ:(bP.map (·.born))[j]? =(l.map (·.1))[j]? :=by rw[O]
 rw[ar1,ar1,kk,U] at BQ;exact⟨_,ar4 _,by simpa using BQ,E,G⟩
def PX {ρ:Nat->bm} {I:Nat->Prop} {w:aD8}: ∀(u:bz) (x:aa u),gu ρ I w (EL u x) (gI u x)
 | .int _,_=>rfl
 | .str,_=>rfl
 | .u8,_=>trivial
 | .bool,_=>trivial
 | .aM,_=>trivial
 | .dd,_=>trivial
 | .fn,_=>trivial
 | .ce _,_=>trivial
 | .bT _ _,_=>trivial
 | .arr _ _,_=>trivial
def abk (r b kq:Nat) (b8:aD3) (aI aK:bz) (l:List (Nat×(aa aI×aa aK))) (bU c:Nat) (v:aN) (e:fb):Prop:=
 (∃p∈l,p.1∉b8/\v= .cm [.one (.d (.lit true)),EL aI p.2.1,yw aK p.2.2]/\e=⟨[c,r],[],[(r,some (.aA (.xe b kq (b8++[p.1]) bU)))]⟩)\/
 ((∀p∈l,p.1∈b8)/\v= .cm [.one (.d (.lit false))]/\e=bI)
def abl {o:Oper} {rJ:aE0} {c r:Nat} (ai:o.op= .next rJ false) (hx:a1 K rJ= .c (.one (.ptr r 0))) {b kq:Nat} {b8:aD3} {at_:Nat} {aI aK:bz} {l:List (Nat×(aa aI×aa aK))} {bU:Nat}
  (aw:ae B r=some (.aA (.xe b kq b8 at_))) (J:ae B c=some (.aA (.xd b aI aK l bU))) (mf: ∀p∈l,p.1 < kq) (abm:kq<=at_):BF P ids o K B (abk r b kq b8 aI aK l bU c):=by
 rintro N C a w ax br fF Q cT;have aow:=ax;obtain⟨hn,H,ρ,F,ah,ar⟩:=ax;obtain⟨O,bj,bP,ag,aS,bG,eH⟩:BP b aI aK l bU _ (F c) w (ρ c):=ah.holds c _ J;obtain⟨jZ,jF⟩:Jd b kq b8 at_ (bX C B F w) (F r) w (ρ r):=ah.holds r _ aw;have af:a.eval rJ= .pointer (some ⟨(ρ r).bh,0,none⟩):=ar.ev hx
 have abn: ∀x∈(List.toArray bP).toList,x.born < kq:=fun x hx=>by
  obtain⟨p,ao,h,_⟩:=PV (b:=b) aS bG (e:=x) aC7;rw[<-h];exact mf p ao
 rw[O] at ag;rcases run_next_at (P:=P) w o.type (ρ r).bh b kq at_ (List.toArray b8) (List.toArray bP) bU jF ag abn abm with⟨aO,d1⟩ |⟨e,U,cp,rK,d1⟩
 .unfold Oper.wp;have hx:(execOp a.eval o).run P w= .ok (.value (.tuple #[.bool false])) w:=by simp[execOp,ai,af,d1,Result.andThen]
  rw[hx,Oper.upon_value];refine cT (.cm [.one (.d (.lit false))]) bI _ _ (.inr ⟨fun p ao=>?_,rfl,rfl⟩) ⟨kf.trans hn,kg.trans H,ρ,F,ah,ar.kh (fun e U=>by rw[hn];exact br e U) ⟨[.bool false],rfl,_,_,rfl,rfl,rfl⟩⟩;obtain⟨e,U,E,_⟩:=PW aS bG ao;rw[<-E];have Jf:leftOf (List.toArray bP) (List.toArray b8)= #[]:=Array.eq_empty_of_size_eq_zero aO;unfold leftOf at Jf;rw[Array.filter_eq_empty_iff] at Jf;have:=Jf e (by simpa using U);simpa using this
 .obtain⟨Jg,pK⟩:=mem_left U;have Jg:e∈bP:=by simpa using Jg
  have pK:e.born∉b8:=by
   intro bf;have:(List.toArray b8).contains e.born=true:=by simpa using bf
   rw[this] at pK;cases pK
  obtain⟨p,ao,cE,cG,dG⟩:=PV (b:=b) aS bG Jg;unfold Oper.wp;have hx:(execOp a.eval o).run P w= .ok (.value (.tuple #[.bool true,e.key,e.val])) (setBlock cp (ρ r).bh (.mapIter (some b) kq ((List.toArray b8).push e.born) bU)):=by simp[execOp,ai,af,d1,Result.andThen]
  rw[hx,Oper.upon_value];have qE:(ρ r).bh < w.heap.size:=l0 jF
  have y6:cp.heap=w.heap/\cp.os=w.os/\cp.tape=w.tape/\cp.output=w.output:=by
   rcases rK with rfl |rfl <;>exact⟨rfl,rfl,rfl,rfl⟩
  have cC:cR (F r) w (setBlock cp (ρ r).bh (.mapIter (some b) kq ((List.toArray b8).push e.born) bU)):=by
   refine⟨y6.2.1,y6.2.2.1,y6.2.2.2,by simp[setBlock,y6.1],fun k Z Jh=>?_⟩;have a6:k≠(ρ r).bh:=fun h=>Jh ((jZ k).2 h)
   simp[setBlock,y6.1,av6 (au7 a6)]
  obtain⟨bK,a2⟩:=ah.hz (w':=setBlock cp (ρ r).bh (.mapIter (some b) kq ((List.toArray b8).push e.born) bU)) (ch:=.aA (.xe b kq (b8++[p.1]) bU)) aw cC fun I aZ=>⟨jZ,by
   simp[setBlock,y6.1,qE,cE]⟩
  refine cT (.cm [.one (.d (.lit true)),EL aI p.2.1,yw aK p.2.2]) ⟨[c,r],[],[(r,some (.aA (.xe b kq (b8++[p.1]) bU)))]⟩ _ _ (.inl ⟨p,ao,by rw[cE];exact pK,rfl,rfl⟩)
   ⟨kf.trans hn,kg.trans H,ρ,F,bK,(ar.mono a2 fun _ _ _=>rfl).kh (fun e U=>by rw[hn];exact br e U) ⟨[.bool true,e.key,e.val],rfl,_,_,rfl,rfl,_,_,rfl,?_,_,_,rfl,Ed (dG.mono a2),rfl⟩⟩
  rw[cG];exact PX aI _
def abo {o:Oper} {rJ:aE0} {c r:Nat} (ai:o.op= .entry rJ) (hx:a1 K rJ= .c (.one (.ptr r 0))) {b kq:Nat} {b8:aD3} {aI aK:bz} {l:List (Nat×(aa aI×aa aK))} {bU:Nat} {p:Nat×(aa aI×aa aK)}
  (aw:ae B r=some (.aA (.xe b kq (b8++[p.1]) bU))) (J:ae B c=some (.aA (.xd b aI aK l bU))) (ao:p∈l) (N:Nat):bC P N ids o K B (.cm [EL aI p.2.1,yw aK p.2.2]) ⟨[c,r],[],[]⟩:=by
 have aD:rJ∈o.op.operands:=aA4
 refine bC.val fun K' B' g1 g2 C ρ F a w ah ar=>?_
 have c0:=(g2 c az9).trans J;have Iv:=(g2 r az9).trans aw;obtain⟨O,bj,bP,ag,aS,bG,eH⟩:BP b aI aK l bU _ (F c) w (ρ c):=ah.holds c _ c0;obtain⟨jZ,jF⟩:Jd b kq (b8++[p.1]) bU (bX C B' F w) (F r) w (ρ r):=ah.holds r _ Iv;have af:a.eval rJ= .pointer (some ⟨(ρ r).bh,0,none⟩):=ar.ev ((g1 rJ aD).trans hx);obtain⟨e,U,cE,cG,dG⟩:=PW aS bG ao;rw[O] at ag
 have dx:((List.toArray bP).toList.map (·.born)).Nodup:=by
  show(bP.map (·.born)).Nodup;exact eH.1.imp fun h=>by omega
 have abp:w.heap[(ρ r).bh]? =some (.mapIter (some b) kq ((List.toArray b8).push e.born) bU):=by rw[jF,cE];simp
 have d1:=run_entry_at (P:=P) w (ρ r).bh b kq (List.toArray b8) (List.toArray bP) bU e abp ag (by simpa using U) dx;refine⟨_,by simp[execOp,ai,af,d1,Result.andThen],[e.key,e.val],rfl,_,_,rfl,?_,_,_,rfl,Ed dG,rfl⟩;rw[cG];exact PX aI _
def PY {o:Oper} {T fY ca:aE4} {x:aE0} {c:Nat} (ai:o.op= .binOp .eql T x (.const (.slice none 0 0)) fY) (hx:a1 K x= .c (.one (.own c))) {e:aE4} {u:bz} {xs:List (aa u)} (J:ae B c=some (.row e u xs)) (b4:P.underlying T=some (.slice ca)):
  BF P ids o K B (fun v Ji=> ∃b:Bool,(b=true->xs=[])/\v= .c (.one (.d (.lit b)))/\Ji=⟨[c],[],[]⟩):=by
 rintro N C a w ⟨hn,H,ρ,F,ah,ar⟩ br fF Q cT;obtain⟨bj,ix,cs,dP,ma⟩:=ah.holds c _ J;have af:a.eval x=(ρ c).fa:=ar.ev hx
 have d1:(execOp a.eval o).run P w= .ok (.value (.bool (ρ c).A.isNone)) w:=by
  simp only[execOp,ai,af,bm.fa];have al:a.eval (.const (.slice none 0 0))= .slice none 0 0:=rfl;have h:=Lib.run_eql_slice_nil (P:=P) w T ca (ρ c).A (ρ c).n (ρ c).cap 0 0 b4;simp[al,h,Result.andThen,eqGuard]
 unfold Oper.wp;rw[d1,Oper.upon_value];refine cT (.c (.one (.d (.lit (ρ c).A.isNone)))) ⟨[c],[],[]⟩ _ _ ⟨_,fun O=>?_,rfl,rfl⟩ ⟨kf.trans hn,kg.trans H,ρ,F,ah,ar.kh (fun e U=>by rw[hn];exact br e U) rfl⟩;rcases dP.2 with⟨_,h⟩ |⟨g,cap,fW,h,_⟩
 .exact at4 h
 .have E:(ρ c).A=some ⟨g,0,none⟩:=by simp only[bm.fa] at h;injection h
  rw[E] at O
  cases O
end
end
section
def g5 (x:D):bc where
 bn:=fun I F w p=>Holds (fun _=>p) I F w p (.cells [.d x])
 cg:=fun I F w I' w' p h U bj aO=>Holds.cg U bj aO (.cells [.d x]) (fun _ _=>rfl) h
def abq {c:Nat} {x:D}: ∀I F w p,j1 c [(c,.cells [.d x])] I F w p->(g5 x).bn I F w p:=by
 rintro I F w p ⟨ρ,cd,E,G,ag,aS⟩;have h:=G c _ aB7;rw[E] at h
 have lf:F=cd c:=by
  funext b
  refine propext ((aS b).trans ⟨?_,fun g=>⟨c,_,by rw[cn,vj rfl],g⟩⟩);rintro⟨d,ch,e,g⟩;rw[cn] at e
  split at e
  .rename_i al;rw[<-al] at g;exact g
  .cases e
 rw[lf];exact Holds.cg (cj.refl _ _) (fun _ _=>rfl) (ao9 _) (.cells [.d x]) (fun d H=>by cases H) h
section
variable {P:aD9} {ids:aD3} {K:aW} {B:av}
def BR {o:Oper} {T:aE4} {x:aE0} {q b:Nat} {y:D} {L:List (Nat×bc)} {d:aF3} (ai:o.op= .load T x) (b4:P.underlying T=some d) (H:d.isRow=false) (hx:a1 K x= .c (.one (.d (.aM (some b)))))
  (aY:ae B q=some (.aA (.bD L))) (cP:eN L b=some (g5 y)) (N:Nat):bC P N ids o K B (.c (.one (.d y))) ⟨[q],[],[]⟩:=by
 have aD:x∈o.op.operands:=aA4
 refine bC.val fun K' B' g1 g2 C ρ F a w ah ar=>?_
 have EM:=(g2 q az9).trans aY;have bk:fz (bX C B' F w) w L (F q):=ah.holds q _ EM;obtain⟨cF,cN,p,co,cZ,ei,eI,t1⟩:=bk.out cP;have ay:a.eval x= .pointer (some ⟨b,0,none⟩):=ar.ev ((g1 x aD).trans hx);obtain⟨E,aB,eL,G,ag⟩:=eI;obtain⟨v,r,e,aS,bG⟩:=ag;have bG:r=[]:=bG;subst bG e;rw[ei] at G;exact⟨v,D1 ai ay b4 H (od G rfl),aS⟩
def PZ {o:Oper} {T fY ca:aE4} {x:aE0} {u:bz} {xs:List (aa u)} (ai:o.op= .binOp .eql T x (.const (.slice none 0 0)) fY) (hx:a1 K x= .c (.one (.d (.cr u xs)))) (b4:P.underlying T=some (.slice ca)):
  BF P ids o K B (fun v Ji=> ∃b:Bool,(b=true->xs=[])/\v= .c (.one (.d (.lit b)))/\Ji=⟨[],[],[]⟩):=by
 rintro N C a w ⟨hn,H,ρ,F,ah,ar⟩ br fF Q cT;obtain⟨A,cap,af,G,ag,aS⟩:gA (bX C B F w) w (.cr u xs) (a.eval x):=ar.ev hx;injection af with af
 have d1:(execOp a.eval o).run P w= .ok (.value (.bool A.isNone)) w:=by
  simp only[execOp,ai,af];have al:a.eval (.const (.slice none 0 0))= .slice none 0 0:=rfl;have h:=Lib.run_eql_slice_nil (P:=P) w T ca A (List.length xs) cap 0 0 b4;simp[al,h,Result.andThen,eqGuard]
 unfold Oper.wp;rw[d1,Oper.upon_value];refine cT (.c (.one (.d (.lit A.isNone)))) ⟨[],[],[]⟩ _ _ ⟨_,fun O=>?_,rfl,rfl⟩ ⟨kf.trans hn,kg.trans H,ρ,F,ah,ar.kh (fun e U=>by rw[hn];exact br e U) rfl⟩;rcases ay1 (List.length xs) with h |h
 .exact at4 h
 .obtain⟨b,q,eR,_⟩:=aS h;rw[eR] at O
  cases O
def abr {aQ:df} (bk:d5 P aQ) {o:Oper} {T et:aE4} {te:b5} {x y aF:aE0} {u:bz} {xs:List (aa u)} {n:Int} (ai:o.op= .slice T x none (some y) (some aF)) (U:elemOf aQ T=some (et,te)) (aO:te.size=aR u)
  (hx:a1 K x= .c (.one (.d (.cr u xs)))) (aC:a1 K y= .c (.one (.d (.int .i64 n)))) (sD:a1 K aF= .c (.one (.d (.int .i64 n)))) (au:0<=n) (E:n<=List.length xs) (N:Nat):
  bC P N ids o K B (.c (.one (.d (.cr u (xs.take n.toNat))))) ⟨[],[],[]⟩:=by
 have m1:x∈o.op.operands:=aA4
 have m2:y∈o.op.operands:=aA4
 have m3:aF∈o.op.operands:=aA4
 refine bC.val fun K' B' g1 g2 C ρ F a w ah ar=>?_
 obtain⟨A,cap,bt,c3,gi,hM⟩:=ar.cr ((g1 x m1).trans hx);injection bt with bt
 have af:=ar.int ((g1 y m2).trans aC);have al:=ar.int ((g1 aF m3).trans sD);obtain⟨b4,c',ds,bv⟩:=oR bk U;have cL:(sizeOf et).run P w= .ok (aR u) w:=by simp[sizeOf,typeInfo,bv.jW,bv.size,aO]
 have q:n<=(cap:Int):=aA5
 have O:(Instr.sliceBounds true (List.length xs) cap none (some (a.eval y)) (some (a.eval aF))).run P w= .ok (0,n.toNat,n.toNat) w:=by
  simp[Instr.sliceBounds,Instr.sliceBound,asIntOf,af,al,au,q];intro br;omega
 have bZ:List.length (xs.take n.toNat)=n.toNat:=aB8
 refine⟨.slice (if n.toNat=0 then A else A.map (·.add (0*aR u))) (n.toNat - 0) (n.toNat - 0),?_,?_⟩
 .simp only[execOp,ai,as8,Instr.sliceAt,Instr.slice,run_underlying b4,ar0,bt,Option.map_none,av4,O,cL,at8]
 .refine⟨_,n.toNat,by rw[bZ];rfl,by rw[bZ];exact ao9 _,az7,fun li=>?_⟩;rw[bZ] at li;obtain⟨b,cG,rfl,aZ,H⟩:=hM az7;refine⟨b,cG,by rw[mu az7,Nat.zero_mul];rfl,aZ,fun i x oQ=>?_⟩
  have Il:fi (α:=aa u) xs i=some x:=by
   unfold fi at oQ⊢;rw[au4] at oQ
   split at oQ
   .exact oQ
   .cases oQ
  exact H i x Il
def du.box (s c q:Nat) {x:D} {L:List (Nat×bc)} (ax:dQ K s= .c (.one (.ptr c 0))) (J:ae B c=some (.cells [.d x])) (a6:c≠q) (aY:ae B q=some (.aA (.bD L))):
  du ids K B (fun b:Nat=>(s,.c (.one (.d (.aM (some b)))))::K) (fun b=>(q,.aA (.bD ((b,g5 x)::L)))::gJ ((c,.aA ((g5 x).at b))::(c,.aA (g5 x))::gJ B c) c):=by
 intro N C a w h;have E:=ac.close (ids:=ids) (K:=K) (B:=B) c [(c,.cells [.d x])] (o:=g5 x) ⟨J,trivial⟩ (by simp[ci]) abq N C a w h;obtain⟨b,G⟩:=du.name (ids:=ids) s c (o:=g5 x) ax aB7 N C a w E;refine⟨b,?_⟩
 have Jj:ae ((c,ba.aA ((g5 x).at b))::(c,.aA (g5 x))::oU (ci [(c,ba.cells [.d x])]) B) q=some (.aA (.bD L)):=by
  rw[cn,mu a6,cn,mu a6];show ae (gJ B c) q=_;rw[hg,mu a6];exact aY
 exact ac.put (ids:=ids) q c (o:=g5 x) (b:=b) (L:=L) a6 Jj aB7 N C a w G
end
def bB.nF {P:aD9} {N:Nat} {ids:aD3} {K:aW} {B:av} {c:Code} {Q:A2} (f:Nat) (fc:N<=1000000) (h:bB P N ids c ((1000000+f,.undef)::K) B Q):bB P N ids c K B Q:=by
 intro r aw C il aY a w ax;refine h r aw C il aY a w ?_;obtain⟨hn,H,ρ,F,ah,ar⟩:=ax;refine⟨hn,H,ρ,F,ah,fun s=>?_⟩;rw[ke]
 split
 .rename_i e;subst e;show a.tmps.getD (1000000+f) undef=undef;rw[av8,Array.getElem?_eq_none az7];rfl
 .exact ar s
def abs {P:aD9} {ids:aD3} {K:aW} {B:av} {o:Oper} {f:aE8} {c:Call} {xs:aF7} {aJ:av} {res:aN} {aP:av} (ai:o.op= .call c) (E:c.callee= .value (.func f)) (G:c.args.toList=xs) (hf:Fn P f (xs.map (a1 K)) aJ [] res aP) (hN:kI B aJ) (bv:l7 aJ [] aP=true) (ln: ∀c,ae aP c=ae aJ c) (N:Nat):
  bC P N ids o K B res ⟨ci aJ,[],[]⟩:=by
 obtain⟨v,e,⟨rfl,rfl⟩,aq,_⟩:cI P N ids o K B (fun v e=>v=res/\e=⟨ci aJ,[],ij aJ aP⟩):=OO ai E G ⟨aJ,[],res,aP,hf,hN,by rw[bv];rfl,by rw[ro];exact⟨rfl,rfl⟩⟩;intro K' B' g1 g2 cX C a w ax br fF Q cT;refine aq K' B' g1 g2 cX C a w ax br fF Q fun a' w' d6=>cT a' w' (d6.congr (fun _=>rfl) fun d=>?_)
 show ae B' d=ae (g0 (ij aJ aP) B') d;rw[Ef aJ aJ [] aP B' bv,ln]
 cases H:ae aJ d with
 |none=>
  simp only;rw[mu fun Z=>by obtain⟨ch,h⟩:=f1.1 Z;rw[H] at h;cases h]
 |some ch=>exact(g2 d (f1.2 ⟨ch,H⟩)).trans (kn hN H)
def bB.i' {P:aD9} {N:Nat} {ids:aD3} {K:aW} {B:av} {c:Code} {Q:A2} (d:Nat) (fc:N<=1000000) (h:bB P N ids c ((1000000+(1000000+d),.undef)::K) B Q):bB P N ids c K B Q:=bB.nF (1000000+d) fc h
def abt {P:aD9} {ids:aD3} {K:aW} {B:av} {o:Oper} {T e d:Nat} {x:aE0} {s:aD2} {c':aF2} (ai:o.op= .buildSlice T 1 #[(0,x)]) (b4:P.underlying T=some (.slice e)) (aG:P.info? e=some c') (aO:c'.zero=some (.string ⟨#[]⟩)) (ax:c'.size=1)
  (hx:a1 K x= .c (.one (.d (.str s)))) (N:Nat):bC P N ids o K B (.c (.one (.own d))) ⟨[],[d],[(d,some (.row e .str [s]))]⟩:=by
 have m1:x∈o.op.operands:=aA4
 refine bC.make (fun d h=>Bc h) fun K' B' g1 g2 C ρ F a w ah ar hn=>?_
 have af:a.eval x= .string ⟨List.toArray s⟩:=ar.ev ((g1 x m1).trans hx);refine⟨.slice (some ⟨w.heap.size,0,none⟩) 1 1,w.alloc (.cells (List.toArray [.string ⟨List.toArray s⟩]) e),⟨w.heap.size,some ⟨w.heap.size,0,none⟩,1,1⟩,fun b=>b=w.heap.size,?_,uZ w _,fun b O=>(by subst O;exact⟨ao9 _,az9⟩),fun I U O=>⟨⟨?_,?_,[.string ⟨List.toArray s⟩],?_,fun i y aC=>?_⟩,?_⟩⟩
 .have d1:=run_buildSlice (P:=P) w T e 1 (#[(0,x)].map fun p=>(p.1,a.eval p.2)) (List.toArray [.string ⟨List.toArray s⟩]) c' (.string ⟨#[]⟩) b4 aG aO (by rw[ax];decide)
   (by rw[ax];decide) (by
    rw[ax];have ev:(Value.string ⟨List.toArray s⟩).cells= #[.string ⟨List.toArray s⟩]:=rfl;simp[af,Instr.fill,ev];rw[show Array.range 1= #[0] from rfl];simp)
  unfold execOp;simp only[ai,as8,d1,ar0];rfl
 .intro b;show b=w.heap.size↔some w.heap.size=some b;rw[ap5];exact eq_comm
 .intro b O;have O:some w.heap.size=some b:=O;injection O with O
  exact O.symm
 .exact D' w e 1 1 [.string ⟨List.toArray s⟩] rfl az8
 .match i with
  |0=>
   have aC:some s=some y:=aC;injection aC with aC
   subst aC;rfl
  |i+1=>
   have aC:(none:Option aD2)=some y:=aC
   cases aC
 .simp only[cv,gu,dU,dr];rfl
end
section
abbrev c5 (n:Int):Prop:= -9223372036854775808<=n/\n<=9223372036854775807
def aE {P:Prop} (h:P:=by repeat' (first |exact trivial |exact rfl |refine⟨?_,?_⟩)):P:=h
def az {p:av->aD3->aN->av->Prop} {q:av->Prop} {r:av->aD3->av->Prop} {k:av->aD3->aN->av->Prop} {a:av} {b:aD3} {c:aN} {d:av} (s:p a b c d) (ag:k a b c d) (E:q a:=by repeat' (first |exact trivial |exact rfl |refine⟨?_,?_⟩)) (G:r a b d:=by rfl): ∃a b c d,p a b c d/\q a/\r a b d/\k a b c d:=⟨_,_,_,_,s,E,G,ag⟩
def mN {p: ∀(X:Type),av->aD3->(X->aN)->(X->av)->Prop} {q:av->Prop} {r:aD3->Prop} {s: ∀(X:Type),av->aD3->(X->av)->X->Prop} {k: ∀(X:Type),av->aD3->(X->aN)->(X->av)->X->Prop} {X:Type} {a:av} {b:aD3} {c:X->aN} {d:X->av} (h:p X a b c d) (aS: ∀g,k X a b c d g)
 (E:q a:=by repeat' (first |exact trivial |exact rfl |refine⟨?_,?_⟩)) (G:r b:=by rfl) (ag: ∀g,s X a b d g:=by exact fun _=>rfl): ∃(X:Type) (a:av) (b:aD3) (c:X->aN) (d:X->av),p X a b c d/\q a/\r b/\(∀g,s X a b d g)/\ ∀g,k X a b c d g:=⟨_,_,_,_,_,h,E,G,ag,aS⟩
def vq {P:aD9} {ids:aD3} {K:aW} {B:av} {o:Oper} {f:aE8} {c:Call} {xs:aF7} {aJ:av} {res:aN} {aP:av} {q:fb->Prop} {k:aN->fb->Prop} (ai:o.op= .call c) (E:c.callee= .value (.func f)) (G:c.args.toList=xs) (hf:Fn P f (xs.map (a1 K)) aJ [] res aP) (Z:k res ⟨ci aJ,[],[]⟩)
 (hN:kI B aJ:=by repeat' (first |exact trivial |exact rfl |refine⟨?_,?_⟩)) (bv:l7 aJ [] aP=true:=by rfl) (ln: ∀c,ae aP c=ae aJ c:=by exact fun _=>rfl) (aY:q ⟨ci aJ,[],[]⟩:=by rfl): ∃v e,(∀N,bC P N ids o K B v e)/\q e/\k v e:=⟨_,_,fun N=>abs ai E G hf hN bv ln N,aY,Z⟩
def bo {p:aN->fb->Prop} {q:fb->Prop} {k:aN->fb->Prop} {v:aN} {e:fb} (h:p v e) (G:k v e) (E:q e:=by rfl): ∃v e,p v e/\q e/\k v e:=⟨v,e,h,E,G⟩
def aU (stops:aD3) {N:Nat} {f:aE8} {fn:Func} {c:Code} {args:List aN} {aJ:av} {bb:aD3} {res:aN} {aP:av} {i6:List ResultVar} (hf:prog.funcs[f]? =some fn) (h:iI prog vh.types N (ci aJ) stops c (ol 0 args) aJ (Ek vh.types (ci aJ) bb i6 res aP))
 (O:fn.body=some c:=by exact rfl) (hn:fn.ntmps=N:=by exact rfl) (fk:Nat.ble args.length N=true:=by exact rfl) (wW:fn.results.toList=i6:=by exact rfl) (fH:iX prog f=true:=by kernel_rfl) (J:iK prog N c=true:=by kernel_rfl):Fn prog f args aJ bb res aP:=Fn.of eC stops args aJ bb res aP hf O hn fH J fk (yX eC) wW h
def hR (stops:aD3) {N:Nat} {f:aE8} {fn:Func} {c:Code} {args:List aN} {aJ:av} {bb:aD3} {X:Type} {res:X->aN} {aP:X->av} {i6:List ResultVar} (hf:prog.funcs[f]? =some fn) (h:iI prog vh.types N (ci aJ) stops c (ol 0 args) aJ (fun e K B=> ∃g,Ek vh.types (ci aJ) bb i6 (res g) (aP g) e K B))
 (O:fn.body=some c:=by exact rfl) (hn:fn.ntmps=N:=by exact rfl) (fk:Nat.ble args.length N=true:=by exact rfl) (wW:fn.results.toList=i6:=by exact rfl) (fH:iX prog f=true:=by kernel_rfl) (J:iK prog N c=true:=by kernel_rfl):cz prog f args aJ bb res aP:=cz.of eC stops args aJ bb res aP hf O hn fH J fk (yX eC) wW h
def bx (stops:aD3) {N:Nat} {ids:aD3} {K K':aW} {B B':av} {Q:nt->aW->av->Prop} {c:Code} (h:ac ids K B K' B') (cq:iI prog vh.types N ids stops c K' B' Q) (J:iK prog N c=true:=by kernel_rfl):bB prog N ids c K B Q:=bB.go eC (yX eC) stops J h cq
def ed (stops:aD3) {N:Nat} {ids:aD3} {b:Code} {X:Type} (iL:X->aW) (eT:X->av) (inv:X->Prop) (tR:X->Nat) (gC:X) {K:aW} {B:av} {Q:nt->aW->av->Prop} (au:inv gC) (hh:ac ids K B (iL gC) (eT gC))
 (h: ∀x,inv x->iI prog vh.types N ids stops b (iL x) (eT x) (fun e K B=>match e with
  | .gv=> ∃y,inv y/\tR y < tR x/\ac ids K B (iL y) (eT y)
  | .ex i=>Q (.ex i) K B
  | .ret=>Q .ret K B)) (J:iK prog N b=true:=by kernel_rfl):bB prog N ids (.loop b) K B Q:=bB.loop eC (yX eC) stops J iL eT inv tR gC au hh h
def cH {ids:aD3} {K:aW} {B:av} (K':aW) (B':av) (E:wX K K':=by repeat' (first |exact trivial |exact rfl |refine⟨?_,?_⟩)) (G:kI B B':=by repeat' (first |exact trivial |exact rfl |refine⟨?_,?_⟩)):ac ids K B K' B':=ac.sub E G
def bu {ids:aD3} {K:aW} {B:av}:ac ids K B K B:=ac.refl _ _
def rL {p:aW->av->Prop} {bn:Type} {q:aW->av->bn->Prop} {s:bn->Prop} {t:av->Prop} {u:Prop} {K:aW} {B:av} {r:bn} (E:p K B) (G:q K B r) (ag:s r) (aS:t B) (bG:u): ∃K B r,p K B/\q K B r/\s r/\t B/\u:=⟨K,B,r,E,G,ag,aS,bG⟩
def er {p:aW->av->Prop} {bn:Type} {q:aW->av->bn->Prop} {s:bn->Prop} {t:av->Prop} {u:Prop} {K:aW} {B:av} {r:bn} (E:p K B) (G:q K B r) (ag:s r) (aS:t B:=by repeat' (first |exact trivial |exact rfl |refine⟨?_,?_⟩)) (bG:u:=by exact rfl): ∃K B r,p K B/\q K B r/\s r/\t B/\u:=⟨K,B,r,E,G,ag,aS,bG⟩
def bd {p:aW->av->Prop} {bn:Type} {q:aW->av->bn->Prop} {s:bn->Prop} {t:av->Prop} {u:Prop} {K:aW} {B:av} {r:bn} (E:p K B:=by exact ac.refl _ _) (G:q K B r:=by exact rfl) (ag:s r:=by repeat' (first |exact trivial |exact rfl |refine⟨?_,?_⟩)) (aS:t B:=by repeat' (first |exact trivial |exact rfl |refine⟨?_,?_⟩)) (bG:u:=by exact rfl): ∃K B r,p K B/\q K B r/\s r/\t B/\u:=⟨K,B,r,E,G,ag,aS,bG⟩
def dR {p q A B:Prop} (k:B) (h: ¬p:=by decide):(p->A)/\(q->B):=⟨fun x=>ap0 x h,fun _=>k⟩
def gV {p q A B:Prop} (k:A) (h: ¬q:=by decide):(p->A)/\(q->B):=⟨fun _=>k,fun x=>ap0 x h⟩
end
section
def e5 {aI aK:bz} (es:List (aa aI×aa aK)):Prop:=es.Pairwise fun p q=>fD aI p.1 q.1=false
def abu (a b:Int):ym a b=true↔a=b:=decide_eq_true_iff
def abv (a b:aD2):yn a b=true↔a=b:=decide_eq_true_iff
def oW {k:IntKind} (a b:aa (.int k)):fD (.int k) a b=true↔a=b:=abu a b
def pL (a b:aa .str):fD .str a b=true↔a=b:=abv a b
section
variable {aI aK:bz} (cP: ∀a b:aa aI,fD aI a b=true↔a=b)
include cP
def qF {a b:aa aI} (h:a≠b):fD aI a b=false:=by
 cases e:fD aI a b with
 |false=>rfl
 |true=>exact ap0 ((cP a b).1 e) h
def BS (a:aa aI):fD aI a a=true:=(cP a a).2 rfl
def y7 (k:aa aI) (x:aa aK): ∀(es:List (aa aI×aa aK)),bV (dw es k x) k=some x/\ ∀j,j≠k->bV (dw es k x) j=bV es j
 | []=>by
  refine⟨?_,fun j V=>?_⟩
  .simp only[dw,bV,BS cP]
  .simp only[dw,bV,qF cP V]
 |p::es=>by
  obtain⟨E,G⟩:=y7 k x es;unfold dw
  cases e:fD aI k p.1 with
  |true=>
   have af:=(cP _ _).1 e;simp only;refine⟨by simp only[bV,BS cP],fun j V=>?_⟩;simp only[bV,qF cP V,qF cP (fun h=>V (h.trans af.symm))]
  |false=>
   simp only;refine⟨by simp only[bV,e,E],fun j V=>?_⟩;simp only[bV,G j V]
def Jk {k:aa aI}: ∀{es:List (aa aI×aa aK)},(∀p,p∈es->fD aI p.1 k=false)->bV es k=none
 | [],_=>rfl
 |p::es,h=>by
  have E:=h p (aq4 ..);have:fD aI k p.1=false:=qF cP fun e=>by rw[e,BS cP] at E;cases E
  simp only[bV,this];exact Jk fun q aY=>h q (ap4 _ aY)
def BT (k:aa aI): ∀(es:List (aa aI×aa aK)),e5 es->bV (gB es k) k=none/\ ∀j,j≠k->bV (gB es k) j=bV es j
 | [],_=>⟨rfl,fun _ _=>rfl⟩
 |p::es,hn=>by
  obtain⟨c4,ec⟩:=List.pairwise_cons.1 hn;obtain⟨E,G⟩:=BT k es ec;unfold gB
  cases e:fD aI k p.1 with
  |true=>
   have af:=(cP _ _).1 e;subst af;simp only;refine⟨Jk cP fun q aY=>?_,fun j V=>?_⟩
   .have:=c4 q aY;exact qF cP fun e=>by rw[<-e,BS cP] at this;cases this
   .simp only[bV,qF cP V]
  |false=>
   simp only;refine⟨by simp only[bV,e,E],fun j V=>?_⟩;simp only[bV,G j V]
omit cP in
def EN {k:aa aI} {x:aa aK}: ∀{es:List (aa aI×aa aK)} {q:aa aI×aa aK},q∈dw es k x->q=(k,x)\/q∈es
 | [],q,h=>by
  unfold dw at h;exact .inl (aq6.1 h)
 |p::es,q,h=>by
  unfold dw at h
  split at h
  .rcases ap7.1 h with h |h
   .exact .inl h
   .exact .inr (ap4 _ h)
  .rcases ap7.1 h with h |h
   .exact .inr (by rw[h];exact aq4 ..)
   .exact(EN h).imp id (ap4 _)
omit cP in
def xf {k:aa aI}: ∀{es:List (aa aI×aa aK)} {q:aa aI×aa aK},q∈gB es k->q∈es
 | [],q,h=>by cases h
 |p::es,q,h=>by
  unfold gB at h
  split at h
  .exact ap4 _ h
  .rcases ap7.1 h with h |h
   .rw[h];exact aq4 ..
   .exact ap4 _ (xf h)
def e5.put {k:aa aI} {x:aa aK}: ∀{es:List (aa aI×aa aK)},e5 es->e5 (dw es k x)
 | [],_=>List.pairwise_singleton _ _
 |p::es,hn=>by
  obtain⟨c4,ec⟩:=List.pairwise_cons.1 hn;unfold dw
  split
  .rename_i e;have af:=(cP _ _).1 e;refine List.pairwise_cons.2 ⟨fun q aY=>?_,ec⟩;have:=c4 q aY;simp only;rw[af];exact this
  .rename_i e;refine List.pairwise_cons.2 ⟨fun q aY=>?_,e5.put ec⟩;rcases EN aY with rfl |aY
   .simp only;exact qF cP fun h=>by rw[h,BS cP] at e;cases e
   .exact c4 q aY
omit cP in
def e5.mO {k:aa aI}: ∀{es:List (aa aI×aa aK)},e5 es->e5 (gB es k)
 | [],h=>h
 |p::es,hn=>by
  obtain⟨c4,ec⟩:=List.pairwise_cons.1 hn;unfold gB
  split
  .exact ec
  .exact List.pairwise_cons.2 ⟨fun q aY=>c4 q (xf aY),e5.mO ec⟩
def P0 {k:aa aI} {x:aa aK}: ∀{es:List (aa aI×aa aK)},bV es k=some x->(k,x)∈es
 | [],h=>by cases h
 |p::es,h=>by
  unfold bV at h
  split at h
  .rename_i e;injection h with h
   have af:=(cP _ _).1 e;subst h af;exact aq4 ..
  .exact ap4 _ (P0 h)
end
end
section
section
variable {P:aD9} {aQ:df} {N:Nat} {ids:aD3} {o:Oper} {K:aW} {B:av} {C:eZ} {ρ:Nat->bm} {F:Nat->Nat->Prop} {w w':aD8}
def Mem.split (h:Mem ids C B ρ F w) {c d:Nat} {cA iJ oc:ba} (J:ae B c=some cA) (hf:gS ids K B d=true) (pl:bm) (cF cN:Nat->Prop) (E: ∀b,cF b->F c b) (G: ∀b,cN b->F c b) (ew: ∀b,cF b-> ¬cN b)
  (abw: ∀I,cj (bX C B F w) w I w->Holds (dm ρ d pl) I cF w (ρ c) iJ) (abx: ∀I,cj (bX C B F w) w I w->Holds (dm ρ d pl) I cN w pl oc):
  Mem ids C ((d,oc)::(c,iJ)::B) (dm ρ d pl) (dm (dm F c cF) d cN) w/\cj (bX C B F w) w (bX C ((d,oc)::(c,iJ)::B) (dm (dm F c cF) d cN) w) w:=by
 obtain⟨g3,io,f3,l8⟩:=kK hf;have rM:c≠d:=fun e=>by rw[<-e,J] at io;cases io
 have rN: ∀j ch,ae ((d,oc)::(c,iJ)::B) j=some ch->(j=c\/j=d)->(j=c/\ch=iJ)\/(j=d/\ch=oc):=fun j ch V aD=>by
  rw[cn] at V
  split at V
  .rename_i e;injection V with V;exact .inr ⟨e.symm,V.symm⟩
  .rename_i e;rw[cn] at V
   split at V
   .rename_i e;injection V with V;exact .inl ⟨e.symm,V.symm⟩
   .rename_i al;rcases aD with aD |aD
    .exact ap0 aD.symm al
    .exact ap0 aD.symm e
 have EO:dm (dm F c cF) d cN c=cF:=by rw[dt _ _ rM,dr]
 have EP:dm (dm F c cF) d cN d=cN:=by rw[dr]
 refine h.step (fun j=>j=c\/j=d) (fun j=>j=d) (cR.refl _ _) (fun j ch V aD=>?_) (fun j V=>dt _ _ V) (fun j V=>?_) (fun j V e=>l8 (e▸V)) (fun j V=>.inr V) (fun j ch V _ k Z e=>?_) (fun j ch V aD a2=>?_) (fun j ch V aD b O=>?_) (fun j qB ch ch' b V kk aD gj a6 O c7=>?_)
 .rw[cn,mu (fun e=>aD (.inr e.symm)),cn,mu (fun e=>aD (.inl e.symm))] at V;exact V
 .rw[dt _ _ (fun e=>V (.inr e)),dt _ _ (fun e=>V (.inl e))]
 .subst e;rw[f3 j ch V] at Z
  cases Z
 .rcases rN j ch V aD with⟨rfl,rfl⟩ |⟨rfl,rfl⟩
  .rw[EO,dt _ _ rM];exact abw _ a2
  .rw[EP,dr];exact abx _ a2
 .have:F c b:=by
   rcases rN j ch V aD with⟨rfl,rfl⟩ |⟨rfl,rfl⟩
   .rw[EO] at O;exact E b O
   .rw[EP] at O;exact G b O
  exact⟨(h.own c _ J b this).1,.inl ⟨c,_,J,.inl rfl,this⟩⟩
 .rcases rN j ch V aD with⟨rfl,rfl⟩ |⟨rfl,rfl⟩ <;>rcases rN qB ch' kk gj with⟨rfl,rfl⟩ |⟨rfl,rfl⟩
  .exact a6 rfl
  .rw[EO] at O;rw[EP] at c7;exact ew b O c7
  .rw[EP] at O;rw[EO] at c7;exact ew b c7 O
  .exact a6 rfl
def Mem.EQ (h:Mem ids C B ρ F w) {c d:Nat} {cA iJ ch:ba} (J:ae B c=some cA) (H:ae B d=some iJ) (a6:c≠d) (cd:Nat->Prop) (lf: ∀b,cd b->F c b\/F d b) (cC:cR (fun b=>F c b\/F d b) w w')
  (c9: ∀I,cj (bX C B F w) w I w'->Holds ρ I cd w' (ρ c) ch):
  Mem ids C ((c,ch)::gJ B d) ρ (dm F c cd) w'/\cj (bX C B F w) w (bX C ((c,ch)::gJ B d) (dm F c cd) w') w':=by
 have rN: ∀j ch',ae ((c,ch)::gJ B d) j=some ch'->(j=c\/j=d)->j=c/\ch'=ch:=fun j ch' V aD=>by
  rw[cn] at V
  split at V
  .rename_i e;injection V with V;exact⟨e.symm,V.symm⟩
  .rename_i e;rcases aD with aD |aD
   .exact ap0 aD.symm e
   .rw[aD,hg,vj rfl] at V;cases V
 refine h.step (fun j=>j=c\/j=d) (fun _=>False) (cC.mono fun b _ O=>?_) (fun j ch' V aD=>?_) (fun _ _=>rfl) (fun j aD=>dt _ _ (fun e=>aD (.inl e))) (fun _ _ h=>h) (fun _ h=>h.elim) (fun _ _ _ _ _ _ h=>h) (fun j ch' V aD a2=>?_) (fun j ch' V aD b O=>?_) (fun j qB cy cu b V kk aD gj hn=>?_)
 .rcases O with O |O
  .exact⟨c,_,J,.inl rfl,O⟩
  .exact⟨d,_,H,.inr rfl,O⟩
 .rw[cn,mu (fun e=>aD (.inl e.symm)),hg,mu (fun e=>aD (.inr e.symm))] at V;exact V
 .obtain⟨rfl,rfl⟩:=rN j ch' V aD;rw[dr];exact c9 _ a2
 .obtain⟨rfl,rfl⟩:=rN j ch' V aD;rw[dr] at O;rcases lf b O with O |O
  .exact⟨aq8 (h.own j _ J b O).1 cC.size,.inl ⟨j,_,J,.inl rfl,O⟩⟩
  .exact⟨aq8 (h.own d _ H b O).1 cC.size,.inl ⟨d,_,H,.inr rfl,O⟩⟩
 .exact ap0 ((rN j cy V aD).1.trans (rN qB cu kk gj).1.symm) hn
def Mem.ER (h:Mem ids C B ρ F w) {c:Nat} {cA ch:ba} (J:ae B c=some cA) (cd:Nat->Prop) (lf: ∀b,cd b->F c b) (cC:cR (F c) w w') (c9: ∀I,cj (bX C B F w) w I w'->Holds ρ I cd w' (ρ c) ch):
  Mem ids C ((c,ch)::B) ρ (dm F c cd) w'/\cj (bX C B F w) w (bX C ((c,ch)::B) (dm F c cd) w') w':=by
 have rN: ∀j ch',ae ((c,ch)::B) j=some ch'->j=c->ch'=ch:=fun j ch' V aD=>by
  rw[cn,vj aD.symm] at V;injection V with V;exact V.symm
 refine h.step (fun j=>j=c) (fun _=>False) (cC.mono fun b _ O=>⟨c,_,J,rfl,O⟩) (fun j ch' V aD=>?_) (fun _ _=>rfl) (fun j aD=>dt _ _ aD) (fun _ _ h=>h) (fun _ h=>h.elim) (fun _ _ _ _ _ _ h=>h) (fun j ch' V aD a2=>?_) (fun j ch' V aD b O=>?_) (fun j qB cy cu b V kk aD gj hn=>ap0 (aD.trans gj.symm) hn)
 .rw[cn,mu (fun e=>aD e.symm)] at V;exact V
 .have e:=rN j ch' V aD;subst aD e;rw[dr];exact c9 _ a2
 .subst aD;rw[dr] at O;exact⟨aq8 (h.own _ _ J b (lf b O)).1 cC.size,.inl ⟨_,_,J,rfl,lf b O⟩⟩
end
abbrev k3:=Int->Option aD2
def ja (f:k3) (k:Int) (xs:aD2):k3:=fun j=>if j=k then some xs else f j
def BU (f:k3) (k:Int):k3:=fun j=>if j=k then none else f j
def Jl:k3:=fun _=>none
def sN (I F:Nat->Prop) (w:aD8) (p:bm) (xs:aD2):Prop:=Holds (fun _=>p) I F w p (.row 5 .u8 xs)
def sN.congr {I F F':Nat->Prop} {w:aD8} {p:bm} {xs:aD2} (h:sN I F w p xs) (e: ∀b,F' b↔F b):sN I F' w p xs:=
 ⟨fun b=>(e b).trans (h.1 b),h.2⟩
def aby {I F:Nat->Prop} {w:aD8} {p:bm} {xs:aD2} (h:sN I F w p xs): ∃x:aa .dd,p.fa=ql x:=by
 obtain⟨_,_,cs,⟨_,h⟩,_⟩:=h;rcases h with⟨h,_⟩ |⟨g,cap,fW,h,_⟩
 .exact⟨none,h⟩
 .exact⟨some (g,_,cap),h⟩
structure ES (ax:Int->Option bm) (f:k3) (es:List (aa aj×aa .dd)) (cd:Int->Nat->Prop) (I:Nat->Prop) (w:aD8):Prop where
 ho:e5 es
 vr: ∀k:Int,bV (aI:=aj) (aK:=.dd) es k=none->f k=none/\ax k=none/\ ∀b,¬cd k b
 xg: ∀(k:Int) h,bV (aI:=aj) (aK:=.dd) es k=some h->ax k=none-> ∃xs p,f k=some xs/\p.fa=ql h/\sN I (cd k) w p xs
 P1: ∀(k:Int) h q,bV (aI:=aj) (aK:=.dd) es k=some h->ax k=some q->q.fa=ql h/\ ∀b,¬cd k b
 e0: ∀(j k:Int) b,j≠k->cd j b-> ¬cd k b
def ES.cg {ax:Int->Option bm} {f:k3} {es:List (aa aj×aa .dd)} {cd:Int->Nat->Prop} {I I':Nat->Prop} {w w':aD8} (h:ES ax f es cd I w) (U:cj I w I' w') (bj: ∀k b,cd k b->w'.heap[b]? =w.heap[b]?) (aO:w.heap.size<=w'.heap.size):ES ax f es cd I' w':=
 ⟨h.ho,h.vr,fun k x E G=>let⟨xs,p,bR,b',a3⟩:=h.xg k x E G;⟨xs,p,bR,b',Holds.cg U (fun b O=>bj k b O) aO _ (fun _ _=>rfl) a3⟩,h.P1,h.e0⟩
def vs (ax:Int->Option bm) (f:k3) (I F:Nat->Prop) (w:aD8) (p:bm):Prop:=
 ∃es cd,ES ax f es cd I w/\(∀b,F b↔b=p.bh\/ ∃k,cd k b)/\(∀k,¬cd k p.bh)/\ ∃bP bU,w.heap[p.bh]? =some (.map (List.toArray bP) bU)/\h4 I w aj .dd es bP/\lB bP bU
def P2 (ax:Int->Option bm) (f:k3):bc where
 bn:=vs ax f
 cg:=fun I F w I' w' p ⟨es,cd,E,G,ag,bP,bU,aS,bG,eH⟩ U bj aO=>
  ⟨es,cd,E.cg U (fun k b O=>bj b ((G b).2 (.inr ⟨k,O⟩))) aO,G,ag,bP,bU,(bj _ ((G _).2 (.inl rfl))).trans aS,bG.mono U,eH⟩
def lo (f:k3):bc:=P2 (fun _=>none) f
def ET (k:Int) (q:bm):Int->Option bm:=fun j=>if j=k then some q else none
def vt (f:k3) (k:Int):bm->bc:=fun q=>P2 (ET k q) f
def vs.out {f:k3} {k:Int} {xs:aD2} {I F:Nat->Prop} {w:aD8} {p:bm} (hf:f k=some xs) (h:(lo f).bn I F w p):
  ∃(cF cN:Nat->Prop) (q:bm) (es:List (aa aj×aa .dd)) (x:aa .dd),(∀b,cF b->F b)/\(∀b,cN b->F b)/\(∀b,cF b-> ¬cN b)/\q.fa=ql x/\bV (aI:=aj) (aK:=.dd) es k=some x/\(∃bP bU,w.heap[p.bh]? =some (.map (List.toArray bP) bU)/\h4 I w aj .dd es bP)/\sN I cN w q xs/\(vt f k q).bn I cF w p:=by
 obtain⟨es,cd,E,G,ag,bP,bU,aS,bG,eH⟩:=h
 cases e:bV (aI:=aj) (aK:=.dd) es k with
 |none=>rw[(E.vr k e).1] at hf;cases hf
 |some x=>
  obtain⟨ys,q,bR,b',a3⟩:=E.xg k x e rfl;rw[hf] at bR;injection bR with bR
  subst bR;refine⟨fun b=>b=p.bh\/ ∃j,j≠k/\cd j b,cd k,q,es,x,fun b O=>(G b).2 (O.imp id fun⟨j,_,V⟩=>⟨j,V⟩),fun b O=>(G b).2 (.inr ⟨k,O⟩),fun b O Z=>?_,b',e,⟨bP,bU,aS,bG⟩,a3,?_⟩
  .rcases O with rfl |⟨j,V,O⟩
   .exact ag k Z
   .exact E.e0 j k b V O Z
  .refine⟨es,fun j b=>j≠k/\cd j b,⟨E.ho,fun j V=>?_,fun j y V bf=>?_,fun j y aox V bf=>?_,fun i j b gf a b=>E.e0 i j _ gf a.2 b.2⟩,fun b=>Iff.rfl,fun j V=>ag j V.2,bP,bU,aS,bG,eH⟩
   .obtain⟨b1,_,b3⟩:=E.vr j V;have:j≠k:=fun ca=>by rw[ca,e] at V;cases V
    exact⟨b1,mu this,fun b O=>b3 b O.2⟩
   .have a6:j≠k:=fun ca=>by rw[show ET k q j=some q from vj ca] at bf;cases bf
    obtain⟨ys,r,b1,b2,b3⟩:=E.xg j y V rfl;exact⟨ys,r,b1,b2,b3.congr fun b=>⟨fun h=>h.2,fun h=>⟨a6,h⟩⟩⟩
   .simp only[ET] at bf
    split at bf
    .rename_i ca;injection bf with bf
     subst ca bf;rw[e] at V;injection V with V
     subst V;exact⟨b',fun b O=>O.1 rfl⟩
    .cases bf
def vs.abz {f:k3} {k:Int} {xs:aD2} {I cF cN:Nat->Prop} {w:aD8} {p q:bm} (h:(vt f k q).bn I cF w p) (aw:sN I cN w q xs) (H: ∀b,cF b-> ¬cN b) (Z: ∃ys,f k=some ys):(lo (ja f k xs)).bn I (fun b=>cF b\/cN b) w p:=by
 obtain⟨es,cd,E,G,ag,bP,bU,aS,bG,eH⟩:=h;obtain⟨ys,Z⟩:=Z;have hX:ET k q k=some q:=vj rfl
 cases e:bV (aI:=aj) (aK:=.dd) es k with
 |none=>rw[(E.vr k e).1] at Z;cases Z
 |some x=>
  obtain⟨bR,b'⟩:=E.P1 k x q e hX;refine⟨es,fun j b=>if j=k then cN b else cd j b,⟨E.ho,fun j V=>?_,fun j y V _=>?_,fun _ _ _ _ bf=>(by cases bf),fun i j b gf ha O=>?_⟩,fun b=>?_,fun j V=>?_,bP,bU,aS,bG,eH⟩
  .have a6:j≠k:=fun ca=>by rw[ca,e] at V;cases V
   obtain⟨b1,_,b3⟩:=E.vr j V;exact⟨by unfold ja;rw[mu a6];exact b1,rfl,fun b O=>by rw[mu a6] at O;exact b3 b O⟩
  .by_cases a6:j=k
   .subst a6;rw[e] at V;injection V with V
    subst V;exact⟨xs,q,vj rfl,bR,aw.congr fun b=>by rw[vj rfl]⟩
   .obtain⟨BV,r,b1,b2,b3⟩:=E.xg j y V (mu a6);exact⟨BV,r,(mu a6).trans b1,b2,b3.congr fun b=>by rw[mu a6]⟩
  .by_cases aG:i=k
   .rw[vj aG] at ha;have V:j≠k:=fun ca=>gf (aG.trans ca.symm)
    rw[mu V] at O;exact H b ((G b).2 (.inr ⟨j,O⟩)) ha
   .rw[mu aG] at ha
    by_cases V:j=k
    .rw[vj V] at O;exact H b ((G b).2 (.inr ⟨i,ha⟩)) O
    .rw[mu V] at O;exact E.e0 i j b gf ha O
  .show(cF b\/cN b)↔(b=p.bh\/ ∃j,(if j=k then cN b else cd j b));rw[G];constructor
   .rintro((h |⟨j,h⟩) |h)
    .exact .inl h
    .refine .inr ⟨j,?_⟩
     by_cases V:j=k
     .subst V;exact ap0 h (b' b)
     .rw[mu V];exact h
    .exact .inr ⟨k,by rw[vj rfl];exact h⟩
   .rintro(h |⟨j,h⟩)
    .exact .inl (.inl h)
    .by_cases V:j=k
     .rw[vj V] at h;exact .inr h
     .rw[mu V] at h;exact .inl (.inr ⟨j,h⟩)
  .replace V:(if j=k then cN p.bh else cd j p.bh):=V
   by_cases kk:j=k
   .rw[vj kk] at V;exact H _ ((G _).2 (.inl rfl)) V
   .rw[mu kk] at V;exact ag j V
section
variable {P:aD9} {aQ:df} {ids:aD3} {K:aW} {B:av}
def EU {o:Oper} {T kt et:aE4} {x i:aE0} {c d:Nat} {f:k3} {k:Int} {xs:aD2} (ai:o.op= .lookup T x i false) (b4:P.underlying T=some (.map kt et)) {dk:aF3} (k4:P.underlying kt=some dk) (jJ:mG aj dk=true) {c':aF2} (aG:P.info? et=some c') (aO:c'.zero=some (.slice none 0 0))
  (hx:a1 K x= .c (.one (.mp c))) (Z:a1 K i= .c (.one (.d (.int .i64 k)))) (J:ae B c=some (.aA (lo f))) (hf:f k=some xs) (N:Nat):bC P N ids o K B (.c (.one (.own d))) ⟨[c],[d],[(c,some (.bY d (vt f k))),(d,some (.row 5 .u8 xs))]⟩:=by
 have m1:x∈o.op.operands:=aA4
 have m2:i∈o.op.operands:=aA4
 rintro K' B' g1 g2 cX C a w ⟨hn,lK,ρ,F,ah,ar⟩ br fF Q cT;have c0:=(g2 c az9).trans J;have cC:=cX d az9;obtain⟨g3,io,f3,l8⟩:=kK cC;have rM:c≠d:=fun e=>by rw[<-e,c0] at io;cases io
 obtain⟨cF,cN,q,es,y,E,G,ag,aS,bG,⟨bP,bU,eH,jF⟩,iw,u5⟩:=vs.out hf (ah.holds c _ c0);have af:=ar.mp ((g1 x m1).trans hx);have al:a.eval i=gI aj k:=ar.int ((g1 i m2).trans Z);have Jm:(zeroValue et).run P w= .ok (.slice none 0 0) w:=by simp[zeroValue,typeInfo,aG,aO]
 obtain⟨v,aw,ay⟩:=NP (P:=P) (aK:=.dd) b4 k4 jJ eH jF Jm ⟨rfl,⟨fun _=>rfl,fun h=>by cases h⟩,rfl⟩ k false
 have tS:v=ql y:=by
  have h:=OB (ρ:=ρ) rfl ay;rw[bG] at h;exact h
 have hx:(execOp a.eval o).run P w= .ok (.value v) w:=by simp only[execOp,ai,as8,af,al,aw,ar0,at8];rfl
 unfold Oper.wp;rw[hx,Oper.upon_value]
 obtain⟨bK,a2⟩:=ah.split (K:=K') (iJ:=.bY d (vt f k)) (oc:=.row 5 .u8 xs) c0 cC q cF cN E G ag
  (fun I aZ=>by
   show(vt f k (dm ρ d q d)).bn I cF w (ρ c);rw[dr];exact(vt f k q).cg _ _ _ _ _ _ u5 aZ (fun _ _=>rfl) (ao9 _))
  (fun I aZ=>Holds.cg aZ (fun _ _=>rfl) (ao9 _) _ (fun _ h=>by cases h) iw)
 refine cT _ _ ⟨kf.trans hn,kg.trans lK,_,_,bK,(ar.mono a2 fun s e U=>dt _ _ (fun ca=>by subst ca;rw[g3 s] at U;cases U)).kh (fun e U=>by rw[hn];exact br e U) ?_⟩;show v=(dm ρ d q d).fa;rw[dr,tS,aS]
def ac.EV (c d:Nat) {f pI:k3} {k:Int} {xs:aD2} (abA:ja f k xs=pI) (J:ae B c=some (.bY d (vt f k))) (H:ae B d=some (.row 5 .u8 xs)) (a6:c≠d) (Z:(f k).isSome=true):ac ids K B K ((c,.aA (lo pI))::gJ B d):=by
 subst abA;rintro N C a w ⟨hn,lK,ρ,F,ah,ar⟩;have E:(vt f k (ρ d)).bn (bX C B F w) (F c) w (ρ c):=ah.holds c _ J;have G:sN (bX C B F w) (F d) w (ρ d) xs:=ah.holds d _ H
 have Z: ∃ys,f k=some ys:=by
  cases e:f k with
  |none=>rw[e] at Z;cases Z
  |some ys=>exact⟨ys,rfl⟩
 obtain⟨bK,a2⟩:=ah.EQ (w':=w) (ch:=.aA (lo (ja f k xs))) J H a6 (fun b=>F c b\/F d b) (fun _ h=>h) (cR.refl _ _) fun I aZ=>
  (lo (ja f k xs)).cg _ _ _ _ _ _ (vs.abz E G (fun b O c7=>ah.e0 c d _ _ b J H a6 O c7) Z) aZ (fun _ _=>rfl) (ao9 _)
 exact⟨hn,lK,ρ,_,bK,ar.mono a2 fun _ _ _=>rfl⟩
def abB {o:Oper} {T kt et:aE4} {x i v:aE0} {c d:Nat} {f:k3} {k:Int} {xs:aD2} (ai:o.op= .mapUpdate T x i v) (b4:P.underlying T=some (.map kt et)) {dk:aF3} (k4:P.underlying kt=some dk) (jJ:mG aj dk=true)
  (hx:a1 K x= .c (.one (.mp c))) (Z:a1 K i= .c (.one (.d (.int .i64 k)))) (ay:a1 K v= .c (.one (.own d))) (J:ae B c=some (.aA (lo f))) (H:ae B d=some (.row 5 .u8 xs)) (a6:c≠d) (hf:f k=none) (N:Nat):
  bC P N ids o K B .undef ⟨[c,d],[],[(d,none),(c,some (.aA (lo (ja f k xs))))]⟩:=by
 have m1:x∈o.op.operands:=aA4
 have m2:i∈o.op.operands:=aA4
 have m3:v∈o.op.operands:=aA4
 rintro K' B' g1 g2 - C a w ⟨hn,lK,ρ,F,ah,ar⟩ br fF Q cT;have c0:=(g2 c az9).trans J;have c1:=(g2 d az9).trans H;obtain⟨es,cd,E,G,ag,bP,bU,aS,bG,eH⟩:(lo f).bn (bX C B' F w) (F c) w (ρ c):=ah.holds c _ c0;have fN:sN (bX C B' F w) (F d) w (ρ d) xs:=ah.holds d _ c1;obtain⟨y,aC⟩:=aby fN;have af:=ar.mp ((g1 x m1).trans hx);have al:a.eval i=gI aj k:=ar.int ((g1 i m2).trans Z);have bt:a.eval v=(ρ d).fa:=ar.ev ((g1 v m3).trans ay)
 have c3:jn (bX C B' F w) w .dd y (a.eval v):=by
  rw[bt,aC]
  have e2:(ql y).cells= #[ql y]:=by
   match y with
   |none=>rfl
   |some (_,_,_)=>rfl
  exact⟨by rw[e2];rfl,⟨fun _=>e2,fun h=>by cases h⟩,by rw[e2];rfl⟩
 obtain⟨eK,jE,aw,gj,pC⟩:=AW (P:=P) b4 k4 jJ aS bG eH k c3;have qE:=(ax2.1 aS).1;have ew: ∀y,F c y-> ¬F d y:=fun y aC d2=>ah.e0 c d _ _ y c0 c1 a6 aC d2
 have y8:bV (aI:=aj) (aK:=.dd) es k=none:=by
  cases e:bV (aI:=aj) (aK:=.dd) es k with
  |none=>rfl
  |some aF=>
   obtain⟨_,_,bR,_⟩:=E.xg k aF e rfl;rw[hf] at bR
   cases bR
 obtain⟨d0,cU⟩:=y7 (aI:=aj) (aK:=.dd) oW k y es;have ua: ∀aF,aF≠(ρ c).bh->({w with heap:=w.heap.setIfInBounds (ρ c).bh (.map (List.toArray eK) jE)}:World).heap[aF]? =w.heap[aF]? :=fun aF aO=>av6 (au7 aO)
 have BW:(execOp a.eval o).run P w= .ok .skip {w with heap:=w.heap.setIfInBounds (ρ c).bh (.map (List.toArray eK) jE)}:=by simp only[execOp,ai,as8,af,al,aw,ar0,at8]
 unfold Oper.wp;rw[BW,Oper.upon_skip]
 obtain⟨bK,a2⟩:=ah.EQ (ch:=.aA (lo (ja f k xs))) (w':={w with heap:=w.heap.setIfInBounds (ρ c).bh (.map (List.toArray eK) jE)}) c0 c1 a6 (fun b=>F c b\/F d b) (fun _ h=>h) (tL (S:=fun b=>F c b\/F d b) (.inl ((G _).2 (.inl rfl)))) fun I aZ=>by
  have jb:=E.cg aZ (fun j b O=>ua b fun e=>ag j (e▸O)) az9;have f0:sN I (F d) {w with heap:=w.heap.setIfInBounds (ρ c).bh (.map (List.toArray eK) jE)} (ρ d) xs:=Holds.cg aZ (fun b O=>ua b fun e=>ew b (e▸(G _).2 (.inl rfl)) O) az9 _ (fun _ h=>by cases h) fN;refine⟨dw (aI:=aj) (aK:=.dd) es k y,fun j b=>if j=k then F d b else cd j b,⟨e5.put oW E.ho,fun j V=>?_,fun j aF V _=>?_,fun _ _ _ _ bf=>(by cases bf),fun i j b gf ha O=>?_⟩,fun b=>?_,fun j V=>?_,eK,jE,by simp[qE],gj.mono aZ,pC⟩
  .have jc:j≠k:=fun e=>by rw[e,d0] at V;cases V
   rw[cU j jc] at V;obtain⟨b1,_,b3⟩:=jb.vr j V;exact⟨by unfold ja;rw[mu jc];exact b1,rfl,fun b O=>by rw[mu jc] at O;exact b3 b O⟩
  .by_cases jc:j=k
   .subst jc;rw[d0] at V;injection V with V
    subst V;exact⟨xs,ρ d,vj rfl,aC,f0.congr fun b=>by rw[vj rfl]⟩
   .rw[cU j jc] at V;obtain⟨BV,r,b1,b2,b3⟩:=jb.xg j aF V rfl;exact⟨BV,r,(mu jc).trans b1,b2,b3.congr fun b=>by rw[mu jc]⟩
  .by_cases aG:i=k
   .rw[vj aG] at ha;have V:j≠k:=fun ca=>gf (aG.trans ca.symm)
    rw[mu V] at O;exact ew b ((G b).2 (.inr ⟨j,O⟩)) ha
   .rw[mu aG] at ha
    by_cases V:j=k
    .rw[vj V] at O;exact ew b ((G b).2 (.inr ⟨i,ha⟩)) O
    .rw[mu V] at O;exact E.e0 i j b gf ha O
  .show(F c b\/F d b)↔(b=(ρ c).bh\/ ∃j,(if j=k then F d b else cd j b));rw[G];have abC:=(E.vr k y8).2.2;constructor
   .rintro((h |⟨j,h⟩) |h)
    .exact .inl h
    .refine .inr ⟨j,?_⟩;have V:j≠k:=fun e=>abC b (e▸h)
     rw[mu V];exact h
    .exact .inr ⟨k,by rw[vj rfl];exact h⟩
   .rintro(h |⟨j,h⟩)
    .exact .inl (.inl h)
    .by_cases V:j=k
     .rw[vj V] at h;exact .inr h
     .rw[mu V] at h;exact .inl (.inr ⟨j,h⟩)
  .replace V:(if j=k then F d (ρ c).bh else cd j (ρ c).bh):=V
   by_cases kk:j=k
   .rw[vj kk] at V;exact ew _ ((G _).2 (.inl rfl)) V
   .rw[mu kk] at V;exact ag j V
 exact cT _ _ ⟨kf.trans hn,kg.trans lK,ρ,_,bK,(ar.mono a2 fun _ _ _=>rfl).kh (fun e U=>by rw[hn];exact br e U) rfl⟩
def abD {o:Oper} {T eL kt et:aE4} {x i:aE0} {c:Nat} {f:k3} {k:Int} (ai:o.op= .call {callee:=.builtin .delete,args:= #[x,i],argTypes:= #[T,eL]}) (b4:P.underlying T=some (.map kt et)) {dk:aF3} (k4:P.underlying kt=some dk) (jJ:mG aj dk=true)
  (hx:a1 K x= .c (.one (.mp c))) (Z:a1 K i= .c (.one (.d (.int .i64 k)))) (J:ae B c=some (.aA (lo f))) (N:Nat):
  bC P N ids o K B (.cm []) ⟨[c],[],[(c,some (.aA (lo (BU f k))))]⟩:=by
 have m1:x∈o.op.operands:=aA8
 have m2:i∈o.op.operands:=aA8
 rintro K' B' g1 g2 - C a w ⟨hn,lK,ρ,F,ah,ar⟩ br fF Q cT;have c0:=(g2 c az9).trans J;obtain⟨es,cd,E,G,ag,bP,bU,aS,bG,eH⟩:(lo f).bn (bX C B' F w) (F c) w (ρ c):=ah.holds c _ c0;have af:=ar.mp ((g1 x m1).trans hx);have al:a.eval i=gI aj k:=ar.int ((g1 i m2).trans Z);obtain⟨eK,aw,gj,pC⟩:=NV (P:=P) (ty:=o.type) b4 k4 jJ aS bG eH k eL;have qE:=(ax2.1 aS).1;obtain⟨d0,cU⟩:=BT (aI:=aj) (aK:=.dd) oW k es E.ho;have ua: ∀aF,aF≠(ρ c).bh->({w with heap:=w.heap.setIfInBounds (ρ c).bh (.map (List.toArray eK) bU)}:World).heap[aF]? =w.heap[aF]? :=fun aF aO=>av6 (au7 aO)
 have BW:(execOp a.eval o).run P w= .ok (.value (.tuple #[])) {w with heap:=w.heap.setIfInBounds (ρ c).bh (.map (List.toArray eK) bU)}:=by simp[execOp,ai,resolve,invoke,builtin,af,al,aw]
 unfold Oper.wp;rw[BW,Oper.upon_value]
 obtain⟨bK,a2⟩:=ah.ER (ch:=.aA (lo (BU f k))) (w':={w with heap:=w.heap.setIfInBounds (ρ c).bh (.map (List.toArray eK) bU)}) c0 (fun b=>b=(ρ c).bh\/ ∃j,j≠k/\cd j b) (fun b O=>(G b).2 (O.imp id fun⟨j,_,h⟩=>⟨j,h⟩)) (tL (S:=F c) ((G _).2 (.inl rfl))) fun I aZ=>by
  have jb:=E.cg aZ (fun j b O=>ua b fun e=>ag j (e▸O)) az9;refine⟨gB (aI:=aj) (aK:=.dd) es k,fun j b=>j≠k/\cd j b,⟨e5.mO E.ho,fun j V=>?_,fun j aF V _=>?_,fun _ _ _ _ bf=>(by cases bf),fun i j b gf ha O=>E.e0 i j b gf ha.2 O.2⟩,fun b=>Iff.rfl,fun j V=>ag j V.2,eK,bU,by simp[qE],gj.mono aZ,pC⟩
  .by_cases jc:j=k
   .exact⟨vj jc,rfl,fun b O=>O.1 jc⟩
   .rw[cU j jc] at V;obtain⟨b1,_,b3⟩:=jb.vr j V;exact⟨(mu jc).trans b1,rfl,fun b O=>b3 b O.2⟩
  .have jc:j≠k:=fun e=>by rw[e,d0] at V;cases V
   rw[cU j jc] at V;obtain⟨BV,r,b1,b2,b3⟩:=jb.xg j aF V rfl;exact⟨BV,r,(mu jc).trans b1,b2,b3.congr fun b=>⟨fun h=>h.2,fun h=>⟨jc,h⟩⟩⟩
 exact cT _ _ ⟨kf.trans hn,kg.trans lK,ρ,_,bK,(ar.mono a2 fun _ _ _=>rfl).kh (fun e U=>by rw[hn];exact br e U) ⟨[],rfl,rfl⟩⟩
def ac.P3 (c:Nat) {aK:bz} (J:ae B c=some (.map aj aK [])):ac ids K B K ((c,.aA (lo Jl))::B):=by
 rintro N C a w ⟨hn,H,ρ,F,ah,ar⟩;obtain⟨bj,bP,bU,ag,aS,eH⟩:=ah.holds c _ J;have aS:bP=[]:=aS;subst aS;obtain⟨bK,a2⟩:=ah.hz (w':=w) (ch:=.aA (lo Jl)) J (cR.refl _ _) fun I aZ=>⟨[],fun _ _=>False,⟨.nil,fun _ _=>⟨rfl,rfl,fun _ h=>h⟩,fun _ _ h=>aA7,fun _ _ _ h=>aA7,fun _ _ _ _ h=>h.elim⟩,fun b=>by rw[bj];simp,fun _ h=>h,[],bU,ag,rfl,eH⟩
 exact⟨hn,H,ρ,F,bK,ar.mono a2 fun _ _ _=>rfl⟩
end
end
section
def bc.ch (ch:ba) (h: ∀c,ch.has c=false):bc where
 bn:=fun I F w p=>Holds (fun _=>p) I F w p ch
 cg:=fun I F w I' w' p bf U bj aO=>Holds.cg U bj aO ch (fun c J=>ap0 J (by rw[h c];decide)) bf
def bc.P4 {ch:ba} (h: ∀c,ch.has c=false) {ρ:Nat->bm} {I F:Nat->Prop} {w:aD8} {p:bm} (bf:Holds ρ I F w p ch):(bc.ch ch h).bn I F w p:=
 Holds.cg (cj.refl _ _) (fun _ _=>rfl) (ao9 _) ch (fun c J=>ap0 J (by rw[h c];decide)) bf
section
variable {P:aD9} {ids:aD3} {K:aW} {B:av}
def kr {o:Oper} {x:aE0} {b:Nat} (ai:o.op= .nilCheck x) (hx:a1 K x= .c (.one (.d (.aM (some b))))) (N:Nat):bC P N ids o K B (.c (.one (.d (.aM (some b))))) ⟨[],[],[]⟩:=by
 have aD:x∈o.op.operands:=aA4
 refine bC.val fun K' B' g1 g2 C ρ F a w ah ar=>?_
 have ay:a.eval x= .pointer (some ⟨b,0,none⟩):=ar.ev ((g1 x aD).trans hx);exact⟨.pointer (some ⟨b,0,none⟩),by simp[execOp,ai,ay],rfl⟩
def kO {o:Oper} {T:aE4} {x:aE0} {f b off:Nat} {fs:Array Field} {jG:Field} (ai:o.op= .fieldAddr T x f) (b4:P.underlying T=some (.struct fs)) (tH:fs[f]? =some jG) (rO:jG.offset=off) {i:aF2} (aG:P.info? jG.type=some i) (cL:i.size≠0) (hx:a1 K x= .c (.one (.d (.aM (some b))))) (N:Nat):
  bC P N ids o K B (.c (.one (.bH (.pointer (some ⟨b,off,none⟩))))) ⟨[],[],[]⟩:=by
 have aD:x∈o.op.operands:=aA4
 refine bC.val fun K' B' g1 g2 C ρ F a w ah ar=>?_
 have ay:a.eval x= .pointer (some ⟨b,0,none⟩):=ar.ev ((g1 x aD).trans hx);have h:=D3 ay ai b4 tH rO aG cL (w:=w);rw[at5] at h;exact⟨.pointer (some ⟨b,off,none⟩),h,rfl⟩
def abE {I:Nat->Prop} {w:aD8} {L:List (Nat×bc)} {F:Nat->Prop} {b:Nat} {l:List bw} {h: ∀c,(ba.cells l).has c=false} (bk:fz I w L F) (cP:eN L b=some (bc.ch (.cells l) h)) {j:Nat} {x:D} (V:l[j]? =some (.d x)): ∃v,w.cell? ⟨b,j,none⟩=some v/\gA I w x v:=by obtain⟨cF,cN,p,co,cZ,ei,eI,t1⟩:=bk.out cP;obtain⟨E,aB,eL,G,ag⟩:=eI;obtain⟨v,ay,H⟩:=cb.get _ _ ag j _ V;rw[ei] at G;exact⟨v,od G ay,H⟩
def ml {o:Oper} {T:aE4} {x:aE0} {q b j:Nat} {y:D} {L:List (Nat×bc)} {l:List bw} {h: ∀c,(ba.cells l).has c=false} {d:aF3} (ai:o.op= .load T x) (b4:P.underlying T=some d) (H:d.isRow=false) (hx:a1 K x= .c (.one (.bH (.pointer (some ⟨b,j,none⟩)))))
  (aY:ae B q=some (.aA (.bD L))) (cP:eN L b=some (bc.ch (.cells l) h)) (V:l[j]? =some (.d y)) (N:Nat):bC P N ids o K B (.c (.one (.d y))) ⟨[q],[],[]⟩:=by
 have aD:x∈o.op.operands:=aA4
 refine bC.val fun K' B' g1 g2 C ρ F a w ah ar=>?_
 have bk:fz (bX C B' F w) w L (F q):=ah.holds q _ ((g2 q az9).trans aY);have ay:a.eval x= .pointer (some ⟨b,j,none⟩):=ar.ev ((g1 x aD).trans hx);obtain⟨v,E,G⟩:=abE bk cP V;exact⟨v,D1 ai ay b4 H E,G⟩
def EW {o:Oper} {T:aE4} {x v:aE0} {q b j:Nat} {y:D} {L:List (Nat×bc)} {l:List bw} {h: ∀c,(ba.cells l).has c=false} {h': ∀c,(ba.cells (l.set j (.d y))).has c=false} {i:aF2} (ai:o.op= .store T x v) (aG:P.info? T=some i) (aO:i.size=1) (hx:a1 K x= .c (.one (.bH (.pointer (some ⟨b,j,none⟩)))))
  (ay:a1 K v= .c (.one (.d y))) (aY:ae B q=some (.aA (.bD L))) (cP:eN L b=some (bc.ch (.cells l) h)) (V:j < l.length) (E: ∀{I:Nat->Prop} {w:aD8} {aF:aE7},gA I w y aF->aF.cells=List.toArray [aF]/\aF.oneCell'=true) (N:Nat):
  bC P N ids o K B .undef ⟨[q],[],[(q,some (.aA (.bD (gr L b (bc.ch (.cells (l.set j (.d y))) h')))))]⟩:=by
 have m1:x∈o.op.operands:=aA4
 have m2:v∈o.op.operands:=aA4
 refine bC.hz aY fun K' B' g1 C ρ F a w ah ar EM=>?_
 have bk:fz (bX C B' F w) w L (F q):=ah.holds q _ EM;obtain⟨cF,cN,p,co,cZ,ei,eI,t1⟩:=bk.out cP;obtain⟨cy,aB,eL,cu,gl⟩:=eI;have af:a.eval x= .pointer (some ⟨b,j,none⟩):=ar.ev ((g1 x m1).trans hx);have al:gA (bX C B' F w) w y (a.eval v):=ar.ev ((g1 v m2).trans ay);obtain⟨hA,iY⟩:=E al;have bZ:aB.length=l.length:=cb.length _ _ gl;rw[ei] at cu;have d1:=A7 (P:=P) (o:=o) (ev:=a.eval) (w:=w) (us:=[a.eval v]) ai af hA aG aO cu aB1 (fun aF aO=>by rw[aq6] at aO;rw[aO];exact iY);have hj:(w.setRow b (List.toArray (aB.take j++[a.eval v]++aB.drop (j+ [a.eval v].length)))).heap[b]? =some (.cells (List.toArray (aB.take j++[a.eval v]++aB.drop (j+ [a.eval v].length))) eL (0,0)):=setRow_heap w _ _ _ eL _ cu;have jd:cF b:=(cy b).2 ei.symm;have pE:F q b:=(co b).2 (.inl jd);refine⟨_,d1,⟨rfl,rfl,rfl,by simp[World.setRow],fun k _ Z=>setRow_other w _ k _ (fun e=>Z (e▸pE))⟩,fun I a2=>?_⟩
 have dz: ∀(l:List bw) (aB:aD7) (j:Nat),j < l.length->cb (fun _=>p) (bX C B' F w) w l aB->cb (fun _=>p) (bX C B' F w) w (l.set j (.d y)) (aB.take j++[a.eval v]++aB.drop (j+1)):=fun l=>by
  induction l with
  |nil=>intro aB j V;simp at V
  |cons s l bl=>
   rintro _ j V ⟨u,r,rfl,cE,cG⟩
   match j with
   |0=>exact⟨a.eval v,r,az9,al,cG⟩
   |j+1=>exact⟨u,_,rfl,cE,bl r j aB6 cG⟩
 have EX:(fun aF=>cF aF\/cN aF)=F q:=funext fun aF=>propext (co aF).symm
 rw[<-EX]
 exact t1 I _ (bc.ch (.cells (l.set j (.d y))) h') cF p a2 (by simp[World.setRow]) (fun aF aO=>setRow_other w _ aF _ (fun e=>cZ b jd (e▸aO))) ei
  ⟨cy,_,eL,by rw[ei];exact hj,cb.mono a2 _ _ (fun _ _=>rfl) (dz l aB j V gl)⟩ cZ
def abF {o:Oper} {T kt et:aE4} {x i v:aE0} {c d q:Nat} (ai:o.op= .mapUpdate T x i v) (b4:P.underlying T=some (.map kt et)) {dk:aF3} (k4:P.underlying kt=some dk) {aI:bz} (jJ:mG aI dk=true)
  (hx:a1 K x= .c (.one (.mp c))) {key:aa aI} (Z:wG aI (a1 K i)=some key) (ay:a1 K v= .c (.one (.ptr d 0))) {es:List (aa aI×aa .aM)} {L:List (Nat×bc)} {l:List bw} {h: ∀c,(ba.cells l).has c=false} (J:ae B c=some (.map aI .aM es)) (H:ae B d=some (.cells l)) (aY:ae B q=some (.aA (.bD L)))
  (rM:c≠d) (EY:c≠q) (P5:d≠q) (ha: ∀p∈L,p.2.ot):
  BF P ids o K B (fun dp e=> ∃b:Nat,b∉L.map (·.1)/\dp= .undef/\e=⟨[c,d,q],[],[(d,none),(c,some (.map aI .aM (dw (aI:=aI) (aK:=.aM) es key (some b)))),(q,some (.aA (.bD ((b,bc.ch (.cells l) h)::L))))]⟩):=by
 rintro N C a w ⟨hn,lK,ρ,F,ah,ar⟩ br fF Q cT;obtain⟨mc,bP,bU,aS,bG,eH⟩:=ah.holds c _ J;have P6:=ah.holds d _ H;have bk:fz (bX C B F w) w L (F q):=ah.holds q _ aY;have af:=ar.mp hx;have al:a.eval i=gI aI key:=Bd Z (ar.ev rfl);have bt:a.eval v= .pointer (some ⟨(ρ d).bh,0,none⟩):=ar.ev ay
 have c3:jn (bX C B F w) w .aM (some (ρ d).bh:aa .aM) (a.eval v):=by
  rw[bt];exact⟨rfl,⟨fun _=>rfl,fun h=>by cases h⟩,rfl⟩
 obtain⟨eK,jE,aw,gj,pC⟩:=AW (P:=P) b4 k4 jJ aS bG eH key c3;have qE:=(ax2.1 aS).1;have abG:F d (ρ d).bh:=(P6.1 _).2 rfl;have EZ:(ρ d).bh∉L.map (·.1):=fun O=>ah.e0 d q _ _ _ H aY P5 abG (Ja ha bk O)
 have ua: ∀y,y≠(ρ c).bh->({w with heap:=w.heap.setIfInBounds (ρ c).bh (.map (List.toArray eK) jE)}:World).heap[y]? =w.heap[y]? :=fun y aC=>av6 (au7 aC)
 have y9:F c (ρ c).bh:=(mc _).2 rfl;have wP: ∀y,F d y->y≠(ρ c).bh:=fun y aC e=>ah.e0 d c _ _ y H J (au7 rM) aC (e▸y9)
 have abH: ∀y,F q y->y≠(ρ c).bh:=fun y aC e=>ah.e0 q c _ _ y aY J (au7 EY) aC (e▸y9)
 have BW:(execOp a.eval o).run P w= .ok .skip {w with heap:=w.heap.setIfInBounds (ρ c).bh (.map (List.toArray eK) jE)}:=by simp only[execOp,ai,as8,af,al,aw,ar0,at8]
 unfold Oper.wp;rw[BW,Oper.upon_skip]
 have t8: ∀j ch,ae ((q,ba.aA (.bD (((ρ d).bh,bc.ch (.cells l) h)::L)))::(c,.map aI .aM (dw (aI:=aI) (aK:=.aM) es key (some (ρ d).bh)))::gJ B d) j=some ch->(j=c\/j=d\/j=q)->(j=q/\ch= .aA (.bD (((ρ d).bh,bc.ch (.cells l) h)::L)))\/(j=c/\ch= .map aI .aM (dw (aI:=aI) (aK:=.aM) es key (some (ρ d).bh))):=fun j ch V aD=>by
  rw[cn] at V
  split at V
  .rename_i e;injection V with V;exact .inl ⟨e.symm,V.symm⟩
  .rename_i e;rw[cn] at V
   split at V
   .rename_i al;injection V with V;exact .inr ⟨al.symm,V.symm⟩
   .rename_i al;rcases aD with aD |aD |aD
    .exact ap0 aD.symm al
    .rw[aD,hg,vj rfl] at V;cases V
    .exact ap0 aD.symm e
 have E0:dm F q (fun y=>F d y\/F q y) c=F c:=dt _ _ EY
 obtain⟨bK,a2⟩:=ah.step (B':=(q,.aA (.bD (((ρ d).bh,bc.ch (.cells l) h)::L)))::(c,.map aI .aM (dw (aI:=aI) (aK:=.aM) es key (some (ρ d).bh)))::gJ B d) (ρ':=ρ) (F':=dm F q (fun y=>F d y\/F q y)) (w':={w with heap:=w.heap.setIfInBounds (ρ c).bh (.map (List.toArray eK) jE)}) (fun j=>j=c\/j=d\/j=q) (fun _=>False)
  ((tL (S:=F c) y9).mono fun y _ aC=>⟨c,_,J,.inl rfl,aC⟩)
  (fun j ch V aD=>by
   rw[cn,mu (fun e=>aD (.inr (.inr e.symm))),cn,mu (fun e=>aD (.inl e.symm)),hg,mu (fun e=>aD (.inr (.inl e.symm)))] at V;exact V)
  (fun _ _=>rfl) (fun j aD=>dt _ _ (fun e=>aD (.inr (.inr e)))) (fun _ _ h=>h) (fun _ h=>h.elim) (fun _ _ _ _ _ _ h=>h)
  (fun j ch V aD a2=>by
   rcases t8 j ch V aD with⟨rfl,rfl⟩ |⟨rfl,rfl⟩
   .rw[dr];exact⟨F d,F j,ρ d,fun _=>Iff.rfl,fun y aC d2=>ah.e0 d j _ _ y H aY P5 aC d2,rfl,(bc.ch (.cells l) h).cg _ _ _ _ _ _ (bc.P4 h P6) a2 (fun y aC=>ua y (wP y aC)) az9,bk.cg a2 az9 fun y aC=>ua y (abH y aC)⟩
   .rw[E0];exact⟨mc,eK,jE,by simp[qE],gj.mono a2,pC⟩)
  (fun j ch V aD y aC=>by
   rcases t8 j ch V aD with⟨rfl,rfl⟩ |⟨rfl,rfl⟩
   .rw[dr] at aC;rcases aC with aC |aC
    .exact⟨by simpa using(ah.own d _ H y aC).1,.inl ⟨d,_,H,.inr (.inl rfl),aC⟩⟩
    .exact⟨by simpa using(ah.own j _ aY y aC).1,.inl ⟨j,_,aY,.inr (.inr rfl),aC⟩⟩
   .rw[E0] at aC;exact⟨by simpa using(ah.own j _ J y aC).1,.inl ⟨j,_,J,.inl rfl,aC⟩⟩)
  (fun j qB ch ch' y V kk aD gj a6 aC d2=>by
   rcases t8 j ch V aD with⟨rfl,rfl⟩ |⟨rfl,rfl⟩ <;>rcases t8 qB ch' kk gj with⟨rfl,rfl⟩ |⟨rfl,rfl⟩
   .exact a6 rfl
   .rw[dr] at aC;rw[E0] at d2;rcases aC with aC |aC
    .exact ah.e0 d qB _ _ y H J (au7 rM) aC d2
    .exact ah.e0 j qB _ _ y aY J (au7 EY) aC d2
   .rw[dr] at d2;rw[E0] at aC;rcases d2 with d2 |d2
    .exact ah.e0 d j _ _ y H J (au7 rM) d2 aC
    .exact ah.e0 qB j _ _ y aY J (au7 EY) d2 aC
   .exact a6 rfl)
 exact cT _ _ _ _ ⟨_,EZ,rfl,rfl⟩ ⟨kf.trans hn,kg.trans lK,ρ,_,bK,(ar.mono a2 fun _ _ _=>rfl).kh (fun e U=>by rw[hn];exact br e U) rfl⟩
end
end
section
def eO (b:Nat) (q:bm):bc where
 bn:=fun I F w p=>q.bh=b/\ ∀x,¬F x
 cg:=fun _ _ _ _ _ _ h _ _ _=>h
def jK (ch:ba):Prop:= ∀(ρ ρ':Nat->bm) (I F:Nat->Prop) (w:aD8) (p jY:bm),(∀c,ch.has c=true->(ρ' c).bh=(ρ c).bh)->jY.bh=p.bh->Holds ρ I F w p ch->Holds ρ' I F w jY ch
def Jn:bw->Bool
 | .own _=>false
 | .os _ _ _ _=>false
 |_=>true
def hK.bh {ρ ρ':Nat->bm} {I:Nat->Prop} {w:aD8}: ∀(l:List kc) (aB:aD7),(∀c,lC c l=true->(ρ' c).bh=(ρ c).bh)->hK ρ I w l aB->hK ρ' I w l aB
 | [],_,_,h=>h
 | .p b o::l,_,de,⟨v,r,e,E,G⟩=>⟨v,r,e,(by have e:=de b (by simp[lC]);simp only[ww] at*;rw[e];exact E),hK.bh l r (fun c J=>de c (by simp[lC,J])) G⟩
 | .d x::l,_,de,⟨v,r,e,E,G⟩=>⟨v,r,e,E,hK.bh l r (fun c J=>de c (by simpa[lC] using J)) G⟩
def dU.bh {ρ ρ':Nat->bm} {I:Nat->Prop} {w:aD8} (s:bw) (v:aE7) (O:Jn s=true) (de: ∀c,s.has c=true->(ρ' c).bh=(ρ c).bh) (h:dU ρ I w s v):dU ρ' I w s v:=by
 cases s with
 |ptr c off=>
  have e:=de c aC1;simp only[dU] at*;rw[e];exact h
 |fX c s i off=>
  have e:=de c aC1;simp only[dU] at*;rw[e];exact h
 |mp c=>
  have e:=de c aC1;simp only[dU] at*;rw[e];exact h
 |cW f l=>obtain⟨aB,e,h⟩:=h;exact⟨aB,e,hK.bh l aB de h⟩
 |own c=>cases O
 |os c s off n=>cases O
 |d x=>exact h
 |el u x off=>exact h
 |dc=>exact h
 |bH u=>exact h
 |any=>trivial
def cb.bh {ρ ρ':Nat->bm} {I:Nat->Prop} {w:aD8}: ∀(l:List bw) (aB:aD7),l.all Jn=true->(∀c,l3 c l=true->(ρ' c).bh=(ρ c).bh)->cb ρ I w l aB->cb ρ' I w l aB
 | [],_,_,_,h=>h
 |s::l,_,O,de,⟨v,r,e,E,G⟩=>by
  rw[List.all_cons,ao8] at O;exact⟨v,r,e,dU.bh s v O.1 (fun c J=>de c (by simp[l3,J])) E,cb.bh l r O.2 (fun c J=>de c (by simp[l3,J])) G⟩
def jK.cells {l:List bw} (O:l.all Jn=true):jK (.cells l):=by rintro ρ ρ' I F w p jY de ao ⟨E,aB,T,G,ag⟩;exact⟨fun b=>by rw[ao];exact E b,aB,T,by rw[ao];exact G,cb.bh l aB O de ag⟩
def jK.map {aI aK:bz} {es:List (aa aI×aa aK)}:jK (.map aI aK es):=by rintro ρ ρ' I F w p jY de ao ⟨E,bP,bU,G,ag,aS⟩;exact⟨fun b=>by rw[ao];exact E b,bP,bU,by rw[ao];exact G,ag,aS⟩
def jK.bD {L:List (Nat×bc)}:jK (.aA (.bD L)):=fun _ _ _ _ _ _ _ _ _ h=>h
def jK.iz {c:Nat} {bp:av} (h: ∀d ch,ae bp d=some ch->jK ch):jK (.aA (.iz c bp)):=by
 rintro l4 rI I F w p jY _ ao ⟨ρ,cd,E,G,ag,aS⟩
 have O: ∀d,(dm ρ c jY d).bh=(ρ d).bh:=fun d=>by
  by_cases e:d=c
  .subst e;rw[dr,ao,E]
  .rw[dt _ _ e]
 exact⟨dm ρ c jY,cd,dr ..,fun d ch H=>h d ch H ρ (dm ρ c jY) _ _ _ (ρ d) (dm ρ c jY d) (fun e _=>O e) (O d) (G d ch H),ag,aS⟩
def E1:av->Prop
 | []=>True
 |(_,ch)::bp=>jK ch/\E1 bp
def BX: ∀{bp:av},E1 bp-> ∀d ch,ae bp d=some ch->jK ch
 | [],_,d,ch,H=>by cases H
 |(e,x)::bp,h,d,ch,H=>by
  rw[cn] at H
  split at H
  .injection H with H;subst H;exact h.1
  .exact BX h.2 d ch H
def E2 (bp:av) (bs:Nat->Nat) (I F:Nat->Prop) (w:aD8):Prop:=
 ∃(ρ:Nat->bm) (cd:Nat->Nat->Prop),(∀d ch,ae bp d=some ch->(ρ d).bh=bs d)/\(∀d ch,ae bp d=some ch->Holds ρ I (cd d) w (ρ d) ch)/\
  (∀d cY ch ch' b,ae bp d=some ch->ae bp cY=some ch'->d≠cY->cd d b-> ¬cd cY b)/\ ∀b,F b↔ ∃d ch,ae bp d=some ch/\cd d b
def bc.mP (bp:av) (bs:Nat->Nat):bc where
 bn:=fun I F w _=>E2 bp bs I F w
 cg:=fun I F w I' w' p ⟨ρ,cd,au,G,ag,aS⟩ U bj aO=>⟨ρ,cd,au,fun d ch H=>Holds.cg U (fun b O=>bj b ((aS b).2 ⟨d,ch,H,O⟩)) aO ch (fun _ _=>rfl) (G d ch H),ag,aS⟩
section
variable {ids:aD3} {K:aW} {B:av}
def du.mark (d m:Nat) (aD:gS ids K B m=true) (a6:d≠m):du ids K B (fun _:Nat=>K) (fun b=>(m,.bY d (eO b))::B):=by
 rintro N C a w ⟨hn,H,ρ,F,ah,ar⟩;have cC:=kK aD
 obtain⟨bK,a2⟩:=ah.make (ch:=.bY d (eO (ρ d).bh)) (w':=w) aD (Below.refl _ _) ⟨0,none,0,0⟩ (fun _=>False) (fun _ h=>h.elim) (fun I _ _=>by
  show(eO (ρ d).bh (dm ρ m _ d)).bn I _ w _;rw[dt _ _ a6];exact⟨rfl,fun _ h=>h⟩)
 exact⟨(ρ d).bh,hn,H,_,_,bK,ar.mono a2 fun s c J=>dt _ _ (fun e=>by subst e;rw[cC.1 s] at J;cases J)⟩
def ac.place (d m b:Nat) (H:gS ids K B d=true) (aD:gS ids K B m=true) (a6:d≠m):ac ids K B K ((m,.bY d (eO b))::B):=by
 rintro N C a w ⟨hn,lK,ρ,F,ah,ar⟩;have g3:=kK H;have io:=kK aD
 obtain⟨bK,a2⟩:=ah.step (B':=(m,.bY d (eO b))::B) (ρ':=dm ρ d ⟨b,none,0,0⟩) (F':=dm F m fun _=>False) (w':=w) (fun c=>c=m\/c=d) (fun c=>c=d) (cR.refl _ _)
  (fun c ch J aD=>by
   rw[cn,mu (fun e=>aD (.inl e.symm))] at J;exact J)
  (fun c J=>dt _ _ J) (fun c J=>dt _ _ (fun e=>J (.inl e))) (fun c J e=>g3.2.2.2 (e▸J)) (fun c J=>.inr J)
  (fun c ch J _ j V e=>by subst e;rw[g3.2.2.1 c ch J] at V;cases V)
  (fun c ch J aD a2=>by
   rw[cn] at J
   split at J
   .rename_i e;subst e;injection J with J
    subst J;rw[dr];show(eO b (dm ρ d _ d)).bn _ _ w _;rw[dr];exact⟨rfl,fun _ h=>h⟩
   .rename_i e;rcases aD with aD |aD
    .exact ap0 aD.symm e
    .rw[aD,g3.2.1] at J;cases J)
  (fun c ch J aD x hx=>by
   rw[cn] at J
   split at J
   .rename_i e;subst e;rw[dr] at hx;exact hx.elim
   .rename_i e;rcases aD with aD |aD
    .exact ap0 aD.symm e
    .rw[aD,g3.2.1] at J;cases J)
  (fun c ck ch ch' x J c0 aD gj I9 hx=>by
   have key: ∀c ch,ae ((m,ba.bY d (eO b))::B) c=some ch->(c=m\/c=d)->c=m:=fun c ch J aD=>by
    rcases aD with aD |aD
    .exact aD
    .rw[cn,mu (fun e=>a6 (aD.symm.trans e.symm)),aD,g3.2.1] at J
     cases J
   exact ap0 ((key c ch J aD).trans (key ck ch' c0 gj).symm) I9)
 exact⟨hn,lK,_,_,bK,ar.mono a2 fun s c J=>dt _ _ (fun e=>by subst e;rw[g3.1 s] at J;cases J)⟩
def E3 (B:av) (iM bs:Nat->Nat):av->Prop
 | []=>True
 |(d,_)::bp=>ae B (iM d)=some (.bY d (eO (bs d)))/\E3 B iM bs bp
def Jo {iM bs:Nat->Nat}: ∀{bp:av},E3 B iM bs bp-> ∀{d ch},ae bp d=some ch->ae B (iM d)=some (.bY d (eO (bs d)))
 | [],_,d,ch,H=>by cases H
 |(e,x)::bp,h,d,ch,H=>by
  rw[cn] at H
  split at H
  .rename_i e;subst e;exact h.1
  .exact Jo h.2 H
def ac.Jp (g:Nat) (bp:av) (iM bs:Nat->Nat) (dh:kI B bp) (aD:E3 B iM bs bp) (aV:ae B g=none):ac ids K B K ((g,.aA (.mP bp bs))::oU (ci bp) B):=by
 rintro N C a w ⟨hn,H,ρ,F,ah,ar⟩;have ak: ∀{d ch},ae bp d=some ch->ae B d=some ch:=fun {d ch} h=>kn dh h
 have Jq:g∉ci bp:=fun h=>by obtain⟨ch,h⟩:=f1.1 h;rw[ak h] at aV;cases aV
 have key: ∀d ch,ae ((g,ba.aA (.mP bp bs))::oU (ci bp) B) d=some ch->(d=g\/d∈ci bp)->d=g/\ch= .aA (.mP bp bs):=fun d ch H aD=>by
  rw[cn] at H
  split at H
  .rename_i e;injection H with H;exact⟨e.symm,H.symm⟩
  .rename_i e;rcases aD with aD |aD
   .exact ap0 aD.symm e
   .rw[xa,vj aD] at H;cases H
 obtain⟨bK,a2⟩:=ah.step (B':=(g,.aA (.mP bp bs))::oU (ci bp) B) (ρ':=ρ) (F':=dm F g (fun x=> ∃d ch,ae bp d=some ch/\F d x)) (w':=w) (fun d=>d=g\/d∈ci bp) (fun _=>False) (cR.refl _ _)
  (fun d ch H aD=>by
   rw[cn,mu (fun e=>aD (.inl e.symm)),xa,mu (fun h=>aD (.inr h))] at H;exact H)
  (fun _ _=>rfl) (fun d aD=>dt _ _ (fun e=>aD (.inl e))) (fun _ _ h=>h) (fun _ h=>h.elim) (fun _ _ _ _ _ _ h=>h)
  (fun d ch H gj a2=>by
   obtain⟨rfl,rfl⟩:=key d ch H gj;rw[dr];refine⟨ρ,F,fun d ch h=>?_,fun d ch h=>Holds.cg a2 (fun _ _=>rfl) (ao9 _) ch (fun _ _=>rfl) (ah.holds d ch (ak h)),fun d cY ch ch' b h h' a6=>ah.e0 d cY ch ch' b (ak h) (ak h') a6,fun b=>Iff.rfl⟩;exact(ah.holds _ _ (Jo aD h)).1)
  (fun d ch H gj x hx=>by
   obtain⟨rfl,rfl⟩:=key d ch H gj;rw[dr] at hx;obtain⟨cY,ch',E,G⟩:=hx;exact⟨(ah.own cY ch' (ak E) x G).1,.inl ⟨cY,ch',ak E,.inr (f1.2 ⟨ch',E⟩),G⟩⟩)
  (fun d cY ch ch' x H c1 abI Jr a6=>ap0 ((key d ch H abI).1.trans (key cY ch' c1 Jr).1.symm) a6)
 exact⟨hn,H,ρ,_,bK,ar.mono a2 fun _ _ _=>rfl⟩
def ac.Js (g:Nat) (bp:av) (iM bs:Nat->Nat) (aV:ae B g=some (.aA (.mP bp bs))) (aD:E3 B iM bs bp) (Z:((ci bp).all fun d=>(ae B d).isNone)=true) (ha:vb (ci bp) bp=true) (tQ: ∀d ch,ae bp d=some ch->jK ch):ac ids K B K (bp++gJ B g):=by
 rintro N C a w ⟨hn,H,ρ,F,ah,ar⟩;obtain⟨za,cd,E,G,ag,aS⟩:E2 bp bs (bX C B F w) (F g) w:=ah.holds g _ aV
 have y8: ∀{d ch},ae bp d=some ch->ae B d=none:=fun {d ch} h=>by
  have:=ar3.1 Z d (f1.2 ⟨ch,h⟩);simpa using this
 have Jq:ae bp g=none:=by
  cases e:ae bp g with
  |none=>rfl
  |some ch=>rw[y8 e] at aV;cases aV
 have jH: ∀{d ch},ae bp d=some ch->(ρ d).bh=(za d).bh:=fun {d ch} h=>((ah.holds _ _ (Jo aD h)).1:(ρ d).bh=bs d).trans (E d ch h).symm
 have lI: ∀d ch,ae (bp++gJ B g) d=some ch->ae bp d=some ch\/(ae bp d=none/\d≠g/\ae B d=some ch):=fun d ch h=>by
  rw[hQ] at h
  cases e:ae bp d with
  |some x=>rw[e] at h;exact .inl h
  |none=>
   rw[e,hg] at h;simp only at h
   split at h
   .cases h
   .rename_i a6;exact .inr ⟨rfl,fun e=>a6 e.symm,h⟩
 let cN:Nat->Nat->Prop:=fun d=>if(ae bp d).isSome=true then cd d else F d
 have af: ∀{d ch},ae bp d=some ch->cN d=cd d:=fun {d ch} h=>vj (by rw[h];rfl)
 have al: ∀{d},ae bp d=none->cN d=F d:=fun {d} h=>mu (by rw[h];decide)
 obtain⟨bK,a2⟩:=ah.step (B':=bp++gJ B g) (ρ':=ρ) (F':=cN) (w':=w) (fun d=>d=g\/(ae bp d).isSome=true) (fun _=>False) (cR.refl _ _)
  (fun d ch H aD=>by
   rcases lI d ch H with h |⟨_,_,h⟩
   .exact ap0 (.inr (by rw[h];rfl)) aD
   .exact h)
  (fun _ _=>rfl) (fun d aD=>al (by cases e:ae bp d with
   |none=>rfl
   |some x=>exact ap0 (.inr (by rw[e];rfl)) aD)) (fun _ _ h=>h) (fun _ h=>h.elim) (fun _ _ _ _ _ _ h=>h)
  (fun d ch H aD a2=>by
   rcases lI d ch H with h |⟨h,a6,h'⟩
   .rw[af h];refine tQ d ch h za ρ _ _ w (za d) (ρ d) (fun c J=>?_) (jH h) (Holds.cg a2 (fun _ _=>rfl) (ao9 _) ch (fun _ _=>rfl) (G d ch h));have:=ba.kp (wV ha h) J;obtain⟨ch',h'⟩:=f1.1 this;exact jH h'
   .rcases aD with aD |aD
    .exact ap0 aD a6
    .rw[h] at aD;cases aD)
  (fun d ch H aD x hx=>by
   rcases lI d ch H with h |⟨h,a6,h'⟩
   .rw[af h] at hx;have:F g x:=(aS x).2 ⟨d,ch,h,hx⟩;exact⟨(ah.own g _ aV x this).1,.inl ⟨g,_,aV,.inl rfl,this⟩⟩
   .rcases aD with aD |aD
    .exact ap0 aD a6
    .rw[h] at aD;cases aD)
  (fun d cY ch ch' x H c1 aD gj a6 hx dF=>by
   rcases lI d ch H with h |⟨h,hn,_⟩
   .rcases lI cY ch' c1 with h' |⟨h',ub,_⟩
    .rw[af h] at hx;rw[af h'] at dF;exact ag d cY ch ch' x h h' a6 hx dF
    .rcases gj with gj |gj
     .exact ap0 gj ub
     .rw[h'] at gj;cases gj
   .rcases aD with aD |aD
    .exact ap0 aD hn
    .rw[h] at aD;cases aD)
 exact⟨hn,H,ρ,_,bK,ar.mono a2 fun _ _ _=>rfl⟩
def bc.oX (am:Nat) (o:bc) (q:bm):bc where
 bn:=fun I F w p=>q.bh=am/\o.bn I F w p
 cg:=fun I F w I' w' p h U bj aO=>⟨h.1,o.cg I F w I' w' p h.2 U bj aO⟩
def ac.oX (g c am:Nat) {o rP:bc} (aV:ae B g=some (.aA o)) (J:ae B c=some (.aA (rP.at am))) (a6:g≠c):ac ids K B K ((c,.aA rP)::(g,.bY c (.oX am o))::B):=by
 rintro N C a w ⟨hn,H,ρ,F,ah,ar⟩;have aG:(ρ c).bh=am:=(ah.holds c _ J).1;obtain⟨ko,mQ⟩:=ah.hz (w':=w) (ch:=.bY c (.oX am o)) aV (cR.refl _ _) fun I aZ=>⟨aG,o.cg _ _ _ _ _ _ (ah.holds g _ aV) aZ (fun _ _=>rfl) (ao9 _)⟩
 have e2:ae ((g,ba.bY c (.oX am o))::B) c=some (.aA (rP.at am)):=by rw[cn,mu a6];exact J
 obtain⟨i5,wZ⟩:=ko.hz (w':=w) (ch:=.aA rP) e2 (cR.refl _ _) fun I aZ=>rP.cg _ _ _ _ _ _ (ko.holds c _ e2).2 aZ (fun _ _=>rfl) (ao9 _)
 exact⟨hn,H,ρ,F,i5,ar.mono (mQ.trans wZ) fun _ _ _=>rfl⟩
def ac.abJ (g c am:Nat) {o rP:bc} (aV:ae B g=some (.bY c (.oX am o))) (J:ae B c=some (.aA rP)) (a6:g≠c):ac ids K B K ((c,.aA (rP.at am))::(g,.aA o)::B):=by
 rintro N C a w ⟨hn,H,ρ,F,ah,ar⟩;have bf:(bc.oX am o (ρ c)).bn (bX C B F w) (F g) w (ρ g):=ah.holds g _ aV;obtain⟨ko,mQ⟩:=ah.hz (w':=w) (ch:=.aA o) aV (cR.refl _ _) fun I aZ=>o.cg _ _ _ _ _ _ bf.2 aZ (fun _ _=>rfl) (ao9 _)
 have e2:ae ((g,ba.aA o)::B) c=some (.aA rP):=by rw[cn,mu a6];exact J
 obtain⟨i5,wZ⟩:=ko.hz (w':=w) (ch:=.aA (rP.at am)) e2 (cR.refl _ _) fun I aZ=>⟨bf.1,rP.cg _ _ _ _ _ _ (ko.holds c _ e2) aZ (fun _ _=>rfl) (ao9 _)⟩
 exact⟨hn,H,ρ,F,i5,ar.mono (mQ.trans wZ) fun _ _ _=>rfl⟩
def ac.abK (g c m am:Nat) {o:bc} (aV:ae B g=some (.bY c (.oX am o))) (aD:gS ids K B m=true) (a6:c≠m):ac ids K B K ((m,.bY c (eO am))::B):=by
 rintro N C a w ⟨hn,H,ρ,F,ah,ar⟩;have cC:=kK aD;have bf:(bc.oX am o (ρ c)).bn (bX C B F w) (F g) w (ρ g):=ah.holds g _ aV
 obtain⟨bK,a2⟩:=ah.make (ch:=.bY c (eO am)) (w':=w) aD (Below.refl _ _) ⟨0,none,0,0⟩ (fun _=>False) (fun _ h=>h.elim) (fun I _ _=>by
  show(eO am (dm ρ m _ c)).bn I _ w _;rw[dt _ _ a6];exact⟨bf.1,fun _ h=>h⟩)
 exact⟨hn,H,_,_,bK,ar.mono a2 fun s c J=>dt _ _ (fun e=>by subst e;rw[cC.1 s] at J;cases J)⟩
def ac.je (g c am:Nat) {o:bc} (aV:ae B g=some (.bY c (.oX am o))):ac ids K B K ((g,.aA o)::B):=by
 rintro N C a w ⟨hn,H,ρ,F,ah,ar⟩;have bf:(bc.oX am o (ρ c)).bn (bX C B F w) (F g) w (ρ g):=ah.holds g _ aV;obtain⟨ko,mQ⟩:=ah.hz (w':=w) (ch:=.aA o) aV (cR.refl _ _) fun I aZ=>o.cg _ _ _ _ _ _ bf.2 aZ (fun _ _=>rfl) (ao9 _)
 exact⟨hn,H,ρ,F,ko,ar.mono mQ fun _ _ _=>rfl⟩
def ac.abL (g c m am:Nat) {o:bc} (aV:ae B g=some (.aA o)) (aD:ae B m=some (.bY c (eO am))):ac ids K B K ((g,.bY c (.oX am o))::B):=by
 rintro N C a w ⟨hn,H,ρ,F,ah,ar⟩;have aG:(ρ c).bh=am:=(ah.holds m _ aD).1;obtain⟨ko,mQ⟩:=ah.hz (w':=w) (ch:=.bY c (.oX am o)) aV (cR.refl _ _) fun I aZ=>⟨aG,o.cg _ _ _ _ _ _ (ah.holds g _ aV) aZ (fun _ _=>rfl) (ao9 _)⟩
 exact⟨hn,H,ρ,F,ko,ar.mono mQ fun _ _ _=>rfl⟩
def ac.abM (c b:Nat) {o:bc} (J:ae B c=some (.aA (o.at b))):ac ids K B K ((c,.aA o)::B):=by
 rintro N C a w ⟨hn,H,ρ,F,ah,ar⟩;obtain⟨ko,mQ⟩:=ah.hz (w':=w) (ch:=.aA o) J (cR.refl _ _) fun I aZ=>o.cg _ _ _ _ _ _ (ah.holds c _ J).2 aZ (fun _ _=>rfl) (ao9 _)
 exact⟨hn,H,ρ,F,ko,ar.mono mQ fun _ _ _=>rfl⟩
def ou {N:Nat} {C:eZ} {a:Act} {w:aD8} {ρ:Nat->bm} {F:Nat->Nat->Prop} (ah:Mem ids C B ρ F w) {m d b:Nat} (aD:ae B m=some (.bY d (eO b))):(ρ d).bh=b:=(ah.holds m _ aD).1
def ac.E4 (s d m b:Nat) (ax:dQ K s= .c (.one (.ptr d 0))) (aD:ae B m=some (.bY d (eO b))):ac ids K B ((s,.c (.one (.d (.aM (some b)))))::K) B:=by
 rintro N C a w ⟨hn,H,ρ,F,ah,ar⟩;refine⟨hn,H,ρ,F,ah,fun t=>?_⟩;rw[ke]
 split
 .rename_i e;subst e;have h:=ar s;rw[ax] at h;have e:=ou (N:=N) (a:=a) ah aD;rw[<-e];exact h
 .exact ar t
def ac.E5 (s d m b:Nat) (ax:dQ K s= .c (.one (.d (.aM (some b))))) (aD:ae B m=some (.bY d (eO b))):ac ids K B ((s,.c (.one (.ptr d 0)))::K) B:=by
 rintro N C a w ⟨hn,H,ρ,F,ah,ar⟩;refine⟨hn,H,ρ,F,ah,fun t=>?_⟩;rw[ke]
 split
 .rename_i e;subst e;have h:=ar s;rw[ax] at h;have e:=ou (N:=N) (a:=a) ah aD;rw[<-e] at h;exact h
 .exact ar t
def ac.P7 (s d b:Nat) {o:bc} (ax:dQ K s= .c (.one (.d (.aM (some b))))) (H:ae B d=some (.aA (o.at b))):ac ids K B ((s,.c (.one (.ptr d 0)))::K) B:=by
 rintro N C a w ⟨hn,lK,ρ,F,ah,ar⟩;refine⟨hn,lK,ρ,F,ah,fun t=>?_⟩;rw[ke]
 split
 .rename_i e;subst e;have h:=ar s;rw[ax] at h;have e:(ρ d).bh=b:=(ah.holds d _ H).1;rw[<-e] at h;exact h
 .exact ar t
def ac.abN (s f hA iY m1 m2 b1 b2:Nat) (ax:dQ K s= .c (.one (.cW f [.p hA 0,.p iY 0]))) (E:ae B m1=some (.bY hA (eO b1))) (G:ae B m2=some (.bY iY (eO b2))):ac ids K B ((s,.c (.one (.d (.fn (f,[b1,b2])))))::K) B:=by
 rintro N C a w ⟨hn,H,ρ,F,ah,ar⟩;refine⟨hn,H,ρ,F,ah,fun t=>?_⟩;rw[ke]
 split
 .rename_i e;subst e;have h:=ar s;rw[ax] at h;obtain⟨aB,e,mH,r1,af,g1,v2,r2,al,g2,cX⟩:=h;have co:=ou (N:=N) (a:=a) ah E;have cZ:=ou (N:=N) (a:=a) ah G;have g1:mH= .pointer (some ⟨(ρ hA).bh,0,none⟩):=g1;have g2:v2= .pointer (some ⟨(ρ iY).bh,0,none⟩):=g2;have cX:r2=[]:=cX;show a.tmps.getD s undef=l2 (f,[b1,b2]);rw[e,af,al,g1,g2,cX,co,cZ];rfl
 .exact ar t
end
end
section
section
variable {P:aD9} {ids:aD3} {K:aW} {B:av} {o:Oper}
abbrev BY (T b:Nat):aN:=.c (.one (.bH (.iface T (.pointer (some ⟨b,0,none⟩)))))
abbrev P8:aN:=.c (.one (.bH .nilIface))
def abO {T e f:Nat} {name:String} {c':aF2} {m:Method} {p:aE7} {w:aD8} {fuel:Nat} (aG:P.info? T=some c') (aD:c'.methods.find? (·.name == name)=some m) (ao:m.path= #[]) (j0:m.func=some (f,true)) (a8:P.underlying T=some (.pointer e)):
  (Go.method (fuel+1) T p name).run P w= .ok (f,p) w:=by
 unfold Go.method;simp[typeInfo,aG,aD,ao,j0,Go.follow,Go.receiverAt,underlying,a8,Place.get,go_sem]
def E6 {x:aE0} {T e b:Nat} (ai:o.op= .makeInterface T x) (a8:P.underlying T=some (.pointer e)) (hx:a1 K x= .c (.one (.d (.aM (some b))))) (N:Nat):bC P N ids o K B (BY T b) ⟨[],[],[]⟩:=by
 have m1:x∈o.op.operands:=aA4
 refine bC.val fun K' B' g1 g2 C ρ F a w ah ar=>?_
 have af:a.eval x= .pointer (some ⟨b,0,none⟩):=ar.ev ((g1 x m1).trans hx);refine⟨.iface T (.pointer (some ⟨b,0,none⟩)),?_,rfl⟩;simp only[execOp,ai,af];simp[Instr.makeInterface,underlying,a8,go_sem]
def P9 {T:Nat} {iM:Array (String×TypeId)} {v:aE7} {w:aD8} (a8:P.underlying T=some (.interface iM)) (bz:Nat) (d:Nat):(Op.equalIn (d+1) T (.iface bz v) .nilIface).run P w= .ok false w:=by unfold Op.equalIn;simp[underlying,a8,go_sem]
def P' {T:Nat} {iM:Array (String×TypeId)} {w:aD8} (a8:P.underlying T=some (.interface iM)) (d:Nat):(Op.equalIn (d+1) T .nilIface .nilIface).run P w= .ok true w:=by unfold Op.equalIn;simp[underlying,a8,go_sem]
def oY {x:aE0} {T fY bz b:Nat} {iM:Array (String×TypeId)} (ai:o.op= .binOp .eql T x (.const .nilIface) fY) (a8:P.underlying T=some (.interface iM)) (hx:a1 K x=BY bz b) (N:Nat):bC P N ids o K B (oa false) ⟨[],[],[]⟩:=by
 have m1:x∈o.op.operands:=aA4
 refine bC.val fun K' B' g1 g2 C ρ F a w ah ar=>?_
 have af:a.eval x= .iface bz (.pointer (some ⟨b,0,none⟩)):=ar.ev ((g1 x m1).trans hx);refine⟨.bool false,?_,rfl⟩;simp only[execOp,ai,af];have al:(Op.equal T (.iface bz (.pointer (some ⟨b,0,none⟩))) .nilIface).run P w= .ok false w:=P9 a8 bz 9999;simp[eqGuard,binOp,al,Act.eval,go_sem]
def E7 {x:aE0} {T fY bz b:Nat} {iM:Array (String×TypeId)} (ai:o.op= .binOp .neq T x (.const .nilIface) fY) (a8:P.underlying T=some (.interface iM)) (hx:a1 K x=BY bz b) (N:Nat):bC P N ids o K B (oa true) ⟨[],[],[]⟩:=by
 have m1:x∈o.op.operands:=aA4
 refine bC.val fun K' B' g1 g2 C ρ F a w ah ar=>?_
 have af:a.eval x= .iface bz (.pointer (some ⟨b,0,none⟩)):=ar.ev ((g1 x m1).trans hx);refine⟨.bool true,?_,rfl⟩;simp only[execOp,ai,af];have al:(Op.equal T (.iface bz (.pointer (some ⟨b,0,none⟩))) .nilIface).run P w= .ok false w:=P9 a8 bz 9999;simp[eqGuard,binOp,al,Act.eval,go_sem]
def Qa {x:aE0} {T fY:Nat} {iM:Array (String×TypeId)} (ai:o.op= .binOp .eql T x (.const .nilIface) fY) (a8:P.underlying T=some (.interface iM)) (hx:a1 K x=P8) (N:Nat):bC P N ids o K B (oa true) ⟨[],[],[]⟩:=by
 have m1:x∈o.op.operands:=aA4
 refine bC.val fun K' B' g1 g2 C ρ F a w ah ar=>?_
 have af:a.eval x= .nilIface:=ar.ev ((g1 x m1).trans hx);refine⟨.bool true,?_,rfl⟩;simp only[execOp,ai,af];have al:(Op.equal T .nilIface .nilIface).run P w= .ok true w:=P' a8 9999;simp[eqGuard,binOp,al,Act.eval,go_sem]
def pM {x:aE0} {T fY:Nat} {iM:Array (String×TypeId)} (ai:o.op= .binOp .neq T x (.const .nilIface) fY) (a8:P.underlying T=some (.interface iM)) (hx:a1 K x=P8) (N:Nat):bC P N ids o K B (oa false) ⟨[],[],[]⟩:=by
 have m1:x∈o.op.operands:=aA4
 refine bC.val fun K' B' g1 g2 C ρ F a w ah ar=>?_
 have af:a.eval x= .nilIface:=ar.ev ((g1 x m1).trans hx);refine⟨.bool false,?_,rfl⟩;simp only[execOp,ai,af];have al:(Op.equal T .nilIface .nilIface).run P w= .ok true w:=P' a8 9999;simp[eqGuard,binOp,al,Act.eval,go_sem]
def abP {ev:Operand->Value} {f:aE8} {c:Call} {x:aE0} {xs:aF7} {p:aE7} {w:aD8} {T e:Nat} {name:String} {c':aF2} {m:Method} {fuel:Nat} (hf:iX P f=true) (ai:o.op= .call c) (E:c.callee= .invoke x name) (G:c.args.toList=xs) (tO:ev x= .iface T p)
  (hn:P.types.size+Made.depth=fuel+1) (aG:P.info? T=some c') (aD:c'.methods.find? (·.name == name)=some m) (ao:m.path= #[]) (j0:m.func=some (f,true)) (a8:P.underlying T=some (.pointer e)):(execOp ev o).run P w= .ok (.enter f (p::xs.map ev).toArray) w:=by
 have fk:c.args=xs.toArray:=by rw[<-G]
 have abQ:=abO (w:=w) (p:=p) (fuel:=fuel) aG aD ao j0 a8;obtain⟨rx,args,ct⟩:=c;simp only at E fk;subst E fk;unfold iX at hf
 split at hf
 .rename_i fn abR;simp only[aq9,at1,beq_eq_false_iff_ne] at hf;have G: ¬fn.body=none:=fun e=>by rw[e] at hf;simp at hf
  have abS:(Go.method (P.types.size+100) T p name).run P w= .ok (f,p) w:=by rw[show P.types.size+100=fuel+1 from hn];exact abQ
  simp[execOp,ai,resolve,invoke,tO,callMethod,callFunc,go_sem,abR,abS];rw[mu hf.1,mu G,au0 (by rw[aq3];exact ao9 _)]
 .cases hf
def abT {f:aE8} {c:Call} {x:aE0} {b:Nat} {xs:aF7} {aJ:av} {res:aN} {aP:av} {T e:Nat} {name:String} {c':aF2} {m:Method} {fuel:Nat} (ai:o.op= .call c) (E:c.callee= .invoke x name) (G:c.args.toList=xs) (hx:a1 K x=BY T b)
  (hn:P.types.size+Made.depth=fuel+1) (aG:P.info? T=some c') (aD:c'.methods.find? (·.name == name)=some m) (ao:m.path= #[]) (j0:m.func=some (f,true)) (a8:P.underlying T=some (.pointer e))
  (hf:Fn P f (.c (.one (.d (.aM (some b))))::xs.map (a1 K)) aJ [] res aP) (hN:kI B aJ) (bv:l7 aJ [] aP=true) (N:Nat):
  bC P N ids o K B res ⟨ci aJ,[],ij aJ aP⟩:=by
 have mem: ∀aF∈xs,aF∈o.op.operands:=fun aF aO=>by
  rw[ai];simp only[Op.operands,Call.operands,ax1];exact .inr (ax7.1 (by rw[G];exact aO))
 have wR:x∈o.op.operands:=by
  rw[ai];simp only[Op.operands,Call.operands,ax1,E];exact .inl az9
 obtain⟨v,e,⟨rfl,rfl⟩,aq,_⟩:cI P N ids o K B (fun v e=>v=res/\e=⟨ci aJ,[],ij aJ aP⟩):=Bf (args:=.c (.one (.d (.aM (some b))))::xs.map (a1 K)) mem (fun K' ρ I a w g1 ar=>by
  have e:a.eval x= .iface T (.pointer (some ⟨b,0,none⟩)):=ar.ev ((g1 x wR).trans hx);refine⟨.pointer (some ⟨b,0,none⟩)::xs.map a.eval,fun fH=>abP fH ai E G e hn aG aD ao j0 a8,az9,fun i v x ay hx=>?_⟩
  match i with
  |0=>
   simp only[aq2,ap5] at ay hx;subst ay hx;exact rfl
  |i+1=>exact yK mem g1 ar i v x aB9 aC7) ⟨aJ,[],res,aP,hf,hN,by rw[bv];rfl,by rw[ro];exact⟨rfl,rfl⟩⟩
 exact aq
end
end
end Go.Proofs.YtgclhiekndohdaaGreat
