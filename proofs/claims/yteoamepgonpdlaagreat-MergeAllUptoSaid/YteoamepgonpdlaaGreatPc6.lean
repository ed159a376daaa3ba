/-
Part 6 of the proof that stands in YteoamepgonpdlaaGreatPcRow, with what it needs from the parts ahead; the parts of this text: Code.
-/
import Derived.Deep.LoopGhost
import Derived.Orders
import Derived.OrdersIn
import Derived.TacticsIn
import Derived.Sort.LoopGhostIn
import Derived.RangeFuncRecord
import Derived.Scope
import Derived.Test.YteoamepgonpdlaaGreatPc5
set_option linter.unusedVariables false
set_option linter.unusedSimpArgs false
set_option maxRecDepth 10000
namespace Go.Proofs.YteoamepgonpdlaaGreat
open Go.RowKit
def qs (N:Nat):List Oper→Bool
 | []=>true
 |o::l=>(match o.dst with
  |some d=>Nat.blt d N
  |none=>true)&&(match o.op with
  | .defer _=>false
  |_=>true)&&qs N l
section
variable {P:Program} {b:Frame} {a:Act} {k:List Item} {cs:List Frame} {w:World}
theorem zb {c:Code}:step P (lone (b.atR a (.code (.scope c)::k)) cs w)= .next (lone (b.atR a (.code c:: .inScope c::k)) cs w):=
 step_lone_go (by simp[stepG,stepG.exec,Frame.atR])
theorem Tj {c:Code}:step P (lone (b.atR a (.inScope c::k)) cs w)= .next (lone (b.atR a k) cs w):=
 step_lone_go (by simp[stepG,stepG.exec,Frame.atR])
theorem Tk {F:Fence} {n:Nat} {Q:Exit→Act→World→Prop} {c:Code} (h:c.wpIn F n P (Exit.noGoto Q) a w):(Code.scope c).wpIn F n P Q a w:=by
 intro b k cs Tl ag hr
 have aE:(lone (b.atR a (.code (.scope c)::k)) cs w).fenced P F:=fenced_calm ag hr rfl
 obtain⟨e,A3,w₁,bp,zc⟩:=h b (.inScope c::k) cs Tl ag hr
 cases e with
 |normal=>exact⟨.normal,A3,w₁,bp,.head aE zb (StepsIn.trans zc (.one (fenced_calm ag hr rfl) Tj))⟩
 |exit id=>
  have hx:exitTo id (.inScope c::k)=exitTo id k:=by simp[exitTo]
  exact⟨.exit id,A3,w₁,bp,fun k' aq=>.head aE zb (zc.1 k' (by rw[hx];exact aq)),fun Tm aq=>let⟨k₁,aa,af⟩:=zc.2 Tm (by rw[hx];exact aq);⟨k₁,aa,.head aE zb af⟩⟩
 |goto l=>exact bp.elim
 |ret=>exact⟨_,A3,w₁,bp,.of_steps (.one aE zb) zc⟩
 |panic ch=>exact⟨_,A3,w₁,bp,.of_steps (.one aE zb) zc⟩
 |outgrown=>exact⟨_,A3,w₁,bp,.of_steps (.one aE zb) zc⟩
end
def kP (P:Program) (N:Nat):Code→Bool
 | .skip=>true
 | .region _ ops draw=>qs N ops.toList&&(!draw||P.follows .mixedOrders)
 | .seq a b=>kP P N a&&kP P N b
 | .cond _ x y=>kP P N x&&kP P N y
 | .block _ b=>kP P N b
 | .loop b=>kP P N b
 | .rangeFunc _ _ a b=>kP P N a&&kP P N b
 | .scope b=>kP P N b
 | .label _=>true
 | .exit _=>true
 | .ret=>true
 |_=>false
section
variable {P:Program} {tt:cY} {N:Nat} {ids:List Nat}
theorem A4 {ops:Array Oper} {a:Act} {j s:Nat} (hs:(ops[j]?).bind (·.dst)=some s) {v:Value} (hv:a.tmps.getD s undef=v):
  (∀b,v= .bool b→yielded ops a.tmps j=some b)∧((∀b,v≠ .bool b)→yielded ops a.tmps j=none):=by
 unfold yielded
 rw[hs]
 simp only[Option.bind_some]
 cases cc:a.tmps[s]? with
 |none=>
  have hv:v=undef:=by rw[←hv];simp[cc]
  subst hv
  exact⟨fun b ag=>(by simp[undef] at ag),fun _=>rfl⟩
 |some x=>
  have hv:v=x:=by rw[←hv];simp[cc]
  subst hv
  refine⟨fun b ag=>by rw[ag],fun h=>?_⟩
  cases v <;>first |rfl |exact absurd rfl (h _)
theorem Tn {all:List Oper} {j s:Nat} (h:AM all j=some s):((all.toArray)[j]?).bind (·.dst)=some s:=by
 unfold AM at h
 simp only[List.getElem?_toArray]
 split at h
 ·rename_i o az;rw[az];exact h
 ·cases h
theorem vS {all:List Oper} {K:aQ} {o:Oper} {t:Bool} (h:wants all K o.guard=some t) {ρ:Nat→bq} {I:Nat→Prop} {a:Act} {w:World} (hS:ek K ρ I a w):Region.wanted o (yielded all.toArray a.tmps)=t:=by
 unfold wants at h
 unfold Region.wanted
 split at h
 ·rename_i bk
  injection h with h
  simp[bk,h]
 ·rename_i j want bk
  simp only[bk]
  split at h
  ·cases h
  ·rename_i s hs
   have hs:=Tn hs
   have hv:=hS s
   split at h
   ·rename_i aB
    rw[aB] at hv
    have:=(A4 (a:=a) hs (show a.tmps.getD s undef= .bool true from hv)).1 true rfl
    injection h with h
    rw[this,←h];rfl
   ·rename_i aB
    rw[aB] at hv
    have:=(A4 (a:=a) hs (show a.tmps.getD s undef= .bool true from hv)).1 true rfl
    injection h with h
    rw[this,←h];rfl
   ·rename_i aB
    rw[aB] at hv
    have:=(A4 (a:=a) hs (show a.tmps.getD s undef= .bool false from hv)).1 false rfl
    injection h with h
    rw[this,←h];rfl
   ·rename_i aB
    rw[aB] at hv
    have:=(A4 (a:=a) hs (show a.tmps.getD s undef= .bool false from hv)).1 false rfl
    injection h with h
    rw[this,←h];rfl
   ·rename_i aB
    rw[aB] at hv
    have:=(A4 (a:=a) hs (show a.tmps.getD s undef=undef from hv)).2 (by simp[undef])
    injection h with h
    rw[this,←h]
    simp
   ·cases h
theorem Sat.undef {C:Ctx} {K:aQ} {B:aG} {a:Act} {w:World} (h:Sat N ids C K B a w) (d:Option Nat) (hd: ∀e,d=some e→e < N):Sat N ids C (mL d .undef K) B (a.put d undef) w:=by
 obtain⟨aa,af,ρ,F,aA,hS⟩:=h
 exact⟨lC.trans aa,put_defers.trans af,ρ,F,aA,hS.lD (fun e he=>by rw[aa];exact hd e he) rfl⟩
theorem Sat.lit {C:Ctx} {K:aQ} {B:aG} {a:Act} {w:World} {d:Nat} {b:Bool} (h:Sat N ids C ((d,.c (.one (.d (.bool b))))::K) B a w):Sat N ids C ((d,.c (.one (.d (.lit b))))::K) B a w:=by
 obtain⟨aa,af,ρ,F,aA,hS⟩:=h
 refine⟨aa,af,ρ,F,aA,fun s=>?_⟩
 have:=hS s
 rw[kJ] at this⊢
 split at this
 ·rw[if_pos ‹_›];exact this
 ·rw[if_neg ‹_›];exact this
theorem LS {n:Nat} {r:Option Nat} {f:FuncId} {args:Array Value} {w:World} {R:Ending→World→Prop} (h:Calls P f args w R):CallsIn (nV r) n P f args w R:=(callsIn_wide (n:=n)).2 h
theorem LU {n:Nat} {r:Option Nat} {f:FuncId} {args:Array Value} {w:World} {R:Ending→World→Prop} (h:CallsIn (nV r) n P f args w R):Calls P f args w R:=(callsIn_wide (n:=n)).1 h
theorem To {n:Nat} {r:Option Nat} {row:String} {args:Array Value} {w:World} {R:Value→World→Prop} (h:Rows P row args w R):RowsIn (nV r) n P row args w R:=fun c cs _=>by
 obtain⟨v,w',aa,af⟩:=h c cs
 exact⟨v,w',aa,stepsIn_wide.2 af⟩
theorem Dt {o:Oper} (h:(match o.op with
 | .defer _=>false
 |_=>true)=true): ∀c,o.op≠ .defer c:=fun c e=>by rw[e] at h;cases h
theorem ze {r:Option Nat} {o:Oper} (dJ: ∀c,o.op≠ .defer c) {a:Act} {w:World} {next:Act→World→Prop} {Q:Exit→Act→World→Prop} (h:o.wp P a w next Q):o.wpIn (nV r) 0 P a w next Q:=by
 refine⟨fun _ _=>trivial,?_⟩
 rw[Oper.semAt_eq _ _ _ dJ]
 unfold Oper.wp at h
 generalize(execOp a.eval o).run P w=q at*
 cases q with
 |ok x w'=>
  cases x <;>simp only[Oper.upon,Oper.uponIn] at h⊢ <;>
   first
    |exact h
    |exact h.elim
    |exact⟨fun hs=>absurd hs (by simp),LS h⟩
    |exact⟨fun hs=>absurd hs (by simp),To h⟩
 |halt x w'=>cases x <;>simp only[Oper.upon,Oper.uponIn] at h⊢ <;>exact h
theorem xy (bh:dQ P tt) (all:List Oper): ∀(l:List Oper) (i:Nat) (K:aQ) (B:aG) (log:List kK) (k:aQ→aG→List kK→Prop),qs N l=true→vcs P tt ids all i l K B log k→ ∀(C:Ctx) (a:Act) (w:World),Sat N ids C K B a w→
  ∀(r:Option Nat) (Q:Exit→Act→World→Prop),(∀K' B' Tp,k K' B' Tp→ ∀a' w',Sat N ids C K' B' a' w'→Q .normal a' w')→wpListIn (nV r) 0 P all.toArray Q l a w
 | [],i,K,B,log,k,_,h,C,a,w,hs,r,Q,aq=>wpListIn_nil (aq K B log h a w hs)
 |o::l,i,K,B,log,k,hd,h,C,a,w,hs,r,Q,aq=>by
  simp only[qs,Bool.and_eq_true] at hd
  obtain⟨⟨si,dJ⟩,c9⟩:=hd
  have dJ:=Dt dJ
  have bF: ∀d,o.dst=some d→d < N:=fun d e=>by rw[e] at si;simpa[Nat.blt_eq] using si
  have dM:=hs
  obtain⟨_,_,ρ,F,aA,hS⟩:=dM
  rw[K1] at h
  unfold C9 at h
  refine wpListIn_step fun fl vT=>?_
  split at h
  ·exact h.elim
  ·rename_i hw
   rw[if_neg (by rw[vS hw hS];simp)]
   refine⟨fun _ _=>trivial,vT _ _ ?_⟩
   have hu:=hs.undef o.dst bF
   split at h
   ·rename_i d e
    rw[e] at hu⊢
    exact xy bh all l _ _ _ _ k c9 h C _ w hu r Q aq
   ·rename_i e
    rw[e] at hu⊢
    exact xy bh all l _ _ _ _ k c9 h C _ w hu r Q aq
  ·rename_i hw
   rw[if_pos (vS hw hS)]
   obtain⟨v,e,h,aV,hf⟩:=A2 bh h
   refine ze dJ (aV K B (fun _ _=>rfl) (fun _ _=>rfl) hf C a w hs bF fl Q fun a' w' eR=>vT _ _ ?_)
   split at h
   ·rename_i ak
    rw[ak] at eR
    exact xy bh all l _ _ _ _ k c9 h C _ w' eR r Q aq
   ·rename_i d ak
    rw[ak] at eR
    split at h
    ·rename_i b bk
     cases b with
     |true=>exact xy bh all l _ _ _ _ k c9 (h.1 rfl) C _ w' eR.lit r Q aq
     |false=>exact xy bh all l _ _ _ _ k c9 (h.2 rfl) C _ w' eR.lit r Q aq
    ·exact xy bh all l _ _ _ _ k c9 h C _ w' eR r Q aq
def zf (P:Program) (tt:cY) (N:Nat) (ids:List Nat):Prop:= ∀(id:Nat) (ops:Array Oper) (K:aQ) (B:aG) (k:aQ→aG→Prop),qs N ops.toList=true→P.follows .mixedOrders=true→
 vcs P tt ids ops.toList 0 ops.toList K B [] (fun K' B' log=>indep K B ops.toList log=true∧k K' B')→ ∀(C:Ctx) (a:Act) (w:World),Sat N ids C K B a w→
 ∀(r:Option Nat) (Q:Exit→Act→World→Prop),(∀K' B',k K' B'→ ∀a' w',Sat N ids C K' B' a' w'→Q .normal a' w')→(Code.region id ops true).wpIn (nV r) 0 P Q a w
theorem Sat.eval {C:Ctx} {K:aQ} {B:aG} {a:Act} {w:World} (h:Sat N ids C K B a w) {c:Operand} {b:Bool} (hc:aU K c= .c (.one (.d (.lit b)))∨aU K c= .c (.one (.d (.bool b)))):a.eval c= .bool b:=by
 obtain⟨_,_,ρ,F,aA,hS⟩:=h
 rcases hc with hc |hc
 ·exact hS.lit hc
 ·exact hS.bool hc
theorem zg (bh:dQ P tt) (cq:zf P tt N ids) (stops:List Nat): ∀(c:Code) (K:aQ) (B:aG) (Q:oQ→aQ→aG→Prop),kP P N c=true→vc P tt N ids stops c K B Q→av P N ids c K B Q:=by
 intro c
 induction c with
 |skip=>exact fun K B Q _ h r hr C gP bp a w hs=>wpIn_skip (bp .gp K B C.ds (fun _=>rfl) h a w hs)
 |region id ops draw=>
  intro K B Q hc h
  rw[Rx] at h
  simp only[kP,Bool.and_eq_true,Bool.or_eq_true,Bool.not_eq_true'] at hc
  split at h
  ·exact h
  ·split at h
   ·intro r hr C gP bp a w hs
    refine wpIn_region_list ?_
    have:=xy bh ops.toList ops.toList 0 K B [] _ hc.1 h C a w hs r gP (fun K' B' _ aq a' w' dM=>bp .gp K' B' C.ds (fun _=>rfl) aq a' w' dM)
    simpa using this
   ·intro r hr C gP bp a w hs
    exact cq id ops K B (Q .gp) hc.1 (hc.2.resolve_left (by simp)) h C a w hs r gP (fun K' B' aq a' w' dM=>bp .gp K' B' C.ds (fun _=>rfl) aq a' w' dM)
 |seq x y oL oM=>
  intro K B Q hc h r hr C gP bp a w hs
  simp only[kP,Bool.and_eq_true] at hc
  rw[Ry] at h
  refine wpIn_seq (oL K B _ hc.1 h r hr C _ ?_ a w hs)
  intro e K' B' ds gQ he a' w' dM
  cases e with
  |gp=>exact oM K' B' Q hc.2 he r hr (C.at ds) gP (fun e K B xz GH=>bp e K B xz fun aD=>(GH aD).trans (gQ aD)) a' w' dM
  |ex i=>exact bp (.ex i) K' B' ds gQ he a' w' dM
  |ret=>exact bp .ret K' B' ds gQ he a' w' dM
 |cond c x y oL oM=>
  intro K B Q hc h r hr C gP bp a w hs
  simp only[kP,Bool.and_eq_true] at hc
  rw[Rz] at h
  split at h
  ·rename_i aB
   exact wpIn_cond_true (hs.eval (.inl aB)) (oL K B Q hc.1 h r hr C gP bp a w hs)
  ·rename_i aB
   exact wpIn_cond_false (hs.eval (.inl aB)) (oM K B Q hc.2 h r hr C gP bp a w hs)
  ·rename_i b aB
   cases b with
   |true=>exact wpIn_cond_true (hs.eval (.inr aB)) (oL K B Q hc.1 (h.1 rfl) r hr C gP bp a w hs)
   |false=>exact wpIn_cond_false (hs.eval (.inr aB)) (oM K B Q hc.2 (h.2 rfl) r hr C gP bp a w hs)
  ·exact h.elim
 |block i b aZ=>
  intro K B Q hc h r hr C gP bp a w hs
  rw[RA] at h
  refine wpIn_block (aZ K B _ hc h r hr C _ ?_ a w hs)
  intro e K' B' ds gQ he a' w' dM
  cases e with
  |gp=>exact bp .gp K' B' ds gQ he a' w' dM
  |ret=>exact bp .ret K' B' ds gQ he a' w' dM
  |ex j=>
   simp only[oQ.to,Exit.inBlock] at he⊢
   split at he
   ·rename_i e
    have:=Nat.eq_of_beq_eq_true e
    subst this
    rw[if_pos rfl]
    exact bp .gp K' B' ds gQ he a' w' dM
   ·rename_i e
    rw[if_neg (fun x=>by subst x;simp at e)]
    exact bp (.ex j) K' B' ds gQ he a' w' dM
 |loop b aZ=>exact fun K B Q hc h=>h
 |rangeFunc f ps x b oL oM=>exact fun K B Q hc h=>h
 |scope b aZ=>
  intro K B Q hc h r hr C gP bp a w hs
  rw[RB] at h
  refine Tk (aZ K B _ hc h r hr C _ ?_ a w hs)
  intro e K' B' ds gQ he a' w' dM
  cases e with
  |gp=>exact bp .gp K' B' ds gQ he a' w' dM
  |ret=>exact bp .ret K' B' ds gQ he a' w' dM
  |ex j=>exact bp (.ex j) K' B' ds gQ he a' w' dM
 |label l=>exact fun K B Q hc h r hr C gP bp a w hs=>wpIn_label (bp .gp K B C.ds (fun _=>rfl) h a w hs)
 |exit i=>exact fun K B Q hc h r hr C gP bp a w hs=>wpIn_exit (bp (.ex i) K B C.ds (fun _=>rfl) h a w hs)
 |ret=>exact fun K B Q hc h r hr C gP bp a w hs=>wpIn_ret (bp .ret K B C.ds (fun _=>rfl) h a w hs)
 |_=>intro K B Q hc h;simp[kP] at hc
def ah (ids:List Nat) (K:aQ) (B:aG) (K':aQ) (B':aG):Prop:= ∀(N:Nat) (C:Ctx) (a:Act) (w:World),Sat N ids C K B a w→Sat N ids C K' B' a w
theorem ah.refl (K:aQ) (B:aG):ah ids K B K B:=fun _ _ _ _ h=>h
theorem ah.trans {K K' LV:aQ} {B B' LW:aG} (h:ah ids K B K' B') (h':ah ids K' B' LV LW):ah ids K B LV LW:=fun N C a w hs=>h' N C a w (h N C a w hs)
theorem av.le {c:Code} {K K':aQ} {B B':aG} {Q:oQ→aQ→aG→Prop} (h:ah ids K B K' B') (cc:av P N ids c K' B' Q):av P N ids c K B Q:=fun r hr C gP bp a w hs=>cc r hr C gP bp a w (h N C a w hs)
theorem av.mono {c:Code} {K:aQ} {B:aG} {Q LX:oQ→aQ→aG→Prop} (h: ∀e K B,LX e K B→Q e K B) (cc:av P N ids c K B LX):av P N ids c K B Q:=fun r hr C gP bp a w hs=>cc r hr C gP (fun e K' B' ds gQ he=>bp e K' B' ds gQ (h e K' B' he)) a w hs
theorem av.loop (bh:dQ P tt) (cq:zf P tt N ids) (stops:List Nat) {b:Code} (hc:kP P N b=true) {X:Type} (nw:X→aQ) (ic:X→aG) (inv:X→Prop) (A5:X→Nat) (jb:X) {K:aQ} {B:aG} {Q:oQ→aQ→aG→Prop} (aE:inv jb) (hle:ah ids K B (nw jb) (ic jb))
  (h: ∀x,inv x→vc P tt N ids stops b (nw x) (ic x) (fun e K B=>match e with
   | .gp=> ∃y,inv y∧A5 y < A5 x∧ah ids K B (nw y) (ic y)
   | .ex i=>Q (.ex i) K B
   | .ret=>Q .ret K B)):av P N ids (.loop b) K B Q:=by
 intro r hr C gP bp a w hs
 refine wpIn_loop_ghost (fun n a w=> ∃x ds,(uy ids=true→ds=C.ds)∧inv x∧A5 x=n∧Sat N ids (C.at ds) (nw x) (ic x) a w) (A5 jb) ⟨jb,C.ds,fun _=>rfl,aE,rfl,hle N C a w hs⟩ ?_
 rintro n a w ⟨x,ds,gQ,hx,rfl,hs⟩
 refine zg bh cq stops b _ _ _ hc (h x hx) r hr (C.at ds) _ ?_ a w hs
 intro e K' B' xz GH he a' w' dM
 have GI:uy ids=true→xz=C.ds:=fun aD=>(GH aD).trans (gQ aD)
 cases e with
 |gp=>
  obtain⟨y,aF,bF,Tq⟩:=he
  exact⟨A5 y,bF,y,xz,GI,aF,rfl,Tq N (C.at xz) a' w' dM⟩
 |ex i=>exact bp (.ex i) K' B' xz GI he a' w' dM
 |ret=>exact bp .ret K' B' xz GI he a' w' dM
def sj:Nat→List aO→aQ
 |_,[]=>[]
 |i,v::l=>(i,v)::sj (i+1) l
theorem A6: ∀(l:List aO) (i s:Nat),look (sj i l) s=(if i≤s then(l[s - i]?).getD (.c (.one .any)) else .c (.one .any))
 | [],i,s=>by simp[sj,look]
 |v::l,i,s=>by
  simp only[sj]
  rw[kJ,A6 l (i+1) s]
  by_cases h:i=s
  ·subst h;simp
  ·rw[if_neg h]
   by_cases af:i≤s
   ·rw[if_pos (by omega),if_pos af,show s - i=(s - (i+1))+1 by omega]
    rfl
   ·rw[if_neg (by omega),if_neg af]
def xA (tt:cY) (K:aQ) (B:aG):List ResultVar→Option (List dL)
 | []=>some []
 | .tmp t::l=>match look K t,xA tt K B l with
  | .c x,some r=>some (x::r)
  |_,_=>none
 | .cell t T::l=>match look K t,xA tt K B l,tt.find T with
  | .c (.one (.ptr c o)),some r,some ti=>match ax B c with
   |some (.cells m)=>match ti.row with
    |true=>match Nat.ble (o+ti.size) m.length with
     |true=>some (.agg ((m.drop o).take ti.size)::r)
     |false=>none
    |false=>match m[o]? with
     |some s=>some (.one s::r)
     |none=>none
   |_=>none
  |_,_,_=>none
def tu (tmps:Array Value) (r:ResultVar):Sem Value:=match r with
 | .tmp t=>pure (tmps.getD t undef)
 | .cell ad t=>do loadVar t (←asAddr (tmps.getD ad undef))
def GJ:List dL→aO
 | [x]=>.c x
 |l=>.c6 l
theorem Du (bh:dQ P tt) {ρ:Nat→bq} {F:Nat→Nat→Prop} {C:Ctx} {K:aQ} {B:aG} {a:Act} {w:World} (aA:Mem ids C B ρ F w) (hS:ek K ρ (bO C B F w) a w): ∀(l:List ResultVar) (r:List dL),xA tt K B l=some r→
  ∃vs:List Value,(l.mapM (tu a.tmps)).run P w= .ok vs w∧iN ρ (bO C B F w) w r vs
 | [],r,h=>by
  simp only[xA,Option.some.injEq] at h
  subst h
  exact⟨[],by simp,rfl⟩
 | .tmp t::l,r,h=>by
  unfold xA at h
  split at h
  ·rename_i x r' hx hr
   injection h with h
   subst h
   obtain⟨vs,aa,af⟩:=Du bh aA hS l r' hr
   have hv:=hS t
   rw[hx] at hv
   exact⟨_::vs,by simp[List.mapM_cons,aa,tu],_,vs,rfl,hv,af⟩
  ·cases h
 | .cell t T::l,r,h=>by
  unfold xA at h
  split at h
  ·rename_i c o r' ti hx hr gA
   obtain⟨i,d,bB⟩:=bh.at_ gA
   obtain⟨vs,aa,af⟩:=Du bh aA hS l r' hr
   have hv:=hS t
   rw[hx] at hv
   have hv:a.tmps.getD t undef= .pointer (some ⟨(ρ c).bI,o,none⟩):=hv
   split at h
   ·rename_i m aB
    obtain⟨hF,us,eN,ag,hd⟩:=aA.holds c _ aB
    split at h
    ·rename_i iZ
     split at h
     ·rename_i hle
      have hle:=Nat.le_of_ble_eq_true hle
      injection h with h
      subst h
      have ku:=bV.y2 ti.size _ _ (bV.nr o _ _ hd)
      have ep:=run_loadVar_mid (P:=P) w (ρ c).bI o T ((us.drop o).take ti.size) d (fun j u au=>by
       rw[List.getElem?_take] at au
       split at au
       ·rw[List.getElem?_drop] at au
        exact cell_of ag au
       ·cases au) bB.und (bB.row.trans iZ) (by rw[bB.info,Option.map_some,bB.size,bV.length _ _ ku,List.length_take,List.length_drop];congr 1;omega)
      exact⟨_::vs,by simp[List.mapM_cons,tu,hv,asAddr,ep,aa],_,vs,rfl,⟨_,rfl,ku⟩,af⟩
     ·cases h
    ·rename_i iZ
     split at h
     ·rename_i s hs
      injection h with h
      subst h
      obtain⟨v,uH,ku⟩:=bV.get _ _ hd o s hs
      have ep:=Lf (P:=P) (T:=T) bB.und (bB.row.trans iZ) (cell_of ag uH)
      exact⟨_::vs,by simp[List.mapM_cons,tu,hv,asAddr,ep,aa],_,vs,rfl,ku,af⟩
     ·cases h
   ·cases h
  ·cases h
def zh (l:List Nat):List kH→Bool
 | []=>true
 | .p b _::m=>l.contains b&&zh l m
 | .d _::m=>zh l m
theorem GK {l:List Nat} {c:Nat}: ∀{m:List kH},zh l m=true→l8 c m=true→c∈l
 | [],_,hc=>by simp[l8] at hc
 | .p b o::m,h,hc=>by
  simp only[zh,Bool.and_eq_true,List.contains_iff_mem] at h
  simp only[l8,Bool.or_eq_true] at hc
  rcases hc with hc |hc
  ·have:=Nat.eq_of_beq_eq_true hc;subst this;exact h.1
  ·exact GK h.2 hc
 | .d x::m,h,hc=>GK (m:=m) (by simpa[zh] using h) (by simpa[l8] using hc)
def bD.among (l:List Nat):bD→Bool
 | .ptr b _=>l.contains b
 | .own b=>l.contains b
 | .fk b _ _ _=>l.contains b
 | .os b _ _ _=>l.contains b
 | .mp b=>l.contains b
 | .eM _ m=>zh l m
 |_=>true
def A7 (l:List Nat):List bD→Bool
 | []=>true
 |s::m=>s.among l&&A7 l m
def dL.among (l:List Nat):dL→Bool
 | .one s=>s.among l
 | .agg m=>A7 l m
 | .jM _ _=>true
def Dv (l:List Nat):List dL→Bool
 | []=>true
 |s::m=>s.among l&&Dv l m
def aO.among (l:List Nat):aO→Bool
 | .c x=>x.among l
 | .c6 m=>Dv l m
 | .undef=>true
def bw.among (l:List Nat):bw→Bool
 | .cells m=>A7 l m
 | .dep d _=>l.contains d
 |_=>true
def xB (l:List Nat):aG→Bool
 | []=>true
 |(_,ch)::B=>ch.among l&&xB l B
theorem bD.kQ {l:List Nat} {s:bD} (h:s.among l=true) {c:Nat} (hc:s.has c=true):c∈l:=by
 cases s <;>simp only[bD.among,bD.has,List.contains_iff_mem,Bool.false_eq_true] at h hc
 all_goals first |exact GK h hc |(have:=Nat.eq_of_beq_eq_true hc;subst this;exact h)
theorem GL {l:List Nat} {c:Nat}: ∀{m:List bD},A7 l m=true→nj c m=true→c∈l
 | [],_,hc=>by simp[nj] at hc
 |s::m,h,hc=>by
  simp only[A7,Bool.and_eq_true] at h
  simp only[nj,Bool.or_eq_true] at hc
  exact hc.elim (bD.kQ h.1) (GL h.2)
theorem dL.kQ {l:List Nat} {s:dL} (h:s.among l=true) {c:Nat} (hc:s.has c=true):c∈l:=by
 cases s with
 |one s=>exact bD.kQ h hc
 |agg m=>exact GL h hc
 |jM u x=>cases hc
theorem LY {l:List Nat} {c:Nat}: ∀{m:List dL},Dv l m=true→sY c m=true→c∈l
 | [],_,hc=>by simp[sY] at hc
 |s::m,h,hc=>by
  simp only[Dv,Bool.and_eq_true] at h
  simp only[sY,Bool.or_eq_true] at hc
  exact hc.elim (dL.kQ h.1) (LY h.2)
theorem aO.kQ {l:List Nat} {s:aO} (h:s.among l=true) {c:Nat} (hc:s.has c=true):c∈l:=by
 cases s with
 |c s=>exact dL.kQ h hc
 |c6 m=>exact LY h hc
 |undef=>cases hc
theorem bw.kQ {l:List Nat} {s:bw} (h:s.among l=true) {c:Nat} (hc:s.has c=true):c∈l:=by
 cases s with
 |cells m=>exact GL h hc
 |row e u xs=>cases hc
 |map aN aP es=>cases hc
 |val u x=>cases hc
 |obj o=>cases hc
 |dep d o=>rw[←Nat.eq_of_beq_eq_true hc];exact List.contains_iff_mem.1 h
theorem zi {l:List Nat}: ∀{B:aG},xB l B=true→ ∀{c ch},ax B c=some ch→ch.among l=true
 | [],_,c,ch,h=>by cases h
 |(d,x)::B,h,c,ch,hc=>by
  simp only[xB,Bool.and_eq_true] at h
  rw[cD] at hc
  split at hc
  ·injection hc with hc;subst hc;exact h.1
  ·exact zi h.2 hc
section
variable {ρ:Nat→bq} {I:Nat→Prop} {w:World}
theorem Tr: ∀{x y:D} {v:Value},FO x y→Den I w x v→Den I w y v:=by
 intro x y v h hv
 unfold FO at h
 split at h
 ·split at h
  ·rename_i e
   have:=nW e
   subst this h
   exact hv
  ·exact h.elim
 ·subst h;exact hv
 ·subst h;exact hv
 ·subst h;exact hv
 ·subst h;exact hv
 ·subst h;exact hv
 ·subst h;exact hv
 ·subst h;exact hv
 ·split at h
  ·rename_i e _
   subst e
   have h:_=_:=h
   subst h
   exact hv
  ·exact h.elim
 ·exact h.elim
theorem LZ {s t:bD} {v:Value} (h:CW s t) (hv:dN ρ I w s v):dN ρ I w t v:=by
 unfold CW at h
 split at h
 ·trivial
 ·exact Tr h hv
 ·subst h
  rw[show v=_ from hv]
  exact⟨none,0,rfl,Nat.le_refl _,Nat.zero_le _,fun h=>absurd h (Nat.lt_irrefl 0)⟩
 ·subst h;exact hv
theorem GM: ∀{l m:List bD} {vs:List Value},CX l m→bV ρ I w l vs→bV ρ I w m vs
 | [],[],_,_,h=>h
 |s::l,t::m,_,⟨aa,af⟩,⟨v,r,e,g1,g2⟩=>⟨v,r,e,LZ aa g1,GM af g2⟩
 | [],_::_,_,h,_=>h.elim
 |_::_,[],_,h,_=>h.elim
theorem L0 {s t:dL} {v:Value} (h:CY s t) (hv:fZ ρ I w s v):fZ ρ I w t v:=by
 unfold CY at h
 split at h
 ·exact LZ h hv
 ·obtain⟨vs,e,hv⟩:=hv
  exact⟨vs,e,GM h hv⟩
 ·trivial
 ·split at h
  ·rename_i hu _
   subst hu
   have h:_=_:=h
   subst h
   exact hv
  ·exact h.elim
 ·trivial
 ·exact h.elim
theorem L1: ∀{l m:List dL} {vs:List Value},FP l m→iN ρ I w l vs→iN ρ I w m vs
 | [],[],_,_,h=>h
 |s::l,t::m,_,⟨aa,af⟩,⟨v,r,e,g1,g2⟩=>⟨v,r,e,L0 aa g1,L1 af g2⟩
 | [],_::_,_,h,_=>h.elim
 |_::_,[],_,h,_=>h.elim
theorem xC {s t:aO} {v:Value} (h:s4 s t) (hv:b8 ρ I w s v):b8 ρ I w t v:=by
 unfold s4 at h
 split at h
 ·exact L0 h hv
 ·obtain⟨vs,e,hv⟩:=hv
  exact⟨vs,e,L1 h hv⟩
 ·exact hv
 ·trivial
 ·exact h.elim
theorem L2: ∀{l m:List aO},FQ l m→l.length=m.length∧ ∀(i:Nat) (t:aO),m[i]? =some t→ ∃s,l[i]? =some s∧s4 s t
 | [],[],_=>⟨rfl,fun i t h=>by simp at h⟩
 |s::l,t::m,⟨aa,af⟩=>by
  obtain⟨g1,g2⟩:=L2 af
  refine⟨by simp[g1],fun i u hu=>?_⟩
  match i with
  |0=>
   simp only[List.getElem?_cons_zero,Option.some.injEq] at hu
   subst hu
   exact⟨s,rfl,aa⟩
  |i+1=>exact g2 i u (by simpa using hu)
 | [],_::_,h=>h.elim
 |_::_,[],h=>h.elim
end
theorem Fn.arg {P:Program} {f:FuncId} {args args':List aO} {aR:aG} {bA:List Nat} {res:aO} {bl:aG} (h:Fn P f args' aR bA res bl) (aB:FQ args args'):Fn P f args aR bA res bl:=by
 obtain⟨aa,af⟩:=L2 aB
 refine⟨h.1,fun ρ F I w bW cj cu a3 a4 a5 g5=>h.2 ρ F I w bW cj cu a3 a4 (a5.trans aa) fun i v x hv hx=>?_⟩
 obtain⟨s,g1,g2⟩:=af i v hv
 exact xC g2 (g5 i s x g1 hx)
theorem Ts {C:Ctx} {ds:List Nat} {B:aG} {ρ:Nat→bq} {F:Nat→Nat→Prop} {w w':World} (h:Mem ids (C.at ds) B ρ F w) (cr:Fr (fun D=>D∈ds) w w'):
  Mem ids (C.at []) B ρ F w'∧Ext (bO (C.at ds) B F w) w (bO (C.at []) B F w') w':=by
 have gQ: ∀b,(C.yJ b∨C.qj b∨C.w0.heap.size≤b∧b∉ds)→b∉ds:=fun b ag hd=>by
  have bL:C.w0.heap.size≤b:=(h.marks.2.2 b hd).2.2
  rcases ag with ag |ag |ag
  ·have gH:b < C.w0.heap.size:=h.marks.2.1 b (.inl ag)
   omega
  ·have gH:b < C.w0.heap.size:=h.marks.2.1 b (.inr ag)
   omega
  ·exact ag.2 hd
 have bz:Ext (bO (C.at ds) B F w) w (bO (C.at []) B F w') w':=fun b ag=>
  ⟨⟨Nat.lt_of_lt_of_le ag.1 cr.size,ag.2.1.imp id fun x=>x.imp id fun x=>⟨x.1,by simp⟩,ag.2.2⟩,cr.block b ag.1 (gQ b ag.2.1)⟩
 have hF: ∀c ch,ax B c=some ch→ ∀b,F c b→w'.heap[b]? =w.heap[b]? :=fun c ch hc b ag=>by
  obtain⟨cC,cR⟩:=h.own c ch hc b ag
  exact cr.block b cC (gQ b (.inr cR))
 refine⟨⟨h.jo.trans cr fun i aD hd=>?_,fun c ch hc=>Holds.cy bz (hF c ch hc) cr.size ch (fun _ _=>rfl) (h.holds c ch hc),fun c ch hc b ag=>?_,h.e8,h.keep,List.nodup_nil,h.marks.2.1,fun D cq=>by cases cq⟩,bz⟩
 ·have ay:C.w0.heap.size≤i:=(h.marks.2.2 i hd).2.2
  have aD:i < C.w0.heap.size:=aD
  omega
 ·obtain⟨cC,cR⟩:=h.own c ch hc b ag
  exact⟨Nat.lt_of_lt_of_le cC cr.size,cR.imp id fun x=>⟨x.1,by simp⟩⟩
theorem L3 {F:Fence} {n:Nat} {fn:Func} {tmps:Array Value} {R:Ending→World→Prop}: ∀(ds:List Nat) (w:World),ds.Nodup→(∀D,D∈ds→D < w.heap.size∧w.heap[D]? =some (.deferred (some [])))→
  (∀w',Fr (fun D=>D∈ds) w w'→LeavesIn F n P fn tmps R [] .returning w')→LeavesInM F n P fn tmps R (ds.map wZ) .returning w
 | [],w,_,_,h=>h w (Fr.refl _ w)
 |D::ds,w,hn,hd,h=>by
  obtain⟨ee,eO⟩:=List.nodup_cons.1 hn
  obtain⟨d1,d2⟩:=hd D (List.mem_cons_self ..)
  have hf:Fr (fun b=>b=D) w (w.putObj D (.deferred none)):=⟨rfl,rfl,rfl,Nat.le_of_eq (World.putObj_size).symm,fun k _ aq=>World.putObj_heap_other aq⟩
  refine⟨fun e=>(by cases e),.inl ⟨D,w.putObj D (.deferred none),rfl,run_takeDeferred d2,L3 ds _ eO (fun E bz=>?_) fun w' hw'=>h w' ?_⟩⟩
  ·obtain⟨cC,cR⟩:=hd E (List.mem_cons_of_mem _ bz)
   exact⟨by rw[World.putObj_size];exact cC,(World.putObj_heap_other (r:=D) (k:=E) fun e=>ee (e▸bz)).trans cR⟩
  ·exact(hf.mono fun i _ (aD:i=D)=>by rw[aD];exact List.mem_cons_self ..).trans hw' fun i _ aD=>List.mem_cons_of_mem _ aD
theorem L4 {F:Fence} {n:Nat} {fn:Func} {R:Ending→World→Prop} {C:Ctx} {ds:List Nat} {K:aQ} {B:aG} {a:Act} {w:World} (hs:Sat N ids (C.at ds) K B a w)
  (h: ∀w',Sat N ids (C.at []) K B {a with defers:=[]} w'→ ∃v,(results fn a.tmps).run P w'= .ok v w'∧R (.returned v) w'):LeavesInM F n P fn a.tmps R a.defers .returning w:=by
 obtain⟨aa,af,ρ,G,aA,hS⟩:=hs
 rw[af]
 refine L3 ds w aA.marks.1 (fun D cq=>⟨(aA.marks.2.2 D cq).1,(aA.marks.2.2 D cq).2.1⟩) fun w' hw'=>h w' ?_
 obtain⟨bR,bz⟩:=Ts aA hw'
 exact⟨aa,rfl,ρ,G,bR,hS.mono bz fun _ _ _=>rfl⟩
def L5 (tt:cY) (ids bA:List Nat) (rs:List ResultVar) (res:aO) (bl:aG) (e:oQ) (K:aQ) (B:aG):Prop:=match e with
 | .ex _=>False
 |_=> ∃K' B' r,ah ids K B K' B'∧xA tt K' B' rs=some r∧s4 (GJ r) res∧nT B' bl∧(res.among (ids++bA)&&xB (ids++bA) bl&&(cQ bl).all (fun c=>(ids++bA).contains c))=true
theorem Fn.of (bh:dQ P tt) {f:FuncId} {fn:Func} {c:Code} (stops:List Nat) (args:List aO) (aR:aG) (bA:List Nat) (res:aO) (bl:aG) (hf:P.funcs[f]? =some fn) (ag:fn.body=some c) (hn:fn.ntmps=N) (iQ:mN P f=true) (hc:kP P N c=true) (fT:Nat.ble args.length N=true) (cq:zf P tt N (cQ aR)) {rs:List ResultVar} (GN:fn.results.toList=rs)
  (h:vc P tt N (cQ aR) stops c (sj 0 args) aR (L5 tt (cQ aR) bA rs res bl)):Fn P f args aR bA res bl:=by
 refine⟨iQ,?_⟩
 intro ρ F I w bW bC dW hF fU hlen eu
 have fT:=Nat.le_of_ble_eq_true fT
 refine LU (r:=none) (n:=0) (callsIn_of_wp_marks hf ag trivial ?_)
 let C:Ctx:=⟨w,I,fun b=> ∃c ch,ax aR c=some ch∧F c b,ρ,[]⟩
 have sk:Ext I w (bO C aR F w) w:=fun b ag=>⟨⟨bC b ag,.inl ag,fun c ch hc qt=>(hF c ch hc b qt).2 ag⟩,rfl⟩
 have aA:Mem (cQ aR) C aR ρ F w:=⟨Fr.refl _ _,fun c ch hc=>Holds.cy sk (fun _ _=>rfl) (Nat.le_refl _) ch (fun _ _=>rfl) (dW c ch hc),fun c ch hc b ag=>⟨(hF c ch hc b ag).1,.inl ⟨c,ch,hc,ag⟩⟩,fU,fun c _=>rfl,List.nodup_nil,fun b ag=>ag.elim (bC b) fun⟨c,ch,hc,A8⟩=>(hF c ch hc b A8).1,fun D cq=>by cases cq⟩
 refine zg bh cq stops c _ _ _ hc h none (fun _=>rfl) C _ ?_ _ w ⟨by simp[hlen,hn];omega,rfl,ρ,F,aA,fun s=>?_⟩
 ·intro e K' B' ds _ he a' w' dM
  cases e with
  |ex i=>exact he.elim
  |_=>
   obtain⟨L6,jx,r,hle,hr,hp,ja,pR⟩:=he
   refine L4 dM fun w' dM=>?_
   obtain⟨iR,ku,ρ',F',bR,A9⟩:=hle N C _ w' dM
   obtain⟨vs,ep,nx⟩: ∃vs:List Value,(rs.mapM (tu a'.tmps)).run P w'= .ok vs w'∧iN ρ' (bO C jx F' w') w' r vs:=Du bh bR A9 rs r hr
   have lJ: ∃x,(results fn a'.tmps).run P w'= .ok x w'∧b8 ρ' (bO C jx F' w') w' (GJ r) x:=by
    have aa:fn.results=rs.toArray:=by rw[←GN]
    have af:(fn.results.mapM (tu a'.tmps)).run P w'= .ok (List.toArray vs) w':=by
     rw[aa,List.mapM_toArray]
     simp[ep]
    have ay:results fn a'.tmps=(do let vs←fn.results.mapM (tu a'.tmps);pure (if h:vs.size=1 then vs[0] else .tuple vs)):=rfl
    rw[ay]
    match r,vs,nx,af with
    | [],_,e,af=>rw[show _=[] from e] at af;exact⟨.tuple #[],by simp[af],[],rfl,rfl⟩
    | [x],_,⟨v,s,e,hv,hs⟩,af=>
     have hs:s=[]:=hs
     subst hs e
     exact⟨v,by simp[af],hv⟩
    |x::y::r,_,⟨v,s,e,hv,v2,s2,ak,uH,eR⟩,af=>
     subst ak e
     exact⟨.tuple (List.toArray (v::v2::s2)),by simp[af],_,rfl,v,_,rfl,hv,v2,s2,rfl,uH,eR⟩
   obtain⟨x,hx,sg⟩:=lJ
   have sg:=xC hp sg
   simp only[Bool.and_eq_true] at pR
   let uI:Nat→bq:=fun c=>if c∈bA then ρ' c else ρ c
   have rj: ∀c,c∈cQ aR++bA→uI c=ρ' c:=fun c hc=>by
    show(if c∈bA then ρ' c else ρ c)=ρ' c
    split
    ·rfl
    ·rename_i hn
     rcases List.mem_append.1 hc with h |h
     ·exact(bR.keep c h).symm
     ·exact absurd h hn
   refine⟨x,hx,x,uI,F',rfl,bR.jo,fun c hc=>if_neg hc,bO C jx F' w',?_,fun b ag=>⟨ag.1,?_⟩,?_,?_,?_,?_⟩
   ·intro b ag
    have vU: ¬C.qj b:=fun⟨c,ch,aa,af⟩=>(hF c ch aa b af).2 ag
    refine⟨⟨Nat.lt_of_lt_of_le (bC b ag) bR.jo.size,.inl ag,fun c ch hc qt=>?_⟩,bR.jo.block b (bC b ag) vU⟩
    rcases(bR.own c ch hc b qt).2 with h |h
    ·exact vU h
    ·have:=bC b ag;exact absurd h.1 (Nat.not_le.2 this)
   ·rcases ag.2.1 with h |h |h
    ·exact .inl h
    ·exact .inr (.inl h)
    ·exact .inr (.inr h.1)
   ·intro c ch hc
    have aq:c∈cQ aR++bA:=by
     have:=List.all_eq_true.1 pR.2 c (gu.2 ⟨ch,hc⟩)
     simpa only[List.contains_iff_mem] using this
    rw[rj c aq]
    exact Holds.cy (Ext.refl _ _) (fun _ _=>rfl) (Nat.le_refl _) ch (fun d hd=>rj d (bw.kQ (zi pR.1.2 hc) hd)) (bR.holds c ch (kO ja hc))
   ·intro c ch hc b ag
    have dm:=kO ja hc
    exact⟨(bR.own c ch dm b ag).1,fun aD=>aD.2.2 c ch dm ag,(bR.own c ch dm b ag).2.imp id fun x=>x.1⟩
   ·exact fun c bS ch ch' b aa af=>bR.e8 c bS ch ch' b (kO ja aa) (kO ja af)
   ·exact b8.mono (Ext.refl _ _) res x (fun c hc=>rj c (aO.kQ pR.1.1 hc)) sg
 ·rw[A6]
  simp only[Nat.zero_le,if_true,Nat.sub_zero]
  cases hs:args[s]? with
  |none=>trivial
  |some v=>
   have bF:s < bW.length:=by rw[hlen];exact(List.getElem?_eq_some_iff.1 hs).1
   simp only[Option.getD_some]
   have hx:bW[s]? =some bW[s]:=List.getElem?_eq_getElem bF
   have:=b8.mono sk v _ (fun _ _=>rfl) (eu s v _ hs hx)
   simpa[Array.getElem?_append,bF,hx] using this
end
end Go.Proofs.YteoamepgonpdlaaGreat
namespace Go.Proofs.YteoamepgonpdlaaGreat
open Go.RowKit
section
variable {ids:List Nat} {K:aQ} {B:aG} {C:Ctx} {ρ:Nat→bq} {F:Nat→Nat→Prop} {w:World}
def Ba (K:aQ):aQ→Prop
 | []=>True
 |(s,v)::l=>s4 (look K s) v∧Ba K l
theorem GO: ∀{K' K:aQ},Ba K K'→ ∀s,s4 (look K s) (look K' s)∨look K' s= .c (.one .any)
 | [],K,h,s=>.inr rfl
 |(t,v)::K',K,h,s=>by
  rw[kJ]
  split
  ·rename_i e
   subst e
   exact .inl h.1
  ·exact GO h.2 s
theorem ah.sub {K':aQ} {B':aG} (hK:Ba K K') (dy:nT B B'):ah ids K B K' B':=by
 rintro N C a w ⟨aa,af,ρ,F,aA,hS⟩
 obtain⟨bR,bz⟩:=aA.step (B':=B') (ρ':=ρ) (F':=F) (w':=w) (fun c=>ax B' c=none) (fun _=>False) (Fr.refl _ _) (fun c ch hc _=>kO dy hc) (fun _ _=>rfl) (fun _ _=>rfl) (fun _ _ h=>h) (fun _ h=>h.elim) (fun _ _ _ _ _ _ h=>h)
  (fun c ch hc hn=>by rw[hn] at hc;cases hc) (fun c ch hc hn=>by rw[hn] at hc;cases hc) (fun c bS ch ch' b hc _ hn=>by rw[hn] at hc;cases hc)
 refine⟨aa,af,ρ,F,bR,fun s=>?_⟩
 rcases GO hK s with h |h
 ·exact b8.mono bz _ _ (fun _ _=>rfl) (xC h (hS s))
 ·rw[h];trivial
def bD.dU (c:Nat) (x:D):bD→bD
 | .own b=>match Nat.beq b c with
  |true=>.d x
  |false=>.own b
 |s=>s
def Dw (c:Nat) (x:D):List bD→List bD
 | []=>[]
 |s::l=>s.dU c x::Dw c x l
def dL.dU (c:Nat) (x:D):dL→dL
 | .one s=>.one (s.dU c x)
 | .agg l=>.agg (Dw c x l)
 | .jM u y=>.jM u y
def GP (c:Nat) (x:D):List dL→List dL
 | []=>[]
 |s::l=>s.dU c x::GP c x l
def aO.dU (c:Nat) (x:D):aO→aO
 | .c s=>.c (s.dU c x)
 | .c6 l=>.c6 (GP c x l)
 | .undef=>.undef
def Dx (c:Nat) (x:D):aQ→aQ
 | []=>[]
 |(s,v)::K=>(s,v.dU c x)::Dx c x K
def bw.dU (c:Nat) (x:D):bw→bw
 | .cells l=>.cells (Dw c x l)
 |ch=>ch
def qu (c:Nat) (x:D):aG→aG
 | []=>[]
 |(b,ch)::B=>match Nat.beq b c with
  |true=>qu c x B
  |false=>(b,ch.dU c x)::qu c x B
theorem L7 {c:Nat} {x:D}: ∀(K:aQ) (s:Nat),look (Dx c x K) s=(look K s).dU c x
 | [],s=>rfl
 |(t,v)::K,s=>by
  simp only[Dx]
  rw[kJ,kJ,L7 K s]
  split <;>rfl
theorem xD {c:Nat} {x:D}: ∀(B:aG) (d:Nat),ax (qu c x B) d=if c=d then none else(ax B d).map (·.dU c x)
 | [],d=>by simp[qu,ax]
 |(b,ch)::B,d=>by
  unfold qu
  split
  ·rename_i e
   have:=Nat.eq_of_beq_eq_true e
   subst this
   rw[xD B d,cD]
   split <;>rfl
  ·rename_i e
   have bg:b≠c:=fun h=>by subst h;simp at e
   rw[cD,cD,xD B d]
   by_cases h:b=d
   ·subst h;rw[if_pos rfl,if_pos rfl,if_neg (Ne.symm bg)];rfl
   ·rw[if_neg h,if_neg h]
section
variable {I I':Nat→Prop} {c:Nat} {x:D}
theorem dN.dU (he:Ext I w I' w) (hx:Den I' w x (ρ c).hdr) (s:bD) (v:Value) (h:dN ρ I w s v):dN ρ I' w (s.dU c x) v:=by
 cases s with
 |own b=>
  unfold bD.dU
  simp only
  split
  ·rename_i e
   have:=Nat.eq_of_beq_eq_true e
   subst this
   rw[show v=_ from h]
   exact hx
  ·exact h
 |d y=>exact dN.mono (ρ':=ρ) he (.d y) v (fun _ _=>rfl) h
 |el u y o=>exact dN.mono (ρ':=ρ) he (.el u y o) v (fun _ _=>rfl) h
 |eM f l=>exact dN.mono (ρ':=ρ) he (.eM f l) v (fun _ _=>rfl) h
 |_=>exact h
theorem bV.dU (he:Ext I w I' w) (hx:Den I' w x (ρ c).hdr): ∀(l:List bD) (vs:List Value),bV ρ I w l vs→bV ρ I' w (Dw c x l) vs
 | [],_,h=>h
 |s::l,_,⟨v,r,e,aa,af⟩=>⟨v,r,e,dN.dU he hx s v aa,bV.dU he hx l r af⟩
theorem fZ.dU (he:Ext I w I' w) (hx:Den I' w x (ρ c).hdr) (s:dL) (v:Value) (h:fZ ρ I w s v):fZ ρ I' w (s.dU c x) v:=by
 cases s with
 |one s=>exact dN.dU he hx s v h
 |agg l=>obtain⟨vs,e,h⟩:=h;exact⟨vs,e,bV.dU he hx l vs h⟩
 |jM u y=>obtain⟨vs,e,aa,af⟩:=h;exact⟨vs,e,aa,b7.mono he u y _ _ (fun _ _ h=>h) af⟩
theorem iN.dU (he:Ext I w I' w) (hx:Den I' w x (ρ c).hdr): ∀(l:List dL) (vs:List Value),iN ρ I w l vs→iN ρ I' w (GP c x l) vs
 | [],_,h=>h
 |s::l,_,⟨v,r,e,aa,af⟩=>⟨v,r,e,fZ.dU he hx s v aa,iN.dU he hx l r af⟩
theorem b8.dU (he:Ext I w I' w) (hx:Den I' w x (ρ c).hdr) (s:aO) (v:Value) (h:b8 ρ I w s v):b8 ρ I' w (s.dU c x) v:=by
 cases s with
 |c s=>exact fZ.dU he hx s v h
 |c6 l=>obtain⟨vs,e,h⟩:=h;exact⟨vs,e,iN.dU he hx l vs h⟩
 |undef=>exact h
end
theorem Mem.dU (aA:Mem ids C B ρ F w) {c:Nat} {e:TypeId} {u:U} {xs:List (aI u)} (hc:ax B c=some (.row e u xs)):
  Mem ids C (qu c (.cT u xs) B) ρ F w∧Ext (bO C B F w) w (bO C (qu c (.cT u xs) B) F w) w∧Den (bO C (qu c (.cT u xs) B) F w) w (.cT u xs) (ρ c).hdr:=by
 have bZ:=aA.holds c _ hc
 have zj: ∀b,bO C B F w b→bO C (qu c (.cT u xs) B) F w b:=fun b ⟨aa,af,ay⟩=>⟨aa,af,fun d ch hd ag=>by
  rw[xD] at hd
  split at hd
  ·cases hd
  ·obtain⟨ch',dO,_⟩:=Option.map_eq_some_iff.1 hd
   exact ay d ch' dO ag⟩
 have oV: ∀b,F c b→bO C (qu c (.cT u xs) B) F w b:=fun b ag=>by
  obtain⟨aa,af⟩:=aA.own c _ hc b ag
  refine⟨aa,.inr af,fun d ch hd dw=>?_⟩
  rw[xD] at hd
  split at hd
  ·cases hd
  ·rename_i bg
   obtain⟨ch',dO,_⟩:=Option.map_eq_some_iff.1 hd
   exact aA.e8 c d _ ch' b hc dO bg ag dw
 have eu:Den (bO C (qu c (.cT u xs) B) F w) w (.cT u xs) (ρ c).hdr:=AT bZ zj oV
 have bz:Ext (bO C B F w) w (bO C (qu c (.cT u xs) B) F w) w:=fun b ag=>⟨zj b ag,rfl⟩
 refine⟨⟨aA.jo,fun d ch hd=>?_,fun d ch hd=>?_,fun d d' ch ch' b hd dO=>?_,aA.keep,aA.marks⟩,bz,eu⟩
 ·rw[xD] at hd
  split at hd
  ·cases hd
  ·obtain⟨ch',dO,rfl⟩:=Option.map_eq_some_iff.1 hd
   have:=aA.holds d ch' dO
   cases ch' with
   |cells l=>
    obtain⟨aa,vs,T,af,ay⟩:=this
    exact⟨aa,vs,T,af,bV.dU bz eu l vs ay⟩
   |row e u xs=>exact Holds.cy bz (fun _ _=>rfl) (Nat.le_refl _) _ (fun _ _=>rfl) this
   |map aN aP es=>exact Holds.cy bz (fun _ _=>rfl) (Nat.le_refl _) _ (fun _ _=>rfl) this
   |val u x=>exact Holds.cy bz (fun _ _=>rfl) (Nat.le_refl _) _ (fun _ _=>rfl) this
   |obj o=>exact Holds.cy bz (fun _ _=>rfl) (Nat.le_refl _) _ (fun _ _=>rfl) this
   |dep d o=>exact Holds.cy bz (fun _ _=>rfl) (Nat.le_refl _) (.dep d o) (fun _ _=>rfl) this
 ·rw[xD] at hd
  split at hd
  ·cases hd
  ·obtain⟨ch',dO,_⟩:=Option.map_eq_some_iff.1 hd
   exact aA.own d ch' dO
 ·rw[xD] at hd dO
  split at hd
  ·cases hd
  ·split at dO
   ·cases dO
   ·obtain⟨aW,aa,_⟩:=Option.map_eq_some_iff.1 hd
    obtain⟨aX,af,_⟩:=Option.map_eq_some_iff.1 dO
    exact aA.e8 d d' aW aX b aa af
theorem ah.dU (c:Nat) {e:TypeId} {u:U} {xs:List (aI u)} (hc:ax B c=some (.row e u xs)):ah ids K B (Dx c (.cT u xs) K) (qu c (.cT u xs) B):=by
 rintro N C a w ⟨aa,af,ρ,F,aA,hS⟩
 obtain⟨bR,bz,hd⟩:=aA.dU hc
 exact⟨aa,af,ρ,F,bR,fun s=>by rw[L7];exact b8.dU bz hd _ _ (hS s)⟩
theorem ah.nil (s c:Nat) (e:TypeId) (u:U) (hs:look K s= .c (.one .ec)) (hf:gz ids K B c=true):ah ids K B ((s,.c (.one (.own c)))::K) ((c,.row e u [])::B):=by
 rintro N C a w ⟨aa,af,ρ,F,aA,hS⟩
 have cr:=lG hf
 obtain⟨bR,bz⟩:=aA.make (ch:=.row e u []) (w':=w) hf (Below.refl _ _) ⟨0,none,0,0⟩ (fun _=>False) (fun b h=>h.elim) (fun I _ _=>⟨fun b=>by simp[bq.hdr,Value.ownBlock],fun b ag=>by simp[bq.hdr,Value.ownBlock] at ag,[],World.ownsRow_nil _ _ _ _,gF.nil u⟩)
 refine⟨aa,af,_,_,bR,fun t=>?_⟩
 rw[kJ]
 split
 ·rename_i e
  subst e
  have:=hS s
  rw[hs] at this
  rw[show a.tmps.getD s undef= .slice none 0 0 from this]
  simp only[b8,fZ,dN,dR,bq.hdr]
 ·exact b8.mono bz _ _ (fun d hd=>dP _ _ (fun e=>by subst e;rw[cr.1 t] at hd;cases hd)) (hS t)
theorem ah.L8 (b j c:Nat) (e:TypeId) (u:U) {l:List bD} (ag:ax B b=some (.cells l)) (au:l[j]? =some .ec) (hf:gz ids K B c=true):ah ids K B K ((b,.cells (l.set j (.own c)))::(c,.row e u [])::B):=by
 rintro N C a w ⟨aa,af,ρ,F,aA,hS⟩
 have cr:=lG hf
 obtain⟨bR,bz⟩:=aA.make (ch:=.row e u []) (w':=w) hf (Below.refl _ _) ⟨0,none,0,0⟩ (fun _=>False) (fun b h=>h.elim) (fun I _ _=>⟨fun b=>by simp[bq.hdr,Value.ownBlock],fun b ag=>by simp[bq.hdr,Value.ownBlock] at ag,[],World.ownsRow_nil _ _ _ _,gF.nil u⟩)
 have Dy:c≠b:=fun e=>by subst e;rw[cr.2.1] at ag;cases ag
 have dw:ax ((c,bw.row e u [])::B) b=some (.cells l):=by rw[cD,if_neg Dy];exact ag
 have bZ:=bR.holds b _ dw
 obtain⟨jR,uJ⟩:=bR.jP (ch:=.cells (l.set j (.own c))) dw (Fr.refl _ _) (fun I he=>by
  obtain⟨g1,vs,T,g2,bL⟩:=bZ
  refine⟨g1,vs,T,g2,?_⟩
  have bL:=bV.mono (ρ':=dA ρ c ⟨0,none,0,0⟩) he l vs (fun _ _=>rfl) bL
  have key: ∀(l:List bD) (vs:List Value) (j:Nat),l[j]? =some .ec→bV (dA ρ c ⟨0,none,0,0⟩) I w l vs→bV (dA ρ c ⟨0,none,0,0⟩) I w (l.set j (.own c)) vs:=fun l=>by
   induction l with
   |nil=>intro vs j au;simp at au
   |cons s l aZ=>
    rintro _ j au ⟨v,r,rfl,cC,cR⟩
    match j with
    |0=>
     simp only[List.getElem?_cons_zero,Option.some.injEq] at au
     subst au
     refine⟨v,r,rfl,?_,cR⟩
     rw[show v= .slice none 0 0 from cC]
     simp only[dN,dR,bq.hdr]
    |j+1=>exact⟨v,r,rfl,cC,aZ r j (by simpa using au) cR⟩
  exact key l vs j au bL)
 refine⟨aa,af,_,_,jR,fun t=>?_⟩
 exact b8.mono (bz.trans uJ) _ _ (fun d hd=>dP _ _ (fun e=>by subst e;rw[cr.1 t] at hd;cases hd)) (hS t)
def Dz (c d:Nat):List kH→List kH
 | []=>[]
 | .p b o::l=>(match Nat.beq b c with
  |true=>.p d o
  |false=>.p b o)::Dz c d l
 | .d x::l=>.d x::Dz c d l
def bD.ren (c d:Nat):bD→bD
 | .ptr b o=>match Nat.beq b c with
  |true=>.ptr d o
  |false=>.ptr b o
 | .own b=>match Nat.beq b c with
  |true=>.own d
  |false=>.own b
 | .fk b s i o=>match Nat.beq b c with
  |true=>.fk d s i o
  |false=>.fk b s i o
 | .os b s o n=>match Nat.beq b c with
  |true=>.os d s o n
  |false=>.os b s o n
 | .mp b=>match Nat.beq b c with
  |true=>.mp d
  |false=>.mp b
 | .eM f l=>.eM f (Dz c d l)
 |s=>s
def DA (c d:Nat):List bD→List bD
 | []=>[]
 |s::l=>s.ren c d::DA c d l
def dL.ren (c d:Nat):dL→dL
 | .one s=>.one (s.ren c d)
 | .agg l=>.agg (DA c d l)
 | .jM u x=>.jM u x
def GQ (c d:Nat):List dL→List dL
 | []=>[]
 |s::l=>s.ren c d::GQ c d l
def aO.ren (c d:Nat):aO→aO
 | .c s=>.c (s.ren c d)
 | .c6 l=>.c6 (GQ c d l)
 | .undef=>.undef
def DB (c d:Nat):aQ→aQ
 | []=>[]
 |(s,v)::K=>(s,v.ren c d)::DB c d K
def bw.ren (c d:Nat):bw→bw
 | .cells l=>.cells (DA c d l)
 | .dep b o=>match Nat.beq b c with
  |true=>.dep d o
  |false=>.dep b o
 |ch=>ch
def vV (c d:Nat):aG→aG
 | []=>[]
 |(b,ch)::B=>match Nat.beq b c with
  |true=>(d,ch.ren c d)::vV c d B
  |false=>(b,ch.ren c d)::vV c d B
theorem L9 {c d:Nat}: ∀(K:aQ) (s:Nat),look (DB c d K) s=(look K s).ren c d
 | [],s=>rfl
 |(t,v)::K,s=>by
  simp only[DB]
  rw[kJ,kJ,L9 K s]
  split <;>rfl
theorem Ma {c d:Nat}: ∀(B:aG),ax B d=none→ ∀b,ax (vV c d B) b=if b=d then(ax B c).map (·.ren c d) else if b=c then none else(ax B b).map (·.ren c d)
 | [],_,b=>by simp[vV,ax]
 |(t,ch)::B,hd,b=>by
  rw[cD] at hd
  have Mb:t≠d:=fun e=>by rw[if_pos e] at hd;cases hd
  rw[if_neg Mb] at hd
  have aZ:=Ma (c:=c) B hd b
  unfold vV
  split
  ·rename_i e
   have:=Nat.eq_of_beq_eq_true e
   subst this
   rw[cD,cD,if_pos rfl,aZ,cD]
   by_cases aa:b=d
   ·subst aa;simp
   ·rw[if_neg (Ne.symm aa),if_neg aa,if_neg aa]
    by_cases af:b=t
    ·rw[if_pos af,if_pos af]
    ·rw[if_neg af,if_neg af,if_neg (Ne.symm af)]
  ·rename_i e
   have bg:t≠c:=fun h=>by subst h;simp at e
   rw[cD,aZ,cD,cD,if_neg bg]
   by_cases aa:b=d
   ·subst aa;rw[if_neg Mb,if_pos rfl,if_pos rfl]
   ·rw[if_neg aa,if_neg aa]
    by_cases af:b=c
    ·subst af;rw[if_neg bg,if_pos rfl,if_pos rfl]
    ·rw[if_neg af,if_neg af]
     by_cases ay:t=b
     ·rw[if_pos ay,if_pos ay];rfl
     ·rw[if_neg ay,if_neg ay]
section
variable {I:Nat→Prop} {c d:Nat}
theorem gZ.ren: ∀(l:List kH) (vs:List Value),l8 d l=false→gZ ρ I w l vs→gZ (dA ρ d (ρ c)) I w (Dz c d l) vs
 | [],_,_,h=>h
 | .p b o::l,_,hd,⟨v,r,e,aa,af⟩=>by
  simp only[l8,Bool.or_eq_false_iff] at hd
  refine⟨v,r,e,?_,gZ.ren l r hd.2 af⟩
  split
  ·rename_i e
   have:=Nat.eq_of_beq_eq_true e
   subst this
   simp only[wY,dR] at aa⊢
   exact aa
  ·simp only[wY] at aa⊢
   rw[dP _ _ (fun e=>by subst e;simp at hd)]
   exact aa
 | .d x::l,_,hd,⟨v,r,e,aa,af⟩=>⟨v,r,e,aa,gZ.ren l r (by simpa[l8] using hd) af⟩
theorem dN.ren (s:bD) (v:Value) (hd:s.has d=false) (h:dN ρ I w s v):dN (dA ρ d (ρ c)) I w (s.ren c d) v:=by
 have key: ∀b,Nat.beq b d=false→(match Nat.beq b c with |true=>dA ρ d (ρ c) d=ρ b |false=>dA ρ d (ρ c) b=ρ b):=fun b ag=>by
  split
  ·rename_i e
   rw[dR,Nat.eq_of_beq_eq_true e]
  ·exact dP _ _ (fun e=>by subst e;simp at ag)
 cases s with
 |ptr b o=>
  have:=key b hd
  unfold bD.ren
  simp only
  split <;>rename_i e <;>rw[e] at this <;>simp only at this <;>simp only[dN] at h⊢ <;>rw[this] <;>exact h
 |own b=>
  have:=key b hd
  unfold bD.ren
  simp only
  split <;>rename_i e <;>rw[e] at this <;>simp only at this <;>simp only[dN] at h⊢ <;>rw[this] <;>exact h
 |fk b s i o=>
  have:=key b hd
  unfold bD.ren
  simp only
  split <;>rename_i e <;>rw[e] at this <;>simp only at this <;>simp only[dN] at h⊢ <;>rw[this] <;>exact h
 |os b s o n=>
  have:=key b hd
  unfold bD.ren
  simp only
  split <;>rename_i e <;>rw[e] at this <;>simp only at this <;>simp only[dN] at h⊢ <;>rw[this] <;>exact h
 |mp b=>
  have:=key b hd
  unfold bD.ren
  simp only
  split <;>rename_i e <;>rw[e] at this <;>simp only at this <;>simp only[dN] at h⊢ <;>rw[this] <;>exact h
 |d y=>exact h
 |el u y o=>exact h
 |eM f l=>obtain⟨vs,e,h⟩:=h;exact⟨vs,e,gZ.ren l vs hd h⟩
 |ec=>exact h
 |raw v=>exact h
 |any=>exact h
theorem bV.ren: ∀(l:List bD) (vs:List Value),nj d l=false→bV ρ I w l vs→bV (dA ρ d (ρ c)) I w (DA c d l) vs
 | [],_,_,h=>h
 |s::l,_,hd,⟨v,r,e,aa,af⟩=>by
  simp only[nj,Bool.or_eq_false_iff] at hd
  exact⟨v,r,e,dN.ren s v hd.1 aa,bV.ren l r hd.2 af⟩
theorem fZ.ren (s:dL) (v:Value) (hd:s.has d=false) (h:fZ ρ I w s v):fZ (dA ρ d (ρ c)) I w (s.ren c d) v:=by
 cases s with
 |one s=>exact dN.ren s v hd h
 |agg l=>obtain⟨vs,e,h⟩:=h;exact⟨vs,e,bV.ren l vs hd h⟩
 |jM u x=>exact h
theorem iN.ren: ∀(l:List dL) (vs:List Value),sY d l=false→iN ρ I w l vs→iN (dA ρ d (ρ c)) I w (GQ c d l) vs
 | [],_,_,h=>h
 |s::l,_,hd,⟨v,r,e,aa,af⟩=>by
  simp only[sY,Bool.or_eq_false_iff] at hd
  exact⟨v,r,e,fZ.ren s v hd.1 aa,iN.ren l r hd.2 af⟩
theorem b8.ren (s:aO) (v:Value) (hd:s.has d=false) (h:b8 ρ I w s v):b8 (dA ρ d (ρ c)) I w (s.ren c d) v:=by
 cases s with
 |c s=>exact fZ.ren s v hd h
 |c6 l=>obtain⟨vs,e,h⟩:=h;exact⟨vs,e,iN.ren l vs hd h⟩
 |undef=>exact h
end
theorem ah.ren (c d:Nat) (hf:gz ids K B d=true):ah ids K B (DB c d K) (vV c d B):=by
 rintro N C a w ⟨aa,af,ρ,F,aA,hS⟩
 obtain⟨f1,f2,f3,f4⟩:=lG hf
 have A0:=Ma (c:=c) (d:=d) B f2
 have back: ∀b ch,ax (vV c d B) b=some ch→ ∃kY cm,ax B kY=some cm∧ch=cm.ren c d∧dA F d (F c) b=F kY∧dA ρ d (ρ c) b=ρ kY∧((b=d∧kY=c)∨(b≠d∧b≠c∧kY=b)):=fun b ch ag=>by
  rw[A0] at ag
  split at ag
  ·rename_i e
   subst e
   obtain⟨cm,h,rfl⟩:=Option.map_eq_some_iff.1 ag
   exact⟨c,cm,h,rfl,dR _ _ _,dR _ _ _,.inl ⟨rfl,rfl⟩⟩
  ·rename_i e
   split at ag
   ·cases ag
   ·rename_i ak
    obtain⟨cm,h,rfl⟩:=Option.map_eq_some_iff.1 ag
    exact⟨b,cm,h,rfl,dP _ _ e,dP _ _ e,.inr ⟨e,ak,rfl⟩⟩
 have bz:Ext (bO C B F w) w (bO C (vV c d B) (dA F d (F c)) w) w:=fun b ⟨cC,cR,fo⟩=>⟨⟨cC,cR,fun e ch he hF=>by
  obtain⟨kY,cm,g1,_,g2,_⟩:=back e ch he
  rw[g2] at hF
  exact fo kY cm g1 hF⟩,rfl⟩
 refine⟨aa,af,dA ρ d (ρ c),dA F d (F c),⟨aA.jo,fun b ch ag=>?_,fun b ch ag x hx=>?_,fun b e5 ch ch' x ag dw bg hx eF=>?_,fun e he=>?_,aA.marks⟩,fun s=>?_⟩
 ·obtain⟨kY,cm,g1,rfl,g2,bL,_⟩:=back b ch ag
  rw[g2,bL]
  have:=aA.holds kY cm g1
  have gR:=f3 kY cm g1
  cases cm with
  |cells l=>
   obtain⟨cz,vs,T,er,eX⟩:=this
   exact⟨cz,vs,T,er,bV.mono bz _ _ (fun _ _=>rfl) (bV.ren l vs gR eX)⟩
  |row e u xs=>exact Holds.cy (ρ':=ρ) bz (fun _ _=>rfl) (Nat.le_refl _) (.row e u xs) (fun _ _=>rfl) this
  |map aN aP es=>exact Holds.cy (ρ':=ρ) bz (fun _ _=>rfl) (Nat.le_refl _) (.map aN aP es) (fun _ _=>rfl) this
  |val u x=>exact Holds.cy (ρ':=ρ) bz (fun _ _=>rfl) (Nat.le_refl _) (.val u x) (fun _ _=>rfl) this
  |obj o=>exact Holds.cy (ρ':=ρ) bz (fun _ _=>rfl) (Nat.le_refl _) (.obj o) (fun _ _=>rfl) this
  |dep j o=>
   have af:=Holds.cy (ρ':=ρ) bz (fun _ _=>rfl) (Nat.le_refl _) (.dep j o) (fun _ _=>rfl) this
   unfold bw.ren
   simp only
   split
   ·rename_i e
    have:=Nat.eq_of_beq_eq_true e
    subst this
    simp only[Holds,dR] at af⊢
    exact af
   ·have au:j≠d:=fun e=>by subst e;simp[bw.has] at gR
    simp only[Holds] at af⊢
    rw[dP _ _ au]
    exact af
 ·obtain⟨kY,cm,g1,_,g2,_⟩:=back b ch ag
  rw[g2] at hx
  exact aA.own kY cm g1 x hx
 ·obtain⟨kY,cm,g1,_,g2,_,gH⟩:=back b ch ag
  obtain⟨b1,kM,cz,_,er,_,gi⟩:=back e5 ch' dw
  rw[g2] at hx
  rw[er] at eF
  refine aA.e8 kY b1 cm kM x g1 cz (fun e=>?_) hx eF
  subst e
  rcases gH with⟨aj,ak⟩ |⟨aj,ak,bf⟩ <;>rcases gi with⟨cF,eY⟩ |⟨cF,eY,iH⟩
  ·exact bg (aj.trans cF.symm)
  ·exact eY (iH.symm.trans ak)
  ·exact ak (bf.symm.trans eY)
  ·exact bg (bf.symm.trans iH)
 ·rw[dP _ _ (fun e'=>by subst e';exact f4 he)]
  exact aA.keep e he
 ·rw[L9]
  exact b8.mono bz _ _ (fun _ _=>rfl) (b8.ren _ _ (f1 s) (hS s))
end
theorem av.go {P:Program} {tt:cY} {N:Nat} {ids:List Nat} {K K':aQ} {B B':aG} {Q:oQ→aQ→aG→Prop} {c:Code} (bh:dQ P tt) (cq:zf P tt N ids) (stops:List Nat) (hc:kP P N c=true) (h:ah ids K B K' B') (cc:vc P tt N ids stops c K' B' Q):av P N ids c K B Q:=
 av.le h (zg bh cq stops c K' B' Q hc cc)
end Go.Proofs.YteoamepgonpdlaaGreat
namespace Go.Proofs.YteoamepgonpdlaaGreat
open Go.RowKit
section fold
variable {T mP V:Type} (get:mP→Nat→V) (ap:T→mP→mP) (uK:T→Nat→Prop)
def ff (m:Nat→Bool):Nat→List T→mP→mP
 |_,[],x=>x
 |i,t::l,x=>ff m (i+1) l (if m i then ap t x else x)
variable (aa: ∀t x s,¬uK t s→get (ap t x) s=get x s) (af: ∀t x y s,get x s=get y s→get (ap t x) s=get (ap t y) s)
include aa af in
theorem zk (m m':Nat→Bool) (s:Nat): ∀(l:List T) (i:Nat) (x y:mP),(∀j t,l[j]? =some t→uK t s→m (i+j)=m' (i+j))→get x s=get y s→get (ff ap m i l x) s=get (ff ap m' i l y) s
 | [],i,x,y,_,he=>he
 |t::l,i,x,y,h,he=>by
  unfold ff
  refine zk m m' s l (i+1) _ _ (fun j u au hu=>by rw[show i+1+j=i+(j+1) by omega];exact h (j+1) u (by simpa using au) hu) ?_
  by_cases cc:uK t s
  ·have:=h 0 t rfl cc
   rw[Nat.add_zero] at this
   rw[this]
   split
   ·exact af t x y s he
   ·exact he
  ·have aj:get (if m i then ap t x else x) s=get x s:=by split;exact aa t x s cc;rfl
   have ak:get (if m' i then ap t y else y) s=get y s:=by split;exact aa t y s cc;rfl
   rw[aj,ak,he]
include aa af in
theorem GR (m:Nat→Bool) (k:Nat) (s:Nat): ∀(l:List T) (i:Nat) (x:mP) (t:T),l[k]? =some t→m (i+k)=false→(∀j u,k < j→l[j]? =some u→m (i+j)=true→uK t s→ ¬uK u s)→
  get (ff ap (fun j=>m j||j == i+k) i l x) s=get (ap t (ff ap m i l x)) s
 | [],i,x,t,aq,_,_=>by simp at aq
 |u::l,i,x,t,aq,hm,aB=>by
  unfold ff
  match k with
  |0=>
   simp only[List.getElem?_cons_zero,Option.some.injEq] at aq
   subst aq
   rw[Nat.add_zero] at hm
   simp only[Nat.add_zero,hm,BEq.rfl,Bool.or_true,if_true,Bool.false_eq_true,if_false]
   by_cases cc:uK u s
   ·
    have aj: ∀y,get (ff ap (fun j=>m j||j == i) (i+1) l y) s=get (ff ap (fun _=>false) (i+1) l y) s:=fun y=>
     zk get ap uK aa af _ _ s l (i+1) y y (fun j v au hv=>by
      have bg:(i+1+j == i)=false:=by rw[beq_eq_false_iff_ne];omega
      rw[bg,Bool.or_false]
      cases od:m (i+1+j) with
      |false=>rfl
      |true=>exact absurd hv (aB (j+1) v (by omega) (by simpa using au) (by rw[show i+(j+1)=i+1+j by omega];exact od) cc)) rfl
    have ak: ∀y,get (ff ap m (i+1) l y) s=get (ff ap (fun _=>false) (i+1) l y) s:=fun y=>
     zk get ap uK aa af _ _ s l (i+1) y y (fun j v au hv=>by
      cases od:m (i+1+j) with
      |false=>rfl
      |true=>exact absurd hv (aB (j+1) v (by omega) (by simpa using au) (by rw[show i+(j+1)=i+1+j by omega];exact od) cc)) rfl
    have bf: ∀(l:List T) (i:Nat) (y:mP),ff ap (fun _=>false) i l y=y:=fun l=>by
     induction l with
     |nil=>exact fun _ _=>rfl
     |cons v l aZ=>intro i y;unfold ff;simp[aZ]
    rw[aj,bf]
    exact af u x _ s (by rw[ak,bf])
   ·rw[aa u _ s cc]
    exact zk get ap uK aa af _ _ s l (i+1) _ _ (fun j v au hv=>by
     have bg:(i+1+j == i)=false:=by rw[beq_eq_false_iff_ne];omega
     rw[bg,Bool.or_false]) (aa u x s cc)
  |k+1=>
   have bg:(i == i+(k+1))=false:=by rw[beq_eq_false_iff_ne];omega
   simp only[bg,Bool.or_false]
   have:=GR m k s l (i+1) (if m i=true then ap u x else x) t (by simpa using aq) (by rw[show i+1+k=i+(k+1) by omega];exact hm) (fun j v au hv Tt cc=>aB (j+1) v (by omega) (by simpa using hv) (by rw[show i+(j+1)=i+1+j by omega];exact Tt) cc)
   rw[←this]
   have e:(fun j=>m j||j == i+1+k)=(fun j=>m j||j == i+(k+1)):=by
    funext j
    rw[show i+1+k=i+(k+1) by omega]
   rw[e]
end fold
section
variable {P:Program} {tt:cY} {N:Nat} {ids:List Nat}
abbrev gS:=Oper×kK
def gT (t:gS) (K:aQ):aQ:=mL t.1.dst t.2.v K
def jy (t:gS) (B:aG):aG:=fe t.2.e.wc B
def DC (t:gS) (s:Nat):Prop:=t.1.dst=some s
def Mc (t:gS) (s:Nat):Prop:=s∈Da t.2.e
theorem Md (t:gS) (K:aQ) (s:Nat) (h: ¬DC t s):look (gT t K) s=look K s:=by
 unfold gT mL
 unfold DC at h
 split
 ·rename_i d e
  rw[kJ,if_neg (fun x=>h (by rw[e,x]))]
 ·rfl
theorem Me (t:gS) (K K':aQ) (s:Nat) (h:look K s=look K' s):look (gT t K) s=look (gT t K') s:=by
 unfold gT mL
 split
 ·rw[kJ,kJ,h]
 ·exact h
theorem DD: ∀(l:List (Nat×Option bw)) (B B':aG) (s:Nat),ax B s=ax B' s→ax (fe l B) s=ax (fe l B') s
 | [],B,B',s,h=>h
 |(c,none)::l,B,B',s,h=>DD l _ _ s (by rw[j7,j7,h])
 |(c,some ch)::l,B,B',s,h=>DD l _ _ s (by rw[cD,cD,h])
theorem DE: ∀(l:List (Nat×Option bw)) (B:aG) (s:Nat),s∉l.map (·.1)→ax (fe l B) s=ax B s
 | [],B,s,h=>rfl
 |(c,none)::l,B,s,h=>by
  simp only[List.map_cons,List.mem_cons,not_or] at h
  unfold fe
  rw[DE l _ s h.2,j7,if_neg (Ne.symm h.1)]
 |(c,some ch)::l,B,s,h=>by
  simp only[List.map_cons,List.mem_cons,not_or] at h
  unfold fe
  rw[DE l _ s h.2,cD,if_neg (Ne.symm h.1)]
theorem Sat.congr {C:Ctx} {K K':aQ} {B B':aG} {a:Act} {w:World} (hK: ∀s,look K' s=look K s) (dy: ∀c,ax B' c=ax B c) (h:Sat N ids C K B a w):Sat N ids C K' B' a w:=by
 obtain⟨aa,af,ρ,F,aA,hS⟩:=h
 have bC:bO C B' F w=bO C B F w:=by
  funext b
  simp only[bO,dy]
 refine⟨aa,af,ρ,F,⟨aA.jo,fun c ch hc=>?_,fun c ch hc=>aA.own c ch (by rw[←dy];exact hc),fun c bS ch ch' b hc dm=>aA.e8 c bS ch ch' b (by rw[←dy];exact hc) (by rw[←dy];exact dm),aA.keep,aA.marks⟩,fun s=>?_⟩
 ·rw[bC];exact aA.holds c ch (by rw[←dy];exact hc)
 ·rw[bC,hK];exact hS s
def DF (P:Program) (N:Nat) (ids:List Nat) (all:List Oper) (t:gS) (K:aQ) (B:aG):Prop:=
 (wants all K t.1.guard=some false∧t.2.v= .undef∧t.2.e=bx)∨(wants all K t.1.guard=some true∧bH P N ids t.1 K B t.2.v t.2.e∧ ∀c,c∈t.2.e.bA→gz ids K B c=true)
theorem bH.lit {o:Oper} {K:aQ} {B:aG} {b:Bool} {e:fA} (h:bH P N ids o K B (.c (.one (.d (.bool b)))) e):bH P N ids o K B (.c (.one (.d (.lit b)))) e:=by
 intro K' B' g1 g2 bL C a w hs bF fl Q hK
 refine h K' B' g1 g2 bL C a w hs bF fl Q fun a' w' dM=>hK a' w' ?_
 cases hd:o.dst with
 |none=>rw[hd] at dM;exact dM
 |some d=>rw[hd] at dM;exact dM.lit
theorem bH.any {o:Oper} {K:aQ} {B:aG} {v v':aO} {e:fA} (hd:o.dst=none) (h:bH P N ids o K B v e):bH P N ids o K B v' e:=by
 intro K' B' g1 g2 bL C a w hs bF fl Q hK
 refine h K' B' g1 g2 bL C a w hs bF fl Q fun a' w' dM=>hK a' w' ?_
 rw[hd] at dM⊢
 exact dM
def Bb (P:Program) (N:Nat) (ids:List Nat) (all:List Oper):List gS→aQ→aG→Prop
 | [],_,_=>True
 |t::l,K,B=>DF P N ids all t K B∧Bb P N ids all l (gT t K) (jy t B)
def runK:List gS→aQ→aQ
 | [],K=>K
 |t::l,K=>runK l (gT t K)
def zl:List gS→aG→aG
 | [],B=>B
 |t::l,B=>zl l (jy t B)
theorem Mf (bh:dQ P tt) (all:List Oper): ∀(l:List Oper) (i:Nat) (K:aQ) (B:aG) (log:List kK) (k:aQ→aG→List kK→Prop),vcs P tt ids all i l K B log k→
  ∃ts:List gS,ts.map (·.1)=l∧Bb P N ids all ts K B∧k (runK ts K) (zl ts B) ((ts.map (·.2)).reverse++log)
 | [],i,K,B,log,k,h=>⟨[],rfl,trivial,h⟩
 |o::l,i,K,B,log,k,h=>by
  have fin: ∀(n:kK),DF P N ids all (o,n) K B→vcs P tt ids all (i+1) l (gT (o,n) K) (jy (o,n) B) (n::log) k→ ∃ts:List gS,ts.map (·.1)=o::l∧Bb P N ids all ts K B∧k (runK ts K) (zl ts B) ((ts.map (·.2)).reverse++log):=fun n hn hv=>by
   obtain⟨ts,aa,af,ay⟩:=Mf bh all l (i+1) _ _ _ k hv
   exact⟨(o,n)::ts,by simp[aa],⟨hn,af⟩,by simpa[runK,zl] using ay⟩
  rw[K1] at h
  unfold C9 at h
  split at h
  ·exact h.elim
  ·rename_i hw
   split at h
   ·rename_i d e
    exact fin ⟨i,.undef,bx⟩ (.inl ⟨hw,rfl,rfl⟩) (by simpa[gT,jy,mL,e,fe] using h)
   ·rename_i e
    exact fin ⟨i,.undef,bx⟩ (.inl ⟨hw,rfl,rfl⟩) (by simpa[gT,jy,mL,e,fe] using h)
  ·rename_i hw
   obtain⟨v,e,h,aV,hf⟩:=A2 (N:=N) bh h
   split at h
   ·rename_i ak
    exact fin ⟨i,.undef,e⟩ (.inr ⟨hw,bH.any ak aV,hf⟩) (by simpa[gT,jy,mL,ak] using h)
   ·rename_i d ak
    split at h
    ·rename_i b bk
     cases b with
     |true=>exact fin ⟨i,.c (.one (.d (.lit true))),e⟩ (.inr ⟨hw,aV.lit,hf⟩) (by simpa[gT,jy,mL,ak] using h.1 rfl)
     |false=>exact fin ⟨i,.c (.one (.d (.lit false))),e⟩ (.inr ⟨hw,aV.lit,hf⟩) (by simpa[gT,jy,mL,ak] using h.2 rfl)
    ·exact fin ⟨i,_,e⟩ (.inr ⟨hw,aV,hf⟩) (by simpa[gT,jy,mL,ak] using h)
theorem Mg {all:List Oper}: ∀(ts:List gS) (i:Nat) (K:aQ) (B:aG),Bb P N ids all ts K B→ ∀(p:Nat) (t:gS),ts[p]? =some t→DF P N ids all t (ff gT (fun j=>decide (j < i+p)) i ts K) (ff jy (fun j=>decide (j < i+p)) i ts B)
 | [],i,K,B,_,p,t,hp=>by simp at hp
 |u::ts,i,K,B,h,0,t,hp=>by
  simp only[List.getElem?_cons_zero,Option.some.injEq] at hp
  subst hp
  have bf: ∀{mP:Type} (ap:gS→mP→mP) (l:List gS) (q:Nat) (y:mP),i≤q→ff ap (fun j=>decide (j < i+0)) q l y=y:=fun {mP} ap l=>by
   induction l with
   |nil=>exact fun _ _ _=>rfl
   |cons v l aZ=>
    intro q y bp
    unfold ff
    rw[aZ (q+1) _ (by omega)]
    simp only[decide_eq_true_eq]
    rw[if_neg (by omega)]
  rw[bf gT _ i K (Nat.le_refl _),bf jy _ i B (Nat.le_refl _)]
  exact h.1
 |u::ts,i,K,B,h,p+1,t,hp=>by
  have:=Mg ts (i+1) _ _ h.2 p t (by simpa using hp)
  unfold ff
  simp only[decide_eq_true_eq]
  rw[if_pos (by omega),if_pos (by omega)]
  rw[show i+(p+1)=i+1+p by omega]
  exact this
theorem Mh: ∀(ts:List gS) (i:Nat) (m:Nat→Bool) (K:aQ),(∀j,j < ts.length→m (i+j)=true)→runK ts K=ff gT m i ts K
 | [],_,_,_,_=>rfl
 |t::ts,i,m,K,h=>by
  unfold runK ff
  rw[if_pos (by simpa using h 0 (by simp))]
  exact Mh ts (i+1) m _ fun j au=>by rw[show i+1+j=i+(j+1) by omega];exact h (j+1) (by simpa using au)
theorem Mi: ∀(ts:List gS) (i:Nat) (m:Nat→Bool) (B:aG),(∀j,j < ts.length→m (i+j)=true)→zl ts B=ff jy m i ts B
 | [],_,_,_,_=>rfl
 |t::ts,i,m,B,h=>by
  unfold zl ff
  rw[if_pos (by simpa using h 0 (by simp))]
  exact Mi ts (i+1) m _ fun j au=>by rw[show i+1+j=i+(j+1) by omega];exact h (j+1) (by simpa using au)
theorem Mj {c:Nat}: ∀(ts:List gS) (i:Nat) (m:Nat→Bool) (K:aQ),uv c K=true→(∀(j:Nat) (t:gS),ts[j]? =some t→m (i+j)=true→named t.2 c=false)→uv c (ff gT m i ts K)=true
 | [],_,_,_,h,_=>h
 |t::ts,i,m,K,h,hm=>by
  unfold ff
  refine Mj ts (i+1) m _ ?_ fun j u au hu=>hm (j+1) u (by simpa using au) (by rw[show i+(j+1)=i+1+j by omega];exact hu)
  split
  ·rename_i aD
   have:=hm 0 t rfl (by simpa using aD)
   simp only[named,Bool.or_eq_false_iff] at this
   unfold gT mL
   split
   ·simp[uv,this.1,h]
   ·exact h
  ·exact h
theorem GS {c:Nat}: ∀(B:aG) (d:Nat),nk c B=true→nk c (ia B d)=true
 | [],d,h=>h
 |(t,v)::B,d,h=>by
  simp only[nk,Bool.and_eq_true] at h
  unfold ia
  split
  ·exact GS B d h.2
  ·simp[nk,h.1,GS B d h.2]
theorem GU {c:Nat}: ∀(l:List (Nat×Option bw)) (B:aG),yV c l=false→nk c B=true→nk c (fe l B)=true
 | [],B,_,h=>h
 |(d,none)::l,B,aB,h=>by
  simp only[yV,Bool.or_eq_false_iff] at aB
  exact GU l _ aB.2 (GS B d h)
 |(d,some ch)::l,B,aB,h=>by
  simp only[yV,Bool.or_eq_false_iff] at aB
  exact GU l _ aB.2 (by simp[nk,aB.1.1,aB.1.2,h])
theorem Mk {c:Nat}: ∀(ts:List gS) (i:Nat) (m:Nat→Bool) (B:aG),nk c B=true→(∀(j:Nat) (t:gS),ts[j]? =some t→m (i+j)=true→named t.2 c=false)→nk c (ff jy m i ts B)=true
 | [],_,_,_,h,_=>h
 |t::ts,i,m,B,h,hm=>by
  unfold ff
  refine Mk ts (i+1) m _ ?_ fun j u au hu=>hm (j+1) u (by simpa using au) (by rw[show i+(j+1)=i+1+j by omega];exact hu)
  split
  ·rename_i aD
   have:=hm 0 t rfl (by simpa using aD)
   simp only[named,Bool.or_eq_false_iff] at this
   exact GU _ _ this.2 h
  ·exact h
def xE (all:List Oper) (m:Nat→Bool):Prop:= ∀(j:Nat) (o:Oper),all[j]? =some o→m j=true→ ∀d∈qm o,m d=true
theorem Ml (all:List Oper): ∀(l pre:List Oper) (acc:List (List Nat)),all=pre++l→acc.length=pre.length→(∀j a,a∈acc.getD j []→ ∀m,xE all m→m j=true→m a=true)→ ∀j a,a∈(yU l acc).getD j []→ ∀m,xE all m→m j=true→m a=true
 | [],pre,acc,_,_,h=>h
 |o::l,pre,acc,he,aB,h=>by
  unfold yU
  refine Ml all l (pre++[o]) _ (by simp[he]) (by simp[aB]) ?_
  intro j a ha m hm au
  rw[List.getD_eq_getElem?_getD] at ha
  rcases Nat.lt_trichotomy j acc.length with bF |heq |uC
  ·rw[List.getElem?_append_left bF,←List.getD_eq_getElem?_getD] at ha
   exact h j a ha m hm au
  ·subst heq
   rw[List.getElem?_append_right (Nat.le_refl _)] at ha
   simp only[Nat.sub_self,List.getElem?_cons_zero,Option.getD_some,List.mem_append,List.mem_flatMap] at ha
   have az:all[acc.length]? =some o:=by rw[he,aB];simp
   rcases ha with ha |⟨d,hd,ha⟩
   ·exact hm _ o az au a ha
   ·exact h d a ha m hm (hm _ o az au d hd)
  ·rw[List.getElem?_eq_none (by simp;omega)] at ha
   simp at ha
theorem GV {all:List Oper} {an:List (List Nat)}: ∀(L:List (Oper×kK×Nat)),uz all an L=true→ ∀(i j:Nat) (x y:Oper×kK×Nat),i < j→L[i]? =some x→L[j]? =some y→((an.getD y.2.2 []).contains x.2.2&& !y.2.1.e.bA.any (named x.2.1)||apart all x.1 y.1 x.2.1 y.2.1)=true
 | [],_,i,j,x,y,_,hx,_=>by simp at hx
 |z::L,h,0,j+1,x,y,_,hx,aF=>by
  simp only[List.getElem?_cons_zero,Option.some.injEq] at hx
  subst hx
  obtain⟨o,n,i⟩:=z
  simp only[uz,Bool.and_eq_true] at h
  have:=List.all_eq_true.1 h.1 y (List.mem_of_getElem? (by simpa using aF))
  obtain⟨p,m,tv⟩:=y
  exact this
 |z::L,h,i+1,j+1,x,y,bF,hx,aF=>by
  obtain⟨o,n,k⟩:=z
  simp only[uz,Bool.and_eq_true] at h
  exact GV L h.2 i j x y (by omega) (by simpa using hx) (by simpa using aF)
 |z::L,h,i,0,x,y,bF,hx,aF=>by omega
theorem zm {a b:List Nat} (h:meets a b=false) {x:Nat} (aa:x∈a) (af:x∈b):False:=by
 unfold meets at h
 rw[List.any_eq_false] at h
 have:=h x aa
 simp at this
 exact this af
theorem Mm {a:List Nat} {f:Nat→Bool} (h:a.any f=false) {x:Nat} (aa:x∈a):f x=false:=by
 rw[List.any_eq_false] at h
 simpa using h x aa
theorem Tu {all:List Oper} {lK:aQ} {mQ:aG} {ts:List gS} (iP:ts.map (·.1)=all) (dh:Bb P N ids all ts lK mQ) (dz:indep lK mQ all ((ts.map (·.2)).reverse++[])=true) {m:Nat→Bool} (hm:xE all m) {i:Nat} {t:gS} (aD:ts[i]? =some t) (uL:m i=false) (DG: ∀d∈qm t.1,m d=true):
  DF P N ids all t (ff gT m 0 ts lK) (ff jy m 0 ts mQ)∧(∀s,look (ff gT (fun j=>m j||j == i) 0 ts lK) s=look (gT t (ff gT m 0 ts lK)) s)∧(∀s,ax (ff jy (fun j=>m j||j == i) 0 ts mQ) s=ax (jy t (ff jy m 0 ts mQ)) s)∧
  (∀d∈qm t.1,d < i):=by
 simp only[indep,List.append_nil,List.reverse_reverse,Bool.and_eq_true] at dz
 obtain⟨⟨Tv,Bc⟩,Mn⟩:=dz
 have uM: ∀(j:Nat) (u:gS),ts[j]? =some u→all[j]? =some u.1:=fun j u au=>by rw[←iP,List.getElem?_map,au];rfl
 have cG: ∀(j:Nat) (u:gS),ts[j]? =some u→(((all.zip (ts.map (·.2))).zipIdx).map fun((o,n),i)=>(o,n,i))[j]? =some (u.1,u.2,j):=fun j u au=>by
  have aS:(all.zip (ts.map (·.2)))[j]? =some (u.1,u.2):=by
   rw[List.getElem?_zip_eq_some]
   exact⟨uM j u au,by rw[List.getElem?_map,au];rfl⟩
  rw[List.getElem?_map,List.getElem?_zipIdx,aS]
  simp
 have Tw: ∀d∈qm t.1,d < i:=fun d hd=>by
  have kR:(t.1,i)∈all.zipIdx:=by
   rw[List.mem_iff_getElem?]
   exact⟨i,by rw[List.getElem?_zipIdx,uM i t aD];simp⟩
  have:=List.all_eq_true.1 Tv _ kR
  have:=List.all_eq_true.1 this d hd
  simpa[Nat.blt_eq] using this
 have Mo:=Ml all all [] [] (by simp) rfl (fun j a ha=>by simp at ha)
 have Tx:xE all (fun j=>m j||j == i):=fun j o az au d hd=>by
  simp only[Bool.or_eq_true,beq_iff_eq] at au⊢
  rcases au with au |rfl
  ·exact .inl (hm j o az au d hd)
  ·rw[uM j t aD] at az
   injection az with az
   subst az
   exact .inl (DG d hd)
 have early: ∀(j:Nat) (u:gS),ts[j]? =some u→j < i→(apart all u.1 t.1 u.2 t.2=true∨m j=true)∧t.2.e.bA.any (named u.2)=false:=fun j u au bF=>by
  have:=GV _ Mn j i _ _ bF (cG j u au) (cG i t aD)
  simp only[Bool.or_eq_true,Bool.and_eq_true,Bool.not_eq_true',List.contains_iff_mem] at this
  rcases this with⟨aa,af⟩ |h
  ·refine⟨.inr ?_,af⟩
   have:=Mo i j aa _ Tx (by simp)
   simp only[Bool.or_eq_true,beq_iff_eq] at this
   rcases this with h |h
   ·exact h
   ·omega
  ·refine⟨.inl h,?_⟩
   simp only[apart,Bool.and_eq_true,Bool.not_eq_true'] at h
   exact h.2
 have late: ∀(j:Nat) (u:gS),ts[j]? =some u→i < j→apart all t.1 u.1 t.2 u.2=true∨m j=false:=fun j u au bF=>by
  have:=GV _ Mn i j _ _ bF (cG i t aD) (cG j u au)
  simp only[Bool.or_eq_true,Bool.and_eq_true,List.contains_iff_mem] at this
  rcases this with⟨aa,_⟩ |h
  ·right
   cases od:m j with
   |false=>rfl
   |true=>have:=Mo j i aa m hm od;rw[uL] at this;cases this
  ·exact .inl h
 have Mp: ∀s,s∈C' all t.1→look (ff gT m 0 ts lK) s=look (ff gT (fun j=>decide (j < 0+i)) 0 ts lK) s:=fun s hs=>
  zk look gT DC Md Me _ _ s ts 0 lK lK (fun j u au hu=>by
   rw[Nat.zero_add,Nat.zero_add]
   have Mq:s∈u.1.dst.toList:=by rw[show u.1.dst=some s from hu];simp
   rcases Nat.lt_trichotomy j i with h |h |h
   ·simp only[h,decide_true]
    refine((early j u au h).1).resolve_left fun ha=>?_
    simp only[apart,Bool.and_eq_true,Bool.not_eq_true'] at ha
    exact zm ha.1.1.1.1.1 Mq (List.mem_append_left _ hs)
   ·subst h;simp[uL]
   ·rw[show decide (j < i)=false by simp;omega]
    refine(late j u au h).resolve_left fun ha=>?_
    simp only[apart,Bool.and_eq_true,Bool.not_eq_true'] at ha
    exact zm ha.1.1.1.1.2 Mq hs) rfl
 have Ty: ∀c,c∈t.2.e.rc→ax (ff jy m 0 ts mQ) c=ax (ff jy (fun j=>decide (j < 0+i)) 0 ts mQ) c:=fun c hc=>
  zk ax jy Mc (fun t x s h=>DE _ _ _ h) (fun t x y s h=>DD _ _ _ _ h) _ _ c ts 0 mQ mQ (fun j u au hu=>by
   rw[Nat.zero_add,Nat.zero_add]
   rcases Nat.lt_trichotomy j i with h |h |h
   ·simp only[h,decide_true]
    refine((early j u au h).1).resolve_left fun ha=>?_
    simp only[apart,Bool.and_eq_true,Bool.not_eq_true'] at ha
    exact zm ha.1.1.1.2 hu (List.mem_append_left _ hc)
   ·subst h;simp[uL]
   ·rw[show decide (j < i)=false by simp;omega]
    refine(late j u au h).resolve_left fun ha=>?_
    simp only[apart,Bool.and_eq_true,Bool.not_eq_true'] at ha
    exact zm ha.1.1.2 hu hc) rfl
 refine⟨?_,fun s=>?_,fun s=>?_,Tw⟩
 ·have mR:=Mg ts 0 lK mQ dh i t aD
  have hw:wants all (ff gT m 0 ts lK) t.1.guard=wants all (ff gT (fun j=>decide (j < 0+i)) 0 ts lK) t.1.guard:=by
   unfold wants
   cases bk:t.1.guard with
   |none=>rfl
   |some p=>
    obtain⟨j,want⟩:=p
    simp only
    cases hs:AM all j with
    |none=>rfl
    |some s=>
     simp only
     rw[Mp s (by unfold C';rw[bk];simp[hs])]
  rcases mR with⟨aa,af,ay⟩ |⟨aa,af,ay⟩
  ·exact .inl ⟨hw.trans aa,af,ay⟩
  ·refine .inr ⟨hw.trans aa,?_,fun c hc=>?_⟩
   ·intro K' B' g1 g2 bL
    refine af K' B' (fun x hx=>(g1 x hx).trans ?_) (fun c hc=>(g2 c hc).trans (Ty c hc)) bL
    cases x with
    |tmp s=>exact Mp s (List.mem_append_left _ (List.mem_filterMap.2 ⟨.tmp s,by simpa using hx,rfl⟩))
    |_=>rfl
   ·have hf:=ay c hc
    simp only[gz,Bool.and_eq_true] at hf⊢
    have xp:=List.all_eq_true.1 Bc t.2 (List.mem_map.2 ⟨t,List.mem_of_getElem? aD,rfl⟩)
    have xp:=List.all_eq_true.1 xp c hc
    simp only[Bool.and_eq_true] at xp
    have gR: ∀(j:Nat) (u:gS),ts[j]? =some u→m (0+j)=true→named u.2 c=false:=fun j u au od=>by
     rw[Nat.zero_add] at od
     rcases Nat.lt_trichotomy j i with h |h |h
     ·exact Mm (early j u au h).2 hc
     ·subst h;rw[uL] at od;cases od
     ·rcases late j u au h with ha |ha
      ·simp only[apart,Bool.and_eq_true,Bool.not_eq_true'] at ha
       exact Mm ha.1.2 hc
      ·rw[od] at ha;cases ha
    exact⟨⟨Mj ts 0 m lK xp.1 gR,Mk ts 0 m mQ xp.2 gR⟩,hf.2⟩
 ·have:=GR look gT DC Md Me m i s ts 0 lK t aD (by simpa using uL) (fun j u bF au od aa af=>by
   rw[Nat.zero_add] at od
   rcases late j u au bF with ha |ha
   ·simp only[apart,Bool.and_eq_true,Bool.not_eq_true'] at ha
    exact zm (x:=s) ha.1.1.1.1.1 (by rw[show t.1.dst=some s from aa];simp) (List.mem_append_right _ (by rw[show u.1.dst=some s from af];simp))
   ·rw[od] at ha;cases ha)
  simpa using this
 ·have:=GR ax jy Mc (fun t x s h=>DE _ _ _ h) (fun t x y s h=>DD _ _ _ _ h) m i s ts 0 mQ t aD (by simpa using uL) (fun j u bF au od aa af=>by
   rw[Nat.zero_add] at od
   rcases late j u au bF with ha |ha
   ·simp only[apart,Bool.and_eq_true,Bool.not_eq_true'] at ha
    exact zm ha.1.1.1.2 aa (List.mem_append_right _ af)
   ·rw[od] at ha;cases ha)
  simpa using this
theorem aJ (bh:dQ P tt):zf P tt N ids:=by
 intro id ops lK mQ k hd Tz h C a w hs rd Q uN
 refine wpIn_region_any Tz ?_
 obtain⟨ts,iP,dh,dz,aq⟩:=Mf (N:=N) bh ops.toList ops.toList 0 lK mQ [] _ h
 have hlen:ts.length=ops.size:=by
  have:=congrArg List.length iP
  simpa using this
 have uM: ∀(j:Nat) (u:gS),ts[j]? =some u→ops.toList[j]? =some u.1:=fun j u au=>by rw[←iP,List.getElem?_map,au];rfl
 have Mr: ∀(j:Nat) (u:gS),ts[j]? =some u→(∀d,u.1.dst=some d→d < N)∧ ∀c,u.1.op≠ .defer c:=fun j u au=>by
  have key: ∀(l:List Oper),qs N l=true→ ∀o∈l,(∀d,o.dst=some d→d < N)∧ ∀c,o.op≠ .defer c:=fun l=>by
   induction l with
   |nil=>intro _ o az;cases az
   |cons x l aZ=>
    intro hx o az
    simp only[qs,Bool.and_eq_true] at hx
    rcases List.mem_cons.1 az with rfl |az
    ·exact⟨fun d hd=>by have hx:=hx.1.1;rw[hd] at hx;simpa[Nat.blt_eq] using hx,Dt hx.1.2⟩
    ·exact aZ hx.2 o az
  exact key _ hd u.1 (List.mem_of_getElem? (uM j u au))
 have bF: ∀(j:Nat) (u:gS),ts[j]? =some u→ ∀d,u.1.dst=some d→d < N:=fun j u au=>(Mr j u au).1
 have main: ∀(fuel:Nat) (fN:Array Bool) (a:Act) (w:World),fN.size=ops.size→fN.toList.count false≤fuel→xE ops.toList (fun j=>fN.getD j false)→
   Sat N ids C (ff gT (fun j=>fN.getD j false) 0 ts lK) (ff jy (fun j=>fN.getD j false) 0 ts mQ) a w→wpAnyIn (nV rd) 0 P .any ops Q fuel fN a w:=by
  intro fuel
  have done: ∀(fN:Array Bool) (a:Act) (w:World),fN.size=ops.size→(∀j,j < ops.size→fN.getD j false=true)→Sat N ids C (ff gT (fun j=>fN.getD j false) 0 ts lK) (ff jy (fun j=>fN.getD j false) 0 ts mQ) a w→Q .normal a w:=fun fN a w dH Bd dM=>by
   rw[←Mh ts 0 _ lK (fun j au=>by simpa using Bd j (by omega)),←Mi ts 0 _ mQ (fun j au=>by simpa using Bd j (by omega))] at dM
   exact uN _ _ aq a w dM
  have TA: ∀(fN:Array Bool),fN.size=ops.size→xE ops.toList (fun j=>fN.getD j false)→Region.ready .any ops fN=[]→ ∀j,j < ops.size→fN.getD j false=true:=fun fN dH cP hr=>by
   intro j
   induction j using Nat.strongRecOn with
   |_ j aZ=>
    intro au
    obtain⟨u,hu⟩: ∃u,ts[j]? =some u:=⟨_,List.getElem?_eq_getElem (by omega)⟩
    cases xF:fN.getD j false with
    |true=>rfl
    |false=>
     exfalso
     have kR:j∈Region.ready .any ops fN:=by
      unfold Region.ready
      rw[List.mem_filter]
      refine⟨List.mem_range.2 au,?_⟩
      have oK:fN.getD j true=false:=by
       rw[Array.getD_eq_getD_getElem?] at xF⊢
       rw[Array.getElem?_eq_getElem (by omega)] at xF⊢
       simpa using xF
      have az:ops[j]? =some u.1:=by simpa using uM j u hu
      simp only[oK,Bool.not_false,Bool.true_and,az,Option.map_some,Option.getD_some]
      rw[Array.all_eq_true_iff_forall_mem]
      intro e he
      cases ag:Region.binds .any e with
      |false=>rfl
      |true=>
       simp only[Bool.not_true,Bool.false_or]
       have fU:e.on∈qm u.1:=by
        unfold qm
        exact List.mem_map.2 ⟨e,List.mem_filter.2 ⟨by simpa using he,ag⟩,rfl⟩
       have TB:e.on < j:=by
        have mS:=dz
        simp only[indep,List.append_nil,List.reverse_reverse,Bool.and_eq_true] at mS
        have kR:(u.1,j)∈ops.toList.zipIdx:=by
         rw[List.mem_iff_getElem?]
         exact⟨j,by rw[List.getElem?_zipIdx,uM j u hu];simp⟩
        have:=List.all_eq_true.1 mS.1.1 _ kR
        have:=List.all_eq_true.1 this _ fU
        simpa[Nat.blt_eq] using this
       exact aZ e.on TB (by omega)
     rw[hr] at kR
     cases kR
  induction fuel with
  |zero=>
   intro fN a w dH hc cP dM
   have Bd: ∀j,j < ops.size→fN.getD j false=true:=fun j au=>by
    cases xF:fN.getD j false with
    |true=>rfl
    |false=>
     exfalso
     have kR:false∈fN.toList:=by
      rw[Array.getD_eq_getD_getElem?,Array.getElem?_eq_getElem (by omega)] at xF
      simp only[Option.getD_some] at xF
      rw[←xF]
      simp
     have:=List.count_pos_iff.2 kR
     omega
   refine⟨?_,done fN a w dH Bd dM⟩
   unfold Region.ready
   rw[List.filter_eq_nil_iff]
   intro j au
   have au:=List.mem_range.1 au
   have:=Bd j au
   rw[Array.getD_eq_getD_getElem?,Array.getElem?_eq_getElem (by omega)] at this
   simp only[Option.getD_some] at this
   simp[Array.getElem?_eq_getElem (show j < fN.size by omega),this]
  |succ fuel aZ=>
   intro fN a w dH hc cP dM
   refine⟨fun hr=>done fN a w dH (TA fN dH cP hr) dM,fun i aD=>?_⟩
   obtain⟨Ms,o,az,TC⟩:=mem_ready.1 aD
   have ac0:i < ops.size:=(Array.getElem?_eq_some_iff.1 az).1
   obtain⟨t,cc⟩: ∃t,ts[i]? =some t:=⟨_,List.getElem?_eq_getElem (by omega)⟩
   have xG:o=t.1:=by
    have:=uM i t cc
    rw[Array.getElem?_toList,az] at this
    injection this
   subst xG
   have GW:fN.getD i false=false:=by
    rw[Array.getD_eq_getD_getElem?,Array.getElem?_eq_getElem (by omega)] at Ms⊢
    simpa using Ms
   have DG: ∀d∈qm t.1,fN.getD d false=true:=fun d hd=>by
    unfold qm at hd
    obtain⟨e,he,rfl⟩:=List.mem_map.1 hd
    obtain⟨kX,iI⟩:=List.mem_filter.1 he
    exact TC e (by simpa using kX) iI
   obtain⟨mR,TD,TE,_⟩:=Tu (m:=fun j=>fN.getD j false) iP dh dz cP cc GW DG
   have iY:(fun j=>(fN.setIfInBounds i true).getD j false)=(fun j=>(fN.getD j false||j == i)):=by
    funext j
    by_cases e:j=i
    ·subst e
     simp[Array.getElem?_setIfInBounds,show j < fN.size by omega]
    ·simp[Array.getElem?_setIfInBounds,Ne.symm e,e]
   have TF:xE ops.toList (fun j=>(fN.setIfInBounds i true).getD j false):=by
    rw[iY]
    intro j o' qZ au d hd
    simp only[Bool.or_eq_true,beq_iff_eq] at au⊢
    rcases au with au |rfl
    ·exact .inl (cP j o' qZ au d hd)
    ·rw[uM j t cc] at qZ
     injection qZ with qZ
     subst qZ
     exact .inl (DG d hd)
   have TG:(fN.setIfInBounds i true).toList.count false≤fuel:=by
    rw[Array.toList_setIfInBounds,List.count_set (by simp;omega)]
    have eB:fN.toList[i]'(by simp;omega)=false:=by
     rw[Array.getD_eq_getD_getElem?,Array.getElem?_eq_getElem (by omega)] at GW
     simpa using GW
    rw[eB]
    simp only[BEq.rfl,if_true,show(true == false)=false from rfl,Bool.false_eq_true,if_false]
    omega
   have next: ∀a' w',Sat N ids C (gT t (ff gT (fun j=>fN.getD j false) 0 ts lK)) (jy t (ff jy (fun j=>fN.getD j false) 0 ts mQ)) a' w'→wpAnyIn (nV rd) 0 P .any ops Q fuel (fN.setIfInBounds i true) a' w':=fun a' w' eR=>by
    refine aZ _ a' w' (by simp[dH]) TG TF ?_
    rw[iY]
    exact eR.congr TD TE
   have TH:=dM
   obtain⟨_,_,ρ,F,aA,hS⟩:=TH
   unfold wpOpIn
   simp only[az]
   rcases mR with⟨hw,hv,he⟩ |⟨hw,aV,hf⟩
   ·have Be:=vS hw hS
    simp only[Array.toArray_toList] at Be
    rw[if_neg (by rw[Be];simp)]
    refine⟨fun _ _=>trivial,next _ _ ?_⟩
    have:=dM.undef t.1.dst (bF i t cc)
    unfold gT jy
    rw[hv,he]
    exact this
   ·have Be:=vS hw hS
    simp only[Array.toArray_toList] at Be
    rw[if_pos Be]
    exact ze (Mr i t cc).2 (aV _ _ (fun _ _=>rfl) (fun _ _=>rfl) hf C a w dM (bF i t cc) _ Q fun a' w' eR=>next a' w' eR)
 refine main ops.size _ a _ (by simp) (by simp[List.count_replicate]) (fun j o az au=>?_) ?_
 ·simp only[Array.getD_eq_getD_getElem?,Array.getElem?_replicate] at au
  split at au <;>simp at au
 ·have aS:(fun j=>(Array.replicate ops.size false).getD j false)=fun _=>false:=by
   funext j
   rw[Array.getD_eq_getD_getElem?]
   simp only[Array.getElem?_replicate]
   split <;>rfl
  rw[aS]
  have bf: ∀{mP:Type} (ap:gS→mP→mP) (l:List gS) (q:Nat) (y:mP),ff ap (fun _=>false) q l y=y:=fun {mP} ap l=>by
   induction l with
   |nil=>exact fun _ _=>rfl
   |cons v l aZ=>intro q y;unfold ff;simp[aZ]
  rw[bf,bf]
  obtain⟨aa,af,ρ,F,aA,hS⟩:=hs
  obtain⟨bR,bz⟩:=aA.below (w':={w with drawn:=w.drawn+1}) (Q5 w)
  exact⟨aa,af,ρ,F,bR,hS.mono bz fun _ _ _=>rfl⟩
end
end Go.Proofs.YteoamepgonpdlaaGreat
namespace Go.Proofs.YteoamepgonpdlaaGreat
open Go.RowKit
def swp (a b c:Nat):Nat:=match Nat.beq c a with
 |true=>b
 |false=>match Nat.beq c b with
  |true=>a
  |false=>c
theorem DH {a b:Nat} (h:a≠b):Nat.beq a b=false:=by rw[Bool.eq_false_iff];exact fun e=>h (Nat.eq_of_beq_eq_true e)
theorem Mt (a b c:Nat):swp a b (swp a b c)=c:=by
 unfold swp
 by_cases aa:c=a
 ·subst aa
  simp only[Nat.beq_refl]
  by_cases af:b=c
  ·subst af;simp
  ·simp[DH af]
 ·simp only[DH aa]
  by_cases af:c=b
  ·subst af;simp
  ·simp[DH af,DH aa]
def rn:List (Nat×Nat)→Nat→Nat
 | [],c=>c
 |(a,b)::l,c=>rn l (swp a b c)
def zn:List (Nat×Nat)→Nat→Nat
 | [],c=>c
 |(a,b)::l,c=>swp a b (zn l c)
theorem DI: ∀(l:List (Nat×Nat)) (c:Nat),zn l (rn l c)=c
 | [],c=>rfl
 |(a,b)::l,c=>by simp only[rn,zn,DI l,Mt]
theorem DJ: ∀(l:List (Nat×Nat)) (c:Nat),rn l (zn l c)=c
 | [],c=>rfl
 |(a,b)::l,c=>by simp only[rn,zn,Mt,DJ l]
def pS:List (Nat×Nat)→List (Nat×Nat)→List (Nat×Nat)
 | [],acc=>acc
 |(a,b)::l,acc=>pS l (acc++[(rn acc a,b)])
section
variable (f:Nat→Nat)
def zo:List kH→List kH
 | []=>[]
 | .p c o::l=>.p (f c) o::zo l
 | .d x::l=>.d x::zo l
def bD.rn:bD→bD
 | .ptr c o=>.ptr (f c) o
 | .own c=>.own (f c)
 | .fk c s i o=>.fk (f c) s i o
 | .os c s o n=>.os (f c) s o n
 | .mp c=>.mp (f c)
 | .eM g l=>.eM g (zo f l)
 | .d x=>.d x
 | .el u x o=>.el u x o
 | .ec=>.ec
 | .raw v=>.raw v
 | .any=>.any
def Bf:List bD→List bD
 | []=>[]
 |s::l=>s.rn f::Bf l
def dL.rn:dL→dL
 | .one s=>.one (s.rn f)
 | .agg l=>.agg (Bf f l)
 | .jM u x=>.jM u x
def DK:List dL→List dL
 | []=>[]
 |s::l=>s.rn f::DK l
def aO.rn:aO→aO
 | .c s=>.c (s.rn f)
 | .c6 l=>.c6 (DK f l)
 | .undef=>.undef
def xH:List aO→List aO
 | []=>[]
 |s::l=>s.rn f::xH l
def bw.rn:bw→bw
 | .cells l=>.cells (Bf f l)
 | .row e u xs=>.row e u xs
 | .map aN aP es=>.map aN aP es
 | .val u x=>.val u x
 | .obj o=>.obj o
 | .dep d o=>.dep (f d) o
def lM:aG→aG
 | []=>[]
 |(c,ch)::B=>(f c,ch.rn f)::lM B
def zq:List Nat→List Nat
 | []=>[]
 |c::l=>f c::zq l
end
section
variable {f g:Nat→Nat} {ρ:Nat→bq} {I:Nat→Prop} {w:World}
theorem GX: ∀(l:List kH) (vs:List Value),gZ ρ I w (zo f l) vs=gZ (fun c=>ρ (f c)) I w l vs
 | [],vs=>rfl
 | .p c o::l,vs=>by simp only[zo,gZ,wY,GX l]
 | .d x::l,vs=>by simp only[zo,gZ,wY,GX l]
theorem Mu (s:bD) (v:Value):dN ρ I w (s.rn f) v=dN (fun c=>ρ (f c)) I w s v:=by
 cases s with
 |eM g l=>simp only[bD.rn,dN,GX]
 |_=>rfl
theorem GY: ∀(l:List bD) (vs:List Value),bV ρ I w (Bf f l) vs=bV (fun c=>ρ (f c)) I w l vs
 | [],vs=>rfl
 |s::l,vs=>by simp only[Bf,bV,Mu,GY l]
theorem Mv (s:dL) (v:Value):fZ ρ I w (s.rn f) v=fZ (fun c=>ρ (f c)) I w s v:=by
 cases s with
 |one s=>exact Mu s v
 |agg l=>simp only[dL.rn,fZ,GY]
 |jM u x=>rfl
theorem Mw: ∀(l:List dL) (vs:List Value),iN ρ I w (DK f l) vs=iN (fun c=>ρ (f c)) I w l vs
 | [],vs=>rfl
 |s::l,vs=>by simp only[DK,iN,Mv,Mw l]
theorem DL (s:aO) (v:Value):b8 ρ I w (s.rn f) v=b8 (fun c=>ρ (f c)) I w s v:=by
 cases s with
 |c s=>exact Mv s v
 |c6 l=>simp only[aO.rn,b8,Mw]
 |undef=>rfl
theorem Bg {F:Nat→Prop} {p:bq} (ch:bw):Holds ρ I F w p (ch.rn f)=Holds (fun c=>ρ (f c)) I F w p ch:=by
 cases ch with
 |cells l=>simp only[bw.rn,Holds,GY]
 |row e u xs=>rfl
 |map aN aP es=>rfl
 |val u x=>rfl
 |obj o=>rfl
 |dep d o=>rfl
theorem Bh (bk: ∀c,g (f c)=c): ∀(B:aG) (c:Nat),ax (lM f B) (f c)=(ax B c).map (·.rn f)
 | [],c=>rfl
 |(d,ch)::B,c=>by
  simp only[lM]
  rw[cD,cD,Bh bk B c]
  by_cases h:d=c
  ·subst h;rw[if_pos rfl,if_pos rfl];rfl
  ·rw[if_neg h,if_neg fun e=>h (by rw[←bk d,e,bk])]
theorem GZ: ∀(l:List aO),xH f l=l.map (·.rn f)
 | []=>rfl
 |s::l=>by simp only[xH,List.map_cons,GZ l]
theorem G0: ∀(l:List Nat) (c:Nat),c∈l→f c∈zq f l
 | [],c,h=>by cases h
 |d::l,c,h=>by
  rcases List.mem_cons.1 h with rfl |h
  ·exact List.mem_cons_self
  ·exact List.mem_cons_of_mem _ (G0 l c h)
end
theorem Fn.G1 {P:Program} {fn:FuncId} {f g:Nat→Nat} (bk: ∀c,g (f c)=c) (hf: ∀c,f (g c)=c) {args:List aO} {aR:aG} {bA:List Nat} {res:aO} {bl:aG} (h:Fn P fn args aR bA res bl):
  Fn P fn (xH f args) (lM f aR) (zq f bA) (res.rn f) (lM f bl):=by
 refine⟨h.1,?_⟩
 intro ρ F I w bW bC dW hF fU hlen eu
 have lk: ∀(B:aG) c,ax (lM f B) (f c)=(ax B c).map (·.rn f):=Bh bk
 have fwd: ∀{B:aG} {c ch},ax B c=some ch→ax (lM f B) (f c)=some (ch.rn f):=fun {B c ch} h=>by rw[lk,h];rfl
 have bwd: ∀{B:aG} {c ch},ax (lM f B) c=some ch→ ∃cm,ax B (g c)=some cm∧ch=cm.rn f:=fun {B c ch} h=>by
  have e:=lk B (g c)
  rw[hf,h] at e
  obtain⟨cm,aa,af⟩:=Option.map_eq_some_iff.1 e.symm
  exact⟨cm,aa,af.symm⟩
 rw[GZ] at hlen eu
 have hc:=h.2 (fun c=>ρ (f c)) (fun c=>F (f c)) I w bW bC
  (fun c ch hc=>by rw[←Bg];exact dW _ _ (fwd hc))
  (fun c ch hc=>hF _ _ (fwd hc))
  (fun c bS ch ch' b aa af bg=>fU _ _ _ _ b (fwd aa) (fwd af) fun e=>bg (by rw[←bk c,e,bk]))
  (by simpa using hlen)
  (fun i v x hv hx=>by rw[←DL];exact eu i _ x (by rw[List.getElem?_map,hv];rfl) hx)
 refine hc.mono ?_
 rintro e w' ⟨x,ρ',F',rfl,cr,dn,I',kX,iI,oW,aV,jQ,hx⟩
 have xI:(fun c=>ρ' (g (f c)))=ρ':=funext fun c=>by rw[bk]
 refine⟨x,fun c=>ρ' (g c),fun c=>F' (g c),rfl,?_,?_,I',kX,?_,?_,?_,?_,?_⟩
 ·exact cr.mono fun b _ ⟨c,ch,aa,af⟩=>⟨f c,_,fwd aa,af⟩
 ·intro c hc
  show ρ' (g c)=ρ c
  rw[dn (g c) (fun hm=>hc (by have:=G0 (f:=f) _ _ hm;rwa[hf] at this)),hf]
 ·intro b ag
  obtain⟨aa,af⟩:=iI b ag
  refine⟨aa,?_⟩
  rcases af with af |⟨c,ch,af,ay⟩ |af
  ·exact .inl af
  ·exact .inr (.inl ⟨f c,_,fwd af,ay⟩)
  ·exact .inr (.inr af)
 ·intro c ch hc
  obtain⟨cm,aa,rfl⟩:=bwd hc
  rw[Bg,xI]
  exact oW _ _ aa
 ·intro c ch hc b ag
  obtain⟨cm,aa,rfl⟩:=bwd hc
  obtain⟨cC,cR,fo⟩:=aV _ _ aa b ag
  refine⟨cC,cR,?_⟩
  rcases fo with⟨cx,cm,fo,gU⟩ |fo
  ·exact .inl ⟨f cx,_,fwd fo,gU⟩
  ·exact .inr fo
 ·intro c bS ch ch' b hc dm bg
  obtain⟨cm,aa,rfl⟩:=bwd hc
  obtain⟨kM,af,rfl⟩:=bwd dm
  exact jQ _ _ _ _ b aa af fun e=>bg (by rw[←hf c,e,hf])
 ·rw[DL,xI]
  exact hx
theorem Fn.ren {P:Program} {fn:FuncId} (l:List (Nat×Nat)) {args:List aO} {aR:aG} {bA:List Nat} {res:aO} {bl:aG} (h:Fn P fn args aR bA res bl):
  Fn P fn (xH (rn (pS l [])) args) (lM (rn (pS l [])) aR) (zq (rn (pS l [])) bA) (res.rn (rn (pS l []))) (lM (rn (pS l [])) bl):=
 Fn.G1 (DI _) (DJ _) h
end Go.Proofs.YteoamepgonpdlaaGreat
