/-
Part 6 of the proof that stands in YteoamepgonpdlaaGreatPbRow, with what it needs from the parts ahead; the parts of this text: Code.
-/
import Derived.Deep.LoopGhost
import Derived.Orders
import Derived.OrdersIn
import Derived.TacticsIn
import Derived.Sort.LoopGhostIn
import Derived.RangeFuncRecord
import Derived.Scope
import Derived.Test.YteoamepgonpdlaaGreatPb5
namespace Go.Proofs.YteoamepgonpdlaaGreat
set_option linter.unusedVariables false
set_option linter.unusedSimpArgs false
open Go.RowKit
def pT (N:Nat):List Oper→Bool
 | []=>true
 |o::l=>(match o.dst with
  |some d=>Nat.blt d N
  |none=>true)&&(match o.op with
  | .defer _=>false
  |_=>true)&&pT N l
section
variable {P:Program} {b:Frame} {a:Act} {k:List Item} {cs:List Frame} {w:World}
theorem yE {c:Code}:step P (lone (b.atR a (.code (.scope c)::k)) cs w)= .next (lone (b.atR a (.code c:: .inScope c::k)) cs w):=
 step_lone_go (by simp[stepG,stepG.exec,Frame.atR])
theorem Sh {c:Code}:step P (lone (b.atR a (.inScope c::k)) cs w)= .next (lone (b.atR a k) cs w):=
 step_lone_go (by simp[stepG,stepG.exec,Frame.atR])
theorem Si {F:Fence} {n:Nat} {Q:Exit→Act→World→Prop} {c:Code} (h:c.wpIn F n P (Exit.noGoto Q) a w):(Code.scope c).wpIn F n P Q a w:=by
 intro b k cs Sj ag hr
 have aC:(lone (b.atR a (.code (.scope c)::k)) cs w).fenced P F:=fenced_calm ag hr rfl
 obtain⟨e,Az,w₁,bh,yF⟩:=h b (.inScope c::k) cs Sj ag hr
 cases e with
 |normal=>exact⟨.normal,Az,w₁,bh,.head aC yE (StepsIn.trans yF (.one (fenced_calm ag hr rfl) Sh))⟩
 |exit id=>
  have hx:exitTo id (.inScope c::k)=exitTo id k:=by simp[exitTo]
  exact⟨.exit id,Az,w₁,bh,fun k' au=>.head aC yE (yF.1 k' (by rw[hx];exact au)),fun Sk au=>let⟨k₁,aa,af⟩:=yF.2 Sk (by rw[hx];exact au);⟨k₁,aa,.head aC yE af⟩⟩
 |goto l=>exact bh.elim
 |ret=>exact⟨_,Az,w₁,bh,.of_steps (.one aC yE) yF⟩
 |panic ch=>exact⟨_,Az,w₁,bh,.of_steps (.one aC yE) yF⟩
 |outgrown=>exact⟨_,Az,w₁,bh,.of_steps (.one aC yE) yF⟩
end
def kr (P:Program) (N:Nat):Code→Bool
 | .skip=>true
 | .region _ ops draw=>pT N ops.toList&&(!draw||P.follows .mixedOrders)
 | .seq a b=>kr P N a&&kr P N b
 | .cond _ x y=>kr P N x&&kr P N y
 | .block _ b=>kr P N b
 | .loop b=>kr P N b
 | .rangeFunc _ _ a b=>kr P N a&&kr P N b
 | .scope b=>kr P N b
 | .label _=>true
 | .exit _=>true
 | .ret=>true
 |_=>false
section
variable {P:Program} {tt:c4} {N:Nat} {ids:List Nat}
theorem AA {ops:Array Oper} {a:Act} {j s:Nat} (hs:(ops[j]?).bind (·.dst)=some s) {v:Value} (hv:a.tmps.getD s undef=v):
  (∀b,v= .bool b→yielded ops a.tmps j=some b)∧((∀b,v≠ .bool b)→yielded ops a.tmps j=none):=by
 unfold yielded
 rw[hs]
 simp only[Option.bind_some]
 cases cl:a.tmps[s]? with
 |none=>
  have hv:v=undef:=by rw[←hv];simp[cl]
  subst hv
  exact⟨fun b ag=>(by simp[undef] at ag),fun _=>rfl⟩
 |some x=>
  have hv:v=x:=by rw[←hv];simp[cl]
  subst hv
  refine⟨fun b ag=>by rw[ag],fun h=>?_⟩
  cases v <;>first |rfl |exact absurd rfl (h _)
theorem Sl {all:List Oper} {j s:Nat} (h:Ae all j=some s):((all.toArray)[j]?).bind (·.dst)=some s:=by
 unfold Ae at h
 simp only[List.getElem?_toArray]
 split at h
 ·rename_i o av;rw[av];exact h
 ·cases h
theorem u0 {all:List Oper} {K:aQ} {o:Oper} {t:Bool} (h:wants all K o.guard=some t) {ρ:Nat→bn} {I:Nat→Prop} {a:Act} {w:World} (hS:ei K ρ I a w):Region.wanted o (yielded all.toArray a.tmps)=t:=by
 unfold wants at h
 unfold Region.wanted
 split at h
 ·rename_i bl
  injection h with h
  simp[bl,h]
 ·rename_i j want bl
  simp only[bl]
  split at h
  ·cases h
  ·rename_i s hs
   have hs:=Sl hs
   have hv:=hS s
   split at h
   ·rename_i aB
    rw[aB] at hv
    have:=(AA (a:=a) hs (show a.tmps.getD s undef= .bool true from hv)).1 true rfl
    injection h with h
    rw[this,←h];rfl
   ·rename_i aB
    rw[aB] at hv
    have:=(AA (a:=a) hs (show a.tmps.getD s undef= .bool true from hv)).1 true rfl
    injection h with h
    rw[this,←h];rfl
   ·rename_i aB
    rw[aB] at hv
    have:=(AA (a:=a) hs (show a.tmps.getD s undef= .bool false from hv)).1 false rfl
    injection h with h
    rw[this,←h];rfl
   ·rename_i aB
    rw[aB] at hv
    have:=(AA (a:=a) hs (show a.tmps.getD s undef= .bool false from hv)).1 false rfl
    injection h with h
    rw[this,←h];rfl
   ·rename_i aB
    rw[aB] at hv
    have:=(AA (a:=a) hs (show a.tmps.getD s undef=undef from hv)).2 (by simp[undef])
    injection h with h
    rw[this,←h]
    simp
   ·cases h
theorem Sat.undef {C:Ctx} {K:aQ} {B:aG} {a:Act} {w:World} (h:Sat N ids C K B a w) (d:Option Nat) (hd: ∀e,d=some e→e < N):Sat N ids C (lZ d .undef K) B (a.put d undef) w:=by
 obtain⟨aa,af,ρ,F,az,hS⟩:=h
 exact⟨lz.trans aa,put_defers.trans af,ρ,F,az,hS.lB (fun e he=>by rw[aa];exact hd e he) rfl⟩
theorem Sat.lit {C:Ctx} {K:aQ} {B:aG} {a:Act} {w:World} {d:Nat} {b:Bool} (h:Sat N ids C ((d,.c (.one (.d (.bool b))))::K) B a w):Sat N ids C ((d,.c (.one (.d (.lit b))))::K) B a w:=by
 obtain⟨aa,af,ρ,F,az,hS⟩:=h
 refine⟨aa,af,ρ,F,az,fun s=>?_⟩
 have:=hS s
 rw[kF] at this⊢
 split at this
 ·rw[if_pos ‹_›];exact this
 ·rw[if_neg ‹_›];exact this
theorem K0 {n:Nat} {r:Option Nat} {f:FuncId} {args:Array Value} {w:World} {R:Ending→World→Prop} (h:Calls P f args w R):CallsIn (nC r) n P f args w R:=(callsIn_wide (n:=n)).2 h
theorem K1 {n:Nat} {r:Option Nat} {f:FuncId} {args:Array Value} {w:World} {R:Ending→World→Prop} (h:CallsIn (nC r) n P f args w R):Calls P f args w R:=(callsIn_wide (n:=n)).1 h
theorem Sm {n:Nat} {r:Option Nat} {row:String} {args:Array Value} {w:World} {R:Value→World→Prop} (h:Rows P row args w R):RowsIn (nC r) n P row args w R:=fun c cs _=>by
 obtain⟨v,w',aa,af⟩:=h c cs
 exact⟨v,w',aa,stepsIn_wide.2 af⟩
theorem CX {o:Oper} (h:(match o.op with
 | .defer _=>false
 |_=>true)=true): ∀c,o.op≠ .defer c:=fun c e=>by rw[e] at h;cases h
theorem yG {r:Option Nat} {o:Oper} (dD: ∀c,o.op≠ .defer c) {a:Act} {w:World} {next:Act→World→Prop} {Q:Exit→Act→World→Prop} (h:o.wp P a w next Q):o.wpIn (nC r) 0 P a w next Q:=by
 refine⟨fun _ _=>trivial,?_⟩
 rw[Oper.semAt_eq _ _ _ dD]
 unfold Oper.wp at h
 generalize(execOp a.eval o).run P w=q at*
 cases q with
 |ok x w'=>
  cases x <;>simp only[Oper.upon,Oper.uponIn] at h⊢ <;>
   first
    |exact h
    |exact h.elim
    |exact⟨fun hs=>absurd hs (by simp),K0 h⟩
    |exact⟨fun hs=>absurd hs (by simp),Sm h⟩
 |halt x w'=>cases x <;>simp only[Oper.upon,Oper.uponIn] at h⊢ <;>exact h
theorem wO (aX:dP P tt) (all:List Oper): ∀(l:List Oper) (i:Nat) (K:aQ) (B:aG) (log:List kn) (k:aQ→aG→List kn→Prop),pT N l=true→vcs P tt ids all i l K B log k→ ∀(C:Ctx) (a:Act) (w:World),Sat N ids C K B a w→
  ∀(r:Option Nat) (Q:Exit→Act→World→Prop),(∀K' B' Sn,k K' B' Sn→ ∀a' w',Sat N ids C K' B' a' w'→Q .normal a' w')→wpListIn (nC r) 0 P all.toArray Q l a w
 | [],i,K,B,log,k,_,h,C,a,w,hs,r,Q,au=>wpListIn_nil (au K B log h a w hs)
 |o::l,i,K,B,log,k,hd,h,C,a,w,hs,r,Q,au=>by
  simp only[pT,Bool.and_eq_true] at hd
  obtain⟨⟨rA,dD⟩,dg⟩:=hd
  have dD:=CX dD
  have bH: ∀d,o.dst=some d→d < N:=fun d e=>by rw[e] at rA;simpa[Nat.blt_eq] using rA
  have dH:=hs
  obtain⟨_,_,ρ,F,az,hS⟩:=dH
  rw[J'] at h
  unfold CD at h
  refine wpListIn_step fun fl u5=>?_
  split at h
  ·exact h.elim
  ·rename_i hw
   rw[if_neg (by rw[u0 hw hS];simp)]
   refine⟨fun _ _=>trivial,u5 _ _ ?_⟩
   have hu:=hs.undef o.dst bH
   split at h
   ·rename_i d e
    rw[e] at hu⊢
    exact wO aX all l _ _ _ _ k dg h C _ w hu r Q au
   ·rename_i e
    rw[e] at hu⊢
    exact wO aX all l _ _ _ _ k dg h C _ w hu r Q au
  ·rename_i hw
   rw[if_pos (u0 hw hS)]
   obtain⟨v,e,h,aT,hf⟩:=Ay aX h
   refine yG dD (aT K B (fun _ _=>rfl) (fun _ _=>rfl) hf C a w hs bH fl Q fun a' w' e6=>u5 _ _ ?_)
   split at h
   ·rename_i aq
    rw[aq] at e6
    exact wO aX all l _ _ _ _ k dg h C _ w' e6 r Q au
   ·rename_i d aq
    rw[aq] at e6
    split at h
    ·rename_i b bl
     cases b with
     |true=>exact wO aX all l _ _ _ _ k dg (h.1 rfl) C _ w' e6.lit r Q au
     |false=>exact wO aX all l _ _ _ _ k dg (h.2 rfl) C _ w' e6.lit r Q au
    ·exact wO aX all l _ _ _ _ k dg h C _ w' e6 r Q au
def yH (P:Program) (tt:c4) (N:Nat) (ids:List Nat):Prop:= ∀(id:Nat) (ops:Array Oper) (K:aQ) (B:aG) (k:aQ→aG→Prop),pT N ops.toList=true→P.follows .mixedOrders=true→
 vcs P tt ids ops.toList 0 ops.toList K B [] (fun K' B' log=>indep K B ops.toList log=true∧k K' B')→ ∀(C:Ctx) (a:Act) (w:World),Sat N ids C K B a w→
 ∀(r:Option Nat) (Q:Exit→Act→World→Prop),(∀K' B',k K' B'→ ∀a' w',Sat N ids C K' B' a' w'→Q .normal a' w')→(Code.region id ops true).wpIn (nC r) 0 P Q a w
theorem Sat.eval {C:Ctx} {K:aQ} {B:aG} {a:Act} {w:World} (h:Sat N ids C K B a w) {c:Operand} {b:Bool} (hc:aU K c= .c (.one (.d (.lit b)))∨aU K c= .c (.one (.d (.bool b)))):a.eval c= .bool b:=by
 obtain⟨_,_,ρ,F,az,hS⟩:=h
 rcases hc with hc |hc
 ·exact hS.lit hc
 ·exact hS.bool hc
theorem yI (aX:dP P tt) (bW:yH P tt N ids) (stops:List Nat): ∀(c:Code) (K:aQ) (B:aG) (Q:om→aQ→aG→Prop),kr P N c=true→vc P tt N ids stops c K B Q→aE P N ids c K B Q:=by
 intro c
 induction c with
 |skip=>exact fun K B Q _ h r hr C gJ bh a w hs=>wpIn_skip (bh .gf K B C.ds (fun _=>rfl) h a w hs)
 |region id ops draw=>
  intro K B Q hc h
  rw[Qu] at h
  simp only[kr,Bool.and_eq_true,Bool.or_eq_true,Bool.not_eq_true'] at hc
  split at h
  ·exact h
  ·split at h
   ·intro r hr C gJ bh a w hs
    refine wpIn_region_list ?_
    have:=wO aX ops.toList ops.toList 0 K B [] _ hc.1 h C a w hs r gJ (fun K' B' _ au a' w' dH=>bh .gf K' B' C.ds (fun _=>rfl) au a' w' dH)
    simpa using this
   ·intro r hr C gJ bh a w hs
    exact bW id ops K B (Q .gf) hc.1 (hc.2.resolve_left (by simp)) h C a w hs r gJ (fun K' B' au a' w' dH=>bh .gf K' B' C.ds (fun _=>rfl) au a' w' dH)
 |seq x y od oe=>
  intro K B Q hc h r hr C gJ bh a w hs
  simp only[kr,Bool.and_eq_true] at hc
  rw[Qv] at h
  refine wpIn_seq (od K B _ hc.1 h r hr C _ ?_ a w hs)
  intro e K' B' ds gV he a' w' dH
  cases e with
  |gf=>exact oe K' B' Q hc.2 he r hr (C.at ds) gJ (fun e K B wP F2=>bh e K B wP fun ay=>(F2 ay).trans (gV ay)) a' w' dH
  |ex i=>exact bh (.ex i) K' B' ds gV he a' w' dH
  |ret=>exact bh .ret K' B' ds gV he a' w' dH
 |cond c x y od oe=>
  intro K B Q hc h r hr C gJ bh a w hs
  simp only[kr,Bool.and_eq_true] at hc
  rw[Qw] at h
  split at h
  ·rename_i aB
   exact wpIn_cond_true (hs.eval (.inl aB)) (od K B Q hc.1 h r hr C gJ bh a w hs)
  ·rename_i aB
   exact wpIn_cond_false (hs.eval (.inl aB)) (oe K B Q hc.2 h r hr C gJ bh a w hs)
  ·rename_i b aB
   cases b with
   |true=>exact wpIn_cond_true (hs.eval (.inr aB)) (od K B Q hc.1 (h.1 rfl) r hr C gJ bh a w hs)
   |false=>exact wpIn_cond_false (hs.eval (.inr aB)) (oe K B Q hc.2 (h.2 rfl) r hr C gJ bh a w hs)
  ·exact h.elim
 |block i b aY=>
  intro K B Q hc h r hr C gJ bh a w hs
  rw[Qx] at h
  refine wpIn_block (aY K B _ hc h r hr C _ ?_ a w hs)
  intro e K' B' ds gV he a' w' dH
  cases e with
  |gf=>exact bh .gf K' B' ds gV he a' w' dH
  |ret=>exact bh .ret K' B' ds gV he a' w' dH
  |ex j=>
   simp only[om.to,Exit.inBlock] at he⊢
   split at he
   ·rename_i e
    have:=Nat.eq_of_beq_eq_true e
    subst this
    rw[if_pos rfl]
    exact bh .gf K' B' ds gV he a' w' dH
   ·rename_i e
    rw[if_neg (fun x=>by subst x;simp at e)]
    exact bh (.ex j) K' B' ds gV he a' w' dH
 |loop b aY=>exact fun K B Q hc h=>h
 |rangeFunc f ps x b od oe=>exact fun K B Q hc h=>h
 |scope b aY=>
  intro K B Q hc h r hr C gJ bh a w hs
  rw[Qy] at h
  refine Si (aY K B _ hc h r hr C _ ?_ a w hs)
  intro e K' B' ds gV he a' w' dH
  cases e with
  |gf=>exact bh .gf K' B' ds gV he a' w' dH
  |ret=>exact bh .ret K' B' ds gV he a' w' dH
  |ex j=>exact bh (.ex j) K' B' ds gV he a' w' dH
 |label l=>exact fun K B Q hc h r hr C gJ bh a w hs=>wpIn_label (bh .gf K B C.ds (fun _=>rfl) h a w hs)
 |exit i=>exact fun K B Q hc h r hr C gJ bh a w hs=>wpIn_exit (bh (.ex i) K B C.ds (fun _=>rfl) h a w hs)
 |ret=>exact fun K B Q hc h r hr C gJ bh a w hs=>wpIn_ret (bh .ret K B C.ds (fun _=>rfl) h a w hs)
 |_=>intro K B Q hc h;simp[kr] at hc
def ah (ids:List Nat) (K:aQ) (B:aG) (K':aQ) (B':aG):Prop:= ∀(N:Nat) (C:Ctx) (a:Act) (w:World),Sat N ids C K B a w→Sat N ids C K' B' a w
theorem ah.refl (K:aQ) (B:aG):ah ids K B K B:=fun _ _ _ _ h=>h
theorem ah.trans {K K' K2:aQ} {B B' K3:aG} (h:ah ids K B K' B') (h':ah ids K' B' K2 K3):ah ids K B K2 K3:=fun N C a w hs=>h' N C a w (h N C a w hs)
theorem aE.le {c:Code} {K K':aQ} {B B':aG} {Q:om→aQ→aG→Prop} (h:ah ids K B K' B') (cl:aE P N ids c K' B' Q):aE P N ids c K B Q:=fun r hr C gJ bh a w hs=>cl r hr C gJ bh a w (h N C a w hs)
theorem aE.mono {c:Code} {K:aQ} {B:aG} {Q K4:om→aQ→aG→Prop} (h: ∀e K B,K4 e K B→Q e K B) (cl:aE P N ids c K B K4):aE P N ids c K B Q:=fun r hr C gJ bh a w hs=>cl r hr C gJ (fun e K' B' ds gV he=>bh e K' B' ds gV (h e K' B' he)) a w hs
theorem aE.loop (aX:dP P tt) (bW:yH P tt N ids) (stops:List Nat) {b:Code} (hc:kr P N b=true) {X:Type} (mV:X→aQ) (hG:X→aG) (inv:X→Prop) (AB:X→Nat) (iO:X) {K:aQ} {B:aG} {Q:om→aQ→aG→Prop} (aC:inv iO) (hle:ah ids K B (mV iO) (hG iO))
  (h: ∀x,inv x→vc P tt N ids stops b (mV x) (hG x) (fun e K B=>match e with
   | .gf=> ∃y,inv y∧AB y < AB x∧ah ids K B (mV y) (hG y)
   | .ex i=>Q (.ex i) K B
   | .ret=>Q .ret K B)):aE P N ids (.loop b) K B Q:=by
 intro r hr C gJ bh a w hs
 refine wpIn_loop_ghost (fun n a w=> ∃x ds,(tL ids=true→ds=C.ds)∧inv x∧AB x=n∧Sat N ids (C.at ds) (mV x) (hG x) a w) (AB iO) ⟨iO,C.ds,fun _=>rfl,aC,rfl,hle N C a w hs⟩ ?_
 rintro n a w ⟨x,ds,gV,hx,rfl,hs⟩
 refine yI aX bW stops b _ _ _ hc (h x hx) r hr (C.at ds) _ ?_ a w hs
 intro e K' B' wP F2 he a' w' dH
 have F3:tL ids=true→wP=C.ds:=fun ay=>(F2 ay).trans (gV ay)
 cases e with
 |gf=>
  obtain⟨y,aF,bH,Sp⟩:=he
  exact⟨AB y,bH,y,wP,F3,aF,rfl,Sp N (C.at wP) a' w' dH⟩
 |ex i=>exact bh (.ex i) K' B' wP F3 he a' w' dH
 |ret=>exact bh .ret K' B' wP F3 he a' w' dH
def rB:Nat→List aN→aQ
 |_,[]=>[]
 |i,v::l=>(i,v)::rB (i+1) l
theorem AD: ∀(l:List aN) (i s:Nat),look (rB i l) s=(if i≤s then(l[s - i]?).getD (.c (.one .any)) else .c (.one .any))
 | [],i,s=>by simp[rB,look]
 |v::l,i,s=>by
  simp only[rB]
  rw[kF,AD l (i+1) s]
  by_cases h:i=s
  ·subst h;simp
  ·rw[if_neg h]
   by_cases af:i≤s
   ·rw[if_pos (by omega),if_pos af,show s - i=(s - (i+1))+1 by omega]
    rfl
   ·rw[if_neg (by omega),if_neg af]
def wQ (tt:c4) (K:aQ) (B:aG):List ResultVar→Option (List dG)
 | []=>some []
 | .tmp t::l=>match look K t,wQ tt K B l with
  | .c x,some r=>some (x::r)
  |_,_=>none
 | .cell t T::l=>match look K t,wQ tt K B l,tt.find T with
  | .c (.one (.ptr c o)),some r,some ti=>match ax B c with
   |some (.cells m)=>match ti.row with
    |true=>match Nat.ble (o+ti.size) m.length with
     |true=>some (.agg ((m.drop o).take ti.size)::r)
     |false=>none
    |false=>match m[o]? with
     |some s=>some (.one s::r)
     |none=>none
   |_=>none
  |_,_,_=>none
def sF (tmps:Array Value) (r:ResultVar):Sem Value:=match r with
 | .tmp t=>pure (tmps.getD t undef)
 | .cell ad t=>do loadVar t (←asAddr (tmps.getD ad undef))
def F4:List dG→aN
 | [x]=>.c x
 |l=>.c8 l
theorem CY (aX:dP P tt) {ρ:Nat→bn} {F:Nat→Nat→Prop} {C:Ctx} {K:aQ} {B:aG} {a:Act} {w:World} (az:Mem ids C B ρ F w) (hS:ei K ρ (bS C B F w) a w): ∀(l:List ResultVar) (r:List dG),wQ tt K B l=some r→
  ∃vs:List Value,(l.mapM (sF a.tmps)).run P w= .ok vs w∧iD ρ (bS C B F w) w r vs
 | [],r,h=>by
  simp only[wQ,Option.some.injEq] at h
  subst h
  exact⟨[],by simp,rfl⟩
 | .tmp t::l,r,h=>by
  unfold wQ at h
  split at h
  ·rename_i x r' hx hr
   injection h with h
   subst h
   obtain⟨vs,aa,af⟩:=CY aX az hS l r' hr
   have hv:=hS t
   rw[hx] at hv
   exact⟨_::vs,by simp[List.mapM_cons,aa,sF],_,vs,rfl,hv,af⟩
  ·cases h
 | .cell t T::l,r,h=>by
  unfold wQ at h
  split at h
  ·rename_i c o r' ti hx hr gK
   obtain⟨i,d,bD⟩:=aX.at_ gK
   obtain⟨vs,aa,af⟩:=CY aX az hS l r' hr
   have hv:=hS t
   rw[hx] at hv
   have hv:a.tmps.getD t undef= .pointer (some ⟨(ρ c).bO,o,none⟩):=hv
   split at h
   ·rename_i m aB
    obtain⟨hF,us,eG,ag,hd⟩:=az.holds c _ aB
    split at h
    ·rename_i jz
     split at h
     ·rename_i hle
      have hle:=Nat.le_of_ble_eq_true hle
      injection h with h
      subst h
      have jk:=bZ.yt ti.size _ _ (bZ.l7 o _ _ hd)
      have ef:=run_loadVar_mid (P:=P) w (ρ c).bO o T ((us.drop o).take ti.size) d (fun j u ak=>by
       rw[List.getElem?_take] at ak
       split at ak
       ·rw[List.getElem?_drop] at ak
        exact cell_of ag ak
       ·cases ak) bD.und (bD.row.trans jz) (by rw[bD.info,Option.map_some,bD.size,bZ.length _ _ jk,List.length_take,List.length_drop];congr 1;omega)
      exact⟨_::vs,by simp[List.mapM_cons,sF,hv,asAddr,ef,aa],_,vs,rfl,⟨_,rfl,jk⟩,af⟩
     ·cases h
    ·rename_i jz
     split at h
     ·rename_i s hs
      injection h with h
      subst h
      obtain⟨v,tT,jk⟩:=bZ.get _ _ hd o s hs
      have ef:=Ko (P:=P) (T:=T) bD.und (bD.row.trans jz) (cell_of ag tT)
      exact⟨_::vs,by simp[List.mapM_cons,sF,hv,asAddr,ef,aa],_,vs,rfl,jk,af⟩
     ·cases h
   ·cases h
  ·cases h
def yJ (l:List Nat):List ki→Bool
 | []=>true
 | .p b _::m=>l.contains b&&yJ l m
 | .d _::m=>yJ l m
theorem F5 {l:List Nat} {c:Nat}: ∀{m:List ki},yJ l m=true→lu c m=true→c∈l
 | [],_,hc=>by simp[lu] at hc
 | .p b o::m,h,hc=>by
  simp only[yJ,Bool.and_eq_true,List.contains_iff_mem] at h
  simp only[lu,Bool.or_eq_true] at hc
  rcases hc with hc |hc
  ·have:=Nat.eq_of_beq_eq_true hc;subst this;exact h.1
  ·exact F5 h.2 hc
 | .d x::m,h,hc=>F5 (m:=m) (by simpa[yJ] using h) (by simpa[lu] using hc)
def bx.among (l:List Nat):bx→Bool
 | .ptr b _=>l.contains b
 | .own b=>l.contains b
 | .fh b _ _ _=>l.contains b
 | .os b _ _ _=>l.contains b
 | .mp b=>l.contains b
 | .eH _ m=>yJ l m
 |_=>true
def AE (l:List Nat):List bx→Bool
 | []=>true
 |s::m=>s.among l&&AE l m
def dG.among (l:List Nat):dG→Bool
 | .one s=>s.among l
 | .agg m=>AE l m
 | .jx _ _=>true
def CZ (l:List Nat):List dG→Bool
 | []=>true
 |s::m=>s.among l&&CZ l m
def aN.among (l:List Nat):aN→Bool
 | .c x=>x.among l
 | .c8 m=>CZ l m
 | .undef=>true
def bF.among (l:List Nat):bF→Bool
 | .cells m=>AE l m
 | .dep d _=>l.contains d
 |_=>true
def wR (l:List Nat):aG→Bool
 | []=>true
 |(_,ch)::B=>ch.among l&&wR l B
theorem bx.ku {l:List Nat} {s:bx} (h:s.among l=true) {c:Nat} (hc:s.has c=true):c∈l:=by
 cases s <;>simp only[bx.among,bx.has,List.contains_iff_mem,Bool.false_eq_true] at h hc
 all_goals first |exact F5 h hc |(have:=Nat.eq_of_beq_eq_true hc;subst this;exact h)
theorem F6 {l:List Nat} {c:Nat}: ∀{m:List bx},AE l m=true→mR c m=true→c∈l
 | [],_,hc=>by simp[mR] at hc
 |s::m,h,hc=>by
  simp only[AE,Bool.and_eq_true] at h
  simp only[mR,Bool.or_eq_true] at hc
  exact hc.elim (bx.ku h.1) (F6 h.2)
theorem dG.ku {l:List Nat} {s:dG} (h:s.among l=true) {c:Nat} (hc:s.has c=true):c∈l:=by
 cases s with
 |one s=>exact bx.ku h hc
 |agg m=>exact F6 h hc
 |jx u x=>cases hc
theorem K5 {l:List Nat} {c:Nat}: ∀{m:List dG},CZ l m=true→sj c m=true→c∈l
 | [],_,hc=>by simp[sj] at hc
 |s::m,h,hc=>by
  simp only[CZ,Bool.and_eq_true] at h
  simp only[sj,Bool.or_eq_true] at hc
  exact hc.elim (dG.ku h.1) (K5 h.2)
theorem aN.ku {l:List Nat} {s:aN} (h:s.among l=true) {c:Nat} (hc:s.has c=true):c∈l:=by
 cases s with
 |c s=>exact dG.ku h hc
 |c8 m=>exact K5 h hc
 |undef=>cases hc
theorem bF.ku {l:List Nat} {s:bF} (h:s.among l=true) {c:Nat} (hc:s.has c=true):c∈l:=by
 cases s with
 |cells m=>exact F6 h hc
 |row e u xs=>cases hc
 |map aO aV es=>cases hc
 |val u x=>cases hc
 |obj o=>cases hc
 |dep d o=>rw[←Nat.eq_of_beq_eq_true hc];exact List.contains_iff_mem.1 h
theorem yK {l:List Nat}: ∀{B:aG},wR l B=true→ ∀{c ch},ax B c=some ch→ch.among l=true
 | [],_,c,ch,h=>by cases h
 |(d,x)::B,h,c,ch,hc=>by
  simp only[wR,Bool.and_eq_true] at h
  rw[cC] at hc
  split at hc
  ·injection hc with hc;subst hc;exact h.1
  ·exact yK h.2 hc
section
variable {ρ:Nat→bn} {I:Nat→Prop} {w:World}
theorem Sq: ∀{x y:D} {v:Value},E7 x y→Den I w x v→Den I w y v:=by
 intro x y v h hv
 unfold E7 at h
 split at h
 ·split at h
  ·rename_i e
   have:=nD e
   subst this h
   exact hv
  ·exact h.elim
 ·subst h;exact hv
 ·subst h;exact hv
 ·subst h;exact hv
 ·subst h;exact hv
 ·subst h;exact hv
 ·subst h;exact hv
 ·subst h;exact hv
 ·split at h
  ·rename_i e _
   subst e
   have h:_=_:=h
   subst h
   exact hv
  ·exact h.elim
 ·exact h.elim
theorem K6 {s t:bx} {v:Value} (h:Cq s t) (hv:dI ρ I w s v):dI ρ I w t v:=by
 unfold Cq at h
 split at h
 ·trivial
 ·exact Sq h hv
 ·subst h
  rw[show v=_ from hv]
  exact⟨none,0,rfl,Nat.le_refl _,Nat.zero_le _,fun h=>absurd h (Nat.lt_irrefl 0)⟩
 ·subst h;exact hv
theorem F7: ∀{l m:List bx} {vs:List Value},Cr l m→bZ ρ I w l vs→bZ ρ I w m vs
 | [],[],_,_,h=>h
 |s::l,t::m,_,⟨aa,af⟩,⟨v,r,e,g1,g2⟩=>⟨v,r,e,K6 aa g1,F7 af g2⟩
 | [],_::_,_,h,_=>h.elim
 |_::_,[],_,h,_=>h.elim
theorem K7 {s t:dG} {v:Value} (h:Cs s t) (hv:fS ρ I w s v):fS ρ I w t v:=by
 unfold Cs at h
 split at h
 ·exact K6 h hv
 ·obtain⟨vs,e,hv⟩:=hv
  exact⟨vs,e,F7 h hv⟩
 ·trivial
 ·split at h
  ·rename_i hu _
   subst hu
   have h:_=_:=h
   subst h
   exact hv
  ·exact h.elim
 ·trivial
 ·exact h.elim
theorem K8: ∀{l m:List dG} {vs:List Value},E8 l m→iD ρ I w l vs→iD ρ I w m vs
 | [],[],_,_,h=>h
 |s::l,t::m,_,⟨aa,af⟩,⟨v,r,e,g1,g2⟩=>⟨v,r,e,K7 aa g1,K8 af g2⟩
 | [],_::_,_,h,_=>h.elim
 |_::_,[],_,h,_=>h.elim
theorem wS {s t:aN} {v:Value} (h:sq s t) (hv:cj ρ I w s v):cj ρ I w t v:=by
 unfold sq at h
 split at h
 ·exact K7 h hv
 ·obtain⟨vs,e,hv⟩:=hv
  exact⟨vs,e,K8 h hv⟩
 ·exact hv
 ·trivial
 ·exact h.elim
theorem K9: ∀{l m:List aN},E9 l m→l.length=m.length∧ ∀(i:Nat) (t:aN),m[i]? =some t→ ∃s,l[i]? =some s∧sq s t
 | [],[],_=>⟨rfl,fun i t h=>by simp at h⟩
 |s::l,t::m,⟨aa,af⟩=>by
  obtain⟨g1,g2⟩:=K9 af
  refine⟨by simp[g1],fun i u hu=>?_⟩
  match i with
  |0=>
   simp only[List.getElem?_cons_zero,Option.some.injEq] at hu
   subst hu
   exact⟨s,rfl,aa⟩
  |i+1=>exact g2 i u (by simpa using hu)
 | [],_::_,h=>h.elim
 |_::_,[],h=>h.elim
end
theorem Fn.arg {P:Program} {f:FuncId} {args args':List aN} {aP:aG} {bu:List Nat} {res:aN} {aZ:aG} (h:Fn P f args' aP bu res aZ) (aB:E9 args args'):Fn P f args aP bu res aZ:=by
 obtain⟨aa,af⟩:=K9 aB
 refine⟨h.1,fun ρ F I w b6 ct cB a3 a4 a5 gT=>h.2 ρ F I w b6 ct cB a3 a4 (a5.trans aa) fun i v x hv hx=>?_⟩
 obtain⟨s,g1,g2⟩:=af i v hv
 exact wS g2 (gT i s x g1 hx)
theorem Sr {C:Ctx} {ds:List Nat} {B:aG} {ρ:Nat→bn} {F:Nat→Nat→Prop} {w w':World} (h:Mem ids (C.at ds) B ρ F w) (cv:Fr (fun D=>D∈ds) w w'):
  Mem ids (C.at []) B ρ F w'∧Ext (bS (C.at ds) B F w) w (bS (C.at []) B F w') w':=by
 have gV: ∀b,(C.x9 b∨C.pL b∨C.w0.heap.size≤b∧b∉ds)→b∉ds:=fun b ag hd=>by
  have bL:C.w0.heap.size≤b:=(h.marks.2.2 b hd).2.2
  rcases ag with ag |ag |ag
  ·have gU:b < C.w0.heap.size:=h.marks.2.1 b (.inl ag)
   omega
  ·have gU:b < C.w0.heap.size:=h.marks.2.1 b (.inr ag)
   omega
  ·exact ag.2 hd
 have bA:Ext (bS (C.at ds) B F w) w (bS (C.at []) B F w') w':=fun b ag=>
  ⟨⟨Nat.lt_of_lt_of_le ag.1 cv.size,ag.2.1.imp id fun x=>x.imp id fun x=>⟨x.1,by simp⟩,ag.2.2⟩,cv.block b ag.1 (gV b ag.2.1)⟩
 have hF: ∀c ch,ax B c=some ch→ ∀b,F c b→w'.heap[b]? =w.heap[b]? :=fun c ch hc b ag=>by
  obtain⟨cK,c5⟩:=h.own c ch hc b ag
  exact cv.block b cK (gV b (.inr c5))
 refine⟨⟨h.ja.trans cv fun i ay hd=>?_,fun c ch hc=>Holds.cA bA (hF c ch hc) cv.size ch (fun _ _=>rfl) (h.holds c ch hc),fun c ch hc b ag=>?_,h.e4,h.keep,List.nodup_nil,h.marks.2.1,fun D bW=>by cases bW⟩,bA⟩
 ·have aA:C.w0.heap.size≤i:=(h.marks.2.2 i hd).2.2
  have ay:i < C.w0.heap.size:=ay
  omega
 ·obtain⟨cK,c5⟩:=h.own c ch hc b ag
  exact⟨Nat.lt_of_lt_of_le cK cv.size,c5.imp id fun x=>⟨x.1,by simp⟩⟩
theorem La {F:Fence} {n:Nat} {fn:Func} {tmps:Array Value} {R:Ending→World→Prop}: ∀(ds:List Nat) (w:World),ds.Nodup→(∀D,D∈ds→D < w.heap.size∧w.heap[D]? =some (.deferred (some [])))→
  (∀w',Fr (fun D=>D∈ds) w w'→LeavesIn F n P fn tmps R [] .returning w')→LeavesInM F n P fn tmps R (ds.map wq) .returning w
 | [],w,_,_,h=>h w (Fr.refl _ w)
 |D::ds,w,hn,hd,h=>by
  obtain⟨eM,gj⟩:=List.nodup_cons.1 hn
  obtain⟨d1,d2⟩:=hd D (List.mem_cons_self ..)
  have hf:Fr (fun b=>b=D) w (w.putObj D (.deferred none)):=⟨rfl,rfl,rfl,Nat.le_of_eq (World.putObj_size).symm,fun k _ au=>World.putObj_heap_other au⟩
  refine⟨fun e=>(by cases e),.inl ⟨D,w.putObj D (.deferred none),rfl,run_takeDeferred d2,La ds _ gj (fun E bA=>?_) fun w' hw'=>h w' ?_⟩⟩
  ·obtain⟨cK,c5⟩:=hd E (List.mem_cons_of_mem _ bA)
   exact⟨by rw[World.putObj_size];exact cK,(World.putObj_heap_other (r:=D) (k:=E) fun e=>eM (e▸bA)).trans c5⟩
  ·exact(hf.mono fun i _ (ay:i=D)=>by rw[ay];exact List.mem_cons_self ..).trans hw' fun i _ ay=>List.mem_cons_of_mem _ ay
theorem Lb {F:Fence} {n:Nat} {fn:Func} {R:Ending→World→Prop} {C:Ctx} {ds:List Nat} {K:aQ} {B:aG} {a:Act} {w:World} (hs:Sat N ids (C.at ds) K B a w)
  (h: ∀w',Sat N ids (C.at []) K B {a with defers:=[]} w'→ ∃v,(results fn a.tmps).run P w'= .ok v w'∧R (.returned v) w'):LeavesInM F n P fn a.tmps R a.defers .returning w:=by
 obtain⟨aa,af,ρ,G,az,hS⟩:=hs
 rw[af]
 refine La ds w az.marks.1 (fun D bW=>⟨(az.marks.2.2 D bW).1,(az.marks.2.2 D bW).2.1⟩) fun w' hw'=>h w' ?_
 obtain⟨bT,bA⟩:=Sr az hw'
 exact⟨aa,rfl,ρ,G,bT,hS.mono bA fun _ _ _=>rfl⟩
def Lc (tt:c4) (ids bu:List Nat) (rs:List ResultVar) (res:aN) (aZ:aG) (e:om) (K:aQ) (B:aG):Prop:=match e with
 | .ex _=>False
 |_=> ∃K' B' r,ah ids K B K' B'∧wQ tt K' B' rs=some r∧sq (F4 r) res∧nA B' aZ∧(res.among (ids++bu)&&wR (ids++bu) aZ&&(cS aZ).all (fun c=>(ids++bu).contains c))=true
theorem Fn.of (aX:dP P tt) {f:FuncId} {fn:Func} {c:Code} (stops:List Nat) (args:List aN) (aP:aG) (bu:List Nat) (res:aN) (aZ:aG) (hf:P.funcs[f]? =some fn) (ag:fn.body=some c) (hn:fn.ntmps=N) (iH:l6 P f=true) (hc:kr P N c=true) (fL:Nat.ble args.length N=true) (bW:yH P tt N (cS aP)) {rs:List ResultVar} (F8:fn.results.toList=rs)
  (h:vc P tt N (cS aP) stops c (rB 0 args) aP (Lc tt (cS aP) bu rs res aZ)):Fn P f args aP bu res aZ:=by
 refine⟨iH,?_⟩
 intro ρ F I w b6 bC eo hF fZ hlen ep
 have fL:=Nat.le_of_ble_eq_true fL
 refine K1 (r:=none) (n:=0) (callsIn_of_wp_marks hf ag trivial ?_)
 let C:Ctx:=⟨w,I,fun b=> ∃c ch,ax aP c=some ch∧F c b,ρ,[]⟩
 have rC:Ext I w (bS C aP F w) w:=fun b ag=>⟨⟨bC b ag,.inl ag,fun c ch hc pU=>(hF c ch hc b pU).2 ag⟩,rfl⟩
 have az:Mem (cS aP) C aP ρ F w:=⟨Fr.refl _ _,fun c ch hc=>Holds.cA rC (fun _ _=>rfl) (Nat.le_refl _) ch (fun _ _=>rfl) (eo c ch hc),fun c ch hc b ag=>⟨(hF c ch hc b ag).1,.inl ⟨c,ch,hc,ag⟩⟩,fZ,fun c _=>rfl,List.nodup_nil,fun b ag=>ag.elim (bC b) fun⟨c,ch,hc,AF⟩=>(hF c ch hc b AF).1,fun D bW=>by cases bW⟩
 refine yI aX bW stops c _ _ _ hc h none (fun _=>rfl) C _ ?_ _ w ⟨by simp[hlen,hn];omega,rfl,ρ,F,az,fun s=>?_⟩
 ·intro e K' B' ds _ he a' w' dH
  cases e with
  |ex i=>exact he.elim
  |_=>
   obtain⟨Ld,jl,r,hle,hr,hp,iN,oQ⟩:=he
   refine Lb dH fun w' dH=>?_
   obtain⟨jc,jk,ρ',F',bT,AG⟩:=hle N C _ w' dH
   obtain⟨vs,ef,rD⟩: ∃vs:List Value,(rs.mapM (sF a'.tmps)).run P w'= .ok vs w'∧iD ρ' (bS C jl F' w') w' r vs:=CY aX bT AG rs r hr
   have kW: ∃x,(results fn a'.tmps).run P w'= .ok x w'∧cj ρ' (bS C jl F' w') w' (F4 r) x:=by
    have aa:fn.results=rs.toArray:=by rw[←F8]
    have af:(fn.results.mapM (sF a'.tmps)).run P w'= .ok (List.toArray vs) w':=by
     rw[aa,List.mapM_toArray]
     simp[ef]
    have aA:results fn a'.tmps=(do let vs←fn.results.mapM (sF a'.tmps);pure (if h:vs.size=1 then vs[0] else .tuple vs)):=rfl
    rw[aA]
    match r,vs,rD,af with
    | [],_,e,af=>rw[show _=[] from e] at af;exact⟨.tuple #[],by simp[af],[],rfl,rfl⟩
    | [x],_,⟨v,s,e,hv,hs⟩,af=>
     have hs:s=[]:=hs
     subst hs e
     exact⟨v,by simp[af],hv⟩
    |x::y::r,_,⟨v,s,e,hv,v2,s2,aq,tT,e6⟩,af=>
     subst aq e
     exact⟨.tuple (List.toArray (v::v2::s2)),by simp[af],_,rfl,v,_,rfl,hv,v2,s2,rfl,tT,e6⟩
   obtain⟨x,hx,rz⟩:=kW
   have rz:=wS hp rz
   simp only[Bool.and_eq_true] at oQ
   let tU:Nat→bn:=fun c=>if c∈bu then ρ' c else ρ c
   have qC: ∀c,c∈cS aP++bu→tU c=ρ' c:=fun c hc=>by
    show(if c∈bu then ρ' c else ρ c)=ρ' c
    split
    ·rfl
    ·rename_i hn
     rcases List.mem_append.1 hc with h |h
     ·exact(bT.keep c h).symm
     ·exact absurd h hn
   refine⟨x,hx,x,tU,F',rfl,bT.ja,fun c hc=>if_neg hc,bS C jl F' w',?_,fun b ag=>⟨ag.1,?_⟩,?_,?_,?_,?_⟩
   ·intro b ag
    have u6: ¬C.pL b:=fun⟨c,ch,aa,af⟩=>(hF c ch aa b af).2 ag
    refine⟨⟨Nat.lt_of_lt_of_le (bC b ag) bT.ja.size,.inl ag,fun c ch hc pU=>?_⟩,bT.ja.block b (bC b ag) u6⟩
    rcases(bT.own c ch hc b pU).2 with h |h
    ·exact u6 h
    ·have:=bC b ag;exact absurd h.1 (Nat.not_le.2 this)
   ·rcases ag.2.1 with h |h |h
    ·exact .inl h
    ·exact .inr (.inl h)
    ·exact .inr (.inr h.1)
   ·intro c ch hc
    have au:c∈cS aP++bu:=by
     have:=List.all_eq_true.1 oQ.2 c (gi.2 ⟨ch,hc⟩)
     simpa only[List.contains_iff_mem] using this
    rw[qC c au]
    exact Holds.cA (Ext.refl _ _) (fun _ _=>rfl) (Nat.le_refl _) ch (fun d hd=>qC d (bF.ku (yK oQ.1.2 hc) hd)) (bT.holds c ch (kq iN hc))
   ·intro c ch hc b ag
    have dw:=kq iN hc
    exact⟨(bT.own c ch dw b ag).1,fun ay=>ay.2.2 c ch dw ag,(bT.own c ch dw b ag).2.imp id fun x=>x.1⟩
   ·exact fun c bY ch bg b aa af=>bT.e4 c bY ch bg b (kq iN aa) (kq iN af)
   ·exact cj.mono (Ext.refl _ _) res x (fun c hc=>qC c (aN.ku oQ.1.1 hc)) rz
 ·rw[AD]
  simp only[Nat.zero_le,if_true,Nat.sub_zero]
  cases hs:args[s]? with
  |none=>trivial
  |some v=>
   have bH:s < b6.length:=by rw[hlen];exact(List.getElem?_eq_some_iff.1 hs).1
   simp only[Option.getD_some]
   have hx:b6[s]? =some b6[s]:=List.getElem?_eq_getElem bH
   have:=cj.mono rC v _ (fun _ _=>rfl) (ep s v _ hs hx)
   simpa[Array.getElem?_append,bH,hx] using this
end
end Go.Proofs.YteoamepgonpdlaaGreat
set_option linter.unusedVariables false
set_option linter.unusedSimpArgs false
namespace Go.Proofs.YteoamepgonpdlaaGreat
open Go.RowKit
section
variable {ids:List Nat} {K:aQ} {B:aG} {C:Ctx} {ρ:Nat→bn} {F:Nat→Nat→Prop} {w:World}
def AH (K:aQ):aQ→Prop
 | []=>True
 |(s,v)::l=>sq (look K s) v∧AH K l
theorem F9: ∀{K' K:aQ},AH K K'→ ∀s,sq (look K s) (look K' s)∨look K' s= .c (.one .any)
 | [],K,h,s=>.inr rfl
 |(t,v)::K',K,h,s=>by
  rw[kF]
  split
  ·rename_i e
   subst e
   exact .inl h.1
  ·exact F9 h.2 s
theorem ah.sub {K':aQ} {B':aG} (hK:AH K K') (eA:nA B B'):ah ids K B K' B':=by
 rintro N C a w ⟨aa,af,ρ,F,az,hS⟩
 obtain⟨bT,bA⟩:=az.step (B':=B') (ρ':=ρ) (F':=F) (w':=w) (fun c=>ax B' c=none) (fun _=>False) (Fr.refl _ _) (fun c ch hc _=>kq eA hc) (fun _ _=>rfl) (fun _ _=>rfl) (fun _ _ h=>h) (fun _ h=>h.elim) (fun _ _ _ _ _ _ h=>h)
  (fun c ch hc hn=>by rw[hn] at hc;cases hc) (fun c ch hc hn=>by rw[hn] at hc;cases hc) (fun c bY ch bg b hc _ hn=>by rw[hn] at hc;cases hc)
 refine⟨aa,af,ρ,F,bT,fun s=>?_⟩
 rcases F9 hK s with h |h
 ·exact cj.mono bA _ _ (fun _ _=>rfl) (wS h (hS s))
 ·rw[h];trivial
def bx.dV (c:Nat) (x:D):bx→bx
 | .own b=>match Nat.beq b c with
  |true=>.d x
  |false=>.own b
 |s=>s
def C0 (c:Nat) (x:D):List bx→List bx
 | []=>[]
 |s::l=>s.dV c x::C0 c x l
def dG.dV (c:Nat) (x:D):dG→dG
 | .one s=>.one (s.dV c x)
 | .agg l=>.agg (C0 c x l)
 | .jx u y=>.jx u y
def Ga (c:Nat) (x:D):List dG→List dG
 | []=>[]
 |s::l=>s.dV c x::Ga c x l
def aN.dV (c:Nat) (x:D):aN→aN
 | .c s=>.c (s.dV c x)
 | .c8 l=>.c8 (Ga c x l)
 | .undef=>.undef
def C1 (c:Nat) (x:D):aQ→aQ
 | []=>[]
 |(s,v)::K=>(s,v.dV c x)::C1 c x K
def bF.dV (c:Nat) (x:D):bF→bF
 | .cells l=>.cells (C0 c x l)
 |ch=>ch
def pV (c:Nat) (x:D):aG→aG
 | []=>[]
 |(b,ch)::B=>match Nat.beq b c with
  |true=>pV c x B
  |false=>(b,ch.dV c x)::pV c x B
theorem Le {c:Nat} {x:D}: ∀(K:aQ) (s:Nat),look (C1 c x K) s=(look K s).dV c x
 | [],s=>rfl
 |(t,v)::K,s=>by
  simp only[C1]
  rw[kF,kF,Le K s]
  split <;>rfl
theorem wT {c:Nat} {x:D}: ∀(B:aG) (d:Nat),ax (pV c x B) d=if c=d then none else(ax B d).map (·.dV c x)
 | [],d=>by simp[pV,ax]
 |(b,ch)::B,d=>by
  unfold pV
  split
  ·rename_i e
   have:=Nat.eq_of_beq_eq_true e
   subst this
   rw[wT B d,cC]
   split <;>rfl
  ·rename_i e
   have bf:b≠c:=fun h=>by subst h;simp at e
   rw[cC,cC,wT B d]
   by_cases h:b=d
   ·subst h;rw[if_pos rfl,if_pos rfl,if_neg (Ne.symm bf)];rfl
   ·rw[if_neg h,if_neg h]
section
variable {I I':Nat→Prop} {c:Nat} {x:D}
theorem dI.dV (he:Ext I w I' w) (hx:Den I' w x (ρ c).hdr) (s:bx) (v:Value) (h:dI ρ I w s v):dI ρ I' w (s.dV c x) v:=by
 cases s with
 |own b=>
  unfold bx.dV
  simp only
  split
  ·rename_i e
   have:=Nat.eq_of_beq_eq_true e
   subst this
   rw[show v=_ from h]
   exact hx
  ·exact h
 |d y=>exact dI.mono (ρ':=ρ) he (.d y) v (fun _ _=>rfl) h
 |el u y o=>exact dI.mono (ρ':=ρ) he (.el u y o) v (fun _ _=>rfl) h
 |eH f l=>exact dI.mono (ρ':=ρ) he (.eH f l) v (fun _ _=>rfl) h
 |_=>exact h
theorem bZ.dV (he:Ext I w I' w) (hx:Den I' w x (ρ c).hdr): ∀(l:List bx) (vs:List Value),bZ ρ I w l vs→bZ ρ I' w (C0 c x l) vs
 | [],_,h=>h
 |s::l,_,⟨v,r,e,aa,af⟩=>⟨v,r,e,dI.dV he hx s v aa,bZ.dV he hx l r af⟩
theorem fS.dV (he:Ext I w I' w) (hx:Den I' w x (ρ c).hdr) (s:dG) (v:Value) (h:fS ρ I w s v):fS ρ I' w (s.dV c x) v:=by
 cases s with
 |one s=>exact dI.dV he hx s v h
 |agg l=>obtain⟨vs,e,h⟩:=h;exact⟨vs,e,bZ.dV he hx l vs h⟩
 |jx u y=>obtain⟨vs,e,aa,af⟩:=h;exact⟨vs,e,aa,cg.mono he u y _ _ (fun _ _ h=>h) af⟩
theorem iD.dV (he:Ext I w I' w) (hx:Den I' w x (ρ c).hdr): ∀(l:List dG) (vs:List Value),iD ρ I w l vs→iD ρ I' w (Ga c x l) vs
 | [],_,h=>h
 |s::l,_,⟨v,r,e,aa,af⟩=>⟨v,r,e,fS.dV he hx s v aa,iD.dV he hx l r af⟩
theorem cj.dV (he:Ext I w I' w) (hx:Den I' w x (ρ c).hdr) (s:aN) (v:Value) (h:cj ρ I w s v):cj ρ I' w (s.dV c x) v:=by
 cases s with
 |c s=>exact fS.dV he hx s v h
 |c8 l=>obtain⟨vs,e,h⟩:=h;exact⟨vs,e,iD.dV he hx l vs h⟩
 |undef=>exact h
end
theorem Mem.dV (az:Mem ids C B ρ F w) {c:Nat} {e:TypeId} {u:U} {xs:List (aJ u)} (hc:ax B c=some (.row e u xs)):
  Mem ids C (pV c (.cW u xs) B) ρ F w∧Ext (bS C B F w) w (bS C (pV c (.cW u xs) B) F w) w∧Den (bS C (pV c (.cW u xs) B) F w) w (.cW u xs) (ρ c).hdr:=by
 have bM:=az.holds c _ hc
 have yL: ∀b,bS C B F w b→bS C (pV c (.cW u xs) B) F w b:=fun b ⟨aa,af,aA⟩=>⟨aa,af,fun d ch hd ag=>by
  rw[wT] at hd
  split at hd
  ·cases hd
  ·obtain⟨bg,dQ,_⟩:=Option.map_eq_some_iff.1 hd
   exact aA d bg dQ ag⟩
 have ov: ∀b,F c b→bS C (pV c (.cW u xs) B) F w b:=fun b ag=>by
  obtain⟨aa,af⟩:=az.own c _ hc b ag
  refine⟨aa,.inr af,fun d ch hd dm=>?_⟩
  rw[wT] at hd
  split at hd
  ·cases hd
  ·rename_i bf
   obtain⟨bg,dQ,_⟩:=Option.map_eq_some_iff.1 hd
   exact az.e4 c d _ bg b hc dQ bf ag dm
 have ep:Den (bS C (pV c (.cW u xs) B) F w) w (.cW u xs) (ρ c).hdr:=Al bM yL ov
 have bA:Ext (bS C B F w) w (bS C (pV c (.cW u xs) B) F w) w:=fun b ag=>⟨yL b ag,rfl⟩
 refine⟨⟨az.ja,fun d ch hd=>?_,fun d ch hd=>?_,fun d d' ch bg b hd dQ=>?_,az.keep,az.marks⟩,bA,ep⟩
 ·rw[wT] at hd
  split at hd
  ·cases hd
  ·obtain⟨bg,dQ,rfl⟩:=Option.map_eq_some_iff.1 hd
   have:=az.holds d bg dQ
   cases bg with
   |cells l=>
    obtain⟨aa,vs,T,af,aA⟩:=this
    exact⟨aa,vs,T,af,bZ.dV bA ep l vs aA⟩
   |row e u xs=>exact Holds.cA bA (fun _ _=>rfl) (Nat.le_refl _) _ (fun _ _=>rfl) this
   |map aO aV es=>exact Holds.cA bA (fun _ _=>rfl) (Nat.le_refl _) _ (fun _ _=>rfl) this
   |val u x=>exact Holds.cA bA (fun _ _=>rfl) (Nat.le_refl _) _ (fun _ _=>rfl) this
   |obj o=>exact Holds.cA bA (fun _ _=>rfl) (Nat.le_refl _) _ (fun _ _=>rfl) this
   |dep d o=>exact Holds.cA bA (fun _ _=>rfl) (Nat.le_refl _) (.dep d o) (fun _ _=>rfl) this
 ·rw[wT] at hd
  split at hd
  ·cases hd
  ·obtain⟨bg,dQ,_⟩:=Option.map_eq_some_iff.1 hd
   exact az.own d bg dQ
 ·rw[wT] at hd dQ
  split at hd
  ·cases hd
  ·split at dQ
   ·cases dQ
   ·obtain⟨bp,aa,_⟩:=Option.map_eq_some_iff.1 hd
    obtain⟨bq,af,_⟩:=Option.map_eq_some_iff.1 dQ
    exact az.e4 d d' bp bq b aa af
theorem ah.dV (c:Nat) {e:TypeId} {u:U} {xs:List (aJ u)} (hc:ax B c=some (.row e u xs)):ah ids K B (C1 c (.cW u xs) K) (pV c (.cW u xs) B):=by
 rintro N C a w ⟨aa,af,ρ,F,az,hS⟩
 obtain⟨bT,bA,hd⟩:=az.dV hc
 exact⟨aa,af,ρ,F,bT,fun s=>by rw[Le];exact cj.dV bA hd _ _ (hS s)⟩
theorem ah.nil (s c:Nat) (e:TypeId) (u:U) (hs:look K s= .c (.one .ee)) (hf:gu ids K B c=true):ah ids K B ((s,.c (.one (.own c)))::K) ((c,.row e u [])::B):=by
 rintro N C a w ⟨aa,af,ρ,F,az,hS⟩
 have cv:=kT hf
 obtain⟨bT,bA⟩:=az.make (ch:=.row e u []) (w':=w) hf (Below.refl _ _) ⟨0,none,0,0⟩ (fun _=>False) (fun b h=>h.elim) (fun I _ _=>⟨fun b=>by simp[bn.hdr,Value.ownBlock],fun b ag=>by simp[bn.hdr,Value.ownBlock] at ag,[],World.ownsRow_nil _ _ _ _,gA.nil u⟩)
 refine⟨aa,af,_,_,bT,fun t=>?_⟩
 rw[kF]
 split
 ·rename_i e
  subst e
  have:=hS s
  rw[hs] at this
  rw[show a.tmps.getD s undef= .slice none 0 0 from this]
  simp only[cj,fS,dI,dN,bn.hdr]
 ·exact cj.mono bA _ _ (fun d hd=>dL _ _ (fun e=>by subst e;rw[cv.1 t] at hd;cases hd)) (hS t)
theorem ah.Ss (b j c:Nat) (e:TypeId) (u:U) {l:List bx} (ag:ax B b=some (.cells l)) (ak:l[j]? =some .ee) (hf:gu ids K B c=true):ah ids K B K ((b,.cells (l.set j (.own c)))::(c,.row e u [])::B):=by
 rintro N C a w ⟨aa,af,ρ,F,az,hS⟩
 have cv:=kT hf
 obtain⟨bT,bA⟩:=az.make (ch:=.row e u []) (w':=w) hf (Below.refl _ _) ⟨0,none,0,0⟩ (fun _=>False) (fun b h=>h.elim) (fun I _ _=>⟨fun b=>by simp[bn.hdr,Value.ownBlock],fun b ag=>by simp[bn.hdr,Value.ownBlock] at ag,[],World.ownsRow_nil _ _ _ _,gA.nil u⟩)
 have C2:c≠b:=fun e=>by subst e;rw[cv.2.1] at ag;cases ag
 have dm:ax ((c,bF.row e u [])::B) b=some (.cells l):=by rw[cC,if_neg C2];exact ag
 have bM:=bT.holds b _ dm
 obtain⟨jB,AI⟩:=bT.jV (ch:=.cells (l.set j (.own c))) dm (Fr.refl _ _) (fun I he=>by
  obtain⟨g1,vs,T,g2,bL⟩:=bM
  refine⟨g1,vs,T,g2,?_⟩
  have bL:=bZ.mono (ρ':=dx ρ c ⟨0,none,0,0⟩) he l vs (fun _ _=>rfl) bL
  have key: ∀(l:List bx) (vs:List Value) (j:Nat),l[j]? =some .ee→bZ (dx ρ c ⟨0,none,0,0⟩) I w l vs→bZ (dx ρ c ⟨0,none,0,0⟩) I w (l.set j (.own c)) vs:=fun l=>by
   induction l with
   |nil=>intro vs j ak;simp at ak
   |cons s l aY=>
    rintro _ j ak ⟨v,r,rfl,cK,c5⟩
    match j with
    |0=>
     simp only[List.getElem?_cons_zero,Option.some.injEq] at ak
     subst ak
     refine⟨v,r,rfl,?_,c5⟩
     rw[show v= .slice none 0 0 from cK]
     simp only[dI,dN,bn.hdr]
    |j+1=>exact⟨v,r,rfl,cK,aY r j (by simpa using ak) c5⟩
  exact key l vs j ak bL)
 refine⟨aa,af,_,_,jB,fun t=>?_⟩
 exact cj.mono (bA.trans AI) _ _ (fun d hd=>dL _ _ (fun e=>by subst e;rw[cv.1 t] at hd;cases hd)) (hS t)
def C3 (c d:Nat):List ki→List ki
 | []=>[]
 | .p b o::l=>(match Nat.beq b c with
  |true=>.p d o
  |false=>.p b o)::C3 c d l
 | .d x::l=>.d x::C3 c d l
def bx.ren (c d:Nat):bx→bx
 | .ptr b o=>match Nat.beq b c with
  |true=>.ptr d o
  |false=>.ptr b o
 | .own b=>match Nat.beq b c with
  |true=>.own d
  |false=>.own b
 | .fh b s i o=>match Nat.beq b c with
  |true=>.fh d s i o
  |false=>.fh b s i o
 | .os b s o n=>match Nat.beq b c with
  |true=>.os d s o n
  |false=>.os b s o n
 | .mp b=>match Nat.beq b c with
  |true=>.mp d
  |false=>.mp b
 | .eH f l=>.eH f (C3 c d l)
 |s=>s
def C4 (c d:Nat):List bx→List bx
 | []=>[]
 |s::l=>s.ren c d::C4 c d l
def dG.ren (c d:Nat):dG→dG
 | .one s=>.one (s.ren c d)
 | .agg l=>.agg (C4 c d l)
 | .jx u x=>.jx u x
def Gb (c d:Nat):List dG→List dG
 | []=>[]
 |s::l=>s.ren c d::Gb c d l
def aN.ren (c d:Nat):aN→aN
 | .c s=>.c (s.ren c d)
 | .c8 l=>.c8 (Gb c d l)
 | .undef=>.undef
def C5 (c d:Nat):aQ→aQ
 | []=>[]
 |(s,v)::K=>(s,v.ren c d)::C5 c d K
def bF.ren (c d:Nat):bF→bF
 | .cells l=>.cells (C4 c d l)
 | .dep b o=>match Nat.beq b c with
  |true=>.dep d o
  |false=>.dep b o
 |ch=>ch
def u7 (c d:Nat):aG→aG
 | []=>[]
 |(b,ch)::B=>match Nat.beq b c with
  |true=>(d,ch.ren c d)::u7 c d B
  |false=>(b,ch.ren c d)::u7 c d B
theorem Lf {c d:Nat}: ∀(K:aQ) (s:Nat),look (C5 c d K) s=(look K s).ren c d
 | [],s=>rfl
 |(t,v)::K,s=>by
  simp only[C5]
  rw[kF,kF,Lf K s]
  split <;>rfl
theorem Lg {c d:Nat}: ∀(B:aG),ax B d=none→ ∀b,ax (u7 c d B) b=if b=d then(ax B c).map (·.ren c d) else if b=c then none else(ax B b).map (·.ren c d)
 | [],_,b=>by simp[u7,ax]
 |(t,ch)::B,hd,b=>by
  rw[cC] at hd
  have Lh:t≠d:=fun e=>by rw[if_pos e] at hd;cases hd
  rw[if_neg Lh] at hd
  have aY:=Lg (c:=c) B hd b
  unfold u7
  split
  ·rename_i e
   have:=Nat.eq_of_beq_eq_true e
   subst this
   rw[cC,cC,if_pos rfl,aY,cC]
   by_cases aa:b=d
   ·subst aa;simp
   ·rw[if_neg (Ne.symm aa),if_neg aa,if_neg aa]
    by_cases af:b=t
    ·rw[if_pos af,if_pos af]
    ·rw[if_neg af,if_neg af,if_neg (Ne.symm af)]
  ·rename_i e
   have bf:t≠c:=fun h=>by subst h;simp at e
   rw[cC,aY,cC,cC,if_neg bf]
   by_cases aa:b=d
   ·subst aa;rw[if_neg Lh,if_pos rfl,if_pos rfl]
   ·rw[if_neg aa,if_neg aa]
    by_cases af:b=c
    ·subst af;rw[if_neg bf,if_pos rfl,if_pos rfl]
    ·rw[if_neg af,if_neg af]
     by_cases aA:t=b
     ·rw[if_pos aA,if_pos aA];rfl
     ·rw[if_neg aA,if_neg aA]
section
variable {I:Nat→Prop} {c d:Nat}
theorem gS.ren: ∀(l:List ki) (vs:List Value),lu d l=false→gS ρ I w l vs→gS (dx ρ d (ρ c)) I w (C3 c d l) vs
 | [],_,_,h=>h
 | .p b o::l,_,hd,⟨v,r,e,aa,af⟩=>by
  simp only[lu,Bool.or_eq_false_iff] at hd
  refine⟨v,r,e,?_,gS.ren l r hd.2 af⟩
  split
  ·rename_i e
   have:=Nat.eq_of_beq_eq_true e
   subst this
   simp only[wo,dN] at aa⊢
   exact aa
  ·simp only[wo] at aa⊢
   rw[dL _ _ (fun e=>by subst e;simp at hd)]
   exact aa
 | .d x::l,_,hd,⟨v,r,e,aa,af⟩=>⟨v,r,e,aa,gS.ren l r (by simpa[lu] using hd) af⟩
theorem dI.ren (s:bx) (v:Value) (hd:s.has d=false) (h:dI ρ I w s v):dI (dx ρ d (ρ c)) I w (s.ren c d) v:=by
 have key: ∀b,Nat.beq b d=false→(match Nat.beq b c with |true=>dx ρ d (ρ c) d=ρ b |false=>dx ρ d (ρ c) b=ρ b):=fun b ag=>by
  split
  ·rename_i e
   rw[dN,Nat.eq_of_beq_eq_true e]
  ·exact dL _ _ (fun e=>by subst e;simp at ag)
 cases s with
 |ptr b o=>
  have:=key b hd
  unfold bx.ren
  simp only
  split <;>rename_i e <;>rw[e] at this <;>simp only at this <;>simp only[dI] at h⊢ <;>rw[this] <;>exact h
 |own b=>
  have:=key b hd
  unfold bx.ren
  simp only
  split <;>rename_i e <;>rw[e] at this <;>simp only at this <;>simp only[dI] at h⊢ <;>rw[this] <;>exact h
 |fh b s i o=>
  have:=key b hd
  unfold bx.ren
  simp only
  split <;>rename_i e <;>rw[e] at this <;>simp only at this <;>simp only[dI] at h⊢ <;>rw[this] <;>exact h
 |os b s o n=>
  have:=key b hd
  unfold bx.ren
  simp only
  split <;>rename_i e <;>rw[e] at this <;>simp only at this <;>simp only[dI] at h⊢ <;>rw[this] <;>exact h
 |mp b=>
  have:=key b hd
  unfold bx.ren
  simp only
  split <;>rename_i e <;>rw[e] at this <;>simp only at this <;>simp only[dI] at h⊢ <;>rw[this] <;>exact h
 |d y=>exact h
 |el u y o=>exact h
 |eH f l=>obtain⟨vs,e,h⟩:=h;exact⟨vs,e,gS.ren l vs hd h⟩
 |ee=>exact h
 |raw v=>exact h
 |any=>exact h
theorem bZ.ren: ∀(l:List bx) (vs:List Value),mR d l=false→bZ ρ I w l vs→bZ (dx ρ d (ρ c)) I w (C4 c d l) vs
 | [],_,_,h=>h
 |s::l,_,hd,⟨v,r,e,aa,af⟩=>by
  simp only[mR,Bool.or_eq_false_iff] at hd
  exact⟨v,r,e,dI.ren s v hd.1 aa,bZ.ren l r hd.2 af⟩
theorem fS.ren (s:dG) (v:Value) (hd:s.has d=false) (h:fS ρ I w s v):fS (dx ρ d (ρ c)) I w (s.ren c d) v:=by
 cases s with
 |one s=>exact dI.ren s v hd h
 |agg l=>obtain⟨vs,e,h⟩:=h;exact⟨vs,e,bZ.ren l vs hd h⟩
 |jx u x=>exact h
theorem iD.ren: ∀(l:List dG) (vs:List Value),sj d l=false→iD ρ I w l vs→iD (dx ρ d (ρ c)) I w (Gb c d l) vs
 | [],_,_,h=>h
 |s::l,_,hd,⟨v,r,e,aa,af⟩=>by
  simp only[sj,Bool.or_eq_false_iff] at hd
  exact⟨v,r,e,fS.ren s v hd.1 aa,iD.ren l r hd.2 af⟩
theorem cj.ren (s:aN) (v:Value) (hd:s.has d=false) (h:cj ρ I w s v):cj (dx ρ d (ρ c)) I w (s.ren c d) v:=by
 cases s with
 |c s=>exact fS.ren s v hd h
 |c8 l=>obtain⟨vs,e,h⟩:=h;exact⟨vs,e,iD.ren l vs hd h⟩
 |undef=>exact h
end
theorem ah.ren (c d:Nat) (hf:gu ids K B d=true):ah ids K B (C5 c d K) (u7 c d B):=by
 rintro N C a w ⟨aa,af,ρ,F,az,hS⟩
 obtain⟨f1,f2,f3,f4⟩:=kT hf
 have Aw:=Lg (c:=c) (d:=d) B f2
 have back: ∀b ch,ax (u7 c d B) b=some ch→ ∃l9 cr,ax B l9=some cr∧ch=cr.ren c d∧dx F d (F c) b=F l9∧dx ρ d (ρ c) b=ρ l9∧((b=d∧l9=c)∨(b≠d∧b≠c∧l9=b)):=fun b ch ag=>by
  rw[Aw] at ag
  split at ag
  ·rename_i e
   subst e
   obtain⟨cr,h,rfl⟩:=Option.map_eq_some_iff.1 ag
   exact⟨c,cr,h,rfl,dN _ _ _,dN _ _ _,.inl ⟨rfl,rfl⟩⟩
  ·rename_i e
   split at ag
   ·cases ag
   ·rename_i aq
    obtain⟨cr,h,rfl⟩:=Option.map_eq_some_iff.1 ag
    exact⟨b,cr,h,rfl,dL _ _ e,dL _ _ e,.inr ⟨e,aq,rfl⟩⟩
 have bA:Ext (bS C B F w) w (bS C (u7 c d B) (dx F d (F c)) w) w:=fun b ⟨cK,c5,fU⟩=>⟨⟨cK,c5,fun e ch he hF=>by
  obtain⟨l9,cr,g1,_,g2,_⟩:=back e ch he
  rw[g2] at hF
  exact fU l9 cr g1 hF⟩,rfl⟩
 refine⟨aa,af,dx ρ d (ρ c),dx F d (F c),⟨az.ja,fun b ch ag=>?_,fun b ch ag x hx=>?_,fun b eX ch bg x ag dm bf hx eB=>?_,fun e he=>?_,az.marks⟩,fun s=>?_⟩
 ·obtain⟨l9,cr,g1,rfl,g2,bL,_⟩:=back b ch ag
  rw[g2,bL]
  have:=az.holds l9 cr g1
  have eS:=f3 l9 cr g1
  cases cr with
  |cells l=>
   obtain⟨cE,vs,T,ey,fo⟩:=this
   exact⟨cE,vs,T,ey,bZ.mono bA _ _ (fun _ _=>rfl) (bZ.ren l vs eS fo)⟩
  |row e u xs=>exact Holds.cA (ρ':=ρ) bA (fun _ _=>rfl) (Nat.le_refl _) (.row e u xs) (fun _ _=>rfl) this
  |map aO aV es=>exact Holds.cA (ρ':=ρ) bA (fun _ _=>rfl) (Nat.le_refl _) (.map aO aV es) (fun _ _=>rfl) this
  |val u x=>exact Holds.cA (ρ':=ρ) bA (fun _ _=>rfl) (Nat.le_refl _) (.val u x) (fun _ _=>rfl) this
  |obj o=>exact Holds.cA (ρ':=ρ) bA (fun _ _=>rfl) (Nat.le_refl _) (.obj o) (fun _ _=>rfl) this
  |dep j o=>
   have af:=Holds.cA (ρ':=ρ) bA (fun _ _=>rfl) (Nat.le_refl _) (.dep j o) (fun _ _=>rfl) this
   unfold bF.ren
   simp only
   split
   ·rename_i e
    have:=Nat.eq_of_beq_eq_true e
    subst this
    simp only[Holds,dN] at af⊢
    exact af
   ·have ak:j≠d:=fun e=>by subst e;simp[bF.has] at eS
    simp only[Holds] at af⊢
    rw[dL _ _ ak]
    exact af
 ·obtain⟨l9,cr,g1,_,g2,_⟩:=back b ch ag
  rw[g2] at hx
  exact az.own l9 cr g1 x hx
 ·obtain⟨l9,cr,g1,_,g2,_,gU⟩:=back b ch ag
  obtain⟨bQ,ko,cE,_,ey,_,fY⟩:=back eX bg dm
  rw[g2] at hx
  rw[ey] at eB
  refine az.e4 l9 bQ cr ko x g1 cE (fun e=>?_) hx eB
  subst e
  rcases gU with⟨ai,aq⟩ |⟨ai,aq,bk⟩ <;>rcases fY with⟨cX,eR⟩ |⟨cX,eR,gW⟩
  ·exact bf (ai.trans cX.symm)
  ·exact eR (gW.symm.trans aq)
  ·exact aq (bk.symm.trans eR)
  ·exact bf (bk.symm.trans gW)
 ·rw[dL _ _ (fun e'=>by subst e';exact f4 he)]
  exact az.keep e he
 ·rw[Lf]
  exact cj.mono bA _ _ (fun _ _=>rfl) (cj.ren _ _ (f1 s) (hS s))
end
theorem aE.go {P:Program} {tt:c4} {N:Nat} {ids:List Nat} {K K':aQ} {B B':aG} {Q:om→aQ→aG→Prop} {c:Code} (aX:dP P tt) (bW:yH P tt N ids) (stops:List Nat) (hc:kr P N c=true) (h:ah ids K B K' B') (cl:vc P tt N ids stops c K' B' Q):aE P N ids c K B Q:=
 aE.le h (yI aX bW stops c K' B' Q hc cl)
end Go.Proofs.YteoamepgonpdlaaGreat
set_option linter.unusedVariables false
set_option linter.unusedSimpArgs false
namespace Go.Proofs.YteoamepgonpdlaaGreat
open Go.RowKit
section fold
variable {T mg V:Type} (get:mg→Nat→V) (ap:T→mg→mg) (tV:T→Nat→Prop)
def e7 (m:Nat→Bool):Nat→List T→mg→mg
 |_,[],x=>x
 |i,t::l,x=>e7 m (i+1) l (if m i then ap t x else x)
variable (aa: ∀t x s,¬tV t s→get (ap t x) s=get x s) (af: ∀t x y s,get x s=get y s→get (ap t x) s=get (ap t y) s)
include aa af in
theorem yM (m m':Nat→Bool) (s:Nat): ∀(l:List T) (i:Nat) (x y:mg),(∀j t,l[j]? =some t→tV t s→m (i+j)=m' (i+j))→get x s=get y s→get (e7 ap m i l x) s=get (e7 ap m' i l y) s
 | [],i,x,y,_,he=>he
 |t::l,i,x,y,h,he=>by
  unfold e7
  refine yM m m' s l (i+1) _ _ (fun j u ak hu=>by rw[show i+1+j=i+(j+1) by omega];exact h (j+1) u (by simpa using ak) hu) ?_
  by_cases cl:tV t s
  ·have:=h 0 t rfl cl
   rw[Nat.add_zero] at this
   rw[this]
   split
   ·exact af t x y s he
   ·exact he
  ·have ai:get (if m i then ap t x else x) s=get x s:=by split;exact aa t x s cl;rfl
   have aq:get (if m' i then ap t y else y) s=get y s:=by split;exact aa t y s cl;rfl
   rw[ai,aq,he]
include aa af in
theorem Gc (m:Nat→Bool) (k:Nat) (s:Nat): ∀(l:List T) (i:Nat) (x:mg) (t:T),l[k]? =some t→m (i+k)=false→(∀j u,k < j→l[j]? =some u→m (i+j)=true→tV t s→ ¬tV u s)→
  get (e7 ap (fun j=>m j||j == i+k) i l x) s=get (ap t (e7 ap m i l x)) s
 | [],i,x,t,au,_,_=>by simp at au
 |u::l,i,x,t,au,hm,aB=>by
  unfold e7
  match k with
  |0=>
   simp only[List.getElem?_cons_zero,Option.some.injEq] at au
   subst au
   rw[Nat.add_zero] at hm
   simp only[Nat.add_zero,hm,BEq.rfl,Bool.or_true,if_true,Bool.false_eq_true,if_false]
   by_cases cl:tV u s
   ·
    have ai: ∀y,get (e7 ap (fun j=>m j||j == i) (i+1) l y) s=get (e7 ap (fun _=>false) (i+1) l y) s:=fun y=>
     yM get ap tV aa af _ _ s l (i+1) y y (fun j v ak hv=>by
      have bf:(i+1+j == i)=false:=by rw[beq_eq_false_iff_ne];omega
      rw[bf,Bool.or_false]
      cases nL:m (i+1+j) with
      |false=>rfl
      |true=>exact absurd hv (aB (j+1) v (by omega) (by simpa using ak) (by rw[show i+(j+1)=i+1+j by omega];exact nL) cl)) rfl
    have aq: ∀y,get (e7 ap m (i+1) l y) s=get (e7 ap (fun _=>false) (i+1) l y) s:=fun y=>
     yM get ap tV aa af _ _ s l (i+1) y y (fun j v ak hv=>by
      cases nL:m (i+1+j) with
      |false=>rfl
      |true=>exact absurd hv (aB (j+1) v (by omega) (by simpa using ak) (by rw[show i+(j+1)=i+1+j by omega];exact nL) cl)) rfl
    have bk: ∀(l:List T) (i:Nat) (y:mg),e7 ap (fun _=>false) i l y=y:=fun l=>by
     induction l with
     |nil=>exact fun _ _=>rfl
     |cons v l aY=>intro i y;unfold e7;simp[aY]
    rw[ai,bk]
    exact af u x _ s (by rw[aq,bk])
   ·rw[aa u _ s cl]
    exact yM get ap tV aa af _ _ s l (i+1) _ _ (fun j v ak hv=>by
     have bf:(i+1+j == i)=false:=by rw[beq_eq_false_iff_ne];omega
     rw[bf,Bool.or_false]) (aa u x s cl)
  |k+1=>
   have bf:(i == i+(k+1))=false:=by rw[beq_eq_false_iff_ne];omega
   simp only[bf,Bool.or_false]
   have:=Gc m k s l (i+1) (if m i=true then ap u x else x) t (by simpa using au) (by rw[show i+1+k=i+(k+1) by omega];exact hm) (fun j v ak hv St cl=>aB (j+1) v (by omega) (by simpa using hv) (by rw[show i+(j+1)=i+1+j by omega];exact St) cl)
   rw[←this]
   have e:(fun j=>m j||j == i+1+k)=(fun j=>m j||j == i+(k+1)):=by
    funext j
    rw[show i+1+k=i+(k+1) by omega]
   rw[e]
end fold
section
variable {P:Program} {tt:c4} {N:Nat} {ids:List Nat}
abbrev gM:=Oper×kn
def gN (t:gM) (K:aQ):aQ:=lZ t.1.dst t.2.v K
def jm (t:gM) (B:aG):aG:=e5 t.2.e.wc B
def C6 (t:gM) (s:Nat):Prop:=t.1.dst=some s
def Li (t:gM) (s:Nat):Prop:=s∈CF t.2.e
theorem Lj (t:gM) (K:aQ) (s:Nat) (h: ¬C6 t s):look (gN t K) s=look K s:=by
 unfold gN lZ
 unfold C6 at h
 split
 ·rename_i d e
  rw[kF,if_neg (fun x=>h (by rw[e,x]))]
 ·rfl
theorem Lk (t:gM) (K K':aQ) (s:Nat) (h:look K s=look K' s):look (gN t K) s=look (gN t K') s:=by
 unfold gN lZ
 split
 ·rw[kF,kF,h]
 ·exact h
theorem C7: ∀(l:List (Nat×Option bF)) (B B':aG) (s:Nat),ax B s=ax B' s→ax (e5 l B) s=ax (e5 l B') s
 | [],B,B',s,h=>h
 |(c,none)::l,B,B',s,h=>C7 l _ _ s (by rw[jR,jR,h])
 |(c,some ch)::l,B,B',s,h=>C7 l _ _ s (by rw[cC,cC,h])
theorem C8: ∀(l:List (Nat×Option bF)) (B:aG) (s:Nat),s∉l.map (·.1)→ax (e5 l B) s=ax B s
 | [],B,s,h=>rfl
 |(c,none)::l,B,s,h=>by
  simp only[List.map_cons,List.mem_cons,not_or] at h
  unfold e5
  rw[C8 l _ s h.2,jR,if_neg (Ne.symm h.1)]
 |(c,some ch)::l,B,s,h=>by
  simp only[List.map_cons,List.mem_cons,not_or] at h
  unfold e5
  rw[C8 l _ s h.2,cC,if_neg (Ne.symm h.1)]
theorem Sat.congr {C:Ctx} {K K':aQ} {B B':aG} {a:Act} {w:World} (hK: ∀s,look K' s=look K s) (eA: ∀c,ax B' c=ax B c) (h:Sat N ids C K B a w):Sat N ids C K' B' a w:=by
 obtain⟨aa,af,ρ,F,az,hS⟩:=h
 have bC:bS C B' F w=bS C B F w:=by
  funext b
  simp only[bS,eA]
 refine⟨aa,af,ρ,F,⟨az.ja,fun c ch hc=>?_,fun c ch hc=>az.own c ch (by rw[←eA];exact hc),fun c bY ch bg b hc dw=>az.e4 c bY ch bg b (by rw[←eA];exact hc) (by rw[←eA];exact dw),az.keep,az.marks⟩,fun s=>?_⟩
 ·rw[bC];exact az.holds c ch (by rw[←eA];exact hc)
 ·rw[bC,hK];exact hS s
def C9 (P:Program) (N:Nat) (ids:List Nat) (all:List Oper) (t:gM) (K:aQ) (B:aG):Prop:=
 (wants all K t.1.guard=some false∧t.2.v= .undef∧t.2.e=bt)∨(wants all K t.1.guard=some true∧bI P N ids t.1 K B t.2.v t.2.e∧ ∀c,c∈t.2.e.bu→gu ids K B c=true)
theorem bI.lit {o:Oper} {K:aQ} {B:aG} {b:Bool} {e:fk} (h:bI P N ids o K B (.c (.one (.d (.bool b)))) e):bI P N ids o K B (.c (.one (.d (.lit b)))) e:=by
 intro K' B' g1 g2 bL C a w hs bH fl Q hK
 refine h K' B' g1 g2 bL C a w hs bH fl Q fun a' w' dH=>hK a' w' ?_
 cases hd:o.dst with
 |none=>rw[hd] at dH;exact dH
 |some d=>rw[hd] at dH;exact dH.lit
theorem bI.any {o:Oper} {K:aQ} {B:aG} {v v':aN} {e:fk} (hd:o.dst=none) (h:bI P N ids o K B v e):bI P N ids o K B v' e:=by
 intro K' B' g1 g2 bL C a w hs bH fl Q hK
 refine h K' B' g1 g2 bL C a w hs bH fl Q fun a' w' dH=>hK a' w' ?_
 rw[hd] at dH⊢
 exact dH
def AJ (P:Program) (N:Nat) (ids:List Nat) (all:List Oper):List gM→aQ→aG→Prop
 | [],_,_=>True
 |t::l,K,B=>C9 P N ids all t K B∧AJ P N ids all l (gN t K) (jm t B)
def runK:List gM→aQ→aQ
 | [],K=>K
 |t::l,K=>runK l (gN t K)
def yN:List gM→aG→aG
 | [],B=>B
 |t::l,B=>yN l (jm t B)
theorem Ll (aX:dP P tt) (all:List Oper): ∀(l:List Oper) (i:Nat) (K:aQ) (B:aG) (log:List kn) (k:aQ→aG→List kn→Prop),vcs P tt ids all i l K B log k→
  ∃ts:List gM,ts.map (·.1)=l∧AJ P N ids all ts K B∧k (runK ts K) (yN ts B) ((ts.map (·.2)).reverse++log)
 | [],i,K,B,log,k,h=>⟨[],rfl,trivial,h⟩
 |o::l,i,K,B,log,k,h=>by
  have fin: ∀(n:kn),C9 P N ids all (o,n) K B→vcs P tt ids all (i+1) l (gN (o,n) K) (jm (o,n) B) (n::log) k→ ∃ts:List gM,ts.map (·.1)=o::l∧AJ P N ids all ts K B∧k (runK ts K) (yN ts B) ((ts.map (·.2)).reverse++log):=fun n hn hv=>by
   obtain⟨ts,aa,af,aA⟩:=Ll aX all l (i+1) _ _ _ k hv
   exact⟨(o,n)::ts,by simp[aa],⟨hn,af⟩,by simpa[runK,yN] using aA⟩
  rw[J'] at h
  unfold CD at h
  split at h
  ·exact h.elim
  ·rename_i hw
   split at h
   ·rename_i d e
    exact fin ⟨i,.undef,bt⟩ (.inl ⟨hw,rfl,rfl⟩) (by simpa[gN,jm,lZ,e,e5] using h)
   ·rename_i e
    exact fin ⟨i,.undef,bt⟩ (.inl ⟨hw,rfl,rfl⟩) (by simpa[gN,jm,lZ,e,e5] using h)
  ·rename_i hw
   obtain⟨v,e,h,aT,hf⟩:=Ay (N:=N) aX h
   split at h
   ·rename_i aq
    exact fin ⟨i,.undef,e⟩ (.inr ⟨hw,bI.any aq aT,hf⟩) (by simpa[gN,jm,lZ,aq] using h)
   ·rename_i d aq
    split at h
    ·rename_i b bl
     cases b with
     |true=>exact fin ⟨i,.c (.one (.d (.lit true))),e⟩ (.inr ⟨hw,aT.lit,hf⟩) (by simpa[gN,jm,lZ,aq] using h.1 rfl)
     |false=>exact fin ⟨i,.c (.one (.d (.lit false))),e⟩ (.inr ⟨hw,aT.lit,hf⟩) (by simpa[gN,jm,lZ,aq] using h.2 rfl)
    ·exact fin ⟨i,_,e⟩ (.inr ⟨hw,aT,hf⟩) (by simpa[gN,jm,lZ,aq] using h)
theorem Lm {all:List Oper}: ∀(ts:List gM) (i:Nat) (K:aQ) (B:aG),AJ P N ids all ts K B→ ∀(p:Nat) (t:gM),ts[p]? =some t→C9 P N ids all t (e7 gN (fun j=>decide (j < i+p)) i ts K) (e7 jm (fun j=>decide (j < i+p)) i ts B)
 | [],i,K,B,_,p,t,hp=>by simp at hp
 |u::ts,i,K,B,h,0,t,hp=>by
  simp only[List.getElem?_cons_zero,Option.some.injEq] at hp
  subst hp
  have bk: ∀{mg:Type} (ap:gM→mg→mg) (l:List gM) (q:Nat) (y:mg),i≤q→e7 ap (fun j=>decide (j < i+0)) q l y=y:=fun {mg} ap l=>by
   induction l with
   |nil=>exact fun _ _ _=>rfl
   |cons v l aY=>
    intro q y bh
    unfold e7
    rw[aY (q+1) _ (by omega)]
    simp only[decide_eq_true_eq]
    rw[if_neg (by omega)]
  rw[bk gN _ i K (Nat.le_refl _),bk jm _ i B (Nat.le_refl _)]
  exact h.1
 |u::ts,i,K,B,h,p+1,t,hp=>by
  have:=Lm ts (i+1) _ _ h.2 p t (by simpa using hp)
  unfold e7
  simp only[decide_eq_true_eq]
  rw[if_pos (by omega),if_pos (by omega)]
  rw[show i+(p+1)=i+1+p by omega]
  exact this
theorem Ln: ∀(ts:List gM) (i:Nat) (m:Nat→Bool) (K:aQ),(∀j,j < ts.length→m (i+j)=true)→runK ts K=e7 gN m i ts K
 | [],_,_,_,_=>rfl
 |t::ts,i,m,K,h=>by
  unfold runK e7
  rw[if_pos (by simpa using h 0 (by simp))]
  exact Ln ts (i+1) m _ fun j ak=>by rw[show i+1+j=i+(j+1) by omega];exact h (j+1) (by simpa using ak)
theorem Lo: ∀(ts:List gM) (i:Nat) (m:Nat→Bool) (B:aG),(∀j,j < ts.length→m (i+j)=true)→yN ts B=e7 jm m i ts B
 | [],_,_,_,_=>rfl
 |t::ts,i,m,B,h=>by
  unfold yN e7
  rw[if_pos (by simpa using h 0 (by simp))]
  exact Lo ts (i+1) m _ fun j ak=>by rw[show i+1+j=i+(j+1) by omega];exact h (j+1) (by simpa using ak)
theorem Lp {c:Nat}: ∀(ts:List gM) (i:Nat) (m:Nat→Bool) (K:aQ),tI c K=true→(∀(j:Nat) (t:gM),ts[j]? =some t→m (i+j)=true→named t.2 c=false)→tI c (e7 gN m i ts K)=true
 | [],_,_,_,h,_=>h
 |t::ts,i,m,K,h,hm=>by
  unfold e7
  refine Lp ts (i+1) m _ ?_ fun j u ak hu=>hm (j+1) u (by simpa using ak) (by rw[show i+(j+1)=i+1+j by omega];exact hu)
  split
  ·rename_i ay
   have:=hm 0 t rfl (by simpa using ay)
   simp only[named,Bool.or_eq_false_iff] at this
   unfold gN lZ
   split
   ·simp[tI,this.1,h]
   ·exact h
  ·exact h
theorem Gd {c:Nat}: ∀(B:aG) (d:Nat),mS c B=true→mS c (g8 B d)=true
 | [],d,h=>h
 |(t,v)::B,d,h=>by
  simp only[mS,Bool.and_eq_true] at h
  unfold g8
  split
  ·exact Gd B d h.2
  ·simp[mS,h.1,Gd B d h.2]
theorem Ge {c:Nat}: ∀(l:List (Nat×Option bF)) (B:aG),yl c l=false→mS c B=true→mS c (e5 l B)=true
 | [],B,_,h=>h
 |(d,none)::l,B,aB,h=>by
  simp only[yl,Bool.or_eq_false_iff] at aB
  exact Ge l _ aB.2 (Gd B d h)
 |(d,some ch)::l,B,aB,h=>by
  simp only[yl,Bool.or_eq_false_iff] at aB
  exact Ge l _ aB.2 (by simp[mS,aB.1.1,aB.1.2,h])
theorem Lq {c:Nat}: ∀(ts:List gM) (i:Nat) (m:Nat→Bool) (B:aG),mS c B=true→(∀(j:Nat) (t:gM),ts[j]? =some t→m (i+j)=true→named t.2 c=false)→mS c (e7 jm m i ts B)=true
 | [],_,_,_,h,_=>h
 |t::ts,i,m,B,h,hm=>by
  unfold e7
  refine Lq ts (i+1) m _ ?_ fun j u ak hu=>hm (j+1) u (by simpa using ak) (by rw[show i+(j+1)=i+1+j by omega];exact hu)
  split
  ·rename_i ay
   have:=hm 0 t rfl (by simpa using ay)
   simp only[named,Bool.or_eq_false_iff] at this
   exact Ge _ _ this.2 h
  ·exact h
def wU (all:List Oper) (m:Nat→Bool):Prop:= ∀(j:Nat) (o:Oper),all[j]? =some o→m j=true→ ∀d∈pN o,m d=true
theorem Lr (all:List Oper): ∀(l pre:List Oper) (acc:List (List Nat)),all=pre++l→acc.length=pre.length→(∀j a,a∈acc.getD j []→ ∀m,wU all m→m j=true→m a=true)→ ∀j a,a∈(yj l acc).getD j []→ ∀m,wU all m→m j=true→m a=true
 | [],pre,acc,_,_,h=>h
 |o::l,pre,acc,he,aB,h=>by
  unfold yj
  refine Lr all l (pre++[o]) _ (by simp[he]) (by simp[aB]) ?_
  intro j a ha m hm ak
  rw[List.getD_eq_getElem?_getD] at ha
  rcases Nat.lt_trichotomy j acc.length with bH |heq |tN
  ·rw[List.getElem?_append_left bH,←List.getD_eq_getElem?_getD] at ha
   exact h j a ha m hm ak
  ·subst heq
   rw[List.getElem?_append_right (Nat.le_refl _)] at ha
   simp only[Nat.sub_self,List.getElem?_cons_zero,Option.getD_some,List.mem_append,List.mem_flatMap] at ha
   have av:all[acc.length]? =some o:=by rw[he,aB];simp
   rcases ha with ha |⟨d,hd,ha⟩
   ·exact hm _ o av ak a ha
   ·exact h d a ha m hm (hm _ o av ak d hd)
  ·rw[List.getElem?_eq_none (by simp;omega)] at ha
   simp at ha
theorem Gf {all:List Oper} {an:List (List Nat)}: ∀(L:List (Oper×kn×Nat)),tM all an L=true→ ∀(i j:Nat) (x y:Oper×kn×Nat),i < j→L[i]? =some x→L[j]? =some y→((an.getD y.2.2 []).contains x.2.2&& !y.2.1.e.bu.any (named x.2.1)||apart all x.1 y.1 x.2.1 y.2.1)=true
 | [],_,i,j,x,y,_,hx,_=>by simp at hx
 |z::L,h,0,j+1,x,y,_,hx,aF=>by
  simp only[List.getElem?_cons_zero,Option.some.injEq] at hx
  subst hx
  obtain⟨o,n,i⟩:=z
  simp only[tM,Bool.and_eq_true] at h
  have:=List.all_eq_true.1 h.1 y (List.mem_of_getElem? (by simpa using aF))
  obtain⟨p,m,sG⟩:=y
  exact this
 |z::L,h,i+1,j+1,x,y,bH,hx,aF=>by
  obtain⟨o,n,k⟩:=z
  simp only[tM,Bool.and_eq_true] at h
  exact Gf L h.2 i j x y (by omega) (by simpa using hx) (by simpa using aF)
 |z::L,h,i,0,x,y,bH,hx,aF=>by omega
theorem yO {a b:List Nat} (h:meets a b=false) {x:Nat} (aa:x∈a) (af:x∈b):False:=by
 unfold meets at h
 rw[List.any_eq_false] at h
 have:=h x aa
 simp at this
 exact this af
theorem Ls {a:List Nat} {f:Nat→Bool} (h:a.any f=false) {x:Nat} (aa:x∈a):f x=false:=by
 rw[List.any_eq_false] at h
 simpa using h x aa
theorem Su {all:List Oper} {kX:aQ} {mh:aG} {ts:List gM} (iG:ts.map (·.1)=all) (c9:AJ P N ids all ts kX mh) (dU:indep kX mh all ((ts.map (·.2)).reverse++[])=true) {m:Nat→Bool} (hm:wU all m) {i:Nat} {t:gM} (ay:ts[i]? =some t) (yP:m i=false) (C': ∀d∈pN t.1,m d=true):
  C9 P N ids all t (e7 gN m 0 ts kX) (e7 jm m 0 ts mh)∧(∀s,look (e7 gN (fun j=>m j||j == i) 0 ts kX) s=look (gN t (e7 gN m 0 ts kX)) s)∧(∀s,ax (e7 jm (fun j=>m j||j == i) 0 ts mh) s=ax (jm t (e7 jm m 0 ts mh)) s)∧
  (∀d∈pN t.1,d < i):=by
 simp only[indep,List.append_nil,List.reverse_reverse,Bool.and_eq_true] at dU
 obtain⟨⟨Sv,Sw⟩,Lt⟩:=dU
 have tW: ∀(j:Nat) (u:gM),ts[j]? =some u→all[j]? =some u.1:=fun j u ak=>by rw[←iG,List.getElem?_map,ak];rfl
 have cL: ∀(j:Nat) (u:gM),ts[j]? =some u→(((all.zip (ts.map (·.2))).zipIdx).map fun((o,n),i)=>(o,n,i))[j]? =some (u.1,u.2,j):=fun j u ak=>by
  have aS:(all.zip (ts.map (·.2)))[j]? =some (u.1,u.2):=by
   rw[List.getElem?_zip_eq_some]
   exact⟨tW j u ak,by rw[List.getElem?_map,ak];rfl⟩
  rw[List.getElem?_map,List.getElem?_zipIdx,aS]
  simp
 have Sx: ∀d∈pN t.1,d < i:=fun d hd=>by
  have jY:(t.1,i)∈all.zipIdx:=by
   rw[List.mem_iff_getElem?]
   exact⟨i,by rw[List.getElem?_zipIdx,tW i t ay];simp⟩
  have:=List.all_eq_true.1 Sv _ jY
  have:=List.all_eq_true.1 this d hd
  simpa[Nat.blt_eq] using this
 have Lu:=Lr all all [] [] (by simp) rfl (fun j a ha=>by simp at ha)
 have Sy:wU all (fun j=>m j||j == i):=fun j o av ak d hd=>by
  simp only[Bool.or_eq_true,beq_iff_eq] at ak⊢
  rcases ak with ak |rfl
  ·exact .inl (hm j o av ak d hd)
  ·rw[tW j t ay] at av
   injection av with av
   subst av
   exact .inl (C' d hd)
 have early: ∀(j:Nat) (u:gM),ts[j]? =some u→j < i→(apart all u.1 t.1 u.2 t.2=true∨m j=true)∧t.2.e.bu.any (named u.2)=false:=fun j u ak bH=>by
  have:=Gf _ Lt j i _ _ bH (cL j u ak) (cL i t ay)
  simp only[Bool.or_eq_true,Bool.and_eq_true,Bool.not_eq_true',List.contains_iff_mem] at this
  rcases this with⟨aa,af⟩ |h
  ·refine⟨.inr ?_,af⟩
   have:=Lu i j aa _ Sy (by simp)
   simp only[Bool.or_eq_true,beq_iff_eq] at this
   rcases this with h |h
   ·exact h
   ·omega
  ·refine⟨.inl h,?_⟩
   simp only[apart,Bool.and_eq_true,Bool.not_eq_true'] at h
   exact h.2
 have late: ∀(j:Nat) (u:gM),ts[j]? =some u→i < j→apart all t.1 u.1 t.2 u.2=true∨m j=false:=fun j u ak bH=>by
  have:=Gf _ Lt i j _ _ bH (cL i t ay) (cL j u ak)
  simp only[Bool.or_eq_true,Bool.and_eq_true,List.contains_iff_mem] at this
  rcases this with⟨aa,_⟩ |h
  ·right
   cases nL:m j with
   |false=>rfl
   |true=>have:=Lu j i aa m hm nL;rw[yP] at this;cases this
  ·exact .inl h
 have Lv: ∀s,s∈CE all t.1→look (e7 gN m 0 ts kX) s=look (e7 gN (fun j=>decide (j < 0+i)) 0 ts kX) s:=fun s hs=>
  yM look gN C6 Lj Lk _ _ s ts 0 kX kX (fun j u ak hu=>by
   rw[Nat.zero_add,Nat.zero_add]
   have Lw:s∈u.1.dst.toList:=by rw[show u.1.dst=some s from hu];simp
   rcases Nat.lt_trichotomy j i with h |h |h
   ·simp only[h,decide_true]
    refine((early j u ak h).1).resolve_left fun ha=>?_
    simp only[apart,Bool.and_eq_true,Bool.not_eq_true'] at ha
    exact yO ha.1.1.1.1.1 Lw (List.mem_append_left _ hs)
   ·subst h;simp[yP]
   ·rw[show decide (j < i)=false by simp;omega]
    refine(late j u ak h).resolve_left fun ha=>?_
    simp only[apart,Bool.and_eq_true,Bool.not_eq_true'] at ha
    exact yO ha.1.1.1.1.2 Lw hs) rfl
 have Sz: ∀c,c∈t.2.e.rc→ax (e7 jm m 0 ts mh) c=ax (e7 jm (fun j=>decide (j < 0+i)) 0 ts mh) c:=fun c hc=>
  yM ax jm Li (fun t x s h=>C8 _ _ _ h) (fun t x y s h=>C7 _ _ _ _ h) _ _ c ts 0 mh mh (fun j u ak hu=>by
   rw[Nat.zero_add,Nat.zero_add]
   rcases Nat.lt_trichotomy j i with h |h |h
   ·simp only[h,decide_true]
    refine((early j u ak h).1).resolve_left fun ha=>?_
    simp only[apart,Bool.and_eq_true,Bool.not_eq_true'] at ha
    exact yO ha.1.1.1.2 hu (List.mem_append_left _ hc)
   ·subst h;simp[yP]
   ·rw[show decide (j < i)=false by simp;omega]
    refine(late j u ak h).resolve_left fun ha=>?_
    simp only[apart,Bool.and_eq_true,Bool.not_eq_true'] at ha
    exact yO ha.1.1.2 hu hc) rfl
 refine⟨?_,fun s=>?_,fun s=>?_,Sx⟩
 ·have pW:=Lm ts 0 kX mh c9 i t ay
  have hw:wants all (e7 gN m 0 ts kX) t.1.guard=wants all (e7 gN (fun j=>decide (j < 0+i)) 0 ts kX) t.1.guard:=by
   unfold wants
   cases bl:t.1.guard with
   |none=>rfl
   |some p=>
    obtain⟨j,want⟩:=p
    simp only
    cases hs:Ae all j with
    |none=>rfl
    |some s=>
     simp only
     rw[Lv s (by unfold CE;rw[bl];simp[hs])]
  rcases pW with⟨aa,af,aA⟩ |⟨aa,af,aA⟩
  ·exact .inl ⟨hw.trans aa,af,aA⟩
  ·refine .inr ⟨hw.trans aa,?_,fun c hc=>?_⟩
   ·intro K' B' g1 g2 bL
    refine af K' B' (fun x hx=>(g1 x hx).trans ?_) (fun c hc=>(g2 c hc).trans (Sz c hc)) bL
    cases x with
    |tmp s=>exact Lv s (List.mem_append_left _ (List.mem_filterMap.2 ⟨.tmp s,by simpa using hx,rfl⟩))
    |_=>rfl
   ·have hf:=aA c hc
    simp only[gu,Bool.and_eq_true] at hf⊢
    have wL:=List.all_eq_true.1 Sw t.2 (List.mem_map.2 ⟨t,List.mem_of_getElem? ay,rfl⟩)
    have wL:=List.all_eq_true.1 wL c hc
    simp only[Bool.and_eq_true] at wL
    have eS: ∀(j:Nat) (u:gM),ts[j]? =some u→m (0+j)=true→named u.2 c=false:=fun j u ak nL=>by
     rw[Nat.zero_add] at nL
     rcases Nat.lt_trichotomy j i with h |h |h
     ·exact Ls (early j u ak h).2 hc
     ·subst h;rw[yP] at nL;cases nL
     ·rcases late j u ak h with ha |ha
      ·simp only[apart,Bool.and_eq_true,Bool.not_eq_true'] at ha
       exact Ls ha.1.2 hc
      ·rw[nL] at ha;cases ha
    exact⟨⟨Lp ts 0 m kX wL.1 eS,Lq ts 0 m mh wL.2 eS⟩,hf.2⟩
 ·have:=Gc look gN C6 Lj Lk m i s ts 0 kX t ay (by simpa using yP) (fun j u bH ak nL aa af=>by
   rw[Nat.zero_add] at nL
   rcases late j u ak bH with ha |ha
   ·simp only[apart,Bool.and_eq_true,Bool.not_eq_true'] at ha
    exact yO (x:=s) ha.1.1.1.1.1 (by rw[show t.1.dst=some s from aa];simp) (List.mem_append_right _ (by rw[show u.1.dst=some s from af];simp))
   ·rw[nL] at ha;cases ha)
  simpa using this
 ·have:=Gc ax jm Li (fun t x s h=>C8 _ _ _ h) (fun t x y s h=>C7 _ _ _ _ h) m i s ts 0 mh t ay (by simpa using yP) (fun j u bH ak nL aa af=>by
   rw[Nat.zero_add] at nL
   rcases late j u ak bH with ha |ha
   ·simp only[apart,Bool.and_eq_true,Bool.not_eq_true'] at ha
    exact yO ha.1.1.1.2 aa (List.mem_append_right _ af)
   ·rw[nL] at ha;cases ha)
  simpa using this
theorem aK (aX:dP P tt):yH P tt N ids:=by
 intro id ops kX mh k hd SA h C a w hs rd Q tX
 refine wpIn_region_any SA ?_
 obtain⟨ts,iG,c9,dU,au⟩:=Ll (N:=N) aX ops.toList ops.toList 0 kX mh [] _ h
 have hlen:ts.length=ops.size:=by
  have:=congrArg List.length iG
  simpa using this
 have tW: ∀(j:Nat) (u:gM),ts[j]? =some u→ops.toList[j]? =some u.1:=fun j u ak=>by rw[←iG,List.getElem?_map,ak];rfl
 have Lx: ∀(j:Nat) (u:gM),ts[j]? =some u→(∀d,u.1.dst=some d→d < N)∧ ∀c,u.1.op≠ .defer c:=fun j u ak=>by
  have key: ∀(l:List Oper),pT N l=true→ ∀o∈l,(∀d,o.dst=some d→d < N)∧ ∀c,o.op≠ .defer c:=fun l=>by
   induction l with
   |nil=>intro _ o av;cases av
   |cons x l aY=>
    intro hx o av
    simp only[pT,Bool.and_eq_true] at hx
    rcases List.mem_cons.1 av with rfl |av
    ·exact⟨fun d hd=>by have hx:=hx.1.1;rw[hd] at hx;simpa[Nat.blt_eq] using hx,CX hx.1.2⟩
    ·exact aY hx.2 o av
  exact key _ hd u.1 (List.mem_of_getElem? (tW j u ak))
 have bH: ∀(j:Nat) (u:gM),ts[j]? =some u→ ∀d,u.1.dst=some d→d < N:=fun j u ak=>(Lx j u ak).1
 have main: ∀(fuel:Nat) (fH:Array Bool) (a:Act) (w:World),fH.size=ops.size→fH.toList.count false≤fuel→wU ops.toList (fun j=>fH.getD j false)→
   Sat N ids C (e7 gN (fun j=>fH.getD j false) 0 ts kX) (e7 jm (fun j=>fH.getD j false) 0 ts mh) a w→wpAnyIn (nC rd) 0 P .any ops Q fuel fH a w:=by
  intro fuel
  have done: ∀(fH:Array Bool) (a:Act) (w:World),fH.size=ops.size→(∀j,j < ops.size→fH.getD j false=true)→Sat N ids C (e7 gN (fun j=>fH.getD j false) 0 ts kX) (e7 jm (fun j=>fH.getD j false) 0 ts mh) a w→Q .normal a w:=fun fH a w ek AK dH=>by
   rw[←Ln ts 0 _ kX (fun j ak=>by simpa using AK j (by omega)),←Lo ts 0 _ mh (fun j ak=>by simpa using AK j (by omega))] at dH
   exact tX _ _ au a w dH
  have SB: ∀(fH:Array Bool),fH.size=ops.size→wU ops.toList (fun j=>fH.getD j false)→Region.ready .any ops fH=[]→ ∀j,j < ops.size→fH.getD j false=true:=fun fH ek cQ hr=>by
   intro j
   induction j using Nat.strongRecOn with
   |_ j aY=>
    intro ak
    obtain⟨u,hu⟩: ∃u,ts[j]? =some u:=⟨_,List.getElem?_eq_getElem (by omega)⟩
    cases wV:fH.getD j false with
    |true=>rfl
    |false=>
     exfalso
     have jY:j∈Region.ready .any ops fH:=by
      unfold Region.ready
      rw[List.mem_filter]
      refine⟨List.mem_range.2 ak,?_⟩
      have oc:fH.getD j true=false:=by
       rw[Array.getD_eq_getD_getElem?] at wV⊢
       rw[Array.getElem?_eq_getElem (by omega)] at wV⊢
       simpa using wV
      have av:ops[j]? =some u.1:=by simpa using tW j u hu
      simp only[oc,Bool.not_false,Bool.true_and,av,Option.map_some,Option.getD_some]
      rw[Array.all_eq_true_iff_forall_mem]
      intro e he
      cases ag:Region.binds .any e with
      |false=>rfl
      |true=>
       simp only[Bool.not_true,Bool.false_or]
       have fZ:e.on∈pN u.1:=by
        unfold pN
        exact List.mem_map.2 ⟨e,List.mem_filter.2 ⟨by simpa using he,ag⟩,rfl⟩
       have SC:e.on < j:=by
        have pX:=dU
        simp only[indep,List.append_nil,List.reverse_reverse,Bool.and_eq_true] at pX
        have jY:(u.1,j)∈ops.toList.zipIdx:=by
         rw[List.mem_iff_getElem?]
         exact⟨j,by rw[List.getElem?_zipIdx,tW j u hu];simp⟩
        have:=List.all_eq_true.1 pX.1.1 _ jY
        have:=List.all_eq_true.1 this _ fZ
        simpa[Nat.blt_eq] using this
       exact aY e.on SC (by omega)
     rw[hr] at jY
     cases jY
  induction fuel with
  |zero=>
   intro fH a w ek hc cQ dH
   have AK: ∀j,j < ops.size→fH.getD j false=true:=fun j ak=>by
    cases wV:fH.getD j false with
    |true=>rfl
    |false=>
     exfalso
     have jY:false∈fH.toList:=by
      rw[Array.getD_eq_getD_getElem?,Array.getElem?_eq_getElem (by omega)] at wV
      simp only[Option.getD_some] at wV
      rw[←wV]
      simp
     have:=List.count_pos_iff.2 jY
     omega
   refine⟨?_,done fH a w ek AK dH⟩
   unfold Region.ready
   rw[List.filter_eq_nil_iff]
   intro j ak
   have ak:=List.mem_range.1 ak
   have:=AK j ak
   rw[Array.getD_eq_getD_getElem?,Array.getElem?_eq_getElem (by omega)] at this
   simp only[Option.getD_some] at this
   simp[Array.getElem?_eq_getElem (show j < fH.size by omega),this]
  |succ fuel aY=>
   intro fH a w ek hc cQ dH
   refine⟨fun hr=>done fH a w ek (SB fH ek cQ hr) dH,fun i ay=>?_⟩
   obtain⟨Lz,o,av,SD⟩:=mem_ready.1 ay
   have abb:i < ops.size:=(Array.getElem?_eq_some_iff.1 av).1
   obtain⟨t,cl⟩: ∃t,ts[i]? =some t:=⟨_,List.getElem?_eq_getElem (by omega)⟩
   have wW:o=t.1:=by
    have:=tW i t cl
    rw[Array.getElem?_toList,av] at this
    injection this
   subst wW
   have Gg:fH.getD i false=false:=by
    rw[Array.getD_eq_getD_getElem?,Array.getElem?_eq_getElem (by omega)] at Lz⊢
    simpa using Lz
   have C': ∀d∈pN t.1,fH.getD d false=true:=fun d hd=>by
    unfold pN at hd
    obtain⟨e,he,rfl⟩:=List.mem_map.1 hd
    obtain⟨kG,iu⟩:=List.mem_filter.1 he
    exact SD e (by simpa using kG) iu
   obtain⟨pW,SE,SF,_⟩:=Su (m:=fun j=>fH.getD j false) iG c9 dU cQ cl Gg C'
   have iM:(fun j=>(fH.setIfInBounds i true).getD j false)=(fun j=>(fH.getD j false||j == i)):=by
    funext j
    by_cases e:j=i
    ·subst e
     simp[Array.getElem?_setIfInBounds,show j < fH.size by omega]
    ·simp[Array.getElem?_setIfInBounds,Ne.symm e,e]
   have SG:wU ops.toList (fun j=>(fH.setIfInBounds i true).getD j false):=by
    rw[iM]
    intro j o' qq ak d hd
    simp only[Bool.or_eq_true,beq_iff_eq] at ak⊢
    rcases ak with ak |rfl
    ·exact .inl (cQ j o' qq ak d hd)
    ·rw[tW j t cl] at qq
     injection qq with qq
     subst qq
     exact .inl (C' d hd)
   have SH:(fH.setIfInBounds i true).toList.count false≤fuel:=by
    rw[Array.toList_setIfInBounds,List.count_set (by simp;omega)]
    have eP:fH.toList[i]'(by simp;omega)=false:=by
     rw[Array.getD_eq_getD_getElem?,Array.getElem?_eq_getElem (by omega)] at Gg
     simpa using Gg
    rw[eP]
    simp only[BEq.rfl,if_true,show(true == false)=false from rfl,Bool.false_eq_true,if_false]
    omega
   have next: ∀a' w',Sat N ids C (gN t (e7 gN (fun j=>fH.getD j false) 0 ts kX)) (jm t (e7 jm (fun j=>fH.getD j false) 0 ts mh)) a' w'→wpAnyIn (nC rd) 0 P .any ops Q fuel (fH.setIfInBounds i true) a' w':=fun a' w' e6=>by
    refine aY _ a' w' (by simp[ek]) SH SG ?_
    rw[iM]
    exact e6.congr SE SF
   have SI:=dH
   obtain⟨_,_,ρ,F,az,hS⟩:=SI
   unfold wpOpIn
   simp only[av]
   rcases pW with⟨hw,hv,he⟩ |⟨hw,aT,hf⟩
   ·have AL:=u0 hw hS
    simp only[Array.toArray_toList] at AL
    rw[if_neg (by rw[AL];simp)]
    refine⟨fun _ _=>trivial,next _ _ ?_⟩
    have:=dH.undef t.1.dst (bH i t cl)
    unfold gN jm
    rw[hv,he]
    exact this
   ·have AL:=u0 hw hS
    simp only[Array.toArray_toList] at AL
    rw[if_pos AL]
    exact yG (Lx i t cl).2 (aT _ _ (fun _ _=>rfl) (fun _ _=>rfl) hf C a w dH (bH i t cl) _ Q fun a' w' e6=>next a' w' e6)
 refine main ops.size _ a _ (by simp) (by simp[List.count_replicate]) (fun j o av ak=>?_) ?_
 ·simp only[Array.getD_eq_getD_getElem?,Array.getElem?_replicate] at ak
  split at ak <;>simp at ak
 ·have aS:(fun j=>(Array.replicate ops.size false).getD j false)=fun _=>false:=by
   funext j
   rw[Array.getD_eq_getD_getElem?]
   simp only[Array.getElem?_replicate]
   split <;>rfl
  rw[aS]
  have bk: ∀{mg:Type} (ap:gM→mg→mg) (l:List gM) (q:Nat) (y:mg),e7 ap (fun _=>false) q l y=y:=fun {mg} ap l=>by
   induction l with
   |nil=>exact fun _ _=>rfl
   |cons v l aY=>intro q y;unfold e7;simp[aY]
  rw[bk,bk]
  obtain⟨aa,af,ρ,F,az,hS⟩:=hs
  obtain⟨bT,bA⟩:=az.below (w':={w with drawn:=w.drawn+1}) (P0 w)
  exact⟨aa,af,ρ,F,bT,hS.mono bA fun _ _ _=>rfl⟩
end
end Go.Proofs.YteoamepgonpdlaaGreat
set_option linter.unusedVariables false
set_option linter.unusedSimpArgs false
namespace Go.Proofs.YteoamepgonpdlaaGreat
open Go.RowKit
def swp (a b c:Nat):Nat:=match Nat.beq c a with
 |true=>b
 |false=>match Nat.beq c b with
  |true=>a
  |false=>c
theorem Da {a b:Nat} (h:a≠b):Nat.beq a b=false:=by rw[Bool.eq_false_iff];exact fun e=>h (Nat.eq_of_beq_eq_true e)
theorem LA (a b c:Nat):swp a b (swp a b c)=c:=by
 unfold swp
 by_cases aa:c=a
 ·subst aa
  simp only[Nat.beq_refl]
  by_cases af:b=c
  ·subst af;simp
  ·simp[Da af]
 ·simp only[Da aa]
  by_cases af:c=b
  ·subst af;simp
  ·simp[Da af,Da aa]
def rn:List (Nat×Nat)→Nat→Nat
 | [],c=>c
 |(a,b)::l,c=>rn l (swp a b c)
def yQ:List (Nat×Nat)→Nat→Nat
 | [],c=>c
 |(a,b)::l,c=>swp a b (yQ l c)
theorem Db: ∀(l:List (Nat×Nat)) (c:Nat),yQ l (rn l c)=c
 | [],c=>rfl
 |(a,b)::l,c=>by simp only[rn,yQ,Db l,LA]
theorem Dc: ∀(l:List (Nat×Nat)) (c:Nat),rn l (yQ l c)=c
 | [],c=>rfl
 |(a,b)::l,c=>by simp only[rn,yQ,LA,Dc l]
def oR:List (Nat×Nat)→List (Nat×Nat)→List (Nat×Nat)
 | [],acc=>acc
 |(a,b)::l,acc=>oR l (acc++[(rn acc a,b)])
section
variable (f:Nat→Nat)
def yR:List ki→List ki
 | []=>[]
 | .p c o::l=>.p (f c) o::yR l
 | .d x::l=>.d x::yR l
def bx.rn:bx→bx
 | .ptr c o=>.ptr (f c) o
 | .own c=>.own (f c)
 | .fh c s i o=>.fh (f c) s i o
 | .os c s o n=>.os (f c) s o n
 | .mp c=>.mp (f c)
 | .eH g l=>.eH g (yR f l)
 | .d x=>.d x
 | .el u x o=>.el u x o
 | .ee=>.ee
 | .raw v=>.raw v
 | .any=>.any
def AM:List bx→List bx
 | []=>[]
 |s::l=>s.rn f::AM l
def dG.rn:dG→dG
 | .one s=>.one (s.rn f)
 | .agg l=>.agg (AM f l)
 | .jx u x=>.jx u x
def Dd:List dG→List dG
 | []=>[]
 |s::l=>s.rn f::Dd l
def aN.rn:aN→aN
 | .c s=>.c (s.rn f)
 | .c8 l=>.c8 (Dd f l)
 | .undef=>.undef
def wX:List aN→List aN
 | []=>[]
 |s::l=>s.rn f::wX l
def bF.rn:bF→bF
 | .cells l=>.cells (AM f l)
 | .row e u xs=>.row e u xs
 | .map aO aV es=>.map aO aV es
 | .val u x=>.val u x
 | .obj o=>.obj o
 | .dep d o=>.dep (f d) o
def kY:aG→aG
 | []=>[]
 |(c,ch)::B=>(f c,ch.rn f)::kY B
def yS:List Nat→List Nat
 | []=>[]
 |c::l=>f c::yS l
end
section
variable {f g:Nat→Nat} {ρ:Nat→bn} {I:Nat→Prop} {w:World}
theorem Gh: ∀(l:List ki) (vs:List Value),gS ρ I w (yR f l) vs=gS (fun c=>ρ (f c)) I w l vs
 | [],vs=>rfl
 | .p c o::l,vs=>by simp only[yR,gS,wo,Gh l]
 | .d x::l,vs=>by simp only[yR,gS,wo,Gh l]
theorem LB (s:bx) (v:Value):dI ρ I w (s.rn f) v=dI (fun c=>ρ (f c)) I w s v:=by
 cases s with
 |eH g l=>simp only[bx.rn,dI,Gh]
 |_=>rfl
theorem Gi: ∀(l:List bx) (vs:List Value),bZ ρ I w (AM f l) vs=bZ (fun c=>ρ (f c)) I w l vs
 | [],vs=>rfl
 |s::l,vs=>by simp only[AM,bZ,LB,Gi l]
theorem LC (s:dG) (v:Value):fS ρ I w (s.rn f) v=fS (fun c=>ρ (f c)) I w s v:=by
 cases s with
 |one s=>exact LB s v
 |agg l=>simp only[dG.rn,fS,Gi]
 |jx u x=>rfl
theorem LD: ∀(l:List dG) (vs:List Value),iD ρ I w (Dd f l) vs=iD (fun c=>ρ (f c)) I w l vs
 | [],vs=>rfl
 |s::l,vs=>by simp only[Dd,iD,LC,LD l]
theorem De (s:aN) (v:Value):cj ρ I w (s.rn f) v=cj (fun c=>ρ (f c)) I w s v:=by
 cases s with
 |c s=>exact LC s v
 |c8 l=>simp only[aN.rn,cj,LD]
 |undef=>rfl
theorem AN {F:Nat→Prop} {p:bn} (ch:bF):Holds ρ I F w p (ch.rn f)=Holds (fun c=>ρ (f c)) I F w p ch:=by
 cases ch with
 |cells l=>simp only[bF.rn,Holds,Gi]
 |row e u xs=>rfl
 |map aO aV es=>rfl
 |val u x=>rfl
 |obj o=>rfl
 |dep d o=>rfl
theorem AO (bl: ∀c,g (f c)=c): ∀(B:aG) (c:Nat),ax (kY f B) (f c)=(ax B c).map (·.rn f)
 | [],c=>rfl
 |(d,ch)::B,c=>by
  simp only[kY]
  rw[cC,cC,AO bl B c]
  by_cases h:d=c
  ·subst h;rw[if_pos rfl,if_pos rfl];rfl
  ·rw[if_neg h,if_neg fun e=>h (by rw[←bl d,e,bl])]
theorem Gj: ∀(l:List aN),wX f l=l.map (·.rn f)
 | []=>rfl
 |s::l=>by simp only[wX,List.map_cons,Gj l]
theorem Gk: ∀(l:List Nat) (c:Nat),c∈l→f c∈yS f l
 | [],c,h=>by cases h
 |d::l,c,h=>by
  rcases List.mem_cons.1 h with rfl |h
  ·exact List.mem_cons_self
  ·exact List.mem_cons_of_mem _ (Gk l c h)
end
theorem Fn.Gl {P:Program} {fn:FuncId} {f g:Nat→Nat} (bl: ∀c,g (f c)=c) (hf: ∀c,f (g c)=c) {args:List aN} {aP:aG} {bu:List Nat} {res:aN} {aZ:aG} (h:Fn P fn args aP bu res aZ):
  Fn P fn (wX f args) (kY f aP) (yS f bu) (res.rn f) (kY f aZ):=by
 refine⟨h.1,?_⟩
 intro ρ F I w b6 bC eo hF fZ hlen ep
 have lk: ∀(B:aG) c,ax (kY f B) (f c)=(ax B c).map (·.rn f):=AO bl
 have fwd: ∀{B:aG} {c ch},ax B c=some ch→ax (kY f B) (f c)=some (ch.rn f):=fun {B c ch} h=>by rw[lk,h];rfl
 have bwd: ∀{B:aG} {c ch},ax (kY f B) c=some ch→ ∃cr,ax B (g c)=some cr∧ch=cr.rn f:=fun {B c ch} h=>by
  have e:=lk B (g c)
  rw[hf,h] at e
  obtain⟨cr,aa,af⟩:=Option.map_eq_some_iff.1 e.symm
  exact⟨cr,aa,af.symm⟩
 rw[Gj] at hlen ep
 have hc:=h.2 (fun c=>ρ (f c)) (fun c=>F (f c)) I w b6 bC
  (fun c ch hc=>by rw[←AN];exact eo _ _ (fwd hc))
  (fun c ch hc=>hF _ _ (fwd hc))
  (fun c bY ch bg b aa af bf=>fZ _ _ _ _ b (fwd aa) (fwd af) fun e=>bf (by rw[←bl c,e,bl]))
  (by simpa using hlen)
  (fun i v x hv hx=>by rw[←De];exact ep i _ x (by rw[List.getElem?_map,hv];rfl) hx)
 refine hc.mono ?_
 rintro e w' ⟨x,ρ',F',rfl,cv,di,I',kG,iu,ow,aT,jA,hx⟩
 have wY:(fun c=>ρ' (g (f c)))=ρ':=funext fun c=>by rw[bl]
 refine⟨x,fun c=>ρ' (g c),fun c=>F' (g c),rfl,?_,?_,I',kG,?_,?_,?_,?_,?_⟩
 ·exact cv.mono fun b _ ⟨c,ch,aa,af⟩=>⟨f c,_,fwd aa,af⟩
 ·intro c hc
  show ρ' (g c)=ρ c
  rw[di (g c) (fun hm=>hc (by have:=Gk (f:=f) _ _ hm;rwa[hf] at this)),hf]
 ·intro b ag
  obtain⟨aa,af⟩:=iu b ag
  refine⟨aa,?_⟩
  rcases af with af |⟨c,ch,af,aA⟩ |af
  ·exact .inl af
  ·exact .inr (.inl ⟨f c,_,fwd af,aA⟩)
  ·exact .inr (.inr af)
 ·intro c ch hc
  obtain⟨cr,aa,rfl⟩:=bwd hc
  rw[AN,wY]
  exact ow _ _ aa
 ·intro c ch hc b ag
  obtain⟨cr,aa,rfl⟩:=bwd hc
  obtain⟨cK,c5,fU⟩:=aT _ _ aa b ag
  refine⟨cK,c5,?_⟩
  rcases fU with⟨cy,cr,fU,iw⟩ |fU
  ·exact .inl ⟨f cy,_,fwd fU,iw⟩
  ·exact .inr fU
 ·intro c bY ch bg b hc dw bf
  obtain⟨cr,aa,rfl⟩:=bwd hc
  obtain⟨ko,af,rfl⟩:=bwd dw
  exact jA _ _ _ _ b aa af fun e=>bf (by rw[←hf c,e,hf])
 ·rw[De,wY]
  exact hx
theorem Fn.ren {P:Program} {fn:FuncId} (l:List (Nat×Nat)) {args:List aN} {aP:aG} {bu:List Nat} {res:aN} {aZ:aG} (h:Fn P fn args aP bu res aZ):
  Fn P fn (wX (rn (oR l [])) args) (kY (rn (oR l [])) aP) (yS (rn (oR l [])) bu) (res.rn (rn (oR l []))) (kY (rn (oR l [])) aZ):=
 Fn.Gl (Db _) (Dc _) h
end Go.Proofs.YteoamepgonpdlaaGreat
