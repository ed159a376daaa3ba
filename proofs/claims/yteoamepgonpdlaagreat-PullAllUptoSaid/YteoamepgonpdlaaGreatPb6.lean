/-
Part 6 of the proof that stands in YteoamepgonpdlaaGreatPbRow, with what it needs from the parts ahead; the parts of this text: Code, Rd.
-/
import Derived.Deep.LoopGhost
import Derived.Orders
import Derived.OrdersIn
import Derived.TacticsIn
import Derived.Sort.LoopGhostIn
import Derived.RangeFuncRecord
import Derived.Scope
import Derived.Test.YteoamepgonpdlaaGreatRows
import Derived.Test.YteoamepgonpdlaaGreatProg
import Derived.Deep.Slices
import Derived.Deep.Fields
import Derived.OpenShut
import Derived.Test.YteoamepgonpdlaaGreatPb5
/-!
  Soundness of the conditions: regions in the text's order, code, functions.
-/
namespace Go.Proofs.YteoamepgonpdlaaGreat
set_option linter.unusedVariables false
set_option linter.unusedSimpArgs false
open Go.RowKit
def dstOK (N : Nat) : List Oper → Bool
 | []=>true
 | o :: l=>(match o.dst with
   | some d=>Nat.blt d N
   | none=>true) && (match o.op with
   | .defer _=>false
   | _=>true) && dstOK N l
section
variable {P : Program} {b : Frame} {a : Act} {k : List Item} {cs : List Frame} {w : World}
theorem stepR_scope {c : Code} : step P (lone (b.atR a (.code (.scope c) :: k)) cs w) = .next (lone (b.atR a (.code c :: .inScope c :: k)) cs w) :=
 step_lone_go (by simp [stepG,stepG.exec,Frame.atR])
theorem stepR_inScope {c : Code} : step P (lone (b.atR a (.inScope c :: k)) cs w) = .next (lone (b.atR a k) cs w) :=
 step_lone_go (by simp [stepG,stepG.exec,Frame.atR])
/-- A scope that nobody jumps in. -/
theorem wpIn_scope {F : Fence} {n : Nat} {Q : Exit → Act → World → Prop} {c : Code} (h : c.wpIn F n P (Exit.noGoto Q) a w) : (Code.scope c).wpIn F n P Q a w:=by
 intro b k cs hro hb hr
 have h0 : (lone (b.atR a (.code (.scope c) :: k)) cs w).fenced P F:=fenced_calm hb hr rfl
 obtain ⟨e,a₁,w₁,hq,harr⟩:=h b (.inScope c :: k) cs hro hb hr
 cases e with
 | normal=>exact ⟨.normal,a₁,w₁,hq,.head h0 stepR_scope (StepsIn.trans harr (.one (fenced_calm hb hr rfl) stepR_inScope))⟩
 | exit id =>
   have hx : exitTo id (.inScope c :: k) = exitTo id k:=by simp [exitTo]
   exact ⟨.exit id,a₁,w₁,hq,fun k' hk=>.head h0 stepR_scope (harr.1 k' (by rw [hx]; exact hk)),fun hr' hk=>let ⟨k₁,h1,h2⟩:=harr.2 hr' (by rw [hx]; exact hk); ⟨k₁,h1,.head h0 stepR_scope h2⟩⟩
 | goto l=>exact hq.elim
 | ret=>exact ⟨_,a₁,w₁,hq,.of_steps (.one h0 stepR_scope) harr⟩
 | panic ch=>exact ⟨_,a₁,w₁,hq,.of_steps (.one h0 stepR_scope) harr⟩
 | outgrown=>exact ⟨_,a₁,w₁,hq,.of_steps (.one h0 stepR_scope) harr⟩
end
def codeOK (P : Program) (N : Nat) : Code → Bool
 | .skip=>true
 | .region _ ops draw=>dstOK N ops.toList && (!draw || P.follows .mixedOrders)
 | .seq a b=>codeOK P N a && codeOK P N b
 | .cond _ x y=>codeOK P N x && codeOK P N y
 | .block _ b=>codeOK P N b
 | .loop b=>codeOK P N b
 | .rangeFunc _ _ a b=>codeOK P N a && codeOK P N b
 | .scope b=>codeOK P N b
 | .label _=>true
 | .exit _=>true
 | .ret=>true
 | _=>false
section
variable {P : Program} {tt : Tr} {N : Nat} {ids : List Nat}
theorem yielded_of {ops : Array Oper} {a : Act} {j s : Nat} (hs : (ops[j]?).bind (·.dst) = some s) {v : Value} (hv : a.tmps.getD s undef = v) :
   (∀ b,v = .bool b → yielded ops a.tmps j = some b) ∧ ((∀ b,v ≠ .bool b) → yielded ops a.tmps j = none):=by
 unfold yielded
 rw [hs]
 simp only [Option.bind_some]
 cases ht : a.tmps[s]? with
 | none =>
   have hv : v = undef:=by rw [← hv]; simp [ht]
   subst hv
   exact ⟨fun b hb=>(by simp [undef] at hb),fun _=>rfl⟩
 | some x =>
   have hv : v = x:=by rw [← hv]; simp [ht]
   subst hv
   refine ⟨fun b hb=>by rw [hb],fun h=>?_⟩
   cases v <;> first | rfl | exact absurd rfl (h _)
theorem gslot_eq {all : List Oper} {j s : Nat} (h : gslot all j = some s) : ((all.toArray)[j]?).bind (·.dst) = some s:=by
 unfold gslot at h
 simp only [List.getElem?_toArray]
 split at h
 · rename_i o ho; rw [ho]; exact h
 · cases h
theorem wants_sound {all : List Oper} {K : KL} {o : Oper} {t : Bool} (h : wants all K o.guard = some t) {ρ : Nat → Pl} {I : Nat → Prop} {a : Act} {w : World} (hS : Slots K ρ I a w) : Region.wanted o (yielded all.toArray a.tmps) = t:=by
 unfold wants at h
 unfold Region.wanted
 split at h
 · rename_i hg
   injection h with h
   simp [hg,h]
 · rename_i j want hg
   simp only [hg]
   split at h
   · cases h
   · rename_i s hs
     have hs:=gslot_eq hs
     have hv:=hS s
     split at h
     · rename_i hl
       rw [hl] at hv
       have:=(yielded_of (a:=a) hs (show a.tmps.getD s undef = .bool true from hv)).1 true rfl
       injection h with h
       rw [this,← h]; rfl
     · rename_i hl
       rw [hl] at hv
       have:=(yielded_of (a:=a) hs (show a.tmps.getD s undef = .bool true from hv)).1 true rfl
       injection h with h
       rw [this,← h]; rfl
     · rename_i hl
       rw [hl] at hv
       have:=(yielded_of (a:=a) hs (show a.tmps.getD s undef = .bool false from hv)).1 false rfl
       injection h with h
       rw [this,← h]; rfl
     · rename_i hl
       rw [hl] at hv
       have:=(yielded_of (a:=a) hs (show a.tmps.getD s undef = .bool false from hv)).1 false rfl
       injection h with h
       rw [this,← h]; rfl
     · rename_i hl
       rw [hl] at hv
       have:=(yielded_of (a:=a) hs (show a.tmps.getD s undef = undef from hv)).2 (by simp [undef])
       injection h with h
       rw [this,← h]
       simp
     · cases h
theorem Sat.undef {C : Ctx} {K : KL} {B : BL} {a : Act} {w : World} (h : Sat N ids C K B a w) (d : Option Nat) (hd : ∀ e,d = some e → e < N) : Sat N ids C (putK d .undef K) B (a.put d undef) w:=by
 obtain ⟨h1,h2,ρ,F,hM,hS⟩:=h
 exact ⟨put_size.trans h1,put_defers.trans h2,ρ,F,hM,hS.putO (fun e he=>by rw [h1]; exact hd e he) rfl⟩
theorem Sat.lit {C : Ctx} {K : KL} {B : BL} {a : Act} {w : World} {d : Nat} {b : Bool} (h : Sat N ids C ((d,.c (.one (.d (.bool b)))) :: K) B a w) : Sat N ids C ((d,.c (.one (.d (.lit b)))) :: K) B a w:=by
 obtain ⟨h1,h2,ρ,F,hM,hS⟩:=h
 refine ⟨h1,h2,ρ,F,hM,fun s=>?_⟩
 have:=hS s
 rw [look_cons] at this ⊢
 split at this
 · rw [if_pos ‹_›]; exact this
 · rw [if_neg ‹_›]; exact this
/-! ### in whatever round -/
theorem calls_in {n : Nat} {r : Option Nat} {f : FuncId} {args : Array Value} {w : World} {R : Ending → World → Prop} (h : Calls P f args w R) : CallsIn (wideR r) n P f args w R:=(callsIn_wide (n:=n)).2 h
theorem in_calls {n : Nat} {r : Option Nat} {f : FuncId} {args : Array Value} {w : World} {R : Ending → World → Prop} (h : CallsIn (wideR r) n P f args w R) : Calls P f args w R:=(callsIn_wide (n:=n)).1 h
theorem rows_in {n : Nat} {r : Option Nat} {row : String} {args : Array Value} {w : World} {R : Value → World → Prop} (h : Rows P row args w R) : RowsIn (wideR r) n P row args w R:=fun c cs _=>by
 obtain ⟨v,w',h1,h2⟩:=h c cs
 exact ⟨v,w',h1,stepsIn_wide.2 h2⟩
theorem notDefer {o : Oper} (h : (match o.op with
   | .defer _=>false
   | _=>true) = true) : ∀ c,o.op ≠ .defer c:=fun c e=>by rw [e] at h; cases h
theorem op_in {r : Option Nat} {o : Oper} (hnd : ∀ c,o.op ≠ .defer c) {a : Act} {w : World} {next : Act → World → Prop} {Q : Exit → Act → World → Prop} (h : o.wp P a w next Q) : o.wpIn (wideR r) 0 P a w next Q:=by
 refine ⟨fun _ _=>trivial,?_⟩
 rw [Oper.semAt_eq _ _ _ hnd]
 unfold Oper.wp at h
 generalize (execOp a.eval o).run P w = q at *
 cases q with
 | ok x w' =>
   cases x <;> simp only [Oper.upon,Oper.uponIn] at h ⊢ <;>
     first
       | exact h
       | exact h.elim
       | exact ⟨fun hs=>absurd hs (by simp),calls_in h⟩
       | exact ⟨fun hs=>absurd hs (by simp),rows_in h⟩
 | halt x w'=>cases x <;> simp only [Oper.upon,Oper.uponIn] at h ⊢ <;> exact h
theorem vcs_seq (hP : TblOK P tt) (all : List Oper) : ∀ (l : List Oper) (i : Nat) (K : KL) (B : BL) (log : List Ent) (k : KL → BL → List Ent → Prop),dstOK N l = true → vcs P tt ids all i l K B log k → ∀ (C : Ctx) (a : Act) (w : World),Sat N ids C K B a w →
   ∀ (r : Option Nat) (Q : Exit → Act → World → Prop),(∀ K' B' log',k K' B' log' → ∀ a' w',Sat N ids C K' B' a' w' → Q .normal a' w') → wpListIn (wideR r) 0 P all.toArray Q l a w
 | [],i,K,B,log,k,_,h,C,a,w,hs,r,Q,hk=>wpListIn_nil (hk K B log h a w hs)
 | o :: l,i,K,B,log,k,hd,h,C,a,w,hs,r,Q,hk=>by
   simp only [dstOK,Bool.and_eq_true] at hd
   obtain ⟨⟨hd0,hnd⟩,hdl⟩:=hd
   have hnd:=notDefer hnd
   have hlt : ∀ d,o.dst = some d → d < N:=fun d e=>by rw [e] at hd0; simpa [Nat.blt_eq] using hd0
   have hs':=hs
   obtain ⟨_,_,ρ,F,hM,hS⟩:=hs'
   rw [vcs_cons] at h
   unfold vcsS at h
   refine wpListIn_step fun Kn hKn=>?_
   split at h
   · exact h.elim
   · rename_i hw
     rw [if_neg (by rw [wants_sound hw hS]; simp)]
     refine ⟨fun _ _=>trivial,hKn _ _ ?_⟩
     have hu:=hs.undef o.dst hlt
     split at h
     · rename_i d e
       rw [e] at hu ⊢
       exact vcs_seq hP all l _ _ _ _ k hdl h C _ w hu r Q hk
     · rename_i e
       rw [e] at hu ⊢
       exact vcs_seq hP all l _ _ _ _ k hdl h C _ w hu r Q hk
   · rename_i hw
     rw [if_pos (wants_sound hw hS)]
     obtain ⟨v,e,h,hO,hf⟩:=vcOp_sound hP h
     refine op_in hnd (hO K B (fun _ _=>rfl) (fun _ _=>rfl) hf C a w hs hlt Kn Q fun a' w' hs2=>hKn _ _ ?_)
     split at h
     · rename_i e2
       rw [e2] at hs2
       exact vcs_seq hP all l _ _ _ _ k hdl h C _ w' hs2 r Q hk
     · rename_i d e2
       rw [e2] at hs2
       split at h
       · rename_i b hg
         cases b with
         | true=>exact vcs_seq hP all l _ _ _ _ k hdl (h.1 rfl) C _ w' hs2.lit r Q hk
         | false=>exact vcs_seq hP all l _ _ _ _ k hdl (h.2 rfl) C _ w' hs2.lit r Q hk
       · exact vcs_seq hP all l _ _ _ _ k hdl h C _ w' hs2 r Q hk
/-- A region that draws its order. (Draw shows it.) -/
def DrawOK (P : Program) (tt : Tr) (N : Nat) (ids : List Nat) : Prop:=∀ (id : Nat) (ops : Array Oper) (K : KL) (B : BL) (k : KL → BL → Prop),dstOK N ops.toList = true → P.follows .mixedOrders = true →
   vcs P tt ids ops.toList 0 ops.toList K B [] (fun K' B' log=>indep K B ops.toList log = true ∧ k K' B') → ∀ (C : Ctx) (a : Act) (w : World),Sat N ids C K B a w →
   ∀ (r : Option Nat) (Q : Exit → Act → World → Prop),(∀ K' B',k K' B' → ∀ a' w',Sat N ids C K' B' a' w' → Q .normal a' w') → (Code.region id ops true).wpIn (wideR r) 0 P Q a w
theorem Sat.eval {C : Ctx} {K : KL} {B : BL} {a : Act} {w : World} (h : Sat N ids C K B a w) {c : Operand} {b : Bool} (hc : opv K c = .c (.one (.d (.lit b))) ∨ opv K c = .c (.one (.d (.bool b)))) : a.eval c = .bool b:=by
 obtain ⟨_,_,ρ,F,hM,hS⟩:=h
 rcases hc with hc | hc
 · exact hS.lit hc
 · exact hS.bool hc
theorem vc_sound (hP : TblOK P tt) (hD : DrawOK P tt N ids) (stops : List Nat) : ∀ (c : Code) (K : KL) (B : BL) (Q : Ex → KL → BL → Prop),codeOK P N c = true → vc P tt N ids stops c K B Q → TrQ P N ids c K B Q:=by
 intro c
 induction c with
 | skip=>exact fun K B Q _ h r hr C Qs hq a w hs=>wpIn_skip (hq .nrm K B C.ds (fun _=>rfl) h a w hs)
 | region id ops draw =>
   intro K B Q hc h
   rw [vc_region] at h
   simp only [codeOK,Bool.and_eq_true,Bool.or_eq_true,Bool.not_eq_true'] at hc
   split at h
   · exact h
   · split at h
     · intro r hr C Qs hq a w hs
       refine wpIn_region_list ?_
       have:=vcs_seq hP ops.toList ops.toList 0 K B [] _ hc.1 h C a w hs r Qs (fun K' B' _ hk a' w' hs'=>hq .nrm K' B' C.ds (fun _=>rfl) hk a' w' hs')
       simpa using this
     · intro r hr C Qs hq a w hs
       exact hD id ops K B (Q .nrm) hc.1 (hc.2.resolve_left (by simp)) h C a w hs r Qs (fun K' B' hk a' w' hs'=>hq .nrm K' B' C.ds (fun _=>rfl) hk a' w' hs')
 | seq x y ih1 ih2 =>
   intro K B Q hc h r hr C Qs hq a w hs
   simp only [codeOK,Bool.and_eq_true] at hc
   rw [vc_seq] at h
   refine wpIn_seq (ih1 K B _ hc.1 h r hr C _ ?_ a w hs)
   intro e K' B' ds hds he a' w' hs'
   cases e with
   | nrm=>exact ih2 K' B' Q hc.2 he r hr (C.at ds) Qs (fun e K B ds' hds'=>hq e K B ds' fun hi=>(hds' hi).trans (hds hi)) a' w' hs'
   | ex i=>exact hq (.ex i) K' B' ds hds he a' w' hs'
   | ret=>exact hq .ret K' B' ds hds he a' w' hs'
 | cond c x y ih1 ih2 =>
   intro K B Q hc h r hr C Qs hq a w hs
   simp only [codeOK,Bool.and_eq_true] at hc
   rw [vc_cond] at h
   split at h
   · rename_i hl
     exact wpIn_cond_true (hs.eval (.inl hl)) (ih1 K B Q hc.1 h r hr C Qs hq a w hs)
   · rename_i hl
     exact wpIn_cond_false (hs.eval (.inl hl)) (ih2 K B Q hc.2 h r hr C Qs hq a w hs)
   · rename_i b hl
     cases b with
     | true=>exact wpIn_cond_true (hs.eval (.inr hl)) (ih1 K B Q hc.1 (h.1 rfl) r hr C Qs hq a w hs)
     | false=>exact wpIn_cond_false (hs.eval (.inr hl)) (ih2 K B Q hc.2 (h.2 rfl) r hr C Qs hq a w hs)
   · exact h.elim
 | block i b ih =>
   intro K B Q hc h r hr C Qs hq a w hs
   rw [vc_block] at h
   refine wpIn_block (ih K B _ hc h r hr C _ ?_ a w hs)
   intro e K' B' ds hds he a' w' hs'
   cases e with
   | nrm=>exact hq .nrm K' B' ds hds he a' w' hs'
   | ret=>exact hq .ret K' B' ds hds he a' w' hs'
   | ex j =>
     simp only [Ex.to,Exit.inBlock] at he ⊢
     split at he
     · rename_i e
       have:=Nat.eq_of_beq_eq_true e
       subst this
       rw [if_pos rfl]
       exact hq .nrm K' B' ds hds he a' w' hs'
     · rename_i e
       rw [if_neg (fun x=>by subst x; simp at e)]
       exact hq (.ex j) K' B' ds hds he a' w' hs'
 | loop b ih=>exact fun K B Q hc h=>h
 | rangeFunc f ps x b ih1 ih2=>exact fun K B Q hc h=>h
 | scope b ih =>
   intro K B Q hc h r hr C Qs hq a w hs
   rw [vc_scope] at h
   refine wpIn_scope (ih K B _ hc h r hr C _ ?_ a w hs)
   intro e K' B' ds hds he a' w' hs'
   cases e with
   | nrm=>exact hq .nrm K' B' ds hds he a' w' hs'
   | ret=>exact hq .ret K' B' ds hds he a' w' hs'
   | ex j=>exact hq (.ex j) K' B' ds hds he a' w' hs'
 | label l=>exact fun K B Q hc h r hr C Qs hq a w hs=>wpIn_label (hq .nrm K B C.ds (fun _=>rfl) h a w hs)
 | exit i=>exact fun K B Q hc h r hr C Qs hq a w hs=>wpIn_exit (hq (.ex i) K B C.ds (fun _=>rfl) h a w hs)
 | ret=>exact fun K B Q hc h r hr C Qs hq a w hs=>wpIn_ret (hq .ret K B C.ds (fun _=>rfl) h a w hs)
 | _=>intro K B Q hc h; simp [codeOK] at hc
/-! ### states that say less,loops -/
/-- Whoever is as the first state says is as the second one says. -/
def Le (ids : List Nat) (K : KL) (B : BL) (K' : KL) (B' : BL) : Prop:=∀ (N : Nat) (C : Ctx) (a : Act) (w : World),Sat N ids C K B a w → Sat N ids C K' B' a w
theorem Le.refl (K : KL) (B : BL) : Le ids K B K B:=fun _ _ _ _ h=>h
theorem Le.trans {K K' K'' : KL} {B B' B'' : BL} (h : Le ids K B K' B') (h' : Le ids K' B' K'' B'') : Le ids K B K'' B'':=fun N C a w hs=>h' N C a w (h N C a w hs)
theorem TrQ.le {c : Code} {K K' : KL} {B B' : BL} {Q : Ex → KL → BL → Prop} (h : Le ids K B K' B') (ht : TrQ P N ids c K' B' Q) : TrQ P N ids c K B Q:=fun r hr C Qs hq a w hs=>ht r hr C Qs hq a w (h N C a w hs)
theorem TrQ.mono {c : Code} {K : KL} {B : BL} {Q Q' : Ex → KL → BL → Prop} (h : ∀ e K B,Q' e K B → Q e K B) (ht : TrQ P N ids c K B Q') : TrQ P N ids c K B Q:=fun r hr C Qs hq a w hs=>ht r hr C Qs (fun e K' B' ds hds he=>hq e K' B' ds hds (h e K' B' he)) a w hs
/-- A loop: states told by x; each round lowers μ. -/
theorem TrQ.loop (hP : TblOK P tt) (hD : DrawOK P tt N ids) (stops : List Nat) {b : Code} (hc : codeOK P N b = true) {X : Type} (KI : X → KL) (BI : X → BL) (inv : X → Prop) (μ : X → Nat) (x0 : X) {K : KL} {B : BL} {Q : Ex → KL → BL → Prop} (h0 : inv x0) (hle : Le ids K B (KI x0) (BI x0))
   (h : ∀ x,inv x → vc P tt N ids stops b (KI x) (BI x) (fun e K B=>match e with
     | .nrm=>∃ y,inv y ∧ μ y < μ x ∧ Le ids K B (KI y) (BI y)
     | .ex i=>Q (.ex i) K B
     | .ret=>Q .ret K B)) : TrQ P N ids (.loop b) K B Q:=by
 intro r hr C Qs hq a w hs
 refine wpIn_loop_ghost (fun n a w=>∃ x ds,(inRnd ids = true → ds = C.ds) ∧ inv x ∧ μ x = n ∧ Sat N ids (C.at ds) (KI x) (BI x) a w) (μ x0) ⟨x0,C.ds,fun _=>rfl,h0,rfl,hle N C a w hs⟩ ?_
 rintro n a w ⟨x,ds,hds,hx,rfl,hs⟩
 refine vc_sound hP hD stops b _ _ _ hc (h x hx) r hr (C.at ds) _ ?_ a w hs
 intro e K' B' ds' hds' he a' w' hs'
 have hds2 : inRnd ids = true → ds' = C.ds:=fun hi=>(hds' hi).trans (hds hi)
 cases e with
 | nrm =>
   obtain ⟨y,hy,hlt,hle'⟩:=he
   exact ⟨μ y,hlt,y,ds',hds2,hy,rfl,hle' N (C.at ds') a' w' hs'⟩
 | ex i=>exact hq (.ex i) K' B' ds' hds2 he a' w' hs'
 | ret=>exact hq .ret K' B' ds' hds2 he a' w' hs'
/-! ### functions -/
def argsK : Nat → List SV → KL
 | _,[]=>[]
 | i,v :: l=>(i,v) :: argsK (i + 1) l
theorem look_argsK : ∀ (l : List SV) (i s : Nat),look (argsK i l) s = (if i ≤ s then (l[s - i]?).getD (.c (.one .any)) else .c (.one .any))
 | [],i,s=>by simp [argsK,look]
 | v :: l,i,s=>by
   simp only [argsK]
   rw [look_cons,look_argsK l (i + 1) s]
   by_cases h : i = s
   · subst h; simp
   · rw [if_neg h]
     by_cases h2 : i ≤ s
     · rw [if_pos (by omega),if_pos h2,show s - i = (s - (i + 1)) + 1 by omega]
       rfl
     · rw [if_neg (by omega),if_neg h2]
/-- What the result slots hand over. -/
def resOf (tt : Tr) (K : KL) (B : BL) : List ResultVar → Option (List SC)
 | []=>some []
 | .tmp t :: l=>match look K t,resOf tt K B l with
   | .c x,some r=>some (x :: r)
   | _,_=>none
 | .cell t T :: l=>match look K t,resOf tt K B l,tt.find T with
   | .c (.one (.ptr c o)),some r,some ti=>match lookB B c with
     | some (.cells m)=>match ti.row with
       | true=>match Nat.ble (o + ti.size) m.length with
         | true=>some (.agg ((m.drop o).take ti.size) :: r)
         | false=>none
       | false=>match m[o]? with
         | some s=>some (.one s :: r)
         | none=>none
     | _=>none
   | _,_,_=>none
def resV (tmps : Array Value) (r : ResultVar) : Sem Value:=match r with
 | .tmp t=>pure (tmps.getD t undef)
 | .cell ad t=>do loadVar t (← asAddr (tmps.getD ad undef))
def packR : List SC → SV
 | [x]=>.c x
 | l=>.tup l
theorem run_res (hP : TblOK P tt) {ρ : Nat → Pl} {F : Nat → Nat → Prop} {C : Ctx} {K : KL} {B : BL} {a : Act} {w : World} (hM : Mem ids C B ρ F w) (hS : Slots K ρ (Imm C B F w) a w) : ∀ (l : List ResultVar) (r : List SC),resOf tt K B l = some r →
   ∃ vs : List Value,(l.mapM (resV a.tmps)).run P w = .ok vs w ∧ DenCL ρ (Imm C B F w) w r vs
 | [],r,h=>by
   simp only [resOf,Option.some.injEq] at h
   subst h
   exact ⟨[],by simp,rfl⟩
 | .tmp t :: l,r,h=>by
   unfold resOf at h
   split at h
   · rename_i x r' hx hr
     injection h with h
     subst h
     obtain ⟨vs,h1,h2⟩:=run_res hP hM hS l r' hr
     have hv:=hS t
     rw [hx] at hv
     exact ⟨_ :: vs,by simp [List.mapM_cons,h1,resV],_,vs,rfl,hv,h2⟩
   · cases h
 | .cell t T :: l,r,h=>by
   unfold resOf at h
   split at h
   · rename_i c o r' ti hx hr hti
     obtain ⟨i,d,hok⟩:=hP.at_ hti
     obtain ⟨vs,h1,h2⟩:=run_res hP hM hS l r' hr
     have hv:=hS t
     rw [hx] at hv
     have hv : a.tmps.getD t undef = .pointer (some ⟨(ρ c).blk,o,none⟩):=hv
     split at h
     · rename_i m hl
       obtain ⟨hF,us,T',hb,hd⟩:=hM.holds c _ hl
       split at h
       · rename_i hrow
         split at h
         · rename_i hle
           have hle:=Nat.le_of_ble_eq_true hle
           injection h with h
           subst h
           have hd2:=DenL.tk ti.size _ _ (DenL.dp o _ _ hd)
           have hrun:=run_loadVar_mid (P:=P) w (ρ c).blk o T ((us.drop o).take ti.size) d (fun j u hj=>by
             rw [List.getElem?_take] at hj
             split at hj
             · rw [List.getElem?_drop] at hj
               exact cell_of hb hj
             · cases hj) hok.und (hok.row.trans hrow) (by rw [hok.info,Option.map_some,hok.size,DenL.length _ _ hd2,List.length_take,List.length_drop]; congr 1; omega)
           exact ⟨_ :: vs,by simp [List.mapM_cons,resV,hv,asAddr,hrun,h1],_,vs,rfl,⟨_,rfl,hd2⟩,h2⟩
         · cases h
       · rename_i hrow
         split at h
         · rename_i s hs
           injection h with h
           subst h
           obtain ⟨v,hv2,hd2⟩:=DenL.get _ _ hd o s hs
           have hrun:=run_load1 (P:=P) (T:=T) hok.und (hok.row.trans hrow) (cell_of hb hv2)
           exact ⟨_ :: vs,by simp [List.mapM_cons,resV,hv,asAddr,hrun,h1],_,vs,rfl,hd2,h2⟩
         · cases h
     · cases h
   · cases h
/-- Names of blocks that are among these alone. -/
def capsAmong (l : List Nat) : List Cap → Bool
 | []=>true
 | .p b _ :: m=>l.contains b && capsAmong l m
 | .d _ :: m=>capsAmong l m
theorem capsAmong_has {l : List Nat} {c : Nat} : ∀ {m : List Cap},capsAmong l m = true → capsHave c m = true → c ∈ l
 | [],_,hc=>by simp [capsHave] at hc
 | .p b o :: m,h,hc=>by
   simp only [capsAmong,Bool.and_eq_true,List.contains_iff_mem] at h
   simp only [capsHave,Bool.or_eq_true] at hc
   rcases hc with hc | hc
   · have:=Nat.eq_of_beq_eq_true hc; subst this; exact h.1
   · exact capsAmong_has h.2 hc
 | .d x :: m,h,hc=>capsAmong_has (m:=m) (by simpa [capsAmong] using h) (by simpa [capsHave] using hc)
def S1.among (l : List Nat) : S1 → Bool
 | .ptr b _=>l.contains b
 | .own b=>l.contains b
 | .rp b _ _ _=>l.contains b
 | .os b _ _ _=>l.contains b
 | .mp b=>l.contains b
 | .clo _ m=>capsAmong l m
 | _=>true
def amongL (l : List Nat) : List S1 → Bool
 | []=>true
 | s :: m=>s.among l && amongL l m
def SC.among (l : List Nat) : SC → Bool
 | .one s=>s.among l
 | .agg m=>amongL l m
 | .dat _ _=>true
def amongCL (l : List Nat) : List SC → Bool
 | []=>true
 | s :: m=>s.among l && amongCL l m
def SV.among (l : List Nat) : SV → Bool
 | .c x=>x.among l
 | .tup m=>amongCL l m
 | .undef=>true
def Ch.among (l : List Nat) : Ch → Bool
 | .cells m=>amongL l m
 | .dep d _=>l.contains d
 | _=>true
def amongB (l : List Nat) : BL → Bool
 | []=>true
 | (_,ch) :: B=>ch.among l && amongB l B
theorem S1.among_has {l : List Nat} {s : S1} (h : s.among l = true) {c : Nat} (hc : s.has c = true) : c ∈ l:=by
 cases s <;> simp only [S1.among,S1.has,List.contains_iff_mem,Bool.false_eq_true] at h hc
 all_goals first | exact capsAmong_has h hc | (have:=Nat.eq_of_beq_eq_true hc; subst this; exact h)
theorem amongL_has {l : List Nat} {c : Nat} : ∀ {m : List S1},amongL l m = true → hasL c m = true → c ∈ l
 | [],_,hc=>by simp [hasL] at hc
 | s :: m,h,hc=>by
   simp only [amongL,Bool.and_eq_true] at h
   simp only [hasL,Bool.or_eq_true] at hc
   exact hc.elim (S1.among_has h.1) (amongL_has h.2)
theorem SC.among_has {l : List Nat} {s : SC} (h : s.among l = true) {c : Nat} (hc : s.has c = true) : c ∈ l:=by
 cases s with
 | one s=>exact S1.among_has h hc
 | agg m=>exact amongL_has h hc
 | dat u x=>cases hc
theorem amongCL_has {l : List Nat} {c : Nat} : ∀ {m : List SC},amongCL l m = true → hasCL c m = true → c ∈ l
 | [],_,hc=>by simp [hasCL] at hc
 | s :: m,h,hc=>by
   simp only [amongCL,Bool.and_eq_true] at h
   simp only [hasCL,Bool.or_eq_true] at hc
   exact hc.elim (SC.among_has h.1) (amongCL_has h.2)
theorem SV.among_has {l : List Nat} {s : SV} (h : s.among l = true) {c : Nat} (hc : s.has c = true) : c ∈ l:=by
 cases s with
 | c s=>exact SC.among_has h hc
 | tup m=>exact amongCL_has h hc
 | undef=>cases hc
theorem Ch.among_has {l : List Nat} {s : Ch} (h : s.among l = true) {c : Nat} (hc : s.has c = true) : c ∈ l:=by
 cases s with
 | cells m=>exact amongL_has h hc
 | row e u xs=>cases hc
 | map ku vu es=>cases hc
 | val u x=>cases hc
 | obj o=>cases hc
 | dep d o=>rw [← Nat.eq_of_beq_eq_true hc]; exact List.contains_iff_mem.1 h
theorem amongB_get {l : List Nat} : ∀ {B : BL},amongB l B = true → ∀ {c ch},lookB B c = some ch → ch.among l = true
 | [],_,c,ch,h=>by cases h
 | (d,x) :: B,h,c,ch,hc=>by
   simp only [amongB,Bool.and_eq_true] at h
   rw [lookB_cons] at hc
   split at hc
   · injection hc with hc; subst hc; exact h.1
   · exact amongB_get h.2 hc
section
variable {ρ : Nat → Pl} {I : Nat → Prop} {w : World}
theorem leD_den : ∀ {x y : D} {v : Value},leD x y → Den I w x v → Den I w y v:=by
 intro x y v h hv
 unfold leD at h
 split at h
 · split at h
   · rename_i e
     have:=eqK_eq e
     subst this h
     exact hv
   · exact h.elim
 · subst h; exact hv
 · subst h; exact hv
 · subst h; exact hv
 · subst h; exact hv
 · subst h; exact hv
 · subst h; exact hv
 · subst h; exact hv
 · split at h
   · rename_i e _
     subst e
     have h : _ = _:=h
     subst h
     exact hv
   · exact h.elim
 · exact h.elim
theorem leS_den {s t : S1} {v : Value} (h : leS s t) (hv : DenS ρ I w s v) : DenS ρ I w t v:=by
 unfold leS at h
 split at h
 · trivial
 · exact leD_den h hv
 · subst h
   rw [show v = _ from hv]
   exact ⟨none,0,rfl,Nat.le_refl _,Nat.zero_le _,fun h=>absurd h (Nat.lt_irrefl 0)⟩
 · subst h; exact hv
theorem leL_den : ∀ {l m : List S1} {vs : List Value},leL l m → DenL ρ I w l vs → DenL ρ I w m vs
 | [],[],_,_,h=>h
 | s :: l,t :: m,_,⟨h1,h2⟩,⟨v,r,e,g1,g2⟩=>⟨v,r,e,leS_den h1 g1,leL_den h2 g2⟩
 | [],_ :: _,_,h,_=>h.elim
 | _ :: _,[],_,h,_=>h.elim
theorem leC_den {s t : SC} {v : Value} (h : leC s t) (hv : DenC ρ I w s v) : DenC ρ I w t v:=by
 unfold leC at h
 split at h
 · exact leS_den h hv
 · obtain ⟨vs,e,hv⟩:=hv
   exact ⟨vs,e,leL_den h hv⟩
 · trivial
 · split at h
   · rename_i hu _
     subst hu
     have h : _ = _:=h
     subst h
     exact hv
   · exact h.elim
 · trivial
 · exact h.elim
theorem leCL_den : ∀ {l m : List SC} {vs : List Value},leCL l m → DenCL ρ I w l vs → DenCL ρ I w m vs
 | [],[],_,_,h=>h
 | s :: l,t :: m,_,⟨h1,h2⟩,⟨v,r,e,g1,g2⟩=>⟨v,r,e,leC_den h1 g1,leCL_den h2 g2⟩
 | [],_ :: _,_,h,_=>h.elim
 | _ :: _,[],_,h,_=>h.elim
theorem leV_den {s t : SV} {v : Value} (h : leV s t) (hv : DenV ρ I w s v) : DenV ρ I w t v:=by
 unfold leV at h
 split at h
 · exact leC_den h hv
 · obtain ⟨vs,e,hv⟩:=hv
   exact ⟨vs,e,leCL_den h hv⟩
 · exact hv
 · trivial
 · exact h.elim
theorem leVL_get : ∀ {l m : List SV},leVL l m → l.length = m.length ∧ ∀ (i : Nat) (t : SV),m[i]? = some t → ∃ s,l[i]? = some s ∧ leV s t
 | [],[],_=>⟨rfl,fun i t h=>by simp at h⟩
 | s :: l,t :: m,⟨h1,h2⟩=>by
   obtain ⟨g1,g2⟩:=leVL_get h2
   refine ⟨by simp [g1],fun i u hu=>?_⟩
   match i with
   | 0 =>
     simp only [List.getElem?_cons_zero,Option.some.injEq] at hu
     subst hu
     exact ⟨s,rfl,h1⟩
   | i + 1=>exact g2 i u (by simpa using hu)
 | [],_ :: _,h=>h.elim
 | _ :: _,[],h=>h.elim
end
/-- A contract serves values that say more. -/
theorem Fn.arg {P : Program} {f : FuncId} {args args' : List SV} {Bi : BL} {nw : List Nat} {res : SV} {Bo : BL} (h : Fn P f args' Bi nw res Bo) (hl : leVL args args') : Fn P f args Bi nw res Bo:=by
 obtain ⟨h1,h2⟩:=leVL_get hl
 refine ⟨h.1,fun ρ F I w vals a1 a2 a3 a4 a5 a6=>h.2 ρ F I w vals a1 a2 a3 a4 (a5.trans h1) fun i v x hv hx=>?_⟩
 obtain ⟨s,g1,g2⟩:=h2 i v hv
 exact leV_den g2 (a6 i s x g1 hx)
/-! ### the marks,taken at the end -/
theorem mem_unmark {C : Ctx} {ds : List Nat} {B : BL} {ρ : Nat → Pl} {F : Nat → Nat → Prop} {w w' : World} (h : Mem ids (C.at ds) B ρ F w) (hfr : Fr (fun D=>D ∈ ds) w w') :
   Mem ids (C.at []) B ρ F w' ∧ Ext (Imm (C.at ds) B F w) w (Imm (C.at []) B F w') w':=by
 have hds : ∀ b,(C.I0 b ∨ C.F0 b ∨ C.w0.heap.size ≤ b ∧ b ∉ ds) → b ∉ ds:=fun b hb hd=>by
   have g3 : C.w0.heap.size ≤ b:=(h.marks.2.2 b hd).2.2
   rcases hb with hb | hb | hb
   · have g4 : b < C.w0.heap.size:=h.marks.2.1 b (.inl hb)
     omega
   · have g4 : b < C.w0.heap.size:=h.marks.2.1 b (.inr hb)
     omega
   · exact hb.2 hd
 have hE : Ext (Imm (C.at ds) B F w) w (Imm (C.at []) B F w') w':=fun b hb =>
   ⟨⟨Nat.lt_of_lt_of_le hb.1 hfr.size,hb.2.1.imp id fun x=>x.imp id fun x=>⟨x.1,by simp⟩,hb.2.2⟩,hfr.block b hb.1 (hds b hb.2.1)⟩
 have hF : ∀ c ch,lookB B c = some ch → ∀ b,F c b → w'.heap[b]? = w.heap[b]?:=fun c ch hc b hb=>by
   obtain ⟨q1,q2⟩:=h.own c ch hc b hb
   exact hfr.block b q1 (hds b (.inr q2))
 refine ⟨⟨h.fr.trans hfr fun i hi hd=>?_,fun c ch hc=>Holds.stable hE (hF c ch hc) hfr.size ch (fun _ _=>rfl) (h.holds c ch hc),fun c ch hc b hb=>?_,h.disj,h.keep,List.nodup_nil,h.marks.2.1,fun D hD=>by cases hD⟩,hE⟩
 · have h3 : C.w0.heap.size ≤ i:=(h.marks.2.2 i hd).2.2
   have hi : i < C.w0.heap.size:=hi
   omega
 · obtain ⟨q1,q2⟩:=h.own c ch hc b hb
   exact ⟨Nat.lt_of_lt_of_le q1 hfr.size,q2.imp id fun x=>⟨x.1,by simp⟩⟩
theorem leaves_marks {F : Fence} {n : Nat} {fn : Func} {tmps : Array Value} {R : Ending → World → Prop} : ∀ (ds : List Nat) (w : World),ds.Nodup → (∀ D,D ∈ ds → D < w.heap.size ∧ w.heap[D]? = some (.deferred (some []))) →
   (∀ w',Fr (fun D=>D ∈ ds) w w' → LeavesIn F n P fn tmps R [] .returning w') → LeavesInM F n P fn tmps R (ds.map markD) .returning w
 | [],w,_,_,h=>h w (Fr.refl _ w)
 | D :: ds,w,hn,hd,h=>by
   obtain ⟨n1,n2⟩:=List.nodup_cons.1 hn
   obtain ⟨d1,d2⟩:=hd D (List.mem_cons_self ..)
   have hf : Fr (fun b=>b = D) w (w.putObj D (.deferred none)):=⟨rfl,rfl,rfl,Nat.le_of_eq (World.putObj_size).symm,fun k _ hk=>World.putObj_heap_other hk⟩
   refine ⟨fun e=>(by cases e),.inl ⟨D,w.putObj D (.deferred none),rfl,run_takeDeferred d2,leaves_marks ds _ n2 (fun E hE=>?_) fun w' hw'=>h w' ?_⟩⟩
   · obtain ⟨q1,q2⟩:=hd E (List.mem_cons_of_mem _ hE)
     exact ⟨by rw [World.putObj_size]; exact q1,(World.putObj_heap_other (r:=D) (k:=E) fun e=>n1 (e ▸ hE)).trans q2⟩
   · exact (hf.mono fun i _ (hi : i = D)=>by rw [hi]; exact List.mem_cons_self ..).trans hw' fun i _ hi=>List.mem_cons_of_mem _ hi
theorem leave_sat {F : Fence} {n : Nat} {fn : Func} {R : Ending → World → Prop} {C : Ctx} {ds : List Nat} {K : KL} {B : BL} {a : Act} {w : World} (hs : Sat N ids (C.at ds) K B a w)
   (h : ∀ w',Sat N ids (C.at []) K B { a with defers:=[] } w' → ∃ v,(results fn a.tmps).run P w' = .ok v w' ∧ R (.returned v) w') : LeavesInM F n P fn a.tmps R a.defers .returning w:=by
 obtain ⟨h1,h2,ρ,G,hM,hS⟩:=hs
 rw [h2]
 refine leaves_marks ds w hM.marks.1 (fun D hD=>⟨(hM.marks.2.2 D hD).1,(hM.marks.2.2 D hD).2.1⟩) fun w' hw'=>h w' ?_
 obtain ⟨hM',hE⟩:=mem_unmark hM hw'
 exact ⟨h1,rfl,ρ,G,hM',hS.mono hE fun _ _ _=>rfl⟩
/-- How a function is to be left. -/
def RetQ (tt : Tr) (ids nw : List Nat) (rs : List ResultVar) (res : SV) (Bo : BL) (e : Ex) (K : KL) (B : BL) : Prop:=match e with
 | .ex _=>False
 | _=>∃ K' B' r,Le ids K B K' B' ∧ resOf tt K' B' rs = some r ∧ leV (packR r) res ∧ subB B' Bo ∧ (res.among (ids ++ nw) && amongB (ids ++ nw) Bo && (keysB Bo).all (fun c=>(ids ++ nw).contains c)) = true
theorem Fn.of (hP : TblOK P tt) {f : FuncId} {fn : Func} {c : Code} (stops : List Nat) (args : List SV) (Bi : BL) (nw : List Nat) (res : SV) (Bo : BL) (hf : P.funcs[f]? = some fn) (hb : fn.body = some c) (hn : fn.ntmps = N) (hcall : callable P f = true) (hc : codeOK P N c = true) (hargs : Nat.ble args.length N = true) (hD : DrawOK P tt N (keysB Bi)) {rs : List ResultVar} (hrs : fn.results.toList = rs)
   (h : vc P tt N (keysB Bi) stops c (argsK 0 args) Bi (RetQ tt (keysB Bi) nw rs res Bo)) : Fn P f args Bi nw res Bo:=by
 refine ⟨hcall,?_⟩
 intro ρ F I w vals hI hH hF hdj hlen hden
 have hargs:=Nat.le_of_ble_eq_true hargs
 refine in_calls (r:=none) (n:=0) (callsIn_of_wp_marks hf hb trivial ?_)
 let C : Ctx:=⟨w,I,fun b=>∃ c ch,lookB Bi c = some ch ∧ F c b,ρ,[]⟩
 have hImm : Ext I w (Imm C Bi F w) w:=fun b hb=>⟨⟨hI b hb,.inl hb,fun c ch hc hFb=>(hF c ch hc b hFb).2 hb⟩,rfl⟩
 have hM : Mem (keysB Bi) C Bi ρ F w:=⟨Fr.refl _ _,fun c ch hc=>Holds.stable hImm (fun _ _=>rfl) (Nat.le_refl _) ch (fun _ _=>rfl) (hH c ch hc),fun c ch hc b hb=>⟨(hF c ch hc b hb).1,.inl ⟨c,ch,hc,hb⟩⟩,hdj,fun c _=>rfl,List.nodup_nil,fun b hb=>hb.elim (hI b) fun ⟨c,ch,hc,hF'⟩=>(hF c ch hc b hF').1,fun D hD=>by cases hD⟩
 refine vc_sound hP hD stops c _ _ _ hc h none (fun _=>rfl) C _ ?_ _ w ⟨by simp [hlen,hn]; omega,rfl,ρ,F,hM,fun s=>?_⟩
 · intro e K' B' ds _ he a' w' hs'
   cases e with
   | ex i=>exact he.elim
   | _ =>
     obtain ⟨K2,B2,r,hle,hr,hp,hsub,ham⟩:=he
     refine leave_sat hs' fun w' hs'=>?_
     obtain ⟨hn2,hd2,ρ',F',hM',hS'⟩:=hle N C _ w' hs'
     obtain ⟨vs,hrun,hvs⟩ : ∃ vs : List Value,(rs.mapM (resV a'.tmps)).run P w' = .ok vs w' ∧ DenCL ρ' (Imm C B2 F' w') w' r vs:=run_res hP hM' hS' rs r hr
     have hres : ∃ x,(results fn a'.tmps).run P w' = .ok x w' ∧ DenV ρ' (Imm C B2 F' w') w' (packR r) x:=by
       have h1 : fn.results = rs.toArray:=by rw [← hrs]
       have h2 : (fn.results.mapM (resV a'.tmps)).run P w' = .ok (List.toArray vs) w':=by
         rw [h1,List.mapM_toArray]
         simp [hrun]
       have h3 : results fn a'.tmps = (do let vs ← fn.results.mapM (resV a'.tmps); pure (if h : vs.size = 1 then vs[0] else .tuple vs)):=rfl
       rw [h3]
       match r,vs,hvs,h2 with
       | [],_,e,h2=>rw [show _ = [] from e] at h2; exact ⟨.tuple #[],by simp [h2],[],rfl,rfl⟩
       | [x],_,⟨v,s,e,hv,hs⟩,h2 =>
         have hs : s = []:=hs
         subst hs e
         exact ⟨v,by simp [h2],hv⟩
       | x :: y :: r,_,⟨v,s,e,hv,v2,s2,e2,hv2,hs2⟩,h2 =>
         subst e2 e
         exact ⟨.tuple (List.toArray (v :: v2 :: s2)),by simp [h2],_,rfl,v,_,rfl,hv,v2,s2,rfl,hv2,hs2⟩
     obtain ⟨x,hx,hxd⟩:=hres
     have hxd:=leV_den hp hxd
     simp only [Bool.and_eq_true] at ham
     let ρ2 : Nat → Pl:=fun c=>if c ∈ nw then ρ' c else ρ c
     have hρ2 : ∀ c,c ∈ keysB Bi ++ nw → ρ2 c = ρ' c:=fun c hc=>by
       show (if c ∈ nw then ρ' c else ρ c) = ρ' c
       split
       · rfl
       · rename_i hn
         rcases List.mem_append.1 hc with h | h
         · exact (hM'.keep c h).symm
         · exact absurd h hn
     refine ⟨x,hx,x,ρ2,F',rfl,hM'.fr,fun c hc=>if_neg hc,Imm C B2 F' w',?_,fun b hb=>⟨hb.1,?_⟩,?_,?_,?_,?_⟩
     · intro b hb
       have hnF : ¬ C.F0 b:=fun ⟨c,ch,h1,h2⟩=>(hF c ch h1 b h2).2 hb
       refine ⟨⟨Nat.lt_of_lt_of_le (hI b hb) hM'.fr.size,.inl hb,fun c ch hc hFb=>?_⟩,hM'.fr.block b (hI b hb) hnF⟩
       rcases (hM'.own c ch hc b hFb).2 with h | h
       · exact hnF h
       · have:=hI b hb; exact absurd h.1 (Nat.not_le.2 this)
     · rcases hb.2.1 with h | h | h
       · exact .inl h
       · exact .inr (.inl h)
       · exact .inr (.inr h.1)
     · intro c ch hc
       have hk : c ∈ keysB Bi ++ nw:=by
         have:=List.all_eq_true.1 ham.2 c (keysB_mem.2 ⟨ch,hc⟩)
         simpa only [List.contains_iff_mem] using this
       rw [hρ2 c hk]
       exact Holds.stable (Ext.refl _ _) (fun _ _=>rfl) (Nat.le_refl _) ch (fun d hd=>hρ2 d (Ch.among_has (amongB_get ham.1.2 hc) hd)) (hM'.holds c ch (subB_get hsub hc))
     · intro c ch hc b hb
       have hc':=subB_get hsub hc
       exact ⟨(hM'.own c ch hc' b hb).1,fun hi=>hi.2.2 c ch hc' hb,(hM'.own c ch hc' b hb).2.imp id fun x=>x.1⟩
     · exact fun c c' ch ch' b h1 h2=>hM'.disj c c' ch ch' b (subB_get hsub h1) (subB_get hsub h2)
     · exact DenV.mono (Ext.refl _ _) res x (fun c hc=>hρ2 c (SV.among_has ham.1.1 hc)) hxd
 · rw [look_argsK]
   simp only [Nat.zero_le,if_true,Nat.sub_zero]
   cases hs : args[s]? with
   | none=>trivial
   | some v =>
     have hlt : s < vals.length:=by rw [hlen]; exact (List.getElem?_eq_some_iff.1 hs).1
     simp only [Option.getD_some]
     have hx : vals[s]? = some vals[s]:=List.getElem?_eq_getElem hlt
     have:=DenV.mono hImm v _ (fun _ _=>rfl) (hden s v _ hs hx)
     simpa [Array.getElem?_append,hlt,hx] using this
end
end Go.Proofs.YteoamepgonpdlaaGreat
/-
 From one state to another one that says less,or the same in other words.
-/
set_option linter.unusedVariables false
set_option linter.unusedSimpArgs false
namespace Go.Proofs.YteoamepgonpdlaaGreat
open Go.RowKit
section
variable {ids : List Nat} {K : KL} {B : BL} {C : Ctx} {ρ : Nat → Pl} {F : Nat → Nat → Prop} {w : World}
def subK (K : KL) : KL → Prop
 | []=>True
 | (s,v) :: l=>leV (look K s) v ∧ subK K l
theorem subK_get : ∀ {K' K : KL},subK K K' → ∀ s,leV (look K s) (look K' s) ∨ look K' s = .c (.one .any)
 | [],K,h,s=>.inr rfl
 | (t,v) :: K',K,h,s=>by
   rw [look_cons]
   split
   · rename_i e
     subst e
     exact .inl h.1
   · exact subK_get h.2 s
/-- Slots and blocks are let go. -/
theorem Le.sub {K' : KL} {B' : BL} (hK : subK K K') (hB : subB B B') : Le ids K B K' B':=by
 rintro N C a w ⟨h1,h2,ρ,F,hM,hS⟩
 obtain ⟨hM',hE⟩:=hM.step (B':=B') (ρ':=ρ) (F':=F) (w':=w) (fun c=>lookB B' c = none) (fun _=>False) (Fr.refl _ _) (fun c ch hc _=>subB_get hB hc) (fun _ _=>rfl) (fun _ _=>rfl) (fun _ _ h=>h) (fun _ h=>h.elim) (fun _ _ _ _ _ _ h=>h)
   (fun c ch hc hn=>by rw [hn] at hc; cases hc) (fun c ch hc hn=>by rw [hn] at hc; cases hc) (fun c c' ch ch' b hc _ hn=>by rw [hn] at hc; cases hc)
 refine ⟨h1,h2,ρ,F,hM',fun s=>?_⟩
 rcases subK_get hK s with h | h
 · exact DenV.mono hE _ _ (fun _ _=>rfl) (leV_den h (hS s))
 · rw [h]; trivial
/-! ### a row that is given away as data -/
def S1.frz (c : Nat) (x : D) : S1 → S1
 | .own b=>match Nat.beq b c with
   | true=>.d x
   | false=>.own b
 | s=>s
def frzL (c : Nat) (x : D) : List S1 → List S1
 | []=>[]
 | s :: l=>s.frz c x :: frzL c x l
def SC.frz (c : Nat) (x : D) : SC → SC
 | .one s=>.one (s.frz c x)
 | .agg l=>.agg (frzL c x l)
 | .dat u y=>.dat u y
def frzCL (c : Nat) (x : D) : List SC → List SC
 | []=>[]
 | s :: l=>s.frz c x :: frzCL c x l
def SV.frz (c : Nat) (x : D) : SV → SV
 | .c s=>.c (s.frz c x)
 | .tup l=>.tup (frzCL c x l)
 | .undef=>.undef
def frzK (c : Nat) (x : D) : KL → KL
 | []=>[]
 | (s,v) :: K=>(s,v.frz c x) :: frzK c x K
def Ch.frz (c : Nat) (x : D) : Ch → Ch
 | .cells l=>.cells (frzL c x l)
 | ch=>ch
def frzB (c : Nat) (x : D) : BL → BL
 | []=>[]
 | (b,ch) :: B=>match Nat.beq b c with
   | true=>frzB c x B
   | false=>(b,ch.frz c x) :: frzB c x B
theorem look_frzK {c : Nat} {x : D} : ∀ (K : KL) (s : Nat),look (frzK c x K) s = (look K s).frz c x
 | [],s=>rfl
 | (t,v) :: K,s=>by
   simp only [frzK]
   rw [look_cons,look_cons,look_frzK K s]
   split <;> rfl
theorem lookB_frzB {c : Nat} {x : D} : ∀ (B : BL) (d : Nat),lookB (frzB c x B) d = if c = d then none else (lookB B d).map (·.frz c x)
 | [],d=>by simp [frzB,lookB]
 | (b,ch) :: B,d=>by
   unfold frzB
   split
   · rename_i e
     have:=Nat.eq_of_beq_eq_true e
     subst this
     rw [lookB_frzB B d,lookB_cons]
     split <;> rfl
   · rename_i e
     have hne : b ≠ c:=fun h=>by subst h; simp at e
     rw [lookB_cons,lookB_cons,lookB_frzB B d]
     by_cases h : b = d
     · subst h; rw [if_pos rfl,if_pos rfl,if_neg (Ne.symm hne)]; rfl
     · rw [if_neg h,if_neg h]
section
variable {I I' : Nat → Prop} {c : Nat} {x : D}
theorem DenS.frz (he : Ext I w I' w) (hx : Den I' w x (ρ c).hdr) (s : S1) (v : Value) (h : DenS ρ I w s v) : DenS ρ I' w (s.frz c x) v:=by
 cases s with
 | own b =>
   unfold S1.frz
   simp only
   split
   · rename_i e
     have:=Nat.eq_of_beq_eq_true e
     subst this
     rw [show v = _ from h]
     exact hx
   · exact h
 | d y=>exact DenS.mono (ρ':=ρ) he (.d y) v (fun _ _=>rfl) h
 | el u y o=>exact DenS.mono (ρ':=ρ) he (.el u y o) v (fun _ _=>rfl) h
 | clo f l=>exact DenS.mono (ρ':=ρ) he (.clo f l) v (fun _ _=>rfl) h
 | _=>exact h
theorem DenL.frz (he : Ext I w I' w) (hx : Den I' w x (ρ c).hdr) : ∀ (l : List S1) (vs : List Value),DenL ρ I w l vs → DenL ρ I' w (frzL c x l) vs
 | [],_,h=>h
 | s :: l,_,⟨v,r,e,h1,h2⟩=>⟨v,r,e,DenS.frz he hx s v h1,DenL.frz he hx l r h2⟩
theorem DenC.frz (he : Ext I w I' w) (hx : Den I' w x (ρ c).hdr) (s : SC) (v : Value) (h : DenC ρ I w s v) : DenC ρ I' w (s.frz c x) v:=by
 cases s with
 | one s=>exact DenS.frz he hx s v h
 | agg l=>obtain ⟨vs,e,h⟩:=h; exact ⟨vs,e,DenL.frz he hx l vs h⟩
 | dat u y=>obtain ⟨vs,e,h1,h2⟩:=h; exact ⟨vs,e,h1,DenU.mono he u y _ _ (fun _ _ h=>h) h2⟩
theorem DenCL.frz (he : Ext I w I' w) (hx : Den I' w x (ρ c).hdr) : ∀ (l : List SC) (vs : List Value),DenCL ρ I w l vs → DenCL ρ I' w (frzCL c x l) vs
 | [],_,h=>h
 | s :: l,_,⟨v,r,e,h1,h2⟩=>⟨v,r,e,DenC.frz he hx s v h1,DenCL.frz he hx l r h2⟩
theorem DenV.frz (he : Ext I w I' w) (hx : Den I' w x (ρ c).hdr) (s : SV) (v : Value) (h : DenV ρ I w s v) : DenV ρ I' w (s.frz c x) v:=by
 cases s with
 | c s=>exact DenC.frz he hx s v h
 | tup l=>obtain ⟨vs,e,h⟩:=h; exact ⟨vs,e,DenCL.frz he hx l vs h⟩
 | undef=>exact h
end
theorem Mem.frz (hM : Mem ids C B ρ F w) {c : Nat} {e : TypeId} {u : U} {xs : List (El u)} (hc : lookB B c = some (.row e u xs)) :
   Mem ids C (frzB c (.lst u xs) B) ρ F w ∧ Ext (Imm C B F w) w (Imm C (frzB c (.lst u xs) B) F w) w ∧ Den (Imm C (frzB c (.lst u xs) B) F w) w (.lst u xs) (ρ c).hdr:=by
 have hh:=hM.holds c _ hc
 have hI1 : ∀ b,Imm C B F w b → Imm C (frzB c (.lst u xs) B) F w b:=fun b ⟨h1,h2,h3⟩=>⟨h1,h2,fun d ch hd hb=>by
   rw [lookB_frzB] at hd
   split at hd
   · cases hd
   · obtain ⟨ch',hd',_⟩:=Option.map_eq_some_iff.1 hd
     exact h3 d ch' hd' hb⟩
 have hI2 : ∀ b,F c b → Imm C (frzB c (.lst u xs) B) F w b:=fun b hb=>by
   obtain ⟨h1,h2⟩:=hM.own c _ hc b hb
   refine ⟨h1,.inr h2,fun d ch hd hb'=>?_⟩
   rw [lookB_frzB] at hd
   split at hd
   · cases hd
   · rename_i hne
     obtain ⟨ch',hd',_⟩:=Option.map_eq_some_iff.1 hd
     exact hM.disj c d _ ch' b hc hd' hne hb hb'
 have hden : Den (Imm C (frzB c (.lst u xs) B) F w) w (.lst u xs) (ρ c).hdr:=row_data hh hI1 hI2
 have hE : Ext (Imm C B F w) w (Imm C (frzB c (.lst u xs) B) F w) w:=fun b hb=>⟨hI1 b hb,rfl⟩
 refine ⟨⟨hM.fr,fun d ch hd=>?_,fun d ch hd=>?_,fun d d' ch ch' b hd hd'=>?_,hM.keep,hM.marks⟩,hE,hden⟩
 · rw [lookB_frzB] at hd
   split at hd
   · cases hd
   · obtain ⟨ch',hd',rfl⟩:=Option.map_eq_some_iff.1 hd
     have:=hM.holds d ch' hd'
     cases ch' with
     | cells l =>
       obtain ⟨h1,vs,T,h2,h3⟩:=this
       exact ⟨h1,vs,T,h2,DenL.frz hE hden l vs h3⟩
     | row e u xs=>exact Holds.stable hE (fun _ _=>rfl) (Nat.le_refl _) _ (fun _ _=>rfl) this
     | map ku vu es=>exact Holds.stable hE (fun _ _=>rfl) (Nat.le_refl _) _ (fun _ _=>rfl) this
     | val u x=>exact Holds.stable hE (fun _ _=>rfl) (Nat.le_refl _) _ (fun _ _=>rfl) this
     | obj o=>exact Holds.stable hE (fun _ _=>rfl) (Nat.le_refl _) _ (fun _ _=>rfl) this
     | dep d o=>exact Holds.stable hE (fun _ _=>rfl) (Nat.le_refl _) (.dep d o) (fun _ _=>rfl) this
 · rw [lookB_frzB] at hd
   split at hd
   · cases hd
   · obtain ⟨ch',hd',_⟩:=Option.map_eq_some_iff.1 hd
     exact hM.own d ch' hd'
 · rw [lookB_frzB] at hd hd'
   split at hd
   · cases hd
   · split at hd'
     · cases hd'
     · obtain ⟨c1,h1,_⟩:=Option.map_eq_some_iff.1 hd
       obtain ⟨c2,h2,_⟩:=Option.map_eq_some_iff.1 hd'
       exact hM.disj d d' c1 c2 b h1 h2
/-- A row of the call's own is data from now on. -/
theorem Le.frz (c : Nat) {e : TypeId} {u : U} {xs : List (El u)} (hc : lookB B c = some (.row e u xs)) : Le ids K B (frzK c (.lst u xs) K) (frzB c (.lst u xs) B):=by
 rintro N C a w ⟨h1,h2,ρ,F,hM,hS⟩
 obtain ⟨hM',hE,hd⟩:=hM.frz hc
 exact ⟨h1,h2,ρ,F,hM',fun s=>by rw [look_frzK]; exact DenV.frz hE hd _ _ (hS s)⟩
/-! ### nothing is an empty row -/
theorem Le.nil (s c : Nat) (e : TypeId) (u : U) (hs : look K s = .c (.one .nils)) (hf : freshB ids K B c = true) : Le ids K B ((s,.c (.one (.own c))) :: K) ((c,.row e u []) :: B):=by
 rintro N C a w ⟨h1,h2,ρ,F,hM,hS⟩
 have hfr:=fresh_of hf
 obtain ⟨hM',hE⟩:=hM.make (ch:=.row e u []) (w':=w) hf (Below.refl _ _) ⟨0,none,0,0⟩ (fun _=>False) (fun b h=>h.elim) (fun I _ _=>⟨fun b=>by simp [Pl.hdr,Value.ownBlock],fun b hb=>by simp [Pl.hdr,Value.ownBlock] at hb,[],World.ownsRow_nil _ _ _ _,RecsU.nil u⟩)
 refine ⟨h1,h2,_,_,hM',fun t=>?_⟩
 rw [look_cons]
 split
 · rename_i e
   subst e
   have:=hS s
   rw [hs] at this
   rw [show a.tmps.getD s undef = .slice none 0 0 from this]
   simp only [DenV,DenC,DenS,upd_same,Pl.hdr]
 · exact DenV.mono hE _ _ (fun d hd=>upd_other _ _ (fun e=>by subst e; rw [hfr.1 t] at hd; cases hd)) (hS t)
/-- .. in a block's cell. -/
theorem Le.nilc (b j c : Nat) (e : TypeId) (u : U) {l : List S1} (hb : lookB B b = some (.cells l)) (hj : l[j]? = some .nils) (hf : freshB ids K B c = true) : Le ids K B K ((b,.cells (l.set j (.own c))) :: (c,.row e u []) :: B):=by
 rintro N C a w ⟨h1,h2,ρ,F,hM,hS⟩
 have hfr:=fresh_of hf
 obtain ⟨hM',hE⟩:=hM.make (ch:=.row e u []) (w':=w) hf (Below.refl _ _) ⟨0,none,0,0⟩ (fun _=>False) (fun b h=>h.elim) (fun I _ _=>⟨fun b=>by simp [Pl.hdr,Value.ownBlock],fun b hb=>by simp [Pl.hdr,Value.ownBlock] at hb,[],World.ownsRow_nil _ _ _ _,RecsU.nil u⟩)
 have hbc : c ≠ b:=fun e=>by subst e; rw [hfr.2.1] at hb; cases hb
 have hb' : lookB ((c,Ch.row e u []) :: B) b = some (.cells l):=by rw [lookB_cons,if_neg hbc]; exact hb
 have hh:=hM'.holds b _ hb'
 obtain ⟨hM2,hE2⟩:=hM'.turn (ch:=.cells (l.set j (.own c))) hb' (Fr.refl _ _) (fun I he=>by
   obtain ⟨g1,vs,T,g2,g3⟩:=hh
   refine ⟨g1,vs,T,g2,?_⟩
   have g3:=DenL.mono (ρ':=upd ρ c ⟨0,none,0,0⟩) he l vs (fun _ _=>rfl) g3
   have key : ∀ (l : List S1) (vs : List Value) (j : Nat),l[j]? = some .nils → DenL (upd ρ c ⟨0,none,0,0⟩) I w l vs → DenL (upd ρ c ⟨0,none,0,0⟩) I w (l.set j (.own c)) vs:=fun l=>by
     induction l with
     | nil=>intro vs j hj; simp at hj
     | cons s l ih =>
       rintro _ j hj ⟨v,r,rfl,q1,q2⟩
       match j with
       | 0 =>
         simp only [List.getElem?_cons_zero,Option.some.injEq] at hj
         subst hj
         refine ⟨v,r,rfl,?_,q2⟩
         rw [show v = .slice none 0 0 from q1]
         simp only [DenS,upd_same,Pl.hdr]
       | j + 1=>exact ⟨v,r,rfl,q1,ih r j (by simpa using hj) q2⟩
   exact key l vs j hj g3)
 refine ⟨h1,h2,_,_,hM2,fun t=>?_⟩
 exact DenV.mono (hE.trans hE2) _ _ (fun d hd=>upd_other _ _ (fun e=>by subst e; rw [hfr.1 t] at hd; cases hd)) (hS t)
/-! ### another number for a block -/
def capsRen (c d : Nat) : List Cap → List Cap
 | []=>[]
 | .p b o :: l=>(match Nat.beq b c with
   | true=>.p d o
   | false=>.p b o) :: capsRen c d l
 | .d x :: l=>.d x :: capsRen c d l
def S1.ren (c d : Nat) : S1 → S1
 | .ptr b o=>match Nat.beq b c with
   | true=>.ptr d o
   | false=>.ptr b o
 | .own b=>match Nat.beq b c with
   | true=>.own d
   | false=>.own b
 | .rp b s i o=>match Nat.beq b c with
   | true=>.rp d s i o
   | false=>.rp b s i o
 | .os b s o n=>match Nat.beq b c with
   | true=>.os d s o n
   | false=>.os b s o n
 | .mp b=>match Nat.beq b c with
   | true=>.mp d
   | false=>.mp b
 | .clo f l=>.clo f (capsRen c d l)
 | s=>s
def renL (c d : Nat) : List S1 → List S1
 | []=>[]
 | s :: l=>s.ren c d :: renL c d l
def SC.ren (c d : Nat) : SC → SC
 | .one s=>.one (s.ren c d)
 | .agg l=>.agg (renL c d l)
 | .dat u x=>.dat u x
def renCL (c d : Nat) : List SC → List SC
 | []=>[]
 | s :: l=>s.ren c d :: renCL c d l
def SV.ren (c d : Nat) : SV → SV
 | .c s=>.c (s.ren c d)
 | .tup l=>.tup (renCL c d l)
 | .undef=>.undef
def renK (c d : Nat) : KL → KL
 | []=>[]
 | (s,v) :: K=>(s,v.ren c d) :: renK c d K
def Ch.ren (c d : Nat) : Ch → Ch
 | .cells l=>.cells (renL c d l)
 | .dep b o=>match Nat.beq b c with
   | true=>.dep d o
   | false=>.dep b o
 | ch=>ch
def renB (c d : Nat) : BL → BL
 | []=>[]
 | (b,ch) :: B=>match Nat.beq b c with
   | true=>(d,ch.ren c d) :: renB c d B
   | false=>(b,ch.ren c d) :: renB c d B
theorem look_renK {c d : Nat} : ∀ (K : KL) (s : Nat),look (renK c d K) s = (look K s).ren c d
 | [],s=>rfl
 | (t,v) :: K,s=>by
   simp only [renK]
   rw [look_cons,look_cons,look_renK K s]
   split <;> rfl
theorem lookB_renB {c d : Nat} : ∀ (B : BL),lookB B d = none → ∀ b,lookB (renB c d B) b = if b = d then (lookB B c).map (·.ren c d) else if b = c then none else (lookB B b).map (·.ren c d)
 | [],_,b=>by simp [renB,lookB]
 | (t,ch) :: B,hd,b=>by
   rw [lookB_cons] at hd
   have htd : t ≠ d:=fun e=>by rw [if_pos e] at hd; cases hd
   rw [if_neg htd] at hd
   have ih:=lookB_renB (c:=c) B hd b
   unfold renB
   split
   · rename_i e
     have:=Nat.eq_of_beq_eq_true e
     subst this
     rw [lookB_cons,lookB_cons,if_pos rfl,ih,lookB_cons]
     by_cases h1 : b = d
     · subst h1; simp
     · rw [if_neg (Ne.symm h1),if_neg h1,if_neg h1]
       by_cases h2 : b = t
       · rw [if_pos h2,if_pos h2]
       · rw [if_neg h2,if_neg h2,if_neg (Ne.symm h2)]
   · rename_i e
     have hne : t ≠ c:=fun h=>by subst h; simp at e
     rw [lookB_cons,ih,lookB_cons,lookB_cons,if_neg hne]
     by_cases h1 : b = d
     · subst h1; rw [if_neg htd,if_pos rfl,if_pos rfl]
     · rw [if_neg h1,if_neg h1]
       by_cases h2 : b = c
       · subst h2; rw [if_neg hne,if_pos rfl,if_pos rfl]
       · rw [if_neg h2,if_neg h2]
         by_cases h3 : t = b
         · rw [if_pos h3,if_pos h3]; rfl
         · rw [if_neg h3,if_neg h3]
section
variable {I : Nat → Prop} {c d : Nat}
theorem DenCaps.ren : ∀ (l : List Cap) (vs : List Value),capsHave d l = false → DenCaps ρ I w l vs → DenCaps (upd ρ d (ρ c)) I w (capsRen c d l) vs
 | [],_,_,h=>h
 | .p b o :: l,_,hd,⟨v,r,e,h1,h2⟩=>by
   simp only [capsHave,Bool.or_eq_false_iff] at hd
   refine ⟨v,r,e,?_,DenCaps.ren l r hd.2 h2⟩
   split
   · rename_i e
     have:=Nat.eq_of_beq_eq_true e
     subst this
     simp only [DenCap,upd_same] at h1 ⊢
     exact h1
   · simp only [DenCap] at h1 ⊢
     rw [upd_other _ _ (fun e=>by subst e; simp at hd)]
     exact h1
 | .d x :: l,_,hd,⟨v,r,e,h1,h2⟩=>⟨v,r,e,h1,DenCaps.ren l r (by simpa [capsHave] using hd) h2⟩
theorem DenS.ren (s : S1) (v : Value) (hd : s.has d = false) (h : DenS ρ I w s v) : DenS (upd ρ d (ρ c)) I w (s.ren c d) v:=by
 have key : ∀ b,Nat.beq b d = false → (match Nat.beq b c with | true=>upd ρ d (ρ c) d = ρ b | false=>upd ρ d (ρ c) b = ρ b):=fun b hb=>by
   split
   · rename_i e
     rw [upd_same,Nat.eq_of_beq_eq_true e]
   · exact upd_other _ _ (fun e=>by subst e; simp at hb)
 cases s with
 | ptr b o =>
   have:=key b hd
   unfold S1.ren
   simp only
   split <;> rename_i e <;> rw [e] at this <;> simp only at this <;> simp only [DenS] at h ⊢ <;> rw [this] <;> exact h
 | own b =>
   have:=key b hd
   unfold S1.ren
   simp only
   split <;> rename_i e <;> rw [e] at this <;> simp only at this <;> simp only [DenS] at h ⊢ <;> rw [this] <;> exact h
 | rp b s i o =>
   have:=key b hd
   unfold S1.ren
   simp only
   split <;> rename_i e <;> rw [e] at this <;> simp only at this <;> simp only [DenS] at h ⊢ <;> rw [this] <;> exact h
 | os b s o n =>
   have:=key b hd
   unfold S1.ren
   simp only
   split <;> rename_i e <;> rw [e] at this <;> simp only at this <;> simp only [DenS] at h ⊢ <;> rw [this] <;> exact h
 | mp b =>
   have:=key b hd
   unfold S1.ren
   simp only
   split <;> rename_i e <;> rw [e] at this <;> simp only at this <;> simp only [DenS] at h ⊢ <;> rw [this] <;> exact h
 | d y=>exact h
 | el u y o=>exact h
 | clo f l=>obtain ⟨vs,e,h⟩:=h; exact ⟨vs,e,DenCaps.ren l vs hd h⟩
 | nils=>exact h
 | raw v=>exact h
 | any=>exact h
theorem DenL.ren : ∀ (l : List S1) (vs : List Value),hasL d l = false → DenL ρ I w l vs → DenL (upd ρ d (ρ c)) I w (renL c d l) vs
 | [],_,_,h=>h
 | s :: l,_,hd,⟨v,r,e,h1,h2⟩=>by
   simp only [hasL,Bool.or_eq_false_iff] at hd
   exact ⟨v,r,e,DenS.ren s v hd.1 h1,DenL.ren l r hd.2 h2⟩
theorem DenC.ren (s : SC) (v : Value) (hd : s.has d = false) (h : DenC ρ I w s v) : DenC (upd ρ d (ρ c)) I w (s.ren c d) v:=by
 cases s with
 | one s=>exact DenS.ren s v hd h
 | agg l=>obtain ⟨vs,e,h⟩:=h; exact ⟨vs,e,DenL.ren l vs hd h⟩
 | dat u x=>exact h
theorem DenCL.ren : ∀ (l : List SC) (vs : List Value),hasCL d l = false → DenCL ρ I w l vs → DenCL (upd ρ d (ρ c)) I w (renCL c d l) vs
 | [],_,_,h=>h
 | s :: l,_,hd,⟨v,r,e,h1,h2⟩=>by
   simp only [hasCL,Bool.or_eq_false_iff] at hd
   exact ⟨v,r,e,DenC.ren s v hd.1 h1,DenCL.ren l r hd.2 h2⟩
theorem DenV.ren (s : SV) (v : Value) (hd : s.has d = false) (h : DenV ρ I w s v) : DenV (upd ρ d (ρ c)) I w (s.ren c d) v:=by
 cases s with
 | c s=>exact DenC.ren s v hd h
 | tup l=>obtain ⟨vs,e,h⟩:=h; exact ⟨vs,e,DenCL.ren l vs hd h⟩
 | undef=>exact h
end
/-- Another number. -/
theorem Le.ren (c d : Nat) (hf : freshB ids K B d = true) : Le ids K B (renK c d K) (renB c d B):=by
 rintro N C a w ⟨h1,h2,ρ,F,hM,hS⟩
 obtain ⟨f1,f2,f3,f4⟩:=fresh_of hf
 have hlk:=lookB_renB (c:=c) (d:=d) B f2
 have back : ∀ b ch,lookB (renB c d B) b = some ch → ∃ b0 ch0,lookB B b0 = some ch0 ∧ ch = ch0.ren c d ∧ upd F d (F c) b = F b0 ∧ upd ρ d (ρ c) b = ρ b0 ∧ ((b = d ∧ b0 = c) ∨ (b ≠ d ∧ b ≠ c ∧ b0 = b)):=fun b ch hb=>by
   rw [hlk] at hb
   split at hb
   · rename_i e
     subst e
     obtain ⟨ch0,h,rfl⟩:=Option.map_eq_some_iff.1 hb
     exact ⟨c,ch0,h,rfl,upd_same _ _ _,upd_same _ _ _,.inl ⟨rfl,rfl⟩⟩
   · rename_i e
     split at hb
     · cases hb
     · rename_i e2
       obtain ⟨ch0,h,rfl⟩:=Option.map_eq_some_iff.1 hb
       exact ⟨b,ch0,h,rfl,upd_other _ _ e,upd_other _ _ e,.inr ⟨e,e2,rfl⟩⟩
 have hE : Ext (Imm C B F w) w (Imm C (renB c d B) (upd F d (F c)) w) w:=fun b ⟨q1,q2,q3⟩=>⟨⟨q1,q2,fun e ch he hF=>by
   obtain ⟨b0,ch0,g1,_,g2,_⟩:=back e ch he
   rw [g2] at hF
   exact q3 b0 ch0 g1 hF⟩,rfl⟩
 refine ⟨h1,h2,upd ρ d (ρ c),upd F d (F c),⟨hM.fr,fun b ch hb=>?_,fun b ch hb x hx=>?_,fun b b' ch ch' x hb hb' hne hx hx'=>?_,fun e he=>?_,hM.marks⟩,fun s=>?_⟩
 · obtain ⟨b0,ch0,g1,rfl,g2,g3,_⟩:=back b ch hb
   rw [g2,g3]
   have:=hM.holds b0 ch0 g1
   have hno:=f3 b0 ch0 g1
   cases ch0 with
   | cells l =>
     obtain ⟨k1,vs,T,k2,k3⟩:=this
     exact ⟨k1,vs,T,k2,DenL.mono hE _ _ (fun _ _=>rfl) (DenL.ren l vs hno k3)⟩
   | row e u xs=>exact Holds.stable (ρ':=ρ) hE (fun _ _=>rfl) (Nat.le_refl _) (.row e u xs) (fun _ _=>rfl) this
   | map ku vu es=>exact Holds.stable (ρ':=ρ) hE (fun _ _=>rfl) (Nat.le_refl _) (.map ku vu es) (fun _ _=>rfl) this
   | val u x=>exact Holds.stable (ρ':=ρ) hE (fun _ _=>rfl) (Nat.le_refl _) (.val u x) (fun _ _=>rfl) this
   | obj o=>exact Holds.stable (ρ':=ρ) hE (fun _ _=>rfl) (Nat.le_refl _) (.obj o) (fun _ _=>rfl) this
   | dep j o =>
     have h2:=Holds.stable (ρ':=ρ) hE (fun _ _=>rfl) (Nat.le_refl _) (.dep j o) (fun _ _=>rfl) this
     unfold Ch.ren
     simp only
     split
     · rename_i e
       have:=Nat.eq_of_beq_eq_true e
       subst this
       simp only [Holds,upd_same] at h2 ⊢
       exact h2
     · have hj : j ≠ d:=fun e=>by subst e; simp [Ch.has] at hno
       simp only [Holds] at h2 ⊢
       rw [upd_other _ _ hj]
       exact h2
 · obtain ⟨b0,ch0,g1,_,g2,_⟩:=back b ch hb
   rw [g2] at hx
   exact hM.own b0 ch0 g1 x hx
 · obtain ⟨b0,ch0,g1,_,g2,_,g4⟩:=back b ch hb
   obtain ⟨b1,ch1,k1,_,k2,_,k4⟩:=back b' ch' hb'
   rw [g2] at hx
   rw [k2] at hx'
   refine hM.disj b0 b1 ch0 ch1 x g1 k1 (fun e=>?_) hx hx'
   subst e
   rcases g4 with ⟨e1,e2⟩ | ⟨e1,e2,e3⟩ <;> rcases k4 with ⟨e4,e5⟩ | ⟨e4,e5,e6⟩
   · exact hne (e1.trans e4.symm)
   · exact e5 (e6.symm.trans e2)
   · exact e2 (e3.symm.trans e5)
   · exact hne (e3.symm.trans e6)
 · rw [upd_other _ _ (fun e'=>by subst e'; exact f4 he)]
   exact hM.keep e he
 · rw [look_renK]
   exact DenV.mono hE _ _ (fun _ _=>rfl) (DenV.ren _ _ (f1 s) (hS s))
end
/-- From a stop on: in another state. -/
theorem TrQ.go {P : Program} {tt : Tr} {N : Nat} {ids : List Nat} {K K' : KL} {B B' : BL} {Q : Ex → KL → BL → Prop} {c : Code} (hP : TblOK P tt) (hD : DrawOK P tt N ids) (stops : List Nat) (hc : codeOK P N c = true) (h : Le ids K B K' B') (ht : vc P tt N ids stops c K' B' Q) : TrQ P N ids c K B Q :=
 TrQ.le h (vc_sound hP hD stops c K' B' Q hc ht)
end Go.Proofs.YteoamepgonpdlaaGreat
/-
 Soundness of the conditions: regions that draw their order.
-/
set_option linter.unusedVariables false
set_option linter.unusedSimpArgs false
namespace Go.Proofs.YteoamepgonpdlaaGreat
open Go.RowKit
/-! ### folds of which some steps are left out -/
section fold
variable {T σ V : Type} (get : σ → Nat → V) (ap : T → σ → σ) (tch : T → Nat → Prop)
def mfold (m : Nat → Bool) : Nat → List T → σ → σ
 | _,[],x=>x
 | i,t :: l,x=>mfold m (i + 1) l (if m i then ap t x else x)
variable (h1 : ∀ t x s,¬ tch t s → get (ap t x) s = get x s) (h2 : ∀ t x y s,get x s = get y s → get (ap t x) s = get (ap t y) s)
include h1 h2 in
theorem mfold_agree (m m' : Nat → Bool) (s : Nat) : ∀ (l : List T) (i : Nat) (x y : σ),(∀ j t,l[j]? = some t → tch t s → m (i + j) = m' (i + j)) → get x s = get y s → get (mfold ap m i l x) s = get (mfold ap m' i l y) s
 | [],i,x,y,_,he=>he
 | t :: l,i,x,y,h,he=>by
   unfold mfold
   refine mfold_agree m m' s l (i + 1) _ _ (fun j u hj hu=>by rw [show i + 1 + j = i + (j + 1) by omega]; exact h (j + 1) u (by simpa using hj) hu) ?_
   by_cases ht : tch t s
   · have:=h 0 t rfl ht
     rw [Nat.add_zero] at this
     rw [this]
     split
     · exact h2 t x y s he
     · exact he
   · have e1 : get (if m i then ap t x else x) s = get x s:=by split; exact h1 t x s ht; rfl
     have e2 : get (if m' i then ap t y else y) s = get y s:=by split; exact h1 t y s ht; rfl
     rw [e1,e2,he]
include h1 h2 in
/-- One step more: as if it came last,if none that comes behind it touches what it touches. -/
theorem mfold_more (m : Nat → Bool) (k : Nat) (s : Nat) : ∀ (l : List T) (i : Nat) (x : σ) (t : T),l[k]? = some t → m (i + k) = false → (∀ j u,k < j → l[j]? = some u → m (i + j) = true → tch t s → ¬ tch u s) →
   get (mfold ap (fun j=>m j || j == i + k) i l x) s = get (ap t (mfold ap m i l x)) s
 | [],i,x,t,hk,_,_=>by simp at hk
 | u :: l,i,x,t,hk,hm,hl=>by
   unfold mfold
   match k with
   | 0 =>
     simp only [List.getElem?_cons_zero,Option.some.injEq] at hk
     subst hk
     rw [Nat.add_zero] at hm
     simp only [Nat.add_zero,hm,BEq.rfl,Bool.or_true,if_true,Bool.false_eq_true,if_false]
     by_cases ht : tch u s
     · -- none behind touches it
       have e1 : ∀ y,get (mfold ap (fun j=>m j || j == i) (i + 1) l y) s = get (mfold ap (fun _=>false) (i + 1) l y) s:=fun y =>
         mfold_agree get ap tch h1 h2 _ _ s l (i + 1) y y (fun j v hj hv=>by
           have hne : (i + 1 + j == i) = false:=by rw [beq_eq_false_iff_ne]; omega
           rw [hne,Bool.or_false]
           cases hmj : m (i + 1 + j) with
           | false=>rfl
           | true=>exact absurd hv (hl (j + 1) v (by omega) (by simpa using hj) (by rw [show i + (j + 1) = i + 1 + j by omega]; exact hmj) ht)) rfl
       have e2 : ∀ y,get (mfold ap m (i + 1) l y) s = get (mfold ap (fun _=>false) (i + 1) l y) s:=fun y =>
         mfold_agree get ap tch h1 h2 _ _ s l (i + 1) y y (fun j v hj hv=>by
           cases hmj : m (i + 1 + j) with
           | false=>rfl
           | true=>exact absurd hv (hl (j + 1) v (by omega) (by simpa using hj) (by rw [show i + (j + 1) = i + 1 + j by omega]; exact hmj) ht)) rfl
       have e3 : ∀ (l : List T) (i : Nat) (y : σ),mfold ap (fun _=>false) i l y = y:=fun l=>by
         induction l with
         | nil=>exact fun _ _=>rfl
         | cons v l ih=>intro i y; unfold mfold; simp [ih]
       rw [e1,e3]
       exact h2 u x _ s (by rw [e2,e3])
     · rw [h1 u _ s ht]
       exact mfold_agree get ap tch h1 h2 _ _ s l (i + 1) _ _ (fun j v hj hv=>by
         have hne : (i + 1 + j == i) = false:=by rw [beq_eq_false_iff_ne]; omega
         rw [hne,Bool.or_false]) (h1 u x s ht)
   | k + 1 =>
     have hne : (i == i + (k + 1)) = false:=by rw [beq_eq_false_iff_ne]; omega
     simp only [hne,Bool.or_false]
     have:=mfold_more m k s l (i + 1) (if m i = true then ap u x else x) t (by simpa using hk) (by rw [show i + 1 + k = i + (k + 1) by omega]; exact hm) (fun j v hj hv hmv ht=>hl (j + 1) v (by omega) (by simpa using hv) (by rw [show i + (j + 1) = i + 1 + j by omega]; exact hmv) ht)
     rw [← this]
     have e : (fun j=>m j || j == i + 1 + k) = (fun j=>m j || j == i + (k + 1)):=by
       funext j
       rw [show i + 1 + k = i + (k + 1) by omega]
     rw [e]
end fold
section
variable {P : Program} {tt : Tr} {N : Nat} {ids : List Nat}
abbrev Stp:=Oper × Ent
def apK (t : Stp) (K : KL) : KL:=putK t.1.dst t.2.v K
def apB (t : Stp) (B : BL) : BL:=applyB t.2.e.wc B
def tchK (t : Stp) (s : Nat) : Prop:=t.1.dst = some s
def tchB (t : Stp) (s : Nat) : Prop:=s ∈ wIds t.2.e
theorem apK_1 (t : Stp) (K : KL) (s : Nat) (h : ¬ tchK t s) : look (apK t K) s = look K s:=by
 unfold apK putK
 unfold tchK at h
 split
 · rename_i d e
   rw [look_cons,if_neg (fun x=>h (by rw [e,x]))]
 · rfl
theorem apK_2 (t : Stp) (K K' : KL) (s : Nat) (h : look K s = look K' s) : look (apK t K) s = look (apK t K') s:=by
 unfold apK putK
 split
 · rw [look_cons,look_cons,h]
 · exact h
theorem applyB_2 : ∀ (l : List (Nat × Option Ch)) (B B' : BL) (s : Nat),lookB B s = lookB B' s → lookB (applyB l B) s = lookB (applyB l B') s
 | [],B,B',s,h=>h
 | (c,none) :: l,B,B',s,h=>applyB_2 l _ _ s (by rw [lookB_dropB,lookB_dropB,h])
 | (c,some ch) :: l,B,B',s,h=>applyB_2 l _ _ s (by rw [lookB_cons,lookB_cons,h])
theorem applyB_1 : ∀ (l : List (Nat × Option Ch)) (B : BL) (s : Nat),s ∉ l.map (·.1) → lookB (applyB l B) s = lookB B s
 | [],B,s,h=>rfl
 | (c,none) :: l,B,s,h=>by
   simp only [List.map_cons,List.mem_cons,not_or] at h
   unfold applyB
   rw [applyB_1 l _ s h.2,lookB_dropB,if_neg (Ne.symm h.1)]
 | (c,some ch) :: l,B,s,h=>by
   simp only [List.map_cons,List.mem_cons,not_or] at h
   unfold applyB
   rw [applyB_1 l _ s h.2,lookB_cons,if_neg (Ne.symm h.1)]
/-- Only what is looked up counts. -/
theorem Sat.congr {C : Ctx} {K K' : KL} {B B' : BL} {a : Act} {w : World} (hK : ∀ s,look K' s = look K s) (hB : ∀ c,lookB B' c = lookB B c) (h : Sat N ids C K B a w) : Sat N ids C K' B' a w:=by
 obtain ⟨h1,h2,ρ,F,hM,hS⟩:=h
 have hI : Imm C B' F w = Imm C B F w:=by
   funext b
   simp only [Imm,hB]
 refine ⟨h1,h2,ρ,F,⟨hM.fr,fun c ch hc=>?_,fun c ch hc=>hM.own c ch (by rw [← hB]; exact hc),fun c c' ch ch' b hc hc'=>hM.disj c c' ch ch' b (by rw [← hB]; exact hc) (by rw [← hB]; exact hc'),hM.keep,hM.marks⟩,fun s=>?_⟩
 · rw [hI]; exact hM.holds c ch (by rw [← hB]; exact hc)
 · rw [hI,hK]; exact hS s
/-! ### the text's order,told step by step -/
def OpF (P : Program) (N : Nat) (ids : List Nat) (all : List Oper) (t : Stp) (K : KL) (B : BL) : Prop :=
 (wants all K t.1.guard = some false ∧ t.2.v = .undef ∧ t.2.e = e0) ∨ (wants all K t.1.guard = some true ∧ OpOK P N ids t.1 K B t.2.v t.2.e ∧ ∀ c,c ∈ t.2.e.nw → freshB ids K B c = true)
theorem OpOK.lit {o : Oper} {K : KL} {B : BL} {b : Bool} {e : Eff} (h : OpOK P N ids o K B (.c (.one (.d (.bool b)))) e) : OpOK P N ids o K B (.c (.one (.d (.lit b)))) e:=by
 intro K' B' g1 g2 g3 C a w hs hlt Kn Q hK
 refine h K' B' g1 g2 g3 C a w hs hlt Kn Q fun a' w' hs'=>hK a' w' ?_
 cases hd : o.dst with
 | none=>rw [hd] at hs'; exact hs'
 | some d=>rw [hd] at hs'; exact hs'.lit
theorem OpOK.any {o : Oper} {K : KL} {B : BL} {v v' : SV} {e : Eff} (hd : o.dst = none) (h : OpOK P N ids o K B v e) : OpOK P N ids o K B v' e:=by
 intro K' B' g1 g2 g3 C a w hs hlt Kn Q hK
 refine h K' B' g1 g2 g3 C a w hs hlt Kn Q fun a' w' hs'=>hK a' w' ?_
 rw [hd] at hs' ⊢
 exact hs'
def allF (P : Program) (N : Nat) (ids : List Nat) (all : List Oper) : List Stp → KL → BL → Prop
 | [],_,_=>True
 | t :: l,K,B=>OpF P N ids all t K B ∧ allF P N ids all l (apK t K) (apB t B)
def runK : List Stp → KL → KL
 | [],K=>K
 | t :: l,K=>runK l (apK t K)
def runB : List Stp → BL → BL
 | [],B=>B
 | t :: l,B=>runB l (apB t B)
theorem vcs_steps (hP : TblOK P tt) (all : List Oper) : ∀ (l : List Oper) (i : Nat) (K : KL) (B : BL) (log : List Ent) (k : KL → BL → List Ent → Prop),vcs P tt ids all i l K B log k →
   ∃ ts : List Stp,ts.map (·.1) = l ∧ allF P N ids all ts K B ∧ k (runK ts K) (runB ts B) ((ts.map (·.2)).reverse ++ log)
 | [],i,K,B,log,k,h=>⟨[],rfl,trivial,h⟩
 | o :: l,i,K,B,log,k,h=>by
   have fin : ∀ (n : Ent),OpF P N ids all (o,n) K B → vcs P tt ids all (i + 1) l (apK (o,n) K) (apB (o,n) B) (n :: log) k → ∃ ts : List Stp,ts.map (·.1) = o :: l ∧ allF P N ids all ts K B ∧ k (runK ts K) (runB ts B) ((ts.map (·.2)).reverse ++ log):=fun n hn hv=>by
     obtain ⟨ts,h1,h2,h3⟩:=vcs_steps hP all l (i + 1) _ _ _ k hv
     exact ⟨(o,n) :: ts,by simp [h1],⟨hn,h2⟩,by simpa [runK,runB] using h3⟩
   rw [vcs_cons] at h
   unfold vcsS at h
   split at h
   · exact h.elim
   · rename_i hw
     split at h
     · rename_i d e
       exact fin ⟨i,.undef,e0⟩ (.inl ⟨hw,rfl,rfl⟩) (by simpa [apK,apB,putK,e,applyB] using h)
     · rename_i e
       exact fin ⟨i,.undef,e0⟩ (.inl ⟨hw,rfl,rfl⟩) (by simpa [apK,apB,putK,e,applyB] using h)
   · rename_i hw
     obtain ⟨v,e,h,hO,hf⟩:=vcOp_sound (N:=N) hP h
     split at h
     · rename_i e2
       exact fin ⟨i,.undef,e⟩ (.inr ⟨hw,OpOK.any e2 hO,hf⟩) (by simpa [apK,apB,putK,e2] using h)
     · rename_i d e2
       split at h
       · rename_i b hg
         cases b with
         | true=>exact fin ⟨i,.c (.one (.d (.lit true))),e⟩ (.inr ⟨hw,hO.lit,hf⟩) (by simpa [apK,apB,putK,e2] using h.1 rfl)
         | false=>exact fin ⟨i,.c (.one (.d (.lit false))),e⟩ (.inr ⟨hw,hO.lit,hf⟩) (by simpa [apK,apB,putK,e2] using h.2 rfl)
       · exact fin ⟨i,_,e⟩ (.inr ⟨hw,hO,hf⟩) (by simpa [apK,apB,putK,e2] using h)
theorem allF_get {all : List Oper} : ∀ (ts : List Stp) (i : Nat) (K : KL) (B : BL),allF P N ids all ts K B → ∀ (p : Nat) (t : Stp),ts[p]? = some t → OpF P N ids all t (mfold apK (fun j=>decide (j < i + p)) i ts K) (mfold apB (fun j=>decide (j < i + p)) i ts B)
 | [],i,K,B,_,p,t,hp=>by simp at hp
 | u :: ts,i,K,B,h,0,t,hp=>by
   simp only [List.getElem?_cons_zero,Option.some.injEq] at hp
   subst hp
   have e3 : ∀ {σ : Type} (ap : Stp → σ → σ) (l : List Stp) (q : Nat) (y : σ),i ≤ q → mfold ap (fun j=>decide (j < i + 0)) q l y = y:=fun {σ} ap l=>by
     induction l with
     | nil=>exact fun _ _ _=>rfl
     | cons v l ih =>
       intro q y hq
       unfold mfold
       rw [ih (q + 1) _ (by omega)]
       simp only [decide_eq_true_eq]
       rw [if_neg (by omega)]
   rw [e3 apK _ i K (Nat.le_refl _),e3 apB _ i B (Nat.le_refl _)]
   exact h.1
 | u :: ts,i,K,B,h,p + 1,t,hp=>by
   have:=allF_get ts (i + 1) _ _ h.2 p t (by simpa using hp)
   unfold mfold
   simp only [decide_eq_true_eq]
   rw [if_pos (by omega),if_pos (by omega)]
   rw [show i + (p + 1) = i + 1 + p by omega]
   exact this
theorem runK_fold : ∀ (ts : List Stp) (i : Nat) (m : Nat → Bool) (K : KL),(∀ j,j < ts.length → m (i + j) = true) → runK ts K = mfold apK m i ts K
 | [],_,_,_,_=>rfl
 | t :: ts,i,m,K,h=>by
   unfold runK mfold
   rw [if_pos (by simpa using h 0 (by simp))]
   exact runK_fold ts (i + 1) m _ fun j hj=>by rw [show i + 1 + j = i + (j + 1) by omega]; exact h (j + 1) (by simpa using hj)
theorem runB_fold : ∀ (ts : List Stp) (i : Nat) (m : Nat → Bool) (B : BL),(∀ j,j < ts.length → m (i + j) = true) → runB ts B = mfold apB m i ts B
 | [],_,_,_,_=>rfl
 | t :: ts,i,m,B,h=>by
   unfold runB mfold
   rw [if_pos (by simpa using h 0 (by simp))]
   exact runB_fold ts (i + 1) m _ fun j hj=>by rw [show i + 1 + j = i + (j + 1) by omega]; exact h (j + 1) (by simpa using hj)
theorem noK_fold {c : Nat} : ∀ (ts : List Stp) (i : Nat) (m : Nat → Bool) (K : KL),noK c K = true → (∀ (j : Nat) (t : Stp),ts[j]? = some t → m (i + j) = true → named t.2 c = false) → noK c (mfold apK m i ts K) = true
 | [],_,_,_,h,_=>h
 | t :: ts,i,m,K,h,hm=>by
   unfold mfold
   refine noK_fold ts (i + 1) m _ ?_ fun j u hj hu=>hm (j + 1) u (by simpa using hj) (by rw [show i + (j + 1) = i + 1 + j by omega]; exact hu)
   split
   · rename_i hi
     have:=hm 0 t rfl (by simpa using hi)
     simp only [named,Bool.or_eq_false_iff] at this
     unfold apK putK
     split
     · simp [noK,this.1,h]
     · exact h
   · exact h
theorem noB_drop {c : Nat} : ∀ (B : BL) (d : Nat),noB c B = true → noB c (dropB B d) = true
 | [],d,h=>h
 | (t,v) :: B,d,h=>by
   simp only [noB,Bool.and_eq_true] at h
   unfold dropB
   split
   · exact noB_drop B d h.2
   · simp [noB,h.1,noB_drop B d h.2]
theorem noB_apply {c : Nat} : ∀ (l : List (Nat × Option Ch)) (B : BL),chHas c l = false → noB c B = true → noB c (applyB l B) = true
 | [],B,_,h=>h
 | (d,none) :: l,B,hl,h=>by
   simp only [chHas,Bool.or_eq_false_iff] at hl
   exact noB_apply l _ hl.2 (noB_drop B d h)
 | (d,some ch) :: l,B,hl,h=>by
   simp only [chHas,Bool.or_eq_false_iff] at hl
   exact noB_apply l _ hl.2 (by simp [noB,hl.1.1,hl.1.2,h])
theorem noB_fold {c : Nat} : ∀ (ts : List Stp) (i : Nat) (m : Nat → Bool) (B : BL),noB c B = true → (∀ (j : Nat) (t : Stp),ts[j]? = some t → m (i + j) = true → named t.2 c = false) → noB c (mfold apB m i ts B) = true
 | [],_,_,_,h,_=>h
 | t :: ts,i,m,B,h,hm=>by
   unfold mfold
   refine noB_fold ts (i + 1) m _ ?_ fun j u hj hu=>hm (j + 1) u (by simpa using hj) (by rw [show i + (j + 1) = i + 1 + j by omega]; exact hu)
   split
   · rename_i hi
     have:=hm 0 t rfl (by simpa using hi)
     simp only [named,Bool.or_eq_false_iff] at this
     exact noB_apply _ _ this.2 h
   · exact h
/-! ### who comes ahead of whom -/
def Closed (all : List Oper) (m : Nat → Bool) : Prop:=∀ (j : Nat) (o : Oper),all[j]? = some o → m j = true → ∀ d ∈ depsOf o,m d = true
theorem ancs_sound (all : List Oper) : ∀ (l pre : List Oper) (acc : List (List Nat)),all = pre ++ l → acc.length = pre.length → (∀ j a,a ∈ acc.getD j [] → ∀ m,Closed all m → m j = true → m a = true) → ∀ j a,a ∈ (ancs l acc).getD j [] → ∀ m,Closed all m → m j = true → m a = true
 | [],pre,acc,_,_,h=>h
 | o :: l,pre,acc,he,hl,h=>by
   unfold ancs
   refine ancs_sound all l (pre ++ [o]) _ (by simp [he]) (by simp [hl]) ?_
   intro j a ha m hm hj
   rw [List.getD_eq_getElem?_getD] at ha
   rcases Nat.lt_trichotomy j acc.length with hlt | heq | hgt
   · rw [List.getElem?_append_left hlt,← List.getD_eq_getElem?_getD] at ha
     exact h j a ha m hm hj
   · subst heq
     rw [List.getElem?_append_right (Nat.le_refl _)] at ha
     simp only [Nat.sub_self,List.getElem?_cons_zero,Option.getD_some,List.mem_append,List.mem_flatMap] at ha
     have ho : all[acc.length]? = some o:=by rw [he,hl]; simp
     rcases ha with ha | ⟨d,hd,ha⟩
     · exact hm _ o ho hj a ha
     · exact h d a ha m hm (hm _ o ho hj d hd)
   · rw [List.getElem?_eq_none (by simp; omega)] at ha
     simp at ha
theorem pairs_get {all : List Oper} {an : List (List Nat)} : ∀ (L : List (Oper × Ent × Nat)),pairsOK all an L = true → ∀ (i j : Nat) (x y : Oper × Ent × Nat),i < j → L[i]? = some x → L[j]? = some y → ((an.getD y.2.2 []).contains x.2.2 && !y.2.1.e.nw.any (named x.2.1) || apart all x.1 y.1 x.2.1 y.2.1) = true
 | [],_,i,j,x,y,_,hx,_=>by simp at hx
 | z :: L,h,0,j + 1,x,y,_,hx,hy=>by
   simp only [List.getElem?_cons_zero,Option.some.injEq] at hx
   subst hx
   obtain ⟨o,n,i⟩:=z
   simp only [pairsOK,Bool.and_eq_true] at h
   have:=List.all_eq_true.1 h.1 y (List.mem_of_getElem? (by simpa using hy))
   obtain ⟨p,m,j'⟩:=y
   exact this
 | z :: L,h,i + 1,j + 1,x,y,hlt,hx,hy=>by
   obtain ⟨o,n,k⟩:=z
   simp only [pairsOK,Bool.and_eq_true] at h
   exact pairs_get L h.2 i j x y (by omega) (by simpa using hx) (by simpa using hy)
 | z :: L,h,i,0,x,y,hlt,hx,hy=>by omega
theorem meets_no {a b : List Nat} (h : meets a b = false) {x : Nat} (h1 : x ∈ a) (h2 : x ∈ b) : False:=by
 unfold meets at h
 rw [List.any_eq_false] at h
 have:=h x h1
 simp at this
 exact this h2
theorem any_no {a : List Nat} {f : Nat → Bool} (h : a.any f = false) {x : Nat} (h1 : x ∈ a) : f x = false:=by
 rw [List.any_eq_false] at h
 simpa using h x h1
/-- What has been listed,and what may come: the facts for one operation that may come now. -/
theorem draw_step {all : List Oper} {K0 : KL} {B0 : BL} {ts : List Stp} (hts : ts.map (·.1) = all) (hall : allF P N ids all ts K0 B0) (hin : indep K0 B0 all ((ts.map (·.2)).reverse ++ []) = true) {m : Nat → Bool} (hm : Closed all m) {i : Nat} {t : Stp} (hi : ts[i]? = some t) (hmi : m i = false) (hrdy : ∀ d ∈ depsOf t.1,m d = true) :
   OpF P N ids all t (mfold apK m 0 ts K0) (mfold apB m 0 ts B0) ∧ (∀ s,look (mfold apK (fun j=>m j || j == i) 0 ts K0) s = look (apK t (mfold apK m 0 ts K0)) s) ∧ (∀ s,lookB (mfold apB (fun j=>m j || j == i) 0 ts B0) s = lookB (apB t (mfold apB m 0 ts B0)) s) ∧
   (∀ d ∈ depsOf t.1,d < i):=by
 simp only [indep,List.append_nil,List.reverse_reverse,Bool.and_eq_true] at hin
 obtain ⟨⟨hin1,hin2⟩,hin3⟩:=hin
 have hao : ∀ (j : Nat) (u : Stp),ts[j]? = some u → all[j]? = some u.1:=fun j u hj=>by rw [← hts,List.getElem?_map,hj]; rfl
 have hL : ∀ (j : Nat) (u : Stp),ts[j]? = some u → (((all.zip (ts.map (·.2))).zipIdx).map fun ((o,n),i)=>(o,n,i))[j]? = some (u.1,u.2,j):=fun j u hj=>by
   have hz : (all.zip (ts.map (·.2)))[j]? = some (u.1,u.2):=by
     rw [List.getElem?_zip_eq_some]
     exact ⟨hao j u hj,by rw [List.getElem?_map,hj]; rfl⟩
   rw [List.getElem?_map,List.getElem?_zipIdx,hz]
   simp
 have hdeps : ∀ d ∈ depsOf t.1,d < i:=fun d hd=>by
   have hmem : (t.1,i) ∈ all.zipIdx:=by
     rw [List.mem_iff_getElem?]
     exact ⟨i,by rw [List.getElem?_zipIdx,hao i t hi]; simp⟩
   have:=List.all_eq_true.1 hin1 _ hmem
   have:=List.all_eq_true.1 this d hd
   simpa [Nat.blt_eq] using this
 have hanc:=ancs_sound all all [] [] (by simp) rfl (fun j a ha=>by simp at ha)
 have hmi' : Closed all (fun j=>m j || j == i):=fun j o ho hj d hd=>by
   simp only [Bool.or_eq_true,beq_iff_eq] at hj ⊢
   rcases hj with hj | rfl
   · exact .inl (hm j o ho hj d hd)
   · rw [hao j t hi] at ho
     injection ho with ho
     subst ho
     exact .inl (hrdy d hd)
 -- earlier ones that are bound are listed; later ones that are bound are not
 have early : ∀ (j : Nat) (u : Stp),ts[j]? = some u → j < i → (apart all u.1 t.1 u.2 t.2 = true ∨ m j = true) ∧ t.2.e.nw.any (named u.2) = false:=fun j u hj hlt=>by
   have:=pairs_get _ hin3 j i _ _ hlt (hL j u hj) (hL i t hi)
   simp only [Bool.or_eq_true,Bool.and_eq_true,Bool.not_eq_true',List.contains_iff_mem] at this
   rcases this with ⟨h1,h2⟩ | h
   · refine ⟨.inr ?_,h2⟩
     have:=hanc i j h1 _ hmi' (by simp)
     simp only [Bool.or_eq_true,beq_iff_eq] at this
     rcases this with h | h
     · exact h
     · omega
   · refine ⟨.inl h,?_⟩
     simp only [apart,Bool.and_eq_true,Bool.not_eq_true'] at h
     exact h.2
 have late : ∀ (j : Nat) (u : Stp),ts[j]? = some u → i < j → apart all t.1 u.1 t.2 u.2 = true ∨ m j = false:=fun j u hj hlt=>by
   have:=pairs_get _ hin3 i j _ _ hlt (hL i t hi) (hL j u hj)
   simp only [Bool.or_eq_true,Bool.and_eq_true,List.contains_iff_mem] at this
   rcases this with ⟨h1,_⟩ | h
   · right
     cases hmj : m j with
     | false=>rfl
     | true=>have:=hanc j i h1 m hm hmj; rw [hmi] at this; cases this
   · exact .inl h
 have sameK : ∀ s,s ∈ rdsOf all t.1 → look (mfold apK m 0 ts K0) s = look (mfold apK (fun j=>decide (j < 0 + i)) 0 ts K0) s:=fun s hs =>
   mfold_agree look apK tchK apK_1 apK_2 _ _ s ts 0 K0 K0 (fun j u hj hu=>by
     rw [Nat.zero_add,Nat.zero_add]
     have hu' : s ∈ u.1.dst.toList:=by rw [show u.1.dst = some s from hu]; simp
     rcases Nat.lt_trichotomy j i with h | h | h
     · simp only [h,decide_true]
       refine ((early j u hj h).1).resolve_left fun ha=>?_
       simp only [apart,Bool.and_eq_true,Bool.not_eq_true'] at ha
       exact meets_no ha.1.1.1.1.1 hu' (List.mem_append_left _ hs)
     · subst h; simp [hmi]
     · rw [show decide (j < i) = false by simp; omega]
       refine (late j u hj h).resolve_left fun ha=>?_
       simp only [apart,Bool.and_eq_true,Bool.not_eq_true'] at ha
       exact meets_no ha.1.1.1.1.2 hu' hs) rfl
 have sameB : ∀ c,c ∈ t.2.e.rc → lookB (mfold apB m 0 ts B0) c = lookB (mfold apB (fun j=>decide (j < 0 + i)) 0 ts B0) c:=fun c hc =>
   mfold_agree lookB apB tchB (fun t x s h=>applyB_1 _ _ _ h) (fun t x y s h=>applyB_2 _ _ _ _ h) _ _ c ts 0 B0 B0 (fun j u hj hu=>by
     rw [Nat.zero_add,Nat.zero_add]
     rcases Nat.lt_trichotomy j i with h | h | h
     · simp only [h,decide_true]
       refine ((early j u hj h).1).resolve_left fun ha=>?_
       simp only [apart,Bool.and_eq_true,Bool.not_eq_true'] at ha
       exact meets_no ha.1.1.1.2 hu (List.mem_append_left _ hc)
     · subst h; simp [hmi]
     · rw [show decide (j < i) = false by simp; omega]
       refine (late j u hj h).resolve_left fun ha=>?_
       simp only [apart,Bool.and_eq_true,Bool.not_eq_true'] at ha
       exact meets_no ha.1.1.2 hu hc) rfl
 refine ⟨?_,fun s=>?_,fun s=>?_,hdeps⟩
 · have hop:=allF_get ts 0 K0 B0 hall i t hi
   have hw : wants all (mfold apK m 0 ts K0) t.1.guard = wants all (mfold apK (fun j=>decide (j < 0 + i)) 0 ts K0) t.1.guard:=by
     unfold wants
     cases hg : t.1.guard with
     | none=>rfl
     | some p =>
       obtain ⟨j,want⟩:=p
       simp only
       cases hs : gslot all j with
       | none=>rfl
       | some s =>
         simp only
         rw [sameK s (by unfold rdsOf; rw [hg]; simp [hs])]
   rcases hop with ⟨h1,h2,h3⟩ | ⟨h1,h2,h3⟩
   · exact .inl ⟨hw.trans h1,h2,h3⟩
   · refine .inr ⟨hw.trans h1,?_,fun c hc=>?_⟩
     · intro K' B' g1 g2 g3
       refine h2 K' B' (fun x hx=>(g1 x hx).trans ?_) (fun c hc=>(g2 c hc).trans (sameB c hc)) g3
       cases x with
       | tmp s=>exact sameK s (List.mem_append_left _ (List.mem_filterMap.2 ⟨.tmp s,by simpa using hx,rfl⟩))
       | _=>rfl
     · have hf:=h3 c hc
       simp only [freshB,Bool.and_eq_true] at hf ⊢
       have hn0:=List.all_eq_true.1 hin2 t.2 (List.mem_map.2 ⟨t,List.mem_of_getElem? hi,rfl⟩)
       have hn0:=List.all_eq_true.1 hn0 c hc
       simp only [Bool.and_eq_true] at hn0
       have hno : ∀ (j : Nat) (u : Stp),ts[j]? = some u → m (0 + j) = true → named u.2 c = false:=fun j u hj hmj=>by
         rw [Nat.zero_add] at hmj
         rcases Nat.lt_trichotomy j i with h | h | h
         · exact any_no (early j u hj h).2 hc
         · subst h; rw [hmi] at hmj; cases hmj
         · rcases late j u hj h with ha | ha
           · simp only [apart,Bool.and_eq_true,Bool.not_eq_true'] at ha
             exact any_no ha.1.2 hc
           · rw [hmj] at ha; cases ha
       exact ⟨⟨noK_fold ts 0 m K0 hn0.1 hno,noB_fold ts 0 m B0 hn0.2 hno⟩,hf.2⟩
 · have:=mfold_more look apK tchK apK_1 apK_2 m i s ts 0 K0 t hi (by simpa using hmi) (fun j u hlt hj hmj h1 h2=>by
     rw [Nat.zero_add] at hmj
     rcases late j u hj hlt with ha | ha
     · simp only [apart,Bool.and_eq_true,Bool.not_eq_true'] at ha
       exact meets_no (x:=s) ha.1.1.1.1.1 (by rw [show t.1.dst = some s from h1]; simp) (List.mem_append_right _ (by rw [show u.1.dst = some s from h2]; simp))
     · rw [hmj] at ha; cases ha)
   simpa using this
 · have:=mfold_more lookB apB tchB (fun t x s h=>applyB_1 _ _ _ h) (fun t x y s h=>applyB_2 _ _ _ _ h) m i s ts 0 B0 t hi (by simpa using hmi) (fun j u hlt hj hmj h1 h2=>by
     rw [Nat.zero_add] at hmj
     rcases late j u hj hlt with ha | ha
     · simp only [apart,Bool.and_eq_true,Bool.not_eq_true'] at ha
       exact meets_no ha.1.1.1.2 h1 (List.mem_append_right _ h2)
     · rw [hmj] at ha; cases ha)
   simpa using this
theorem drawOK (hP : TblOK P tt) : DrawOK P tt N ids:=by
 intro id ops K0 B0 k hd hmix h C a w hs rd Q hQ
 refine wpIn_region_any hmix ?_
 obtain ⟨ts,hts,hall,hin,hk⟩:=vcs_steps (N:=N) hP ops.toList ops.toList 0 K0 B0 [] _ h
 have hlen : ts.length = ops.size:=by
   have:=congrArg List.length hts
   simpa using this
 have hao : ∀ (j : Nat) (u : Stp),ts[j]? = some u → ops.toList[j]? = some u.1:=fun j u hj=>by rw [← hts,List.getElem?_map,hj]; rfl
 have hkey : ∀ (j : Nat) (u : Stp),ts[j]? = some u → (∀ d,u.1.dst = some d → d < N) ∧ ∀ c,u.1.op ≠ .defer c:=fun j u hj=>by
   have key : ∀ (l : List Oper),dstOK N l = true → ∀ o ∈ l,(∀ d,o.dst = some d → d < N) ∧ ∀ c,o.op ≠ .defer c:=fun l=>by
     induction l with
     | nil=>intro _ o ho; cases ho
     | cons x l ih =>
       intro hx o ho
       simp only [dstOK,Bool.and_eq_true] at hx
       rcases List.mem_cons.1 ho with rfl | ho
       · exact ⟨fun d hd=>by have hx:=hx.1.1; rw [hd] at hx; simpa [Nat.blt_eq] using hx,notDefer hx.1.2⟩
       · exact ih hx.2 o ho
   exact key _ hd u.1 (List.mem_of_getElem? (hao j u hj))
 have hlt : ∀ (j : Nat) (u : Stp),ts[j]? = some u → ∀ d,u.1.dst = some d → d < N:=fun j u hj=>(hkey j u hj).1
 have main : ∀ (fuel : Nat) (listed : Array Bool) (a : Act) (w : World),listed.size = ops.size → listed.toList.count false ≤ fuel → Closed ops.toList (fun j=>listed.getD j false) →
     Sat N ids C (mfold apK (fun j=>listed.getD j false) 0 ts K0) (mfold apB (fun j=>listed.getD j false) 0 ts B0) a w → wpAnyIn (wideR rd) 0 P .any ops Q fuel listed a w:=by
   intro fuel
   have done : ∀ (listed : Array Bool) (a : Act) (w : World),listed.size = ops.size → (∀ j,j < ops.size → listed.getD j false = true) → Sat N ids C (mfold apK (fun j=>listed.getD j false) 0 ts K0) (mfold apB (fun j=>listed.getD j false) 0 ts B0) a w → Q .normal a w:=fun listed a w hsz hfull hs'=>by
     rw [← runK_fold ts 0 _ K0 (fun j hj=>by simpa using hfull j (by omega)),← runB_fold ts 0 _ B0 (fun j hj=>by simpa using hfull j (by omega))] at hs'
     exact hQ _ _ hk a w hs'
   have noready : ∀ (listed : Array Bool),listed.size = ops.size → Closed ops.toList (fun j=>listed.getD j false) → Region.ready .any ops listed = [] → ∀ j,j < ops.size → listed.getD j false = true:=fun listed hsz hcl hr=>by
     intro j
     induction j using Nat.strongRecOn with
     | _ j ih =>
       intro hj
       obtain ⟨u,hu⟩ : ∃ u,ts[j]? = some u:=⟨_,List.getElem?_eq_getElem (by omega)⟩
       cases hlj : listed.getD j false with
       | true=>rfl
       | false =>
         exfalso
         have hmem : j ∈ Region.ready .any ops listed:=by
           unfold Region.ready
           rw [List.mem_filter]
           refine ⟨List.mem_range.2 hj,?_⟩
           have hjl : listed.getD j true = false:=by
             rw [Array.getD_eq_getD_getElem?] at hlj ⊢
             rw [Array.getElem?_eq_getElem (by omega)] at hlj ⊢
             simpa using hlj
           have ho : ops[j]? = some u.1:=by simpa using hao j u hu
           simp only [hjl,Bool.not_false,Bool.true_and,ho,Option.map_some,Option.getD_some]
           rw [Array.all_eq_true_iff_forall_mem]
           intro e he
           cases hb : Region.binds .any e with
           | false=>rfl
           | true =>
             simp only [Bool.not_true,Bool.false_or]
             have hdj : e.on ∈ depsOf u.1:=by
               unfold depsOf
               exact List.mem_map.2 ⟨e,List.mem_filter.2 ⟨by simpa using he,hb⟩,rfl⟩
             have hlt' : e.on < j:=by
               have hi1:=hin
               simp only [indep,List.append_nil,List.reverse_reverse,Bool.and_eq_true] at hi1
               have hmem : (u.1,j) ∈ ops.toList.zipIdx:=by
                 rw [List.mem_iff_getElem?]
                 exact ⟨j,by rw [List.getElem?_zipIdx,hao j u hu]; simp⟩
               have:=List.all_eq_true.1 hi1.1.1 _ hmem
               have:=List.all_eq_true.1 this _ hdj
               simpa [Nat.blt_eq] using this
             exact ih e.on hlt' (by omega)
         rw [hr] at hmem
         cases hmem
   induction fuel with
   | zero =>
     intro listed a w hsz hc hcl hs'
     have hfull : ∀ j,j < ops.size → listed.getD j false = true:=fun j hj=>by
       cases hlj : listed.getD j false with
       | true=>rfl
       | false =>
         exfalso
         have hmem : false ∈ listed.toList:=by
           rw [Array.getD_eq_getD_getElem?,Array.getElem?_eq_getElem (by omega)] at hlj
           simp only [Option.getD_some] at hlj
           rw [← hlj]
           simp
         have:=List.count_pos_iff.2 hmem
         omega
     refine ⟨?_,done listed a w hsz hfull hs'⟩
     unfold Region.ready
     rw [List.filter_eq_nil_iff]
     intro j hj
     have hj:=List.mem_range.1 hj
     have:=hfull j hj
     rw [Array.getD_eq_getD_getElem?,Array.getElem?_eq_getElem (by omega)] at this
     simp only [Option.getD_some] at this
     simp [Array.getElem?_eq_getElem (show j < listed.size by omega),this]
   | succ fuel ih =>
     intro listed a w hsz hc hcl hs'
     refine ⟨fun hr=>done listed a w hsz (noready listed hsz hcl hr) hs',fun i hi=>?_⟩
     obtain ⟨hun,o,ho,hdep⟩:=mem_ready.1 hi
     have hib : i < ops.size:=(Array.getElem?_eq_some_iff.1 ho).1
     obtain ⟨t,ht⟩ : ∃ t,ts[i]? = some t:=⟨_,List.getElem?_eq_getElem (by omega)⟩
     have hot : o = t.1:=by
       have:=hao i t ht
       rw [Array.getElem?_toList,ho] at this
       injection this
     subst hot
     have hli : listed.getD i false = false:=by
       rw [Array.getD_eq_getD_getElem?,Array.getElem?_eq_getElem (by omega)] at hun ⊢
       simpa using hun
     have hrdy : ∀ d ∈ depsOf t.1,listed.getD d false = true:=fun d hd=>by
       unfold depsOf at hd
       obtain ⟨e,he,rfl⟩:=List.mem_map.1 hd
       obtain ⟨he1,he2⟩:=List.mem_filter.1 he
       exact hdep e (by simpa using he1) he2
     obtain ⟨hop,hmK,hmB,_⟩:=draw_step (m:=fun j=>listed.getD j false) hts hall hin hcl ht hli hrdy
     have hset : (fun j=>(listed.setIfInBounds i true).getD j false) = (fun j=>(listed.getD j false || j == i)):=by
       funext j
       by_cases e : j = i
       · subst e
         simp [Array.getElem?_setIfInBounds,show j < listed.size by omega]
       · simp [Array.getElem?_setIfInBounds,Ne.symm e,e]
     have hcl' : Closed ops.toList (fun j=>(listed.setIfInBounds i true).getD j false):=by
       rw [hset]
       intro j o' ho' hj d hd
       simp only [Bool.or_eq_true,beq_iff_eq] at hj ⊢
       rcases hj with hj | rfl
       · exact .inl (hcl j o' ho' hj d hd)
       · rw [hao j t ht] at ho'
         injection ho' with ho'
         subst ho'
         exact .inl (hrdy d hd)
     have hcnt : (listed.setIfInBounds i true).toList.count false ≤ fuel:=by
       rw [Array.toList_setIfInBounds,List.count_set (by simp; omega)]
       have hget : listed.toList[i]'(by simp; omega) = false:=by
         rw [Array.getD_eq_getD_getElem?,Array.getElem?_eq_getElem (by omega)] at hli
         simpa using hli
       rw [hget]
       simp only [BEq.rfl,if_true,show (true == false) = false from rfl,Bool.false_eq_true,if_false]
       omega
     have next : ∀ a' w',Sat N ids C (apK t (mfold apK (fun j=>listed.getD j false) 0 ts K0)) (apB t (mfold apB (fun j=>listed.getD j false) 0 ts B0)) a' w' → wpAnyIn (wideR rd) 0 P .any ops Q fuel (listed.setIfInBounds i true) a' w':=fun a' w' hs2=>by
       refine ih _ a' w' (by simp [hsz]) hcnt hcl' ?_
       rw [hset]
       exact hs2.congr hmK hmB
     have hs'':=hs'
     obtain ⟨_,_,ρ,F,hM,hS⟩:=hs''
     unfold wpOpIn
     simp only [ho]
     rcases hop with ⟨hw,hv,he⟩ | ⟨hw,hO,hf⟩
     · have hww:=wants_sound hw hS
       simp only [Array.toArray_toList] at hww
       rw [if_neg (by rw [hww]; simp)]
       refine ⟨fun _ _=>trivial,next _ _ ?_⟩
       have:=hs'.undef t.1.dst (hlt i t ht)
       unfold apK apB
       rw [hv,he]
       exact this
     · have hww:=wants_sound hw hS
       simp only [Array.toArray_toList] at hww
       rw [if_pos hww]
       exact op_in (hkey i t ht).2 (hO _ _ (fun _ _=>rfl) (fun _ _=>rfl) hf C a w hs' (hlt i t ht) _ Q fun a' w' hs2=>next a' w' hs2)
 refine main ops.size _ a _ (by simp) (by simp [List.count_replicate]) (fun j o ho hj=>?_) ?_
 · simp only [Array.getD_eq_getD_getElem?,Array.getElem?_replicate] at hj
   split at hj <;> simp at hj
 · have hz : (fun j=>(Array.replicate ops.size false).getD j false) = fun _=>false:=by
     funext j
     rw [Array.getD_eq_getD_getElem?]
     simp only [Array.getElem?_replicate]
     split <;> rfl
   rw [hz]
   have e3 : ∀ {σ : Type} (ap : Stp → σ → σ) (l : List Stp) (q : Nat) (y : σ),mfold ap (fun _=>false) q l y = y:=fun {σ} ap l=>by
     induction l with
     | nil=>exact fun _ _=>rfl
     | cons v l ih=>intro q y; unfold mfold; simp [ih]
   rw [e3,e3]
   obtain ⟨h1,h2,ρ,F,hM,hS⟩:=hs
   obtain ⟨hM',hE⟩:=hM.below (w':={ w with drawn:=w.drawn + 1 }) (drew_below w)
   exact ⟨h1,h2,ρ,F,hM',hS.mono hE fun _ _ _=>rfl⟩
end
end Go.Proofs.YteoamepgonpdlaaGreat
/-
 A contract holds whatever numbers its blocks have.
-/
set_option linter.unusedVariables false
set_option linter.unusedSimpArgs false
namespace Go.Proofs.YteoamepgonpdlaaGreat
open Go.RowKit
def swp (a b c : Nat) : Nat:=match Nat.beq c a with
 | true=>b
 | false=>match Nat.beq c b with
   | true=>a
   | false=>c
theorem beq_ne {a b : Nat} (h : a ≠ b) : Nat.beq a b = false:=by rw [Bool.eq_false_iff]; exact fun e=>h (Nat.eq_of_beq_eq_true e)
theorem swp_swp (a b c : Nat) : swp a b (swp a b c) = c:=by
 unfold swp
 by_cases h1 : c = a
 · subst h1
   simp only [Nat.beq_refl]
   by_cases h2 : b = c
   · subst h2; simp
   · simp [beq_ne h2]
 · simp only [beq_ne h1]
   by_cases h2 : c = b
   · subst h2; simp
   · simp [beq_ne h2,beq_ne h1]
def rn : List (Nat × Nat) → Nat → Nat
 | [],c=>c
 | (a,b) :: l,c=>rn l (swp a b c)
def rnI : List (Nat × Nat) → Nat → Nat
 | [],c=>c
 | (a,b) :: l,c=>swp a b (rnI l c)
theorem rnI_rn : ∀ (l : List (Nat × Nat)) (c : Nat),rnI l (rn l c) = c
 | [],c=>rfl
 | (a,b) :: l,c=>by simp only [rn,rnI,rnI_rn l,swp_swp]
theorem rn_rnI : ∀ (l : List (Nat × Nat)) (c : Nat),rn l (rnI l c) = c
 | [],c=>rfl
 | (a,b) :: l,c=>by simp only [rn,rnI,swp_swp,rn_rnI l]
/-- Swaps that send each first to its second. -/
def mkRn : List (Nat × Nat) → List (Nat × Nat) → List (Nat × Nat)
 | [],acc=>acc
 | (a,b) :: l,acc=>mkRn l (acc ++ [(rn acc a,b)])
section
variable (f : Nat → Nat)
def capsRn : List Cap → List Cap
 | []=>[]
 | .p c o :: l=>.p (f c) o :: capsRn l
 | .d x :: l=>.d x :: capsRn l
def S1.rn : S1 → S1
 | .ptr c o=>.ptr (f c) o
 | .own c=>.own (f c)
 | .rp c s i o=>.rp (f c) s i o
 | .os c s o n=>.os (f c) s o n
 | .mp c=>.mp (f c)
 | .clo g l=>.clo g (capsRn f l)
 | .d x=>.d x
 | .el u x o=>.el u x o
 | .nils=>.nils
 | .raw v=>.raw v
 | .any=>.any
def rnL : List S1 → List S1
 | []=>[]
 | s :: l=>s.rn f :: rnL l
def SC.rn : SC → SC
 | .one s=>.one (s.rn f)
 | .agg l=>.agg (rnL f l)
 | .dat u x=>.dat u x
def rnCL : List SC → List SC
 | []=>[]
 | s :: l=>s.rn f :: rnCL l
def SV.rn : SV → SV
 | .c s=>.c (s.rn f)
 | .tup l=>.tup (rnCL f l)
 | .undef=>.undef
def rnVL : List SV → List SV
 | []=>[]
 | s :: l=>s.rn f :: rnVL l
def Ch.rn : Ch → Ch
 | .cells l=>.cells (rnL f l)
 | .row e u xs=>.row e u xs
 | .map ku vu es=>.map ku vu es
 | .val u x=>.val u x
 | .obj o=>.obj o
 | .dep d o=>.dep (f d) o
def rnB : BL → BL
 | []=>[]
 | (c,ch) :: B=>(f c,ch.rn f) :: rnB B
def rnN : List Nat → List Nat
 | []=>[]
 | c :: l=>f c :: rnN l
end
section
variable {f g : Nat → Nat} {ρ : Nat → Pl} {I : Nat → Prop} {w : World}
theorem DenCaps_rn : ∀ (l : List Cap) (vs : List Value),DenCaps ρ I w (capsRn f l) vs = DenCaps (fun c=>ρ (f c)) I w l vs
 | [],vs=>rfl
 | .p c o :: l,vs=>by simp only [capsRn,DenCaps,DenCap,DenCaps_rn l]
 | .d x :: l,vs=>by simp only [capsRn,DenCaps,DenCap,DenCaps_rn l]
theorem DenS_rn (s : S1) (v : Value) : DenS ρ I w (s.rn f) v = DenS (fun c=>ρ (f c)) I w s v:=by
 cases s with
 | clo g l=>simp only [S1.rn,DenS,DenCaps_rn]
 | _=>rfl
theorem DenL_rn : ∀ (l : List S1) (vs : List Value),DenL ρ I w (rnL f l) vs = DenL (fun c=>ρ (f c)) I w l vs
 | [],vs=>rfl
 | s :: l,vs=>by simp only [rnL,DenL,DenS_rn,DenL_rn l]
theorem DenC_rn (s : SC) (v : Value) : DenC ρ I w (s.rn f) v = DenC (fun c=>ρ (f c)) I w s v:=by
 cases s with
 | one s=>exact DenS_rn s v
 | agg l=>simp only [SC.rn,DenC,DenL_rn]
 | dat u x=>rfl
theorem DenCL_rn : ∀ (l : List SC) (vs : List Value),DenCL ρ I w (rnCL f l) vs = DenCL (fun c=>ρ (f c)) I w l vs
 | [],vs=>rfl
 | s :: l,vs=>by simp only [rnCL,DenCL,DenC_rn,DenCL_rn l]
theorem DenV_rn (s : SV) (v : Value) : DenV ρ I w (s.rn f) v = DenV (fun c=>ρ (f c)) I w s v:=by
 cases s with
 | c s=>exact DenC_rn s v
 | tup l=>simp only [SV.rn,DenV,DenCL_rn]
 | undef=>rfl
theorem Holds_rn {F : Nat → Prop} {p : Pl} (ch : Ch) : Holds ρ I F w p (ch.rn f) = Holds (fun c=>ρ (f c)) I F w p ch:=by
 cases ch with
 | cells l=>simp only [Ch.rn,Holds,DenL_rn]
 | row e u xs=>rfl
 | map ku vu es=>rfl
 | val u x=>rfl
 | obj o=>rfl
 | dep d o=>rfl
theorem lookB_rnB (hg : ∀ c,g (f c) = c) : ∀ (B : BL) (c : Nat),lookB (rnB f B) (f c) = (lookB B c).map (·.rn f)
 | [],c=>rfl
 | (d,ch) :: B,c=>by
   simp only [rnB]
   rw [lookB_cons,lookB_cons,lookB_rnB hg B c]
   by_cases h : d = c
   · subst h; rw [if_pos rfl,if_pos rfl]; rfl
   · rw [if_neg h,if_neg fun e=>h (by rw [← hg d,e,hg])]
theorem rnVL_map : ∀ (l : List SV),rnVL f l = l.map (·.rn f)
 | []=>rfl
 | s :: l=>by simp only [rnVL,List.map_cons,rnVL_map l]
theorem rnN_mem : ∀ (l : List Nat) (c : Nat),c ∈ l → f c ∈ rnN f l
 | [],c,h=>by cases h
 | d :: l,c,h=>by
   rcases List.mem_cons.1 h with rfl | h
   · exact List.mem_cons_self
   · exact List.mem_cons_of_mem _ (rnN_mem l c h)
end
theorem Fn.rn' {P : Program} {fn : FuncId} {f g : Nat → Nat} (hg : ∀ c,g (f c) = c) (hf : ∀ c,f (g c) = c) {args : List SV} {Bi : BL} {nw : List Nat} {res : SV} {Bo : BL} (h : Fn P fn args Bi nw res Bo) :
   Fn P fn (rnVL f args) (rnB f Bi) (rnN f nw) (res.rn f) (rnB f Bo):=by
 refine ⟨h.1,?_⟩
 intro ρ F I w vals hI hH hF hdj hlen hden
 have lk : ∀ (B : BL) c,lookB (rnB f B) (f c) = (lookB B c).map (·.rn f):=lookB_rnB hg
 have fwd : ∀ {B : BL} {c ch},lookB B c = some ch → lookB (rnB f B) (f c) = some (ch.rn f):=fun {B c ch} h=>by rw [lk,h]; rfl
 have bwd : ∀ {B : BL} {c ch},lookB (rnB f B) c = some ch → ∃ ch0,lookB B (g c) = some ch0 ∧ ch = ch0.rn f:=fun {B c ch} h=>by
   have e:=lk B (g c)
   rw [hf,h] at e
   obtain ⟨ch0,h1,h2⟩:=Option.map_eq_some_iff.1 e.symm
   exact ⟨ch0,h1,h2.symm⟩
 rw [rnVL_map] at hlen hden
 have hc:=h.2 (fun c=>ρ (f c)) (fun c=>F (f c)) I w vals hI
   (fun c ch hc=>by rw [← Holds_rn]; exact hH _ _ (fwd hc))
   (fun c ch hc=>hF _ _ (fwd hc))
   (fun c c' ch ch' b h1 h2 hne=>hdj _ _ _ _ b (fwd h1) (fwd h2) fun e=>hne (by rw [← hg c,e,hg]))
   (by simpa using hlen)
   (fun i v x hv hx=>by rw [← DenV_rn]; exact hden i _ x (by rw [List.getElem?_map,hv]; rfl) hx)
 refine hc.mono ?_
 rintro e w' ⟨x,ρ',F',rfl,hfr,hρ,I',he1,he2,hH',hO,hDj,hx⟩
 have hback : (fun c=>ρ' (g (f c))) = ρ':=funext fun c=>by rw [hg]
 refine ⟨x,fun c=>ρ' (g c),fun c=>F' (g c),rfl,?_,?_,I',he1,?_,?_,?_,?_,?_⟩
 · exact hfr.mono fun b _ ⟨c,ch,h1,h2⟩=>⟨f c,_,fwd h1,h2⟩
 · intro c hc
   show ρ' (g c) = ρ c
   rw [hρ (g c) (fun hm=>hc (by have:=rnN_mem (f:=f) _ _ hm; rwa [hf] at this)),hf]
 · intro b hb
   obtain ⟨h1,h2⟩:=he2 b hb
   refine ⟨h1,?_⟩
   rcases h2 with h2 | ⟨c,ch,h2,h3⟩ | h2
   · exact .inl h2
   · exact .inr (.inl ⟨f c,_,fwd h2,h3⟩)
   · exact .inr (.inr h2)
 · intro c ch hc
   obtain ⟨ch0,h1,rfl⟩:=bwd hc
   rw [Holds_rn,hback]
   exact hH' _ _ h1
 · intro c ch hc b hb
   obtain ⟨ch0,h1,rfl⟩:=bwd hc
   obtain ⟨q1,q2,q3⟩:=hO _ _ h1 b hb
   refine ⟨q1,q2,?_⟩
   rcases q3 with ⟨c0,ch0,q3,q4⟩ | q3
   · exact .inl ⟨f c0,_,fwd q3,q4⟩
   · exact .inr q3
 · intro c c' ch ch' b hc hc' hne
   obtain ⟨ch0,h1,rfl⟩:=bwd hc
   obtain ⟨ch1,h2,rfl⟩:=bwd hc'
   exact hDj _ _ _ _ b h1 h2 fun e=>hne (by rw [← hf c,e,hf])
 · rw [DenV_rn,hback]
   exact hx
theorem Fn.ren {P : Program} {fn : FuncId} (l : List (Nat × Nat)) {args : List SV} {Bi : BL} {nw : List Nat} {res : SV} {Bo : BL} (h : Fn P fn args Bi nw res Bo) :
   Fn P fn (rnVL (rn (mkRn l [])) args) (rnB (rn (mkRn l [])) Bi) (rnN (rn (mkRn l [])) nw) (res.rn (rn (mkRn l []))) (rnB (rn (mkRn l [])) Bo) :=
 Fn.rn' (rnI_rn _) (rn_rnI _) h
end Go.Proofs.YteoamepgonpdlaaGreat
/-!
  What the arguments' reading gives: values of the universe, no greater than the reading; for any type that is of the universe.
-/
namespace Go.Proofs.YteoamepgonpdlaaGreat
set_option linter.unusedVariables false
set_option linter.unusedSimpArgs false
open Go.RowKit Go.ChangeShapes Go.WideShapes Go.Deep
/-- How much a value has. -/
noncomputable def bulkU : (u : U) → El u → Nat
 | .int _,_=>1
 | .u8,_=>1
 | .bool,_=>1
 | .str,s=>1 + List.length s
 | .adr,_=>1
 | .hdl,_=>1
 | .fn,_=>1
 | .sl u,xs=>1 + (List.map (bulkU u) xs).sum
 | .pr u v,p=>bulkU u p.1 + bulkU v p.2
 | .arr _ u,xs=>(List.map (bulkU u) xs).sum
/-- All its numbers fit. -/
def RngU : (u : U) → El u → Prop
 | .int k,n=>(Lit.int k n).wf = true
 | .sl u,xs=>∀ x,lmem (α:=El u) x xs → RngU u x
 | .pr u v,p=>RngU u p.1 ∧ RngU v p.2
 | .arr _ u,xs=>∀ x,lmem (α:=El u) x xs → RngU u x
 | _,_=>True
/-- Is the type t of u? -/
def tyFs (P : Program) (ty : U → TypeId → Bool) : U → List Field → Nat → Bool
 | _,[],_=>false
 | u,[f],off=>Nat.beq f.offset off && ty u f.type && Nat.beq (P.cellsOf f.type) (sz u)
 | .pr u v,f :: g :: fs,off=>Nat.beq f.offset off && ty u f.type && Nat.beq (P.cellsOf f.type) (sz u) && tyFs P ty v (g :: fs) (off + sz u)
 | _,_ :: _ :: _,_=>false
def tyU (P : Program) : Nat → U → TypeId → Bool
 | 0,_,_=>false
 | n + 1,u,t=>match P.underlying t,u with
   | some (.int k),.int k'=>eqK k k'
   | some (.int k),.u8=>eqK k .u8
   | some .bool,.bool=>true
   | some .string,.str=>true
   | some (.slice e),.sl v=>tyU P n v e && Nat.beq (P.cellsOf e) (sz v) && Nat.blt 0 (sz v)
   | some (.array m e),.arr m' v=>Nat.beq m m' && tyU P n v e && Nat.beq (P.cellsOf e) (sz v)
   | some (.struct fs),u=>tyFs P (tyU P n) u fs.toList 0
   | _,_=>false
section
variable {H : Type} {enc : TypeId × Value → H} {w : World} {base : Nat} {spare : Nat → Bool} {held : Bool} {P : Program}
theorem bulk_pos (d : DataW H) : 1 ≤ Rows.uptoBulk d:=by
 unfold Rows.uptoBulk
 split <;> omega
theorem bulkAll_append (l r : List (DataW H)) : Rows.uptoBulkAll (l ++ r) = Rows.uptoBulkAll l + Rows.uptoBulkAll r:=by
 induction l with
 | nil=>simp [Rows.uptoBulkAll]
 | cons x l ih=>simp only [List.cons_append,Rows.uptoBulkAll,ih]; omega
/-- Cells that read as a value of u. -/
def RdU (w : World) (u : U) (cs : List Value) (b : Nat) : Prop:=∃ a : El u,DenU (fun b=>b < w.heap.size) w u a (fun j=>cs[j]?) ∧ bulkU u a ≤ b ∧ RngU u a
theorem denU_cells {I : Nat → Prop} {u : U} {a : El u} {c c' : Nat → Option Value} (h : DenU I w u a c) (hc : ∀ j v,c j = some v → c' j = some v) : DenU I w u a c':=DenU.mono (Ext.refl I w) u a c c' hc h
theorem take_drop_get {cs : List Value} {o k j : Nat} {v : Value} (h : ((cs.drop o).take k)[j]? = some v) : cs[o + j]? = some v:=by
 rw [List.getElem?_take] at h
 split at h
 · rwa [List.getElem?_drop] at h
 · cases h
theorem rdFs {ty : U → TypeId → Bool} {n : Nat} (ih : ∀ u t,ty u t = true → ∀ cs x,DataW.trod enc P w base spare held n t cs = some x → RdU w u cs (Rows.uptoBulk x.1)) :
   ∀ (fs : List Field) (u : U) (off : Nat) (xs : List (DataW H × List MemPlace)) (cs : List Value),tyFs P ty u fs off = true → xs.length = fs.length →
     (∀ (i : Nat) (f : Field),fs[i]? = some f → DataW.trod enc P w base spare held n f.type ((cs.drop f.offset).take (P.cellsOf f.type)) = xs[i]?) →
     ∃ a : El u,DenU (fun b=>b < w.heap.size) w u a (fun j=>cs[off + j]?) ∧ bulkU u a ≤ Rows.uptoBulkAll (xs.map (·.1)) ∧ RngU u a
 | [],u,off,xs,cs,h,_,_=>by simp [tyFs] at h
 | [f],u,off,xs,cs,h,hl,hf=>by
   simp only [tyFs,Bool.and_eq_true,Nat.beq_eq] at h
   obtain ⟨⟨h1,h2⟩,h3⟩:=h
   match xs,hl with
   | [x],_ =>
     obtain ⟨a,q1,q2,q3⟩:=ih _ _ h2 _ _ (hf 0 f rfl)
     subst h1
     exact ⟨a,denU_cells q1 fun j v hv=>take_drop_get hv,by simpa [Rows.uptoBulkAll] using q2,q3⟩
 | f :: g :: fs,.pr u v,off,xs,cs,h,hl,hf=>by
   simp only [tyFs,Bool.and_eq_true,Nat.beq_eq] at h
   obtain ⟨⟨⟨h1,h2⟩,h3⟩,h4⟩:=h
   match xs,hl with
   | x :: xs,hl =>
     obtain ⟨a,q1,q2,q3⟩:=ih _ _ h2 _ _ (hf 0 f rfl)
     obtain ⟨b,r1,r2,r3⟩:=rdFs ih (g :: fs) v (off + sz u) xs cs h4 (by simpa using hl) (fun i f hi=>hf (i + 1) f hi)
     subst h1
     refine ⟨(a,b),⟨denU_cells q1 fun j v hv=>take_drop_get hv,denU_cells r1 fun j v hv=>by simpa only [Nat.add_assoc] using hv⟩,?_,q3,r3⟩
     simp only [bulkU,List.map_cons,Rows.uptoBulkAll]
     omega
 | _ :: _ :: _,.int _,_,_,_,h,_,_=>by simp [tyFs] at h
 | _ :: _ :: _,.u8,_,_,_,h,_,_=>by simp [tyFs] at h
 | _ :: _ :: _,.bool,_,_,_,h,_,_=>by simp [tyFs] at h
 | _ :: _ :: _,.str,_,_,_,h,_,_=>by simp [tyFs] at h
 | _ :: _ :: _,.adr,_,_,_,h,_,_=>by simp [tyFs] at h
 | _ :: _ :: _,.sl _,_,_,_,h,_,_=>by simp [tyFs] at h
 | _ :: _ :: _,.arr _ _,_,_,_,h,_,_=>by simp [tyFs] at h
theorem lget_snoc {α : Type} {l : List α} {y x : α} {i : Nat} (h : lget (l ++ [y]) i = some x) : (i < l.length ∧ lget l i = some x) ∨ (i = l.length ∧ x = y):=by
 unfold lget at *
 rcases Nat.lt_trichotomy i l.length with h1 | h1 | h1
 · rw [List.getElem?_append_left h1] at h; exact .inl ⟨h1,h⟩
 · subst h1
   simp only [List.getElem?_concat_length,Option.some.injEq] at h
   exact .inr ⟨rfl,h.symm⟩
 · rw [List.getElem?_eq_none (by simp; omega)] at h
   cases h
theorem rdU : ∀ (n : Nat) (u : U) (t : TypeId),tyU P n u t = true → ∀ (m : Nat) (cs : List Value) (x : DataW H × List MemPlace),DataW.trod enc P w base spare held m t cs = some x → RdU w u cs (Rows.uptoBulk x.1)
 | 0,u,t,h,_,_,_,_=>by simp [tyU] at h
 | n + 1,u,t,h,m,cs,x,hx=>by
   unfold tyU at h
   split at h
   case h_1 k k' hu =>
     obtain rfl:=eqK_eq h
     obtain ⟨i,rfl,rfl,hw⟩:=DataW.trod_int hu hx
     exact ⟨i,rfl,bulk_pos _,hw⟩
   case h_2 k hu =>
     obtain rfl:=eqK_eq h
     obtain ⟨i,rfl,rfl,hw⟩:=DataW.trod_int hu hx
     have hk : 0 ≤ i ∧ i < 256:=by
       simp [Lit.wf,IntKind.min,IntKind.max,IntKind.bits,IntKind.signed] at hw
       omega
     refine ⟨(UInt8.ofNat i.toNat : UInt8),?_,bulk_pos _,trivial⟩
     show some (Value.int .u8 i) = some (Value.int .u8 _)
     congr 2
     rw [UInt8.toNat_ofNat']
     omega
   case h_3 hu =>
     obtain ⟨b,rfl,rfl⟩:=DataW.trod_bool hu hx
     exact ⟨b,rfl,bulk_pos _,trivial⟩
   case h_4 hu =>
     obtain ⟨s,rfl,rfl,hs⟩:=DataW.trod_string hu hx
     refine ⟨(s.data.toList : List UInt8),rfl,?_,trivial⟩
     simp only [bulkU,Rows.uptoBulk]
     omega
   case h_5 e v hu =>
     simp only [Bool.and_eq_true,Nat.beq_eq] at h
     obtain ⟨⟨h1,h2⟩,h3⟩:=h
     have h3 : 0 < sz v:=by simpa [Nat.blt_eq] using h3
     rcases open_slice hu hx with ⟨rfl,rfl⟩ | ⟨a,len,cap,m',n',D,Pl,rfl,hbl,hl,hm,hmm,rfl,hel⟩
     · refine ⟨([] : List (El v)),⟨none,0,rfl,Nat.le_refl _,Nat.zero_le _,fun h=>absurd h (Nat.lt_irrefl 0)⟩,by simp [bulkU,Rows.uptoBulk],fun x hx=>by cases hx⟩
     · rw [h2] at hel
       have hlm : len ≤ m':=by rw [hmm]; split <;> omega
       have key : ∀ k,k ≤ len → ∃ l : List (El v),l.length = k ∧ (l.map (bulkU v)).sum ≤ Rows.uptoBulkAll ((List.range k).map D) ∧ (∀ x,x ∈ l → RngU v x) ∧
           (∀ i x,lget l i = some x → DenU (fun b=>b < w.heap.size) w v x (fun j=>if j < sz v then w.cell? ((a.add (i * sz v)).add j) else none)):=by
         intro k
         induction k with
         | zero=>exact fun _=>⟨[],rfl,by simp,(fun x h=>by cases h),fun i x h=>by simp [lget] at h⟩
         | succ k ihk =>
           intro hk
           obtain ⟨l,l1,l2,l3,l4⟩:=ihk (by omega)
           obtain ⟨cs',hc,ht'⟩:=hel k (by omega)
           obtain ⟨y,y1,y2,y3⟩:=rdU n v e h1 _ _ _ ht'
           obtain ⟨-,hcl,hcc⟩:=World.cells?_some hc
           refine ⟨l ++ [y],by simp [l1],?_,?_,?_⟩
           · rw [List.range_succ,List.map_append,List.map_append,List.sum_append,bulkAll_append]
             have y2 : bulkU v y ≤ Rows.uptoBulk (D k):=y2
             simp only [Rows.uptoBulkAll,List.map_cons,List.map_nil,List.sum_cons,List.sum_nil]
             omega
           · intro x hx
             rcases List.mem_append.1 hx with hx | hx
             · exact l3 x hx
             · simp at hx; subst hx; exact y3
           · intro i x hi
             rcases lget_snoc hi with ⟨_,hi⟩ | ⟨rfl,rfl⟩
             · exact l4 i x hi
             · rw [l1]
               refine denU_cells y1 fun j v' hv=>?_
               have hj:=(List.getElem?_eq_some_iff.1 hv).1
               rw [if_pos (by omega),hcc j (by omega)]
               exact hv
       obtain ⟨l,l1,l2,l3,l4⟩:=key len (Nat.le_refl _)
       refine ⟨l,⟨some a,cap,by rw [show List.length (α:=El v) l = len from l1]; rfl,by rw [show List.length (α:=El v) l = len from l1]; exact hl,hm,fun h0=>?_⟩,?_,l3⟩
       · have h0 : 0 < len:=by rw [← l1]; exact h0
         obtain ⟨cs',hc,_⟩:=hel 0 (by omega)
         obtain ⟨-,hcl,hcc⟩:=World.cells?_some hc
         have hc0:=hcc 0 (by omega)
         rw [List.getElem?_eq_getElem (by omega)] at hc0
         obtain ⟨b,o,spot⟩:=a
         have hspot : spot = none:=by simpa [Addr.add] using World.cell?_spot hc0
         subst hspot
         have hbl:=World.block_lt_of_cell? w _ hc0
         refine ⟨b,o,rfl,by simpa [Addr.add] using hbl,fun i x hi=>denU_cells (l4 i x hi) fun j v' hv=>?_⟩
         split at hv
         · rwa [add_plain,add_plain,Nat.add_assoc] at hv
         · cases hv
       · simp only [bulkU,Rows.uptoBulk]
         exact (show 1 + (l.map (bulkU v)).sum ≤ _ by omega)
   case h_6 k e k' v hu =>
     simp only [Bool.and_eq_true,Nat.beq_eq] at h
     obtain ⟨⟨h0,h1⟩,h2⟩:=h
     subst h0
     obtain ⟨xs,m',rfl,rfl,hl,hxl,hf⟩:=DataW.trod_array hu hx
     rw [h2] at hf
     have key : ∀ q,q ≤ k → ∃ l : List (El v),l.length = q ∧ (l.map (bulkU v)).sum ≤ Rows.uptoBulkAll ((xs.take q).map (·.1)) ∧ (∀ x,x ∈ l → RngU v x) ∧
         (∀ i x,lget l i = some x → DenU (fun b=>b < w.heap.size) w v x (fun j=>cs[i * sz v + j]?)):=by
       intro q
       induction q with
       | zero=>exact fun _=>⟨[],rfl,by simp,(fun x h=>by cases h),fun i x h=>by simp [lget] at h⟩
       | succ q ihq =>
         intro hq
         obtain ⟨l,l1,l2,l3,l4⟩:=ihq (by omega)
         have hfq:=hf q (by omega)
         rw [List.getElem?_eq_getElem (by omega)] at hfq
         obtain ⟨y,y1,y2,y3⟩:=rdU n v e h1 _ _ _ hfq
         refine ⟨l ++ [y],by simp [l1],?_,?_,?_⟩
         · rw [List.take_add_one,List.getElem?_eq_getElem (by omega),List.map_append,List.map_append,List.sum_append,bulkAll_append]
           simp only [Rows.uptoBulkAll,List.map_cons,List.map_nil,List.sum_cons,List.sum_nil,Option.toList_some]
           omega
         · intro x hx
           rcases List.mem_append.1 hx with hx | hx
           · exact l3 x hx
           · simp at hx; subst hx; exact y3
         · intro i x hi
           rcases lget_snoc hi with ⟨_,hi⟩ | ⟨rfl,rfl⟩
           · exact l4 i x hi
           · rw [l1]
             exact denU_cells y1 fun j v' hv=>take_drop_get hv
     obtain ⟨l,l1,l2,l3,l4⟩:=key k (Nat.le_refl _)
     refine ⟨l,⟨l1,l4⟩,?_,l3⟩
     rw [List.take_of_length_le (by omega)] at l2
     simp only [bulkU,Rows.uptoBulk]
     exact (show (l.map (bulkU v)).sum ≤ _ by omega)
   case h_7 u' fs hu =>
     obtain ⟨xs,m',rfl,rfl,hl,hxl,hf⟩:=DataW.trod_struct hu hx
     obtain ⟨a,q1,q2,q3⟩:=rdFs (fun u t ht cs x h=>rdU n u t ht _ cs x h) fs.toList _ 0 xs cs h (by simpa using hxl) (fun i f hi=>hf i f (by simpa using hi))
     refine ⟨a,denU_cells q1 fun j v hv=>by rw [Nat.zero_add] at hv; exact hv,?_,q3⟩
     simp only [Rows.uptoBulk]
     omega
   case h_8=>cases h
end
end Go.Proofs.YteoamepgonpdlaaGreat
