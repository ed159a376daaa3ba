/-
Part 8 of the proof that stands in YteoamepgonpdlaaGreatPbRow, with what it needs from the parts ahead; the parts of this text: Rf, Rg, Ad, Ar, Mg, Tb, Cn.
-/
import Derived.Maps.RangeRun
import Derived.DeepKeys
import Derived.Laws.MakeOwn
import Derived.Laws.StructEq
import Derived.Test.YteoamepgonpdlaaGreatPb7
/-!
  Ranges over a function: whoever ranges has its blocks in one object while the iterator runs; a round is its body's walk.
-/
namespace Go.Proofs.YteoamepgonpdlaaGreat
set_option linter.unusedVariables false
set_option linter.unusedSimpArgs false
open Go.RowKit
/-- The record of a loop over a function. -/
@[reducible] def recOf (fn : FuncId) (tmps : Array Value) (ps : Array Nat) (assign body : Code) (D : Nat) (st : LoopState) : Loop:={ state:=st,pending:=none,fn:=fn,tmps:=tmps,params:=ps,assign:=assign,body:=body,defers:=D }
/-- The blocks of whoever ranges,and the loop's record l: those of kp lie where they lay; what was laid ahead is as it was. -/
def rngR (ρ0 : Nat → Pl) (kp : List Nat) (Ie : Nat → Prop) (we : World) (l : Nat) (rec : Loop) (c : Nat) (B : BL) (I F : Nat → Prop) (w : World) (p : Pl) : Prop :=
 Ext Ie we I w ∧ w.heap[l]? = some (.loop rec) ∧ ∃ (ρ : Nat → Pl) (G : Nat → Nat → Prop),ρ c = p ∧ (∀ d,d ∈ kp → ρ d = ρ0 d) ∧ (∀ d ch,lookB B d = some ch → Holds ρ I (G d) w (ρ d) ch) ∧
   (∀ d d' ch ch' b,lookB B d = some ch → lookB B d' = some ch' → d ≠ d' → G d b → ¬ G d' b) ∧ (∀ d ch,lookB B d = some ch → ¬ G d l) ∧ ∀ b,F b ↔ b = l ∨ ∃ d ch,lookB B d = some ch ∧ G d b
def Ob.rng (ρ0 : Nat → Pl) (kp : List Nat) (Ie : Nat → Prop) (we : World) (l : Nat) (rec : Loop) (c : Nat) (B : BL) : Ob where
 R:=rngR ρ0 kp Ie we l rec c B
 stable:=fun I F w I' w' p ⟨h0,hl,ρ,G,h1,h1',h2,h3,h3',h4⟩ he hF hz =>
   ⟨h0.trans he,(hF l ((h4 l).2 (.inl rfl))).trans hl,ρ,G,h1,h1',fun d ch hd=>Holds.stable he (fun b hb=>hF b ((h4 b).2 (.inr ⟨d,ch,hd,hb⟩))) hz ch (fun _ _=>rfl) (h2 d ch hd),h3,h3',h4⟩
def allAmong (l : List Nat) : List SV → Bool
 | []=>true
 | v :: vs=>v.among l && allAmong l vs
theorem allAmong_get {l : List Nat} : ∀ {vs : List SV},allAmong l vs = true → ∀ {i : Nat} {v : SV},vs[i]? = some v → v.among l = true
 | [],_,i,v,h=>by simp at h
 | x :: vs,h,i,v,hv=>by
   simp only [allAmong,Bool.and_eq_true] at h
   match i with
   | 0 =>
     simp only [List.getElem?_cons_zero,Option.some.injEq] at hv
     exact hv ▸ h.1
   | i + 1=>exact allAmong_get h.2 (i:=i) (by simpa using hv)
def amongK (l : List Nat) : KL → Bool
 | []=>true
 | (_,v) :: K=>v.among l && amongK l K
theorem amongK_get {l : List Nat} : ∀ {K : KL},amongK l K = true → ∀ s,(look K s).among l = true
 | [],_,s=>rfl
 | (t,v) :: K,h,s=>by
   simp only [amongK,Bool.and_eq_true] at h
   rw [look_cons]
   split
   · exact h.1
   · exact amongK_get h.2 s
section
variable {P : Program} {tt : Tr} {N : Nat} {ρ0 : Nat → Pl} {kp : List Nat} {Ie : Nat → Prop} {we : World} {l : Nat} {rec : Loop} {c : Nat}
theorem look1 {c : Nat} {ch : Ch} : lookB [(c,ch)] c = some ch:=by rw [lookB_cons,if_pos rfl]
theorem look1_of {c d : Nat} {ch ch' : Ch} (h : lookB [(c,ch)] d = some ch') : d = c ∧ ch' = ch:=by
 rw [lookB_cons] at h
 split at h
 · rename_i e; injection h with h; exact ⟨e.symm,h.symm⟩
 · cases h
/-- A call on the blocks is a call on the object. -/
theorem rng_lift {f : FuncId} {args : List SV} {res : SV} {Bx By : BL} (h : Fn P f args Bx [] res By) (ha : allAmong [c] args = true) (hr : res.among [] = true) :
   Fn P f args [(c,.obj (Ob.rng ρ0 kp Ie we l rec c Bx))] [] res [(c,.obj (Ob.rng ρ0 kp Ie we l rec c By))]:=by
 refine ⟨h.1,fun ρ F I w vals hI hH hF hdj hlen hden=>?_⟩
 have hJ : rngR ρ0 kp Ie we l rec c Bx I (F c) w (ρ c):=hH c _ look1
 obtain ⟨h0,hl,ρi,G,q1,q1',q2,q3,q3',q4⟩:=hJ
 have hFc : ∀ b,F c b → b < w.heap.size ∧ ¬ I b:=fun b hb=>hF c _ look1 b hb
 have hll : l < w.heap.size:=lt_of_heap hl
 have hlG : ¬ ∃ d ch,lookB Bx d = some ch ∧ G d l:=fun ⟨d,ch,hd,hg⟩=>q3' d ch hd hg
 refine (h.2 ρi G I w vals hI q2 (fun d ch hd b hb=>hFc b ((q4 b).2 (.inr ⟨d,ch,hd,hb⟩))) q3 hlen ?_).mono ?_
 · intro i v x hv hx
   refine DenV.mono (Ext.refl _ _) v x (fun j hj=>?_) (hden i v x hv hx)
   have:=SV.among_has (allAmong_get ha hv) hj
   rw [List.mem_singleton] at this
   subst this
   exact q1
 · rintro e w' ⟨x,ρ',F',rfl,hfr,hρ,I',he1,he2,hH',hO,hDj,hden'⟩
   have hl' : w'.heap[l]? = some (.loop rec):=(hfr.block l hll hlG).trans hl
   have hlI : ¬ I' l:=fun hi=>by
     rcases (he2 l hi).2 with h | h | h
     · exact (hFc l ((q4 l).2 (.inl rfl))).2 h
     · exact hlG h
     · omega
   refine ⟨x,ρ,fun d=>if d = c then (fun b=>b = l ∨ ∃ d ch,lookB By d = some ch ∧ F' d b) else F d,rfl,hfr.mono fun b _ ⟨d,ch,hd,hg⟩=>⟨c,_,look1,(q4 b).2 (.inr ⟨d,ch,hd,hg⟩)⟩,fun _ _=>rfl,I',he1,fun b hb=>⟨(he2 b hb).1,?_⟩,?_,?_,?_,?_⟩
   · rcases (he2 b hb).2 with h | ⟨d,ch,hd,hg⟩ | h
     · exact .inl h
     · exact .inr (.inl ⟨c,_,look1,(q4 b).2 (.inr ⟨d,ch,hd,hg⟩)⟩)
     · exact .inr (.inr h)
   · intro d ch hd
     obtain ⟨rfl,rfl⟩:=look1_of hd
     simp only [if_true]
     refine ⟨h0.trans he1,hl',ρ',F',(hρ _ (by simp)).trans q1,fun d hd=>(hρ d (by simp)).trans (q1' d hd),hH',hDj,fun d ch hd hg=>?_,fun b=>Iff.rfl⟩
     rcases (hO d ch hd l hg).2.2 with h | h
     · exact hlG h
     · omega
   · intro d ch hd b hb
     obtain ⟨rfl,rfl⟩:=look1_of hd
     simp only [if_true] at hb
     rcases hb with rfl | ⟨d,ch,hd,hb⟩
     · exact ⟨lt_of_heap hl',hlI,.inl ⟨_,_,look1,(q4 _).2 (.inl rfl)⟩⟩
     · obtain ⟨r1,r2,r3⟩:=hO d ch hd b hb
       exact ⟨r1,r2,r3.imp (fun ⟨d,ch,hd,hg⟩=>⟨_,_,look1,(q4 b).2 (.inr ⟨d,ch,hd,hg⟩)⟩) id⟩
   · intro d d' ch ch' b hd hd' hne
     exact absurd ((look1_of hd).1.trans (look1_of hd').1.symm) hne
   · exact DenV.mono (Ext.refl _ _) res x (fun j hj=>by have:=SV.among_has hr hj; cases this) hden'
/-! ### a round -/
def parK : List Nat → List SV → KL → KL
 | [],_,K=>K
 | p :: pl,vs,K=>match vs with
   | []=>K
   | v :: vs=>parK pl vs ((p,v) :: K)
theorem par_slots {ρ : Nat → Pl} {I : Nat → Prop} {w : World} : ∀ (pl : List Nat) (vs : List SV) (vals : List Value) (K : KL) (t : Array Value),vals.length = vs.length → (∀ p,p ∈ pl → p < t.size) → (∀ (i : Nat) (v : SV) (x : Value),vs[i]? = some v → vals[i]? = some x → DenV ρ I w v x) →
   (∀ s,DenV ρ I w (look K s) (t.getD s undef)) → (((pl.zip vals).foldl (fun t (p : Nat × Value)=>t.setIfInBounds p.1 p.2) t).size = t.size ∧ ∀ s,DenV ρ I w (look (parK pl vs K) s) (((pl.zip vals).foldl (fun t (p : Nat × Value)=>t.setIfInBounds p.1 p.2) t).getD s undef))
 | [],vs,vals,K,t,_,_,_,h=>⟨rfl,h⟩
 | p :: pl,[],[],K,t,_,_,_,h=>⟨rfl,h⟩
 | p :: pl,[],_ :: _,K,t,hl,_,_,h=>by simp at hl
 | p :: pl,_ :: _,[],K,t,hl,_,_,h=>by simp at hl
 | p :: pl,v :: vs,x :: vals,K,t,hl,hp,hv,h=>by
   have hp0:=hp p (List.mem_cons_self ..)
   obtain ⟨g1,g2⟩:=par_slots pl vs vals ((p,v) :: K) (t.setIfInBounds p x) (by simpa using hl) (fun q hq=>by rw [Array.size_setIfInBounds]; exact hp q (List.mem_cons_of_mem _ hq)) (fun i u y hu hy=>hv (i + 1) u y (by simpa using hu) (by simpa using hy)) (fun s=>by
     rw [look_cons]
     by_cases e : p = s
     · subst e
       rw [if_pos rfl]
       have : (t.setIfInBounds p x).getD p undef = x:=by simp [hp0]
       rw [this]
       exact hv 0 v x rfl rfl
     · rw [if_neg e]
       have : (t.setIfInBounds p x).getD s undef = t.getD s undef:=by simp [Array.getElem?_setIfInBounds_ne e]
       rw [this]
       exact h s)
   refine ⟨?_,g2⟩
   rw [List.zip_cons_cons,List.foldl_cons]
   exact g1.trans (Array.size_setIfInBounds)
/-- What stood ahead and nobody wrote is still so. -/
theorem Mem.ext0 {ids : List Nat} {C : Ctx} {B : BL} {ρ : Nat → Pl} {F : Nat → Nat → Prop} {w : World} (h : Mem ids C B ρ F w) (hF : ∀ b,C.I0 b → ¬ C.F0 b) : Ext C.I0 C.w0 (Imm C B F w) w:=fun b hb=>by
 have h1:=h.marks.2.1 b (.inl hb)
 refine ⟨⟨Nat.lt_of_lt_of_le h1 h.fr.size,.inl hb,fun c ch hc hf=>?_⟩,h.fr.block b h1 (hF b hb)⟩
 rcases (h.own c ch hc b hf).2 with h2 | h2
 · exact hF b hb h2
 · have:=h2.1; omega
set_option maxHeartbeats 1000000 in
theorem rng_yield (hP : TblOK P tt) {fn : FuncId} {tmps : Array Value} {ps : Array Nat} {pl : List Nat} {assign body : Code} {D : Nat} (hps : ps.toList = pl) (hpl : ∀ p,p ∈ pl → p < N) (hsz : tmps.size = N) (hcA : codeOK P N assign = true) (hcB : codeOK P N body = true)
   {KI : KL} (hKI : amongK kp KI = true) (hc : c ∈ kp) (hsl : ∀ s,DenV ρ0 Ie we (look KI s) (tmps.getD s undef)) (stops : List Nat) {vs : List SV} (hvl : vs.length = pl.length) (hva : allAmong [] vs = true) {Bx By : BL}
   (hvc : vc P tt N (0 :: kp) stops assign (parK pl vs KI) Bx (fun e K B=>e = .nrm ∧ vc P tt N (0 :: kp) stops body K B (fun e K B=>e = .nrm ∧ Le (0 :: kp) K B [] By))) :
   YieldX P l vs [(c,.obj (Ob.rng ρ0 kp Ie we l (recOf fn tmps ps assign body D .ready) c Bx))] (fun _ : Unit=>vLit true) (fun _=>[(c,.obj (Ob.rng ρ0 kp Ie we l (recOf fn tmps ps assign body D .ready) c By))]):=by
 intro ρ F I w vals hI hH hF hdj hlen hden
 have hJ : rngR ρ0 kp Ie we l (recOf fn tmps ps assign body D .ready) c Bx I (F c) w (ρ c):=hH c _ look1
 obtain ⟨h0,hl,ρi,G,q1,q1',q2,q3,q3',q4⟩:=hJ
 have hFc : ∀ b,F c b → b < w.heap.size ∧ ¬ I b:=fun b hb=>hF c _ look1 b hb
 have hll : l < w.heap.size:=lt_of_heap hl
 have hlG : ¬ ∃ d ch,lookB Bx d = some ch ∧ G d l:=fun ⟨d,ch,hd,hg⟩=>q3' d ch hd hg
 have hlI0 : ¬ I l:=(hFc l ((q4 l).2 (.inl rfl))).2
 have hGc : ∀ {d ch b},lookB Bx d = some ch → G d b → F c b:=fun {d ch b} hd hg=>(q4 b).2 (.inr ⟨d,ch,hd,hg⟩)
 have hy:=run_yield (P:=P) (args:=vals.toArray) hl (by rw [List.size_toArray,hlen,hvl,← hps,Array.length_toList])
 refine ⟨fn,_,assign,body,hy,roundIn_of_wpIn (F:=wideR none) trivial ?_⟩
 have htm : ((ps.zip vals.toArray).foldl (fun tmps (x : Nat × Value)=>tmps.setIfInBounds x.1 x.2) tmps) = (pl.zip vals).foldl (fun t (p : Nat × Value)=>t.setIfInBounds p.1 p.2) tmps:=by
   rw [← hps,← Array.foldl_toList]
   congr 1
   simp
 obtain ⟨g1,g2⟩:=par_slots (ρ:=ρi) (I:=I) (w:=w) pl vs vals KI tmps hlen (fun p hp=>by rw [hsz]; exact hpl p hp) (fun i v x hv hx=>DenV.mono (Ext.refl _ _) v x (fun j hj=>by have:=SV.among_has (allAmong_get hva hv) hj; cases this) (hden i v x hv hx))
   (fun s=>DenV.mono h0 _ _ (fun j hj=>q1' j (SV.among_has (amongK_get hKI s) hj)) (hsl s))
 let C1 : Ctx:=⟨w,I,fun b=>∃ d ch,lookB Bx d = some ch ∧ G d b,ρi,[]⟩
 have hImm : Ext I w (Imm C1 Bx G w) w:=fun b hb=>⟨⟨hI b hb,.inl hb,fun d ch hd hg=>(hFc b (hGc hd hg)).2 hb⟩,rfl⟩
 have hM1 : Mem (0 :: kp) C1 Bx ρi G w:=⟨Fr.refl _ _,fun d ch hd=>Holds.stable hImm (fun _ _=>rfl) (Nat.le_refl _) ch (fun _ _=>rfl) (q2 d ch hd),fun d ch hd b hb=>⟨(hFc b (hGc hd hb)).1,.inl ⟨d,ch,hd,hb⟩⟩,q3,fun _ _=>rfl,List.nodup_nil,
   fun b hb=>hb.elim (hI b) fun ⟨d,ch,hd,hg⟩=>(hFc b (hGc hd hg)).1,fun D hD=>by cases hD⟩
 have hs1 : Sat N (0 :: kp) C1 (parK pl vs KI) Bx ⟨(ps.zip vals.toArray).foldl (fun tmps (x : Nat × Value)=>tmps.setIfInBounds x.1 x.2) tmps,[]⟩ w:=by
   rw [htm]
   exact ⟨g1.trans hsz,rfl,ρi,G,hM1,fun s=>DenV.mono hImm _ _ (fun _ _=>rfl) (g2 s)⟩
 refine vc_sound hP (drawOK hP) stops assign _ _ _ hcA hvc (some l) (fun h=>by simp [inRnd] at h) C1 _ ?_ _ w hs1
 rintro e K2 B2 ds hds ⟨rfl,hvc2⟩ a1 w1 hs2
 have hds : ds = []:=hds (by simp [inRnd])
 subst hds
 obtain ⟨n1,d1,ρ1,F1,hM2,hS2⟩:=hs2
 have hM2 : Mem (0 :: kp) C1 B2 ρ1 F1 w1:=hM2
 have hl1 : w1.heap[l]? = some (.loop (recOf fn tmps ps assign body D .ready)):=(hM2.fr.block l hll hlG).trans hl
 have hll1:=lt_of_heap hl1
 have hlI : ¬ Imm C1 B2 F1 w1 l:=fun hi=>by
   rcases hi.2.1 with h | h | h
   · exact hlI0 h
   · exact hlG h
   · have h : w.heap.size ≤ l:=h.1
     omega
 have hlF : ∀ d ch,lookB B2 d = some ch → ¬ F1 d l:=fun d ch hd hf=>by
   rcases (hM2.own d ch hd l hf).2 with h | h
   · exact hlG h
   · have h : w.heap.size ≤ l:=h.1
     omega
 refine ⟨_,run_beginRound hl1 rfl,?_⟩
 obtain ⟨w2,hw2⟩ : ∃ w2,w2 = w1.putObj l (.loop { recOf fn tmps ps assign body D .ready with state:=.busy }):=⟨_,rfl⟩
 rw [← hw2]
 have hsz2 : w2.heap.size = w1.heap.size:=by rw [hw2,World.putObj_size]
 have hoth2 : ∀ b,b ≠ l → w2.heap[b]? = w1.heap[b]?:=fun b hb=>by rw [hw2]; exact World.putObj_heap_other hb
 have hl2 : w2.heap[l]? = some (.loop { recOf fn tmps ps assign body D .ready with state:=.busy }):=by rw [hw2]; exact World.putObj_heap_same hll1
 have hos2 : w2.os = w1.os ∧ w2.tape = w1.tape ∧ w2.output = w1.output:=by rw [hw2]; exact ⟨rfl,rfl,rfl⟩
 let C2 : Ctx:=⟨w2,Imm C1 B2 F1 w1,fun b=>∃ d ch,lookB B2 d = some ch ∧ F1 d b,ρ1,[]⟩
 have hI2 : Ext (Imm C1 B2 F1 w1) w1 (Imm C2 B2 F1 w2) w2:=fun b hb=>⟨⟨by rw [hsz2]; exact hb.1,.inl hb,hb.2.2⟩,hoth2 b (fun e=>hlI (e ▸ hb))⟩
 have hM3 : Mem (0 :: kp) C2 B2 ρ1 F1 w2:=⟨Fr.refl _ _,fun d ch hd=>Holds.stable hI2 (fun b hb=>hoth2 b (fun e=>hlF d ch hd (e ▸ hb))) (Nat.le_of_eq hsz2.symm) ch (fun _ _=>rfl) (hM2.holds d ch hd),fun d ch hd b hb=>⟨by rw [hsz2]; exact (hM2.own d ch hd b hb).1,.inl ⟨d,ch,hd,hb⟩⟩,hM2.disj,fun _ _=>rfl,List.nodup_nil,
   fun b hb=>by
     show b < w2.heap.size
     rw [hsz2]
     exact hb.elim (fun hb=>hb.1) fun ⟨d,ch,hd,hg⟩=>(hM2.own d ch hd b hg).1,fun D hD=>by cases hD⟩
 refine vc_sound hP (drawOK hP) stops body _ _ _ hcB hvc2 (some l) (fun h=>by simp [inRnd] at h) C2 _ ?_ a1 w2 ⟨n1,d1,ρ1,F1,hM3,hS2.mono hI2 fun _ _ _=>rfl⟩
 rintro e K3 B3 ds hds ⟨rfl,hle⟩ a3 w3 hs3
 have hds : ds = []:=hds (by simp [inRnd])
 subst hds
 obtain ⟨n3,d3,ρ3,F3,hM4,hS4⟩:=hle N (C2.at []) a3 w3 hs3
 have hM4 : Mem (0 :: kp) C2 By ρ3 F3 w3:=hM4
 have hl3 : w3.heap[l]? = some (.loop { recOf fn tmps ps assign body D .ready with state:=.busy }):=(hM4.fr.block l (lt_of_heap hl2) (fun ⟨d,ch,hd,hg⟩=>hlF d ch hd hg)).trans hl2
 have hll3:=lt_of_heap hl3
 have hI3l : ¬ Imm C2 By F3 w3 l:=fun hi=>by
   rcases hi.2.1 with h | h | h
   · exact hlI h
   · obtain ⟨d,ch,hd,hg⟩:=h; exact hlF d ch hd hg
   · have h : w2.heap.size ≤ l:=h.1
     omega
 have hF3l : ∀ d ch,lookB By d = some ch → ¬ F3 d l:=fun d ch hd hf=>by
   rcases (hM4.own d ch hd l hf).2 with h | h
   · obtain ⟨d,ch,hd,hg⟩:=h; exact hlF d ch hd hg
   · have h : w2.heap.size ≤ l:=h.1
     omega
 obtain ⟨w4,hw4⟩ : ∃ w4,w4 = w3.putObj l (.loop (recOf fn tmps ps assign body D .ready)):=⟨_,rfl⟩
 have hrun : (Instr.endRound l none).run P w3 = .ok (.bool true) w4:=by rw [hw4]; exact run_endRound none hl3
 refine ⟨.bool true,w4,hrun,?_⟩
 have hsz4 : w4.heap.size = w3.heap.size:=by rw [hw4,World.putObj_size]
 have hoth4 : ∀ b,b ≠ l → w4.heap[b]? = w3.heap[b]?:=fun b hb=>by rw [hw4]; exact World.putObj_heap_other hb
 have hl4 : w4.heap[l]? = some (.loop (recOf fn tmps ps assign body D .ready)):=by rw [hw4]; exact World.putObj_heap_same hll3
 have hos4 : w4.os = w3.os ∧ w4.tape = w3.tape ∧ w4.output = w3.output:=by rw [hw4]; exact ⟨rfl,rfl,rfl⟩
 have e01 : Ext I w (Imm C1 B2 F1 w1) w1:=hM2.ext0 fun b hb ⟨d,ch,hd,hg⟩=>(hFc b (hGc hd hg)).2 hb
 have e12 : Ext (Imm C1 B2 F1 w1) w1 (Imm C1 B2 F1 w1) w2:=fun b hb=>⟨hb,(hI2 b hb).2⟩
 have e23 : Ext (Imm C1 B2 F1 w1) w2 (Imm C2 By F3 w3) w3:=hM4.ext0 fun b hb ⟨d,ch,hd,hg⟩=>hb.2.2 d ch hd hg
 have e34 : Ext (Imm C2 By F3 w3) w3 (Imm C2 By F3 w3) w4:=fun b hb=>⟨hb,hoth4 b (fun e=>hI3l (e ▸ hb))⟩
 have eI : Ext I w (Imm C2 By F3 w3) w4:=e01.trans (e12.trans (e23.trans e34))
 have z01:=hM2.fr.size
 have z01 : w.heap.size ≤ w1.heap.size:=z01
 have z23 : w2.heap.size ≤ w3.heap.size:=hM4.fr.size
 have o1 : ∀ {b},(C2.F0 b ∨ C2.w0.heap.size ≤ b ∧ b ∉ C2.ds) → F c b ∨ w.heap.size ≤ b:=fun {b} h=>by
   rcases h with ⟨d,ch,hd,hg⟩ | h
   · rcases (hM2.own d ch hd b hg).2 with ⟨d,ch,hd,hg⟩ | h
     · exact .inl (hGc hd hg)
     · exact .inr h.1
   · have h : w2.heap.size ≤ b:=h.1
     exact .inr (by omega)
 refine ⟨(),.bool true,ρ,fun d=>if d = c then (fun b=>b = l ∨ ∃ d ch,lookB By d = some ch ∧ F3 d b) else F d,rfl,?_,fun _=>rfl,Imm C2 By F3 w3,eI,fun b hb=>⟨by rw [hsz4]; exact hb.1,?_⟩,?_,?_,?_,rfl⟩
 · have f1 : Fr (fun b=>F c b) w w1:=hM2.fr.mono fun b _ ⟨d,ch,hd,hg⟩=>hGc hd hg
   have f2 : Fr (fun b=>b = l) w1 w2:=⟨hos2.1,hos2.2.1,hos2.2.2,Nat.le_of_eq hsz2.symm,fun b _ hb=>hoth2 b hb⟩
   have f3 : Fr C2.F0 w2 w3:=hM4.fr
   have f4 : Fr (fun b=>b = l) w3 w4:=⟨hos4.1,hos4.2.1,hos4.2.2,Nat.le_of_eq hsz4.symm,fun b _ hb=>hoth4 b hb⟩
   have hcl : F c l:=(q4 l).2 (.inl rfl)
   have f : Fr (fun b=>F c b) w w4:=((f1.trans f2 fun b _ (hb : b = l)=>by rw [hb]; exact hcl).trans f3 fun b hb hf=>by
     rcases o1 (.inl hf) with h | h
     · exact h
     · omega).trans f4 fun b _ (hb : b = l)=>by rw [hb]; exact hcl
   exact f.mono fun b _ hb=>⟨c,_,look1,hb⟩
 · rcases hb.2.1 with h | h
   · rcases h.2.1 with h | ⟨d,ch,hd,hg⟩ | h
     · exact .inl h
     · exact .inr (.inl ⟨c,_,look1,hGc hd hg⟩)
     · exact .inr (.inr h.1)
   · exact .inr ((o1 h).imp (fun h=>⟨c,_,look1,h⟩) id)
 · intro d ch hd
   obtain ⟨rfl,rfl⟩:=look1_of hd
   simp only [if_true]
   have hk : ∀ d,d ∈ kp → ρ3 d = ρi d:=fun d hd=>(hM4.keep d (List.mem_cons_of_mem _ hd)).trans (hM2.keep d (List.mem_cons_of_mem _ hd))
   exact ⟨h0.trans eI,hl4,ρ3,F3,(hk _ hc).trans q1,fun d hd=>(hk d hd).trans (q1' d hd),fun d ch hd=>Holds.stable e34 (fun b hb=>hoth4 b (fun e=>hF3l d ch hd (e ▸ hb))) (Nat.le_of_eq hsz4.symm) ch (fun _ _=>rfl) (hM4.holds d ch hd),hM4.disj,hF3l,fun b=>Iff.rfl⟩
 · intro d ch hd b hb
   obtain ⟨rfl,rfl⟩:=look1_of hd
   simp only [if_true] at hb
   rcases hb with rfl | ⟨d,ch,hd,hb⟩
   · exact ⟨by rw [hsz4]; exact hll3,hI3l,.inl ⟨_,_,look1,(q4 _).2 (.inl rfl)⟩⟩
   · obtain ⟨r1,r2⟩:=hM4.own d ch hd b hb
     exact ⟨by rw [hsz4]; exact r1,fun hi=>hi.2.2 d ch hd hb,(o1 r2).imp (fun h=>⟨_,_,look1,h⟩) id⟩
 · intro d d' ch ch' b hd hd' hne
   exact absurd ((look1_of hd).1.trans (look1_of hd').1.symm) hne
/-! ### the statement -/
theorem exec_val {f : FuncId} {w : World} {cs args : Array Value} (hf : callable P f = true) : (invoke (.fn (.func f) cs) args).run P w = .ok (.enter f (args ++ cs)) w:=by
 unfold callable at hf
 split at hf
 · rename_i fn hfn
   simp only [Bool.not_eq_true',Bool.or_eq_false_iff,beq_eq_false_iff_ne] at hf
   have h2 : ¬ fn.body = none:=fun e=>by rw [e] at hf; simp at hf
   simp [invoke,callFunc,go_sem,hfn]
   rw [if_neg hf.1,if_neg h2]
 · cases hf
set_option maxHeartbeats 1000000 in
theorem TrQ.range (hP : TblOK P tt) {ids : List Nat} (stops : List Nat) {s : Nat} {ps : Array Nat} {pl : List Nat} {assign body : Code} (hps : ps.toList = pl) (hcA : codeOK P N assign = true) (hcB : codeOK P N body = true) (hpl : (pl.all fun p=>Nat.blt p N) = true)
   {f : FuncId} {caps : List Cap} (hf : callable P f = true) (kp : List Nat) (K KI : KL) (Bc : BL) {X : Type} (BI : X → BL) (c : Nat) (x0 xN : X) (Y : X → List SV → X → Prop)
   (hsk : look K s = .c (.one (.clo f caps))) (hKI : subK K KI)
   (hk : (kp.contains c && amongK kp KI && ids.all kp.contains && !inRnd ids) = true) (hbc : ((keysB (BI x0)).all (fun d=>!(keysB Bc).contains d) && !(keysB Bc).contains c) = true)
   (hY : ∀ x vs x',Y x vs x' → vs.length = pl.length ∧ allAmong [] vs = true ∧ vc P tt N (0 :: kp) stops assign (parK pl vs KI) (BI x) (fun e K B=>e = .nrm ∧ vc P tt N (0 :: kp) stops body K B (fun e K B=>e = .nrm ∧ Le (0 :: kp) K B [] (BI x'))))
   (hit : ∀ (l : Nat) (J : X → Ob),(∀ f' args res x x',Fn P f' args (BI x) [] res (BI x') → allAmong [c] args = true → res.among [] = true → Fn P f' args [(c,.obj (J x))] [] res [(c,.obj (J x'))]) →
     (∀ x vs x',Y x vs x' → YieldX P l vs [(c,.obj (J x))] (fun _ : Unit=>vLit true) (fun _=>[(c,.obj (J x'))])) →
     Fn P f (.c (.one (.raw (.func (.yield l) #[] #[]))) :: capV caps) (Bc ++ [(c,.obj (J x0))]) [] (.tup []) [(c,.obj (J xN))])
   {Q : Ex → KL → BL → Prop} (hQ : Q .nrm KI (BI xN)) : TrQ P N ids (.rangeFunc (.tmp s) ps assign body) K (Bc ++ BI x0) Q:=by
 intro r hr C Qs hq a w hs
 simp only [Bool.and_eq_true,Bool.not_eq_true'] at hk hbc
 obtain ⟨⟨⟨hk1,hk2⟩,hk3⟩,hid⟩:=hk
 obtain ⟨hb1,hb2⟩:=hbc
 have hk1:=mem_of_contains hk1
 have hids : ∀ d,d ∈ ids → d ∈ kp:=fun d hd=>mem_of_contains (List.all_eq_true.1 hk3 d hd)
 have hcB0 : lookB Bc c = none:=by
   cases e : lookB Bc c with
   | none=>rfl
   | some ch=>have:=List.contains_iff_mem.2 (keysB_mem.2 ⟨ch,e⟩); rw [hb2] at this; cases this
 have hr:=hr hid
 subst hr
 obtain ⟨hn,hd,ρ,F,hM,hS⟩:=hs
 have lkI : ∀ {d ch},lookB (BI x0) d = some ch → lookB (Bc ++ BI x0) d = some ch ∧ lookB Bc d = none:=fun {d ch} h=>by
   have hk:=List.all_eq_true.1 hb1 d (keysB_mem.2 ⟨ch,h⟩)
   have hn : lookB Bc d = none:=by
     cases e : lookB Bc d with
     | none=>rfl
     | some ch'=>rw [List.contains_iff_mem.2 (keysB_mem.2 ⟨ch',e⟩)] at hk; cases hk
   exact ⟨by rw [lookB_app,hn]; exact h,hn⟩
 have lkC : ∀ {d ch},lookB Bc d = some ch → lookB (Bc ++ BI x0) d = some ch:=fun {d ch} h=>by rw [lookB_app,h]
 refine wpIn_rangeFunc fun fn _=>?_
 obtain ⟨rec,hrec⟩ : ∃ rec,rec = recOf fn a.tmps ps assign body w.heap.size .ready:=⟨_,rfl⟩
 obtain ⟨w1,hw1⟩ : ∃ w1,w1 = (w.alloc (.deferred (some []))).alloc (.loop rec):=⟨_,rfl⟩
 have hB1 : Below w.heap.size w w1:=by rw [hw1]; exact ((Below.refl _ w).alloc (Nat.le_refl _) _).alloc (by simp) _
 have hsz1 : w1.heap.size = w.heap.size + 2:=by rw [hw1]; simp
 have hL1 : w1.heap[w.heap.size + 1]? = some (.loop rec):=by rw [hw1]; have:=World.alloc_heap_new (w.alloc (.deferred (some []))) (.loop rec); rwa [World.size_alloc] at this
 have hD1 : w1.heap[w.heap.size]? = some (.deferred (some [])):=by rw [hw1]; exact (Below.heap_alloc _ _ _ (by simp)).trans (World.alloc_heap_new w _)
 obtain ⟨l,hl0⟩ : ∃ l,l = w.heap.size + 1:=⟨_,rfl⟩
 rw [← hl0] at hL1
 let Ie:=Imm C (Bc ++ BI x0) F w
 have hE1 : Ext Ie w Ie w1:=fun b hb=>⟨hb,hB1.block b hb.1⟩
 let J:=fun x=>Ob.rng ρ kp Ie w1 l rec c (BI x)
 have hv:=hS s
 rw [hsk] at hv
 obtain ⟨cs,ev,hcp⟩:=hv
 obtain ⟨hcv1,hcv2⟩:=DenCaps.vals caps cs hcp
 have hsl : ∀ t,DenV ρ Ie w1 (look KI t) (a.tmps.getD t undef):=fun t=>by
   rcases subK_get hKI t with h | h
   · exact DenV.mono hE1 _ _ (fun _ _=>rfl) (leV_den h (hS t))
   · rw [h]; trivial
 have hfn:=hit l J (fun f' args res x x' h ha hr=>rng_lift h ha hr) (fun x vs x' hy=>by
   obtain ⟨y1,y2,y3⟩:=hY x vs x' hy
   show YieldX P l vs [(c,.obj (Ob.rng ρ kp Ie w1 l rec c (BI x)))] (fun _ : Unit=>vLit true) (fun _=>[(c,.obj (Ob.rng ρ kp Ie w1 l rec c (BI x')))])
   rw [hrec]
   exact rng_yield hP hps (fun p hp=>by have:=List.all_eq_true.1 hpl p hp; simpa [Nat.blt_eq] using this) hn hcA hcB hk2 hk1 hsl stops y1 y2 y3)
 refine ⟨l,[markD w.heap.size],w1,{ target:=.fn (.func f) cs.toArray,args:=#[.func (.yield l) #[] #[]] },w1,f,#[.func (.yield l) #[] #[]] ++ cs.toArray,w1,?_,?_,fun _ _=>trivial,exec_val hf,fun h=>absurd h (by simp),calls_in ?_⟩
 · rw [hw1,hl0,hrec]; exact run_enterLoop_outer _ _ _ _ _
 · have ev' : a.eval (.tmp s) = .func (.func f) #[] cs.toArray:=ev
   simp only [resolve,ev']
   simp [go_sem]
 have hvals : #[Value.func (.yield l) #[] #[]] ++ cs.toArray = (Value.func (.yield l) #[] #[] :: cs).toArray:=by simp
 rw [hvals]
 have hF1 : ∀ b,(∃ d ch,lookB (BI x0) d = some ch ∧ F d b) → b < w.heap.size:=fun b ⟨d,ch,hd,hb⟩=>(hM.own d ch (lkI hd).1 b hb).1
 let F1 : Nat → Nat → Prop:=fun d=>if d = c then (fun b=>b = l ∨ ∃ d ch,lookB (BI x0) d = some ch ∧ F d b) else F d
 have hcase : ∀ {d ch},lookB (Bc ++ [(c,Ch.obj (J x0))]) d = some ch → (d = c ∧ ch = .obj (J x0)) ∨ (d ≠ c ∧ lookB Bc d = some ch):=fun {d ch} h=>by
   rw [lookB_app] at h
   cases e : lookB Bc d with
   | some ch' =>
     rw [e] at h
     exact .inr ⟨fun ec=>(by rw [ec,hcB0] at e; cases e),h⟩
   | none =>
     rw [e] at h
     obtain ⟨e1,e2⟩:=look1_of h
     exact .inl ⟨e1,e2⟩
 have hcl : lookB (Bc ++ [(c,Ch.obj (J x0))]) c = some (.obj (J x0)):=by rw [lookB_app,hcB0]; exact look1
 have hF1c : F1 c = (fun b=>b = l ∨ ∃ d ch,lookB (BI x0) d = some ch ∧ F d b):=if_pos rfl
 have hF1d : ∀ {d},d ≠ c → F1 d = F d:=fun {d} h=>if_neg h
 have hlw : w.heap.size ≤ l:=by omega
 refine (hfn.2 ρ F1 Ie w1 _ (fun b hb=>by have:=hb.1; omega) ?_ ?_ ?_ (by simp [hcv1]) ?_).mono ?_
 · intro d ch hd
   rcases hcase hd with ⟨rfl,rfl⟩ | ⟨e,hd⟩
   · rw [hF1c]
     exact ⟨Ext.refl _ _,hL1,ρ,F,rfl,fun _ _=>rfl,fun d ch hd=>Holds.stable hE1 (fun b hb=>hB1.block b (hM.own d ch (lkI hd).1 b hb).1) hB1.size ch (fun _ _=>rfl) (hM.holds d ch (lkI hd).1),fun d d' ch ch' b h1 h2=>hM.disj d d' ch ch' b (lkI h1).1 (lkI h2).1,
       fun d ch hd hb=>by have:=(hM.own d ch (lkI hd).1 l hb).1; omega,fun b=>Iff.rfl⟩
   · rw [hF1d e]
     exact Holds.stable hE1 (fun b hb=>hB1.block b (hM.own d ch (lkC hd) b hb).1) hB1.size ch (fun _ _=>rfl) (hM.holds d ch (lkC hd))
 · intro d ch hd b hb
   rcases hcase hd with ⟨rfl,rfl⟩ | ⟨e,hd⟩
   · rw [hF1c] at hb
     rcases hb with rfl | ⟨d,ch,hd,hb⟩
     · exact ⟨lt_of_heap hL1,fun hi=>by have:=hi.1; omega⟩
     · have:=(hM.own d ch (lkI hd).1 b hb).1
       exact ⟨by omega,fun hi=>hi.2.2 d ch (lkI hd).1 hb⟩
   · rw [hF1d e] at hb
     have:=(hM.own d ch (lkC hd) b hb).1
     exact ⟨by omega,fun hi=>hi.2.2 d ch (lkC hd) hb⟩
 · intro d d' ch ch' b hd hd' hne hb hb'
   have key : ∀ {d ch b},lookB Bc d = some ch → F d b → ¬ (b = l ∨ ∃ d ch,lookB (BI x0) d = some ch ∧ F d b):=fun {e1 c1 b1} k1 k2 hx=>by
     rcases hx with hx | ⟨d2,ch2,k3,k4⟩
     · have:=(hM.own e1 c1 (lkC k1) _ k2).1; omega
     · exact hM.disj e1 d2 c1 ch2 b1 (lkC k1) (lkI k3).1 (fun e=>by rw [e,(lkI k3).2] at k1; cases k1) k2 k4
   rcases hcase hd with ⟨e,_⟩ | ⟨e,hd⟩ <;> rcases hcase hd' with ⟨e',_⟩ | ⟨e',hd'⟩
   · exact hne (e.trans e'.symm)
   · rw [e,hF1c] at hb
     rw [hF1d e'] at hb'
     exact key hd' hb' hb
   · rw [hF1d e] at hb
     rw [e',hF1c] at hb'
     exact key hd hb hb'
   · rw [hF1d e] at hb
     rw [hF1d e'] at hb'
     exact hM.disj d d' ch ch' b (lkC hd) (lkC hd') hne hb hb'
 · intro i v x hv hx
   match i with
   | 0 =>
     simp only [List.getElem?_cons_zero,Option.some.injEq] at hv hx
     subst hv hx
     rfl
   | i + 1=>exact DenV.mono hE1 v x (fun _ _=>rfl) (hcv2 i v x (by simpa using hv) (by simpa using hx))
 rintro e w2 ⟨x,ρ',F',rfl,hfr,hρ,I',he1,he2,hH',hO,hDj,-⟩
 have hJ : rngR ρ kp Ie w1 l rec c (BI xN) I' (F' c) w2 (ρ' c):=hH' c _ look1
 obtain ⟨h0,hl,ρi,G,q1,q1',q2,q3,q3',q4⟩:=hJ
 have hll:=lt_of_heap hl
 obtain ⟨w4,hw4⟩ : ∃ w4,w4 = w2.putObj l (.loop { rec with state:=.exhausted }):=⟨_,rfl⟩
 have hrun : (Instr.endLoop l).run P w2 = .ok none w4:=by
   have h1:=run_endLoop (P:=P) hl (by rw [hrec]; simp)
   have h2 : rec.pending = none:=by rw [hrec]
   rw [hw4,h1,h2]
 refine ⟨none,w4,hrun,?_⟩
 show Qs .normal { a with defers:=[markD w.heap.size] ++ a.defers } w4
 have hsz4 : w4.heap.size = w2.heap.size:=by rw [hw4,World.putObj_size]
 have hoth4 : ∀ b,b ≠ l → w4.heap[b]? = w2.heap[b]?:=fun b hb=>by rw [hw4]; exact World.putObj_heap_other hb
 have hos4 : w4.os = w2.os ∧ w4.tape = w2.tape ∧ w4.output = w2.output:=by rw [hw4]; exact ⟨rfl,rfl,rfl⟩
 have z12:=hfr.size
 have hFl : ∀ {b},F' c b → b < w2.heap.size ∧ ¬ I' b ∧ (b = l ∨ (∃ d ch,lookB (Bc ++ BI x0) d = some ch ∧ F d b) ∨ w1.heap.size ≤ b):=fun {b} hb=>by
   obtain ⟨r1,r2,r3⟩:=hO c _ look1 b hb
   refine ⟨r1,r2,?_⟩
   rcases r3 with ⟨d,ch,hd,hf⟩ | r3
   · rcases hcase hd with ⟨rfl,rfl⟩ | ⟨e,hd⟩
     · rw [hF1c] at hf
       exact hf.imp id fun ⟨d,ch,hd,hf⟩=>.inl ⟨d,ch,(lkI hd).1,hf⟩
     · rw [hF1d e] at hf
       exact .inr (.inl ⟨d,ch,lkC hd,hf⟩)
   · exact .inr (.inr r3)
 have hlI : ¬ I' l:=(hFl ((q4 l).2 (.inl rfl))).2.1
 have hori2 : ∀ {b},((∃ d ch,lookB (Bc ++ BI x0) d = some ch ∧ F d b) ∨ w1.heap.size ≤ b) → (C.F0 b ∨ C.w0.heap.size ≤ b ∧ b ∉ w.heap.size :: C.ds):=fun {b} h=>by
   rcases h with ⟨d,ch,hd,hf⟩ | h
   · obtain ⟨r1,r2⟩:=hM.own d ch hd b hf
     exact r2.imp id fun x=>⟨x.1,fun hm=>(List.mem_cons.1 hm).elim (fun e=>by omega) x.2⟩
   · have:=hM.fresh (b:=b) (by omega)
     exact .inr ⟨this.1,fun hm=>(List.mem_cons.1 hm).elim (fun e=>by omega) this.2⟩
 have hori : ∀ {b},(Ie b ∨ (∃ d ch,lookB (Bc ++ BI x0) d = some ch ∧ F d b) ∨ w1.heap.size ≤ b) → (C.I0 b ∨ C.F0 b ∨ C.w0.heap.size ≤ b ∧ b ∉ w.heap.size :: C.ds):=fun {b} h=>by
   rcases h with h | h
   · have h1:=h.1
     exact h.2.1.imp id fun x=>x.imp id fun x=>⟨x.1,fun hm=>(List.mem_cons.1 hm).elim (fun e=>by omega) x.2⟩
   · exact .inr (hori2 h)
 have hE4 : Ext I' w2 (Imm (C.at (w.heap.size :: C.ds)) (BI xN) G w4) w4:=fun b hb=>by
   have hne : b ≠ l:=fun e=>hlI (e ▸ hb)
   obtain ⟨r1,r2⟩:=he2 b hb
   refine ⟨⟨by rw [hsz4]; exact r1,hori ?_,fun d ch hd hg=>(hFl ((q4 b).2 (.inr ⟨d,ch,hd,hg⟩))).2.1 hb⟩,hoth4 b hne⟩
   rcases r2 with r2 | ⟨d,ch,hd,hf⟩ | r2
   · exact .inl r2
   · rcases hcase hd with ⟨rfl,rfl⟩ | ⟨e,hd⟩
     · rw [hF1c] at hf
       rcases hf with hf | ⟨d,ch,hd,hf⟩
       · exact absurd hf hne
       · exact .inr (.inl ⟨d,ch,(lkI hd).1,hf⟩)
     · rw [hF1d e] at hf
       exact .inr (.inl ⟨d,ch,lkC hd,hf⟩)
   · exact .inr (.inr r2)
 refine hq .nrm KI (BI xN) (w.heap.size :: C.ds) (fun h=>by rw [hid] at h; cases h) hQ _ _ ⟨hn,?_,ρi,G,⟨?_,?_,?_,q3,?_,?_,hM.marks.2.1,?_⟩,?_⟩
 · show [markD w.heap.size] ++ a.defers = List.map markD (w.heap.size :: C.ds)
   rw [hd]; rfl
 · refine (hM.fr.trans (S':=fun b=>b = l ∨ ∃ d ch,lookB (Bc ++ BI x0) d = some ch ∧ F d b) ?_ fun b hb h=>?_)
   · have f1 : Fr (fun b=>b = l ∨ ∃ d ch,lookB (Bc ++ BI x0) d = some ch ∧ F d b) w w1:=Fr.of_below hB1
     have f4 : Fr (fun b=>b = l) w2 w4:=⟨hos4.1,hos4.2.1,hos4.2.2,Nat.le_of_eq hsz4.symm,fun b _ hb=>hoth4 b hb⟩
     refine (f1.trans hfr ?_).trans f4 fun b _ hb=>.inl hb
     rintro b _ ⟨d,ch,hd,hf⟩
     rcases hcase hd with ⟨rfl,rfl⟩ | ⟨e,hd⟩
     · rw [hF1c] at hf
       exact hf.imp id fun ⟨d,ch,hd,hf⟩=>⟨d,ch,(lkI hd).1,hf⟩
     · rw [hF1d e] at hf
       exact .inr ⟨d,ch,lkC hd,hf⟩
   · have z0:=hM.fr.size
     rcases h with h | ⟨d,ch,hd,hf⟩
     · omega
     · rcases (hM.own d ch hd b hf).2 with h | h
       · exact h
       · have:=h.1; omega
 · exact fun d ch hd=>Holds.stable hE4 (fun b hb=>hoth4 b (fun e=>q3' d ch hd (e ▸ hb))) (Nat.le_of_eq hsz4.symm) ch (fun _ _=>rfl) (q2 d ch hd)
 · intro d ch hd b hb
   obtain ⟨r1,r2,r3⟩:=hFl ((q4 b).2 (.inr ⟨d,ch,hd,hb⟩))
   have hne : b ≠ l:=fun e=>q3' d ch hd (e ▸ hb)
   exact ⟨by rw [hsz4]; exact r1,hori2 (r3.resolve_left hne)⟩
 · exact fun d hd=>(q1' d (hids d hd)).trans (hM.keep d hd)
 · exact List.nodup_cons.2 ⟨fun h=>by have:=(hM.marks.2.2 _ h).1; omega,hM.marks.1⟩
 · intro D hD
   have hDl : D ≠ l ∧ D < w1.heap.size ∧ w1.heap[D]? = some (.deferred (some [])) ∧ C.w0.heap.size ≤ D:=by
     rcases List.mem_cons.1 hD with rfl | hD
     · exact ⟨by omega,by omega,hD1,hM.fr.size⟩
     · obtain ⟨r1,r2,r3⟩:=hM.marks.2.2 D hD
       exact ⟨by omega,by omega,(hB1.block D r1).trans r2,r3⟩
   obtain ⟨s1,s2,s3,s4⟩:=hDl
   have hnf : ¬ ∃ d ch,lookB (Bc ++ [(c,Ch.obj (J x0))]) d = some ch ∧ F1 d D:=by
     rintro ⟨d,ch,hd,hf⟩
     have h5 : ∃ d ch,lookB (Bc ++ BI x0) d = some ch ∧ F d D:=by
       rcases hcase hd with ⟨rfl,rfl⟩ | ⟨e,hd⟩
       · rw [hF1c] at hf
         rcases hf with hf | ⟨d,ch,hd,hf⟩
         · exact absurd hf s1
         · exact ⟨d,ch,(lkI hd).1,hf⟩
       · rw [hF1d e] at hf
         exact ⟨d,ch,lkC hd,hf⟩
     obtain ⟨d,ch,hd,hf⟩:=h5
     obtain ⟨r1,r2⟩:=hM.own d ch hd D hf
     rcases List.mem_cons.1 hD with rfl | hD
     · omega
     · rcases r2 with r2 | r2
       · have:=hM.marks.2.1 D (.inr r2); omega
       · exact r2.2 hD
   exact ⟨by rw [hsz4]; omega,(hoth4 D s1).trans ((hfr.block D s2 hnf).trans s3),s4⟩
 · intro t
   exact DenV.mono (he1.trans hE4) _ _ (fun j hj=>q1' j (SV.among_has (amongK_get hk2 t) hj)) (hsl t)
end
end Go.Proofs.YteoamepgonpdlaaGreat
/-!
  Ranging over a map: the map's entries by their births, the iterator; what range, next, entry, delete do.
-/
namespace Go.Proofs.YteoamepgonpdlaaGreat
set_option linter.unusedVariables false
set_option linter.unusedSimpArgs false
open Go.RowKit
open Go.ChangeMaps (setBlock map_eraseIdx)
section
variable {P : Program} {ids : List Nat} {K : KL} {B : BL}
/-! ### the operations -/
/-! ### delete -/
/-! ### is a row of the call's own nil? -/
theorem opS_ownNil {o : Oper} {T T2 e' : TypeId} {x : Operand} {c : Nat} (ho : o.op = .binOp .eql T x (.const (.slice none 0 0)) T2) (hx : opv K x = .c (.one (.own c))) {e : TypeId} {u : U} {xs : List (El u)} (hc : lookB B c = some (.row e u xs)) (hT : P.underlying T = some (.slice e')) :
   OpS P ids o K B (fun v ef=>∃ b : Bool,(b = true → xs = []) ∧ v = .c (.one (.d (.lit b))) ∧ ef = ⟨[c],[],[]⟩):=by
 rintro N C a w ⟨hn,hd,ρ,F,hM,hS⟩ hlt Kn Q hK
 obtain ⟨hF,hbk,cs,hown,hrec⟩:=hM.holds c _ hc
 have e1 : a.eval x = (ρ c).hdr:=hS.ev hx
 have hrun : (execOp a.eval o).run P w = .ok (.value (.bool (ρ c).A.isNone)) w:=by
   simp only [execOp,ho,e1,Pl.hdr]
   have e2 : a.eval (.const (.slice none 0 0)) = .slice none 0 0:=rfl
   have h:=Lib.run_eql_slice_nil (P:=P) w T e' (ρ c).A (ρ c).n (ρ c).cap 0 0 hT
   simp [e2,h,Result.andThen,eqGuard]
 unfold Oper.wp
 rw [hrun,Oper.upon_value]
 refine hK (.c (.one (.d (.lit (ρ c).A.isNone)))) ⟨[c],[],[]⟩ _ _ ⟨_,fun hb=>?_,rfl,rfl⟩ ⟨put_size.trans hn,put_defers.trans hd,ρ,F,hM,hS.putO (fun e he=>by rw [hn]; exact hlt e he) rfl⟩
 rcases hown.2 with ⟨_,h⟩ | ⟨g,cap,cur,h,_⟩
 · exact List.eq_nil_of_length_eq_zero h
 · have h1 : (ρ c).A = some ⟨g,0,none⟩:=by simp only [Pl.hdr] at h; injection h
   rw [h1] at hb
   cases hb
end
end Go.Proofs.YteoamepgonpdlaaGreat
/-!
  Boxes by their addresses: a pool of single cells; loads through addresses.
-/
namespace Go.Proofs.YteoamepgonpdlaaGreat
set_option linter.unusedVariables false
set_option linter.unusedSimpArgs false
open Go.RowKit
/-- One cell. -/
def cellO (x : D) : Ob where
 R:=fun I F w p=>Holds (fun _=>p) I F w p (.cells [.d x])
 stable:=fun I F w I' w' p h he hF hz=>Holds.stable he hF hz (.cells [.d x]) (fun _ _=>rfl) h
theorem cellO_close {c : Nat} {x : D} : ∀ I F w p,grpR c [(c,.cells [.d x])] I F w p → (cellO x).R I F w p:=by
 rintro I F w p ⟨ρ,G,h1,h2,h3,h4⟩
 have h:=h2 c _ (by rw [lookB_cons,if_pos rfl])
 rw [h1] at h
 have hG : F = G c:=by
   funext b
   refine propext ((h4 b).trans ⟨?_,fun g=>⟨c,_,by rw [lookB_cons,if_pos rfl],g⟩⟩)
   rintro ⟨d,ch,e,g⟩
   rw [lookB_cons] at e
   split at e
   · rename_i e2
     rw [← e2] at g
     exact g
   · cases e
 rw [hG]
 exact Holds.stable (Ext.refl _ _) (fun _ _=>rfl) (Nat.le_refl _) (.cells [.d x]) (fun d hd=>by cases hd) h
section
variable {P : Program} {ids : List Nat} {K : KL} {B : BL}
/-- Is a list nil? -/
theorem opS_lstNil {o : Oper} {T T2 e' : TypeId} {x : Operand} {u : U} {xs : List (El u)} (ho : o.op = .binOp .eql T x (.const (.slice none 0 0)) T2) (hx : opv K x = .c (.one (.d (.lst u xs)))) (hT : P.underlying T = some (.slice e')) :
   OpS P ids o K B (fun v ef=>∃ b : Bool,(b = true → xs = []) ∧ v = .c (.one (.d (.lit b))) ∧ ef = ⟨[],[],[]⟩):=by
 rintro N C a w ⟨hn,hd,ρ,F,hM,hS⟩ hlt Kn Q hK
 obtain ⟨A,cap,e1,h2,h3,h4⟩ : Den (Imm C B F w) w (.lst u xs) (a.eval x):=hS.ev hx
 injection e1 with e1
 have hrun : (execOp a.eval o).run P w = .ok (.value (.bool A.isNone)) w:=by
   simp only [execOp,ho,e1]
   have e2 : a.eval (.const (.slice none 0 0)) = .slice none 0 0:=rfl
   have h:=Lib.run_eql_slice_nil (P:=P) w T e' A (List.length xs) cap 0 0 hT
   simp [e2,h,Result.andThen,eqGuard]
 unfold Oper.wp
 rw [hrun,Oper.upon_value]
 refine hK (.c (.one (.d (.lit A.isNone)))) ⟨[],[],[]⟩ _ _ ⟨_,fun hb=>?_,rfl,rfl⟩ ⟨put_size.trans hn,put_defers.trans hd,ρ,F,hM,hS.putO (fun e he=>by rw [hn]; exact hlt e he) rfl⟩
 rcases Nat.eq_zero_or_pos (List.length xs) with h | h
 · exact List.eq_nil_of_length_eq_zero h
 · obtain ⟨b,q,hA,_⟩:=h4 h
   rw [hA] at hb
   cases hb
/-- A box,put into a pool of boxes,its address named. -/
theorem LeX.box (s c q : Nat) {x : D} {L : List (Nat × Ob)} (hs : look K s = .c (.one (.ptr c 0))) (hc : lookB B c = some (.cells [.d x])) (hne : c ≠ q) (hq : lookB B q = some (.obj (.pool L))) :
   LeX ids K B (fun b : Nat=>(s,.c (.one (.d (.adr (some b))))) :: K) (fun b=>(q,.obj (.pool ((b,cellO x) :: L))) :: dropB ((c,.obj ((cellO x).at b)) :: (c,.obj (cellO x)) :: dropB B c) c):=by
 intro N C a w h
 have h1:=Le.close (ids:=ids) (K:=K) (B:=B) c [(c,.cells [.d x])] (o:=cellO x) ⟨hc,trivial⟩ (by simp [keysB]) cellO_close N C a w h
 obtain ⟨b,h2⟩:=LeX.name (ids:=ids) s c (o:=cellO x) hs (by rw [lookB_cons,if_pos rfl]) N C a w h1
 refine ⟨b,?_⟩
 have hql : lookB ((c,Ch.obj ((cellO x).at b)) :: (c,.obj (cellO x)) :: dropBs (keysB [(c,Ch.cells [.d x])]) B) q = some (.obj (.pool L)):=by
   rw [lookB_cons,if_neg hne,lookB_cons,if_neg hne]
   show lookB (dropB B c) q = _
   rw [lookB_dropB,if_neg hne]
   exact hq
 exact Le.put (ids:=ids) q c (o:=cellO x) (b:=b) (L:=L) hne hql (by rw [lookB_cons,if_pos rfl]) N C a w h2
end
/-! ### calls that only read -/
theorem TrQ.ro {P : Program} {N : Nat} {ids : List Nat} {K : KL} {B : BL} {c : Code} {Q : Post} (f : Nat) (hN : N ≤ 1000000) (h : TrQ P N ids c ((1000000 + f,.undef) :: K) B Q) : TrQ P N ids c K B Q:=by
 intro r hr C Qs hq a w hs
 refine h r hr C Qs hq a w ?_
 obtain ⟨hn,hd,ρ,F,hM,hS⟩:=hs
 refine ⟨hn,hd,ρ,F,hM,fun s=>?_⟩
 rw [look_cons]
 split
 · rename_i e
   subst e
   show a.tmps.getD (1000000 + f) undef = undef
   rw [Array.getD_eq_getD_getElem?,Array.getElem?_eq_none (by omega)]
   rfl
 · exact hS s
theorem opOK_callR {P : Program} {ids : List Nat} {K : KL} {B : BL} {o : Oper} {f : FuncId} {c : Call} {xs : List Operand} {Bi : BL} {res : SV} {Bo : BL} (ho : o.op = .call c) (h1 : c.callee = .value (.func f)) (h2 : c.args.toList = xs) (hf : Fn P f (xs.map (opv K)) Bi [] res Bo) (hsub : subB B Bi) (hok : outOK Bi [] Bo = true) (hsame : ∀ c,lookB Bo c = lookB Bi c) (N : Nat) :
   OpOK P N ids o K B res ⟨keysB Bi,[],[]⟩:=by
 obtain ⟨v,e,⟨rfl,rfl⟩,hO,_⟩ : Snd P N ids o K B (fun v e=>v = res ∧ e = ⟨keysB Bi,[],effB Bi Bo⟩):=snd_call ho h1 h2 ⟨Bi,[],res,Bo,hf,hsub,by rw [hok]; rfl,by rw [forceV_eq]; exact ⟨rfl,rfl⟩⟩
 intro K' B' g1 g2 g3 C a w hs hlt Kn Q hK
 refine hO K' B' g1 g2 g3 C a w hs hlt Kn Q fun a' w' hs'=>hK a' w' (hs'.congr (fun _=>rfl) fun d=>?_)
 show lookB B' d = lookB (applyB (effB Bi Bo) B') d
 rw [applyB_all Bi Bi [] Bo B' hok,hsame]
 cases hd : lookB Bi d with
 | none =>
   simp only
   rw [if_neg fun hk=>by obtain ⟨ch,h⟩:=keysB_mem.1 hk; rw [hd] at h; cases h]
 | some ch=>exact (g2 d (keysB_mem.2 ⟨ch,hd⟩)).trans (subB_get hsub hd)
/-- A literal slice of one text,as a row of one's own (asked for by a slot: 2000000 + its own). -/
theorem TrQ.bo {P : Program} {N : Nat} {ids : List Nat} {K : KL} {B : BL} {c : Code} {Q : Post} (d : Nat) (hN : N ≤ 1000000) (h : TrQ P N ids c ((1000000 + (1000000 + d),.undef) :: K) B Q) : TrQ P N ids c K B Q:=TrQ.ro (1000000 + d) hN h
theorem opOK_buildOwn1 {P : Program} {ids : List Nat} {K : KL} {B : BL} {o : Oper} {T e d : Nat} {x : Operand} {s : List UInt8} {inf : TypeInfo} (ho : o.op = .buildSlice T 1 #[(0,x)]) (hT : P.underlying T = some (.slice e)) (hi : P.info? e = some inf) (hz : inf.zero = some (.string ⟨#[]⟩)) (hs : inf.size = 1)
   (hx : opv K x = .c (.one (.d (.str s)))) (N : Nat) : OpOK P N ids o K B (.c (.one (.own d))) ⟨[],[d],[(d,some (.row e .str [s]))]⟩:=by
 have m1 : x ∈ o.op.operands:=by rw [ho]; simp [Op.operands]
 refine OpOK.make (fun d h=>has_own h) fun K' B' g1 g2 C ρ F a w hM hS hn=>?_
 have e1 : a.eval x = .string ⟨List.toArray s⟩:=hS.ev ((g1 x m1).trans hx)
 refine ⟨.slice (some ⟨w.heap.size,0,none⟩) 1 1,w.alloc (.cells (List.toArray [.string ⟨List.toArray s⟩]) e),⟨w.heap.size,some ⟨w.heap.size,0,none⟩,1,1⟩,fun b=>b = w.heap.size,?_,alloc_below w _,fun b hb=>(by subst hb; exact ⟨Nat.le_refl _,by simp⟩),fun I he hb=>⟨⟨?_,?_,[.string ⟨List.toArray s⟩],?_,fun i y hy=>?_⟩,?_⟩⟩
 · have hrun:=run_buildSlice (P:=P) w T e 1 (#[(0,x)].map fun p=>(p.1,a.eval p.2)) (List.toArray [.string ⟨List.toArray s⟩]) inf (.string ⟨#[]⟩) hT hi hz (by rw [hs]; decide)
     (by rw [hs]; decide) (by
       rw [hs]
       have ev : (Value.string ⟨List.toArray s⟩).cells = #[.string ⟨List.toArray s⟩]:=rfl
       simp [e1,Instr.fill,ev]
       rw [show Array.range 1 = #[0] from rfl]
       simp)
   unfold execOp
   simp only [ho,Sem.run_bind,hrun,Result.andThen_ok]
   rfl
 · intro b
   show b = w.heap.size ↔ some w.heap.size = some b
   rw [Option.some.injEq]
   exact eq_comm
 · intro b hb
   have hb : some w.heap.size = some b:=hb
   injection hb with hb
   exact hb.symm
 · exact ownsRow_new w e 1 1 [.string ⟨List.toArray s⟩] rfl (by decide)
 · match i with
   | 0 =>
     have hy : some s = some y:=hy
     injection hy with hy
     subst hy
     rfl
   | i + 1 =>
     have hy : (none : Option (List UInt8)) = some y:=hy
     cases hy
 · simp only [DenV,DenC,DenS,upd_same]
   rfl
end Go.Proofs.YteoamepgonpdlaaGreat
/-!
  Arrays and structs as values; rows of numbers; functions compared with nil.
-/
namespace Go.Proofs.YteoamepgonpdlaaGreat
set_option linter.unusedVariables false
set_option linter.unusedSimpArgs false
open Go.RowKit
/-! ### things without addresses,written out -/
def valS : S1 → Value
 | .d (.int k n)=>.int k n
 | .d (.bool b)=>.bool b
 | .d (.lit b)=>.bool b
 | .d (.str s)=>.string ⟨List.toArray s⟩
 | _=>.nilFunc
def litS : S1 → Lit
 | .d (.int k n)=>.int k n
 | .d (.bool b)=>.bool b
 | .d (.lit b)=>.bool b
 | .d (.str s)=>.string s
 | _=>.nil
def plainS : S1 → Bool
 | .d (.int _ _)=>true
 | .d (.bool _)=>true
 | .d (.lit _)=>true
 | .d (.str _)=>true
 | _=>false
def valsL : List S1 → List Value
 | []=>[]
 | s :: l=>valS s :: valsL l
def litsL : List S1 → List Lit
 | []=>[]
 | s :: l=>litS s :: litsL l
def plainL : List S1 → Bool
 | []=>true
 | s :: l=>plainS s && plainL l
theorem denL_vals {ρ : Nat → Pl} {I : Nat → Prop} {w : World} : ∀ {l : List S1} {vs : List Value},plainL l = true → DenL ρ I w l vs → vs = valsL l
 | [],vs,_,h=>h
 | s :: l,vs,hp,⟨v,r,e,h1,h2⟩=>by
   simp only [plainL,Bool.and_eq_true] at hp
   have h3:=denL_vals hp.2 h2
   subst h3 e
   have : v = valS s:=by
     cases s with
     | d x=>cases x <;> first | exact h1 | (simp [plainS] at hp; done)
     | _=>simp [plainS] at hp
   rw [this]
   rfl
section
variable {P : Program} {tt : Tr} {ids : List Nat} {K : KL} {B : BL}
/-- Structs,arrays compared. -/
theorem opOK_eqDeep {o : Oper} {T T2 : TypeId} {x y : Operand} {lx ly : List S1} {m D : Nat} (ho : o.op = .binOp .eql T x y T2) (hg : P.eqGuardType P.depth T = false) (hk : P.keyTypeAt m T = true) (hm : m ≤ 10000)
   (hx : opv K x = .c (.agg lx)) (hy : opv K y = .c (.agg ly)) (hpl : (plainL lx && plainL ly) = true) (fx : (Value.agg (List.toArray (valsL lx))).formed P T = true) (fy : (Value.agg (List.toArray (valsL ly))).formed P T = true)
   (kx : P.keyLits D T (valsL lx) = some (litsL lx)) (ky : P.keyLits D T (valsL ly) = some (litsL ly)) {r : Bool} (hr : r = true ↔ litsL lx = litsL ly) (N : Nat) : OpOK P N ids o K B (.c (.one (.d (.bool r)))) ⟨[],[],[]⟩:=by
 have m1 : x ∈ o.op.operands:=by rw [ho]; simp [Op.operands]
 have m2 : y ∈ o.op.operands:=by rw [ho]; simp [Op.operands]
 simp only [Bool.and_eq_true] at hpl
 refine OpOK.val fun K' B' g1 g2 C ρ F a w hM hS=>?_
 obtain ⟨vs,e1,h1⟩:=hS.ev ((g1 x m1).trans hx)
 obtain ⟨us,e2,h2⟩:=hS.ev ((g1 y m2).trans hy)
 have h1:=denL_vals hpl.1 h1
 have h2:=denL_vals hpl.2 h2
 subst h1 h2
 obtain ⟨q,hq,hiff⟩:=run_equalIn_deep (P:=P) (10000 - m) m T hk w D D (.agg (List.toArray (valsL lx))) (.agg (List.toArray (valsL ly))) (litsL lx) (litsL ly) fx fy (by simpa [Value.cells] using kx) (by simpa [Value.cells] using ky)
 rw [show 10000 - m + m = 10000 by omega] at hq
 have hqr : q = r:=by
   cases q <;> cases r
   · rfl
   · exact absurd (hiff.2 (hr.1 rfl)) (by simp)
   · exact absurd (hr.2 (hiff.1 rfl)) (by simp)
   · rfl
 subst hqr
 refine ⟨.bool q,?_,rfl⟩
 simp only [execOp,ho,e1,e2,Sem.run_bind,run_eqGuard_agg w .eql T x y _ _ hg,Result.andThen_ok,run_eql_struct,hq,Sem.run_pure]
/-- A struct's part that is one cell. -/
theorem opOK_field {o : Oper} {T : TypeId} {x : Operand} {f : Nat} {l : List S1} {fs : Array Field} {fd : Field} {d : TypeDesc} {s : S1} (ho : o.op = .field T x f) (hT : P.underlying T = some (.struct fs)) (hfd : fs[f]? = some fd) (hd : P.underlying fd.type = some d) (hrow : d.isRow = false)
   (hx : opv K x = .c (.agg l)) (hs : l[fd.offset]? = some s) (N : Nat) : OpOK P N ids o K B (.c (.one s)) ⟨[],[],[]⟩:=by
 have m1 : x ∈ o.op.operands:=by rw [ho]; simp [Op.operands]
 refine OpOK.val fun K' B' g1 g2 C ρ F a w hM hS=>?_
 obtain ⟨vs,e1,h1⟩:=hS.ev ((g1 x m1).trans hx)
 obtain ⟨v,hv,hden⟩:=DenL.get _ _ h1 fd.offset s hs
 refine ⟨v,?_,hden⟩
 have hagg : (Go.isAgg fd.type).run P w = .ok false w:=by cases d <;> first | (simp [TypeDesc.isRow] at hrow; done) | simp [Go.isAgg,run_underlying hd]
 have hvs : (List.toArray vs)[fd.offset]? = some v:=by simpa using hv
 simp only [execOp,ho,e1,Instr.field,Sem.run_bind,run_underlying hT,Result.andThen_ok,hfd,asAgg,Sem.run_pure,part,hagg,Bool.false_eq_true,if_false,hvs]
theorem cell_arr {n : Nat} {u : U} (g : List (El u)) (i q : Nat) (hq : q < sz u) : cellU (.arr n u) g (i * sz u + q) = cellU u (List.getD g i (dflt u)) q:=by
 show cellU u (List.getD g ((i * sz u + q) / sz u) (dflt u)) ((i * sz u + q) % sz u) = _
 rw [show (i * sz u + q) / sz u = i by rw [Nat.mul_comm,Nat.mul_add_div (by omega),Nat.div_eq_of_lt hq,Nat.add_zero],show (i * sz u + q) % sz u = q by rw [Nat.mul_comm,Nat.mul_add_mod,Nat.mod_eq_of_lt hq]]
/-- An array's element: a struct,or an array. -/
theorem opOK_indexArr {o : Oper} {T : TypeId} {x i : Operand} {n e : Nat} {inf : TypeInfo} {d : TypeDesc} {u : U} {g : List (El u)} {j : Int} (ho : o.op = .index T x i) (hT : P.underlying T = some (.array n e)) (he : P.underlying e = some d) (hrow : d.isRow = true) (hi : P.info? e = some inf) (hz : inf.size = sz u)
   (hx : opv K x = .c (.agg (listU (.arr n u) g 0 (n * sz u)))) (hj : opv K i = .c (.one (.d (.int .i64 j)))) (h0 : 0 ≤ j) (h1 : j < n) (N : Nat) : OpOK P N ids o K B (.c (.agg (listU u (List.getD g j.toNat (dflt u)) 0 (sz u)))) ⟨[],[],[]⟩:=by
 have m1 : x ∈ o.op.operands:=by rw [ho]; simp [Op.operands]
 have m2 : i ∈ o.op.operands:=by rw [ho]; simp [Op.operands]
 refine OpOK.val fun K' B' g1 g2 C ρ F a w hM hS=>?_
 obtain ⟨vs,e1,hd⟩:=hS.ev ((g1 x m1).trans hx)
 have e2:=hS.int ((g1 i m2).trans hj)
 have hlen : vs.length = n * sz u:=(DenL.length _ _ hd).trans (listU_length (.arr n u) g _ _)
 have hagg : (Go.isAgg e).run P w = .ok true w:=by cases d <;> first | (simp [TypeDesc.isRow] at hrow; done) | simp [Go.isAgg,run_underlying he]
 have hsz : (sizeOf e).run P w = .ok (sz u) w:=by simp [sizeOf,typeInfo,hi,hz]
 have hle : j.toNat * sz u + sz u ≤ n * sz u:=by
   have:=Nat.mul_le_mul_right (sz u) (show j.toNat + 1 ≤ n by omega)
   rw [Nat.succ_mul] at this
   exact this
 refine ⟨.agg ((List.toArray vs).extract (j.toNat * sz u) (j.toNat * sz u + sz u)),?_,(vs.drop (j.toNat * sz u)).take (sz u),by simp [List.extract],?_⟩
 · simp [execOp,ho,e1,e2,Instr.index,asIntOf,run_underlying hT,h0,h1,hsz,part,hagg]
 · have key : ∀ (m o2 : Nat),o2 + m ≤ sz u → DenL ρ (Imm C B' F w) w (listU u (List.getD g j.toNat (dflt u)) o2 m) ((vs.drop (j.toNat * sz u + o2)).take m):=fun m=>by
     induction m with
     | zero=>intro o2 _; simp [listU,DenL]
     | succ m ih =>
       intro o2 hm
       have hlt : j.toNat * sz u + o2 < n * sz u:=by omega
       obtain ⟨v,hv,hvd⟩:=DenL.get _ _ hd _ _ (listU_get (.arr n u) g (n * sz u) 0 (j.toNat * sz u + o2) hlt)
       have hdrop : vs.drop (j.toNat * sz u + o2) = v :: vs.drop (j.toNat * sz u + (o2 + 1)):=by
         obtain ⟨hl,hv'⟩:=List.getElem?_eq_some_iff.1 hv
         rw [List.drop_eq_getElem_cons hl,hv',Nat.add_assoc]
       rw [hdrop,List.take_succ_cons]
       refine ⟨v,_,rfl,?_,ih (o2 + 1) (by omega)⟩
       have hc : cellU (.arr n u) g (0 + (j.toNat * sz u + o2)) = cellU u (List.getD g j.toNat (dflt u)) o2:=by
         rw [Nat.zero_add]
         exact cell_arr g _ _ (by omega)
       rw [hc] at hvd
       exact hvd
   exact key (sz u) 0 (by omega)
/-! ### an array of one's own -/
/-- Cells that are a value. -/
theorem Le.toVal (c : Nat) {u : U} {x : El u} (hw : WfU u x) (hc : lookB B c = some (.cells (listU u x 0 (sz u)))) : Le ids K B K ((c,.val u x) :: B):=by
 rintro N C a w ⟨hn,hd,ρ,F,hM,hS⟩
 obtain ⟨hF,vs,T,hb,hden⟩:=hM.holds c _ hc
 obtain ⟨hM',hE⟩:=hM.turn (w':=w) (ch:=.val u x) hc (Fr.refl _ _) fun I hI=>⟨hF,vs,T,hb,by rw [DenL.length _ _ hden,listU_length],listU_mk hw (DenL.mono (ρ':=ρ) hI _ _ (fun _ _=>rfl) hden)⟩
 exact ⟨hn,hd,ρ,F,hM',hS.mono hE fun _ _ _=>rfl⟩
theorem opOK_indexVal {o : Oper} {T : TypeId} {x i : Operand} {n e c : Nat} {inf : TypeInfo} {s : Nat} {j : Int} (ho : o.op = .indexAddr T x i) (hT : P.underlying T = some (.array n e)) (hi : P.info? e = some inf) (hz : inf.size = s)
   (hx : opv K x = .c (.one (.ptr c 0))) (hj : opv K i = .c (.one (.d (.int .i64 j)))) (h0 : 0 ≤ j) (h1 : j < n) (N : Nat) : OpOK P N ids o K B (.c (.one (.rp c s j.toNat 0))) ⟨[],[],[]⟩:=by
 have m1 : x ∈ o.op.operands:=by rw [ho]; simp [Op.operands]
 have m2 : i ∈ o.op.operands:=by rw [ho]; simp [Op.operands]
 refine OpOK.val fun K' B' g1 g2 C ρ F a w hM hS=>?_
 have e1:=hS.ptr ((g1 x m1).trans hx)
 have e2:=hS.int ((g1 i m2).trans hj)
 have hsz : (sizeOf e).run P w = .ok s w:=by simp [sizeOf,typeInfo,hi,hz]
 refine ⟨.pointer (some ⟨(ρ c).blk,j.toNat * s,none⟩),?_,rfl⟩
 simp [execOp,ho,e1,e2,Instr.indexAt,asIntOf,run_underlying hT,h0,h1,hsz,Instr.sureAddr,addr_add]
theorem denU_set {I : Nat → Prop} {w : World} {n : Nat} {u : U} {g : List (El u)} {c : Nat → Option Value} (hd : DenU I w (.arr n u) g c) {y : El u} {j : Nat} {cs : List Value} (hl : cs.length = sz u) (hy : DenU I w u y (fun i=>cs[i]?)) (hj : j < n) :
   DenU I w (.arr n u) (g.set j y) (fun i=>if j * sz u ≤ i ∧ i < j * sz u + sz u then cs[i - j * sz u]? else c i):=by
 obtain ⟨h1,h2⟩:=hd
 refine ⟨by rw [List.length_set]; exact h1,fun i z hz=>?_⟩
 unfold lget at hz
 rw [List.getElem?_set] at hz
 split at hz
 · rename_i e
   subst e
   split at hz
   · injection hz with hz
     subst hz
     refine DenU.mono (Ext.refl _ _) u y _ _ (fun q v hv=>?_) hy
     have hq : q < sz u:=by rw [← hl]; exact (List.getElem?_eq_some_iff.1 hv).1
     simp only
     rw [if_pos ⟨by omega,by omega⟩,show j * sz u + q - j * sz u = q by omega]
     exact hv
   · cases hz
 · rename_i hne
   have hwf:=h2 i z hz
   rcases Nat.eq_zero_or_pos (sz u) with h0 | h0
   · refine DenU.mono (Ext.refl _ _) u z _ _ (fun q v hv=>?_) hwf
     simp only
     rw [if_neg (by omega)]
     exact hv
   · refine DenU.mk u z _ (DenU.wf u z _ hwf) fun q hq=>?_
     obtain ⟨v,hv,hvd⟩:=DenU.cell u z _ q hwf hq
     refine ⟨v,?_,hvd⟩
     simp only
     rw [if_neg ?_]
     · exact hv
     · rintro ⟨a1,a2⟩
       rcases Nat.lt_or_gt_of_ne hne with hlt | hgt
       · have:=Nat.mul_le_mul_right (sz u) (show j + 1 ≤ i by omega)
         rw [Nat.succ_mul] at this
         omega
       · have:=Nat.mul_le_mul_right (sz u) (show i + 1 ≤ j by omega)
         rw [Nat.succ_mul] at this
         omega
theorem opOK_storeVal {o : Oper} {T : TypeId} {x v : Operand} {c n j : Nat} {u : U} {g : List (El u)} {y : El u} {inf : TypeInfo} (ho : o.op = .store T x v) (hi : P.info? T = some inf) (hz : inf.size = sz u) (hx : opv K x = .c (.one (.rp c (sz u) j 0))) (hj : j < n)
   (hc : lookB B c = some (.val (.arr n u) g)) (hv : opv K v = .c (.agg (listU u y 0 (sz u)))) (hw : WfU u y) (N : Nat) : OpOK P N ids o K B .undef ⟨[c],[],[(c,some (.val (.arr n u) (g.set j y)))]⟩:=by
 have m1 : x ∈ o.op.operands:=by rw [ho]; simp [Op.operands]
 have m2 : v ∈ o.op.operands:=by rw [ho]; simp [Op.operands]
 refine OpOK.turn hc fun K' B' g1 C ρ F a w hM hS hl'=>?_
 obtain ⟨hF,vs,T',hb,hlen,hden⟩:=hM.holds c _ hl'
 have e1:=hS.rp ((g1 x m1).trans hx)
 obtain ⟨us,e2,h2⟩:=hS.ev ((g1 v m2).trans hv)
 have hul : us.length = sz u:=by rw [DenL.length _ _ h2,listU_length]
 have hud:=listU_mk hw h2
 have hfit : j * sz u + us.length ≤ vs.length:=by
   have:=Nat.mul_le_mul_right (sz u) (show j + 1 ≤ n by omega)
   rw [Nat.succ_mul] at this
   rw [hlen,hul]
   exact this
 have hone : ∀ z,z ∈ us → z.oneCell' = true:=fun z hz=>by
   obtain ⟨q,hq,rfl⟩:=List.getElem_of_mem hz
   obtain ⟨z',hz',ho'⟩:=DenU.one u y _ hud q (by omega)
   rw [List.getElem?_eq_getElem hq] at hz'
   injection hz' with hz'
   rw [hz']
   exact ho'
 have hrun:=exec_store (P:=P) (o:=o) (ev:=a.eval) (w:=w) (us:=us) ho (by rw [e1,Nat.add_zero]) (by rw [e2]; rfl) hi (hz.trans hul.symm) hb hfit hone
 have hset : (w.setRow (ρ c).blk (List.toArray (vs.take (j * sz u) ++ us ++ vs.drop (j * sz u + us.length)))).heap[(ρ c).blk]? = some (.cells (List.toArray (vs.take (j * sz u) ++ us ++ vs.drop (j * sz u + us.length))) T' (0,0)):=setRow_heap w _ _ _ T' _ hb
 refine ⟨_,hrun,⟨rfl,rfl,rfl,by simp [World.setRow],fun k _ hk=>setRow_other w _ k _ (fun e=>hk ((hF k).2 e))⟩,fun I hE=>⟨hF,_,T',hset,?_,?_⟩⟩
 · rw [List.length_append,List.length_append,List.length_take,List.length_drop]
   omega
 · refine DenU.mk (.arr n u) (g.set j y) _ ?_ ?_
   · have hwg:=DenU.wf (.arr n u) g _ hden
     refine ⟨by rw [List.length_set]; exact hwg.1,fun z hz=>?_⟩
     rcases List.mem_or_eq_of_mem_set hz with hz | rfl
     · exact hwg.2 z hz
     · exact hw
   · intro q hq
     have hnew:=denU_set hden (y:=y) (j:=j) hul hud hj
     obtain ⟨z,hz,hzd⟩:=DenU.cell (.arr n u) _ _ q hnew hq
     refine ⟨z,?_,Den.mono hE _ _ hzd⟩
     rw [← hz]
     have hq' : q < vs.length:=by rw [hlen]; exact hq
     split
     · rename_i hin
       rw [List.append_assoc,List.getElem?_append_right (by rw [List.length_take]; omega),List.length_take,List.getElem?_append_left (by omega)]
       congr 1
       omega
     · rename_i hout
       rcases Nat.lt_or_ge q (j * sz u) with hlt | hge
       · rw [List.append_assoc,List.getElem?_append_left (by rw [List.length_take]; omega),List.getElem?_take,if_pos hlt]
       · have : j * sz u + sz u ≤ q:=by
           rcases Nat.lt_or_ge q (j * sz u + sz u) with h | h
           · exact absurd ⟨hge,h⟩ hout
           · exact h
         rw [List.getElem?_append_right (by rw [List.length_append,List.length_take]; omega),List.length_append,List.length_take,List.getElem?_drop]
         congr 1
         omega
theorem opOK_loadVal {o : Oper} {T : TypeId} {x : Operand} {c : Nat} {u : U} {y : El u} {inf : TypeInfo} {d : TypeDesc} (ho : o.op = .load T x) (hT : P.underlying T = some d) (hrow : d.isRow = true) (hi : P.info? T = some inf) (hz : inf.size = sz u) (hx : opv K x = .c (.one (.ptr c 0)))
   (hc : lookB B c = some (.val u y)) (N : Nat) : OpOK P N ids o K B (.c (.agg (listU u y 0 (sz u)))) ⟨[c],[],[]⟩:=by
 have m1 : x ∈ o.op.operands:=by rw [ho]; simp [Op.operands]
 refine OpOK.val fun K' B' g1 g2 C ρ F a w hM hS=>?_
 obtain ⟨hF,vs,T',hb,hlen,hden⟩:=hM.holds c _ ((g2 c (by simp)).trans hc)
 have e1:=hS.ptr ((g1 x m1).trans hx)
 obtain ⟨us,h1,h2⟩:=listU_den (ρ:=ρ) hden (sz u) 0 (by omega)
 refine ⟨_,exec_loadn (cs:=us) ho e1 hT hrow hi (by rw [DenL.length _ _ h1,listU_length]; exact hz) (fun j v hj=>?_),us,rfl,h1⟩
 have:=h2 j v hj
 exact cell_of hb this
/-- A literal without parts: zero. -/
theorem opOK_build0 {tt : Tr} (hP : TblOK P tt) {o : Oper} {T n e : Nat} {ti : TI} (ho : o.op = .build T #[]) (ht : tt.find T = some ti) (hT : P.underlying T = some (.array n e)) {ie : TypeInfo} (hie : P.info? e = some ie) (hrow : ti.row = true) (N : Nat) : OpOK P N ids o K B (.c (.agg ti.zero)) ⟨[],[],[]⟩:=by
 refine OpOK.val fun K' B' g1 g2 C ρ F a w hM hS=>?_
 obtain ⟨i,d,hok⟩:=hP.at_ ht
 obtain ⟨z,hz,hzl⟩:=hok.zero
 obtain ⟨z1,z2⟩:=zeroL_den (ρ:=ρ) (I:=Imm C B' F w) (w:=w) _ _ hzl
 refine ⟨.agg z.cells,?_,z.cells.toList,by simp,z1⟩
 simp [execOp,ho,Instr.build,zeroValue,typeInfo,hok.info,hz,run_underlying hT,sizeOf,hie,Instr.fill]
/-- Numbers,all 0. -/
theorem opOK_makeInts {o : Oper} {T e d : Nat} {x y : Operand} {inf : TypeInfo} {n : Int} (ho : o.op = .makeSlice T x y) (hT : P.underlying T = some (.slice e)) (hi : P.info? e = some inf) (hz : inf.zero = some (.int .i64 0)) (hs : inf.size = 1) (hb : inf.bytes = 8)
   (hx : opv K x = .c (.one (.d (.int .i64 n)))) (hy : opv K y = .c (.one (.d (.int .i64 n)))) (h0 : 0 ≤ n) (h1 : n ≤ 1000000) (N : Nat) : OpOK P N ids o K B (.c (.one (.own d))) ⟨[],[d],[(d,some (.row e (.int .i64) (List.replicate n.toNat (0 : Int))))]⟩:=by
 have m1 : x ∈ o.op.operands:=by rw [ho]; simp [Op.operands]
 have m2 : y ∈ o.op.operands:=by rw [ho]; simp [Op.operands]
 refine OpOK.make (fun d h=>has_own h) fun K' B' g1 g2 C ρ F a w hM hS hn=>?_
 have hx':=hS.int ((g1 x m1).trans hx)
 have hy':=hS.int ((g1 y m2).trans hy)
 have hrun:=run_make (P:=P) w T e inf _ hT hi hz .i64 .i64 n n h0 (Int.le_refl _) (by rw [hb]; omega) (by omega)
 have hcells : madeCells (Value.int .i64 0).cells (n.toNat * inf.size) = (List.replicate n.toNat (Value.int .i64 0)).toArray:=by
   rw [hs]
   simp [madeCells,Value.cells]
   apply Array.ext
   · simp
   · intro i h1 h2
     simp [Nat.mod_one]
 rw [hcells] at hrun
 refine ⟨.slice (some ⟨w.heap.size,0,none⟩) n.toNat n.toNat,w.alloc (.cells (List.replicate n.toNat (.int .i64 0)).toArray e),⟨w.heap.size,some ⟨w.heap.size,0,none⟩,n.toNat,n.toNat⟩,fun b=>b = w.heap.size,?_,alloc_below w _,fun b hb=>?_,fun I hE hI=>⟨⟨?_,?_,List.replicate n.toNat (.int .i64 0),?_,?_⟩,?_⟩⟩
 · simp only [execOp,ho,Sem.run_bind,hx',hy',hrun,Result.andThen_ok,Sem.run_pure]
 · subst hb; simp
 · intro b
   simp [Pl.hdr,Value.ownBlock,eq_comm]
 · intro b hb
   simp [Pl.hdr,Value.ownBlock] at hb
   exact hb.symm
 · have:=ownsRow_new w e 1 n.toNat (List.replicate n.toNat (.int .i64 0)) (by simp) (by simp only [maxLen]; omega)
   have e1 : List.length (α:=El (.int .i64)) (List.replicate n.toNat (0 : Int)) = n.toNat:=List.length_replicate
   rw [e1]
   exact this
 · intro i z hz
   obtain ⟨hi,hz'⟩:=List.getElem?_eq_some_iff.1 hz
   have hz2 : z = (0 : Int):=by rw [← hz']; exact List.getElem_replicate ..
   subst hz2
   have hi : i < n.toNat:=by
     have h1 : i < List.length (α:=Int) (List.replicate n.toNat (0 : Int)):=hi
     rw [List.length_replicate] at h1
     exact h1
   show (List.replicate n.toNat (Value.int .i64 0))[i * 1 + 0]? = some (.int .i64 0)
   simp [hi]
 · simp only [DenV,DenC,DenS,upd_same]
   rfl
theorem run_eql_func (w : World) {T : TypeId} {ps rs : Array TypeId} {va : Bool} (hT : P.underlying T = some (.func ps rs va)) (f : Go.Fn) (a b : Array Value) : (binOp .eql T (.func f a b) .nilFunc).run P w = .ok (.bool false) w ∧ (binOp .neq T (.func f a b) .nilFunc).run P w = .ok (.bool true) w:=by
 have h0 : ∀ d,(Op.equalIn (d + 1) T (.func f a b) .nilFunc).run P w = .ok false w:=fun d=>by simp [Op.equalIn,run_underlying hT]
 have h : (Op.equalIn 10000 T (.func f a b) .nilFunc).run P w = .ok false w:=h0 9999
 constructor
 · simp only [binOp]
   simp [Op.equal,Op.maxDepth,h]
 · simp only [binOp]
   simp [Op.equal,Op.maxDepth,h]
theorem opOK_fnNil {o : Oper} {T T2 : TypeId} {x : Operand} {op : BinOp} {y : Nat × List Nat} {b : Bool} {ps rs : Array TypeId} {va : Bool} (hop : (op = .eql ∧ b = false) ∨ (op = .neq ∧ b = true)) (ho : o.op = .binOp op T x (.const .nilFunc) T2) (hT : P.underlying T = some (.func ps rs va))
   (hx : opv K x = .c (.one (.d (.fn y)))) (N : Nat) : OpOK P N ids o K B (.c (.one (.d (.lit b)))) ⟨[],[],[]⟩:=by
 have m1 : x ∈ o.op.operands:=by rw [ho]; simp [Op.operands]
 refine OpOK.val fun K' B' g1 g2 C ρ F a w hM hS=>?_
 have e1 : a.eval x = fnV y:=hS.ev ((g1 x m1).trans hx)
 refine ⟨.bool b,?_,rfl⟩
 have e2 : a.eval (.const .nilFunc) = .nilFunc:=rfl
 rcases hop with ⟨rfl,rfl⟩ | ⟨rfl,rfl⟩
 · have h:=(run_eql_func (P:=P) w hT (.func y.1) #[] (List.toArray (ptrsV y.2))).1
   simp [execOp,ho,e1,e2,eqGuard,fnV,h]
 · have h:=(run_eql_func (P:=P) w hT (.func y.1) #[] (List.toArray (ptrsV y.2))).2
   simp [execOp,ho,e1,e2,eqGuard,fnV,h]
theorem run_eql_nilfunc (w : World) {T : TypeId} {ps rs : Array TypeId} {va : Bool} (hT : P.underlying T = some (.func ps rs va)) : (binOp .eql T .nilFunc .nilFunc).run P w = .ok (.bool true) w ∧ (binOp .neq T .nilFunc .nilFunc).run P w = .ok (.bool false) w:=by
 have h0 : ∀ d,(Op.equalIn (d + 1) T .nilFunc .nilFunc).run P w = .ok true w:=fun d=>by simp [Op.equalIn,run_underlying hT]
 have h : (Op.equalIn 10000 T .nilFunc .nilFunc).run P w = .ok true w:=h0 9999
 constructor
 · simp only [binOp]
   simp [Op.equal,Op.maxDepth,h]
 · simp only [binOp]
   simp [Op.equal,Op.maxDepth,h]
theorem opOK_nilNil {o : Oper} {T T2 : TypeId} {x : Operand} {op : BinOp} {b : Bool} {ps rs : Array TypeId} {va : Bool} (hop : (op = .eql ∧ b = true) ∨ (op = .neq ∧ b = false)) (ho : o.op = .binOp op T x (.const .nilFunc) T2) (hT : P.underlying T = some (.func ps rs va))
   (hx : opv K x = .c (.one (.raw .nilFunc))) (N : Nat) : OpOK P N ids o K B (.c (.one (.d (.lit b)))) ⟨[],[],[]⟩:=by
 have m1 : x ∈ o.op.operands:=by rw [ho]; simp [Op.operands]
 refine OpOK.val fun K' B' g1 g2 C ρ F a w hM hS=>?_
 have e1:=hS.raw ((g1 x m1).trans hx)
 refine ⟨.bool b,?_,rfl⟩
 have e2 : a.eval (.const .nilFunc) = .nilFunc:=rfl
 rcases hop with ⟨rfl,rfl⟩ | ⟨rfl,rfl⟩
 · have h:=(run_eql_nilfunc (P:=P) w hT).1
   simp [execOp,ho,e1,e2,eqGuard,h]
 · have h:=(run_eql_nilfunc (P:=P) w hT).2
   simp [execOp,ho,e1,e2,eqGuard,h]
end
end Go.Proofs.YteoamepgonpdlaaGreat
/-!
  Maps as lists of entries: get, put, delete. No program in sight.
-/
namespace Go.Proofs.YteoamepgonpdlaaGreat
set_option linter.unusedVariables false
set_option linter.unusedSimpArgs false
open Go.RowKit
/-- No key is there twice. -/
def KNd {ku vu : U} (es : List (El ku × El vu)) : Prop:=es.Pairwise fun p q=>eqKey ku p.1 q.1 = false
theorem eqI_iff (a b : Int) : eqI a b = true ↔ a = b:=decide_eq_true_iff
theorem eqS_iff (a b : List UInt8) : eqS a b = true ↔ a = b:=decide_eq_true_iff
theorem eqKey_int {k : IntKind} (a b : El (.int k)) : eqKey (.int k) a b = true ↔ a = b:=eqI_iff a b
theorem eqKey_str (a b : El .str) : eqKey .str a b = true ↔ a = b:=eqS_iff a b
section
variable {ku vu : U} (hL : ∀ a b : El ku,eqKey ku a b = true ↔ a = b)
include hL
theorem eqKey_ne {a b : El ku} (h : a ≠ b) : eqKey ku a b = false:=by
 cases e : eqKey ku a b with
 | false=>rfl
 | true=>exact absurd ((hL a b).1 e) h
theorem eqKey_refl (a : El ku) : eqKey ku a a = true:=(hL a a).2 rfl
theorem mget_mput (k : El ku) (x : El vu) : ∀ (es : List (El ku × El vu)),mget (mput es k x) k = some x ∧ ∀ j,j ≠ k → mget (mput es k x) j = mget es j
 | []=>by
   refine ⟨?_,fun j hj=>?_⟩
   · simp only [mput,mget,eqKey_refl hL]
   · simp only [mput,mget,eqKey_ne hL hj]
 | p :: es=>by
   obtain ⟨h1,h2⟩:=mget_mput k x es
   unfold mput
   cases e : eqKey ku k p.1 with
   | true =>
     have e1:=(hL _ _).1 e
     simp only
     refine ⟨by simp only [mget,eqKey_refl hL],fun j hj=>?_⟩
     simp only [mget,eqKey_ne hL hj,eqKey_ne hL (fun h=>hj (h.trans e1.symm))]
   | false =>
     simp only
     refine ⟨by simp only [mget,e,h1],fun j hj=>?_⟩
     simp only [mget,h2 j hj]
theorem mget_none_of {k : El ku} : ∀ {es : List (El ku × El vu)},(∀ p,p ∈ es → eqKey ku p.1 k = false) → mget es k = none
 | [],_=>rfl
 | p :: es,h=>by
   have h1:=h p (List.mem_cons_self ..)
   have : eqKey ku k p.1 = false:=eqKey_ne hL fun e=>by rw [e,eqKey_refl hL] at h1; cases h1
   simp only [mget,this]
   exact mget_none_of fun q hq=>h q (List.mem_cons_of_mem _ hq)
theorem mget_mdel (k : El ku) : ∀ (es : List (El ku × El vu)),KNd es → mget (mdel es k) k = none ∧ ∀ j,j ≠ k → mget (mdel es k) j = mget es j
 | [],_=>⟨rfl,fun _ _=>rfl⟩
 | p :: es,hn=>by
   obtain ⟨n1,n2⟩:=List.pairwise_cons.1 hn
   obtain ⟨h1,h2⟩:=mget_mdel k es n2
   unfold mdel
   cases e : eqKey ku k p.1 with
   | true =>
     have e1:=(hL _ _).1 e
     subst e1
     simp only
     refine ⟨mget_none_of hL fun q hq=>?_,fun j hj=>?_⟩
     · have:=n1 q hq
       exact eqKey_ne hL fun e=>by rw [← e,eqKey_refl hL] at this; cases this
     · simp only [mget,eqKey_ne hL hj]
   | false =>
     simp only
     refine ⟨by simp only [mget,e,h1],fun j hj=>?_⟩
     simp only [mget,h2 j hj]
omit hL in
theorem mem_mput {k : El ku} {x : El vu} : ∀ {es : List (El ku × El vu)} {q : El ku × El vu},q ∈ mput es k x → q = (k,x) ∨ q ∈ es
 | [],q,h=>by
   unfold mput at h
   exact .inl (List.mem_singleton.1 h)
 | p :: es,q,h=>by
   unfold mput at h
   split at h
   · rcases List.mem_cons.1 h with h | h
     · exact .inl h
     · exact .inr (List.mem_cons_of_mem _ h)
   · rcases List.mem_cons.1 h with h | h
     · exact .inr (by rw [h]; exact List.mem_cons_self ..)
     · exact (mem_mput h).imp id (List.mem_cons_of_mem _)
omit hL in
theorem mem_mdel {k : El ku} : ∀ {es : List (El ku × El vu)} {q : El ku × El vu},q ∈ mdel es k → q ∈ es
 | [],q,h=>by cases h
 | p :: es,q,h=>by
   unfold mdel at h
   split at h
   · exact List.mem_cons_of_mem _ h
   · rcases List.mem_cons.1 h with h | h
     · rw [h]; exact List.mem_cons_self ..
     · exact List.mem_cons_of_mem _ (mem_mdel h)
theorem KNd.put {k : El ku} {x : El vu} : ∀ {es : List (El ku × El vu)},KNd es → KNd (mput es k x)
 | [],_=>List.pairwise_singleton _ _
 | p :: es,hn=>by
   obtain ⟨n1,n2⟩:=List.pairwise_cons.1 hn
   unfold mput
   split
   · rename_i e
     have e1:=(hL _ _).1 e
     refine List.pairwise_cons.2 ⟨fun q hq=>?_,n2⟩
     have:=n1 q hq
     simp only
     rw [e1]
     exact this
   · rename_i e
     refine List.pairwise_cons.2 ⟨fun q hq=>?_,KNd.put n2⟩
     rcases mem_mput hq with rfl | hq
     · simp only
       exact eqKey_ne hL fun h=>by rw [h,eqKey_refl hL] at e; cases e
     · exact n1 q hq
omit hL in
theorem KNd.del {k : El ku} : ∀ {es : List (El ku × El vu)},KNd es → KNd (mdel es k)
 | [],h=>h
 | p :: es,hn=>by
   obtain ⟨n1,n2⟩:=List.pairwise_cons.1 hn
   unfold mdel
   split
   · exact n2
   · exact List.pairwise_cons.2 ⟨fun q hq=>n1 q (mem_mdel hq),KNd.del n2⟩
theorem mget_mem_key {k : El ku} {x : El vu} : ∀ {es : List (El ku × El vu)},mget es k = some x → (k,x) ∈ es
 | [],h=>by cases h
 | p :: es,h=>by
   unfold mget at h
   split at h
   · rename_i e
     injection h with h
     have e1:=(hL _ _).1 e
     subst h e1
     exact List.mem_cons_self ..
   · exact List.mem_cons_of_mem _ (mget_mem_key h)
end
end Go.Proofs.YteoamepgonpdlaaGreat
/-!
  The table: slots of clusters, kept by groups.
-/
namespace Go.Proofs.YteoamepgonpdlaaGreat
set_option linter.unusedVariables false
set_option linter.unusedSimpArgs false
set_option maxRecDepth 10000
open Go.RowKit Go.Proofs
@[reducible] def uSl : U:=.pr (.int .i64) (.pr (.int .i64) .bool)
@[reducible] def uG : U:=.arr 16 uSl
/-- A slot: its kind,its cluster,whether that is its own. -/
abbrev Slt:=Int × Int × Bool
@[reducible] def slL (s : Slt) : List S1:=[.d (.int .i64 s.1),.d (.int .i64 s.2.1),.d (.bool s.2.2)]
@[reducible] def vSl (s : Slt) : SC:=.agg (slL s)
@[reducible] def s0 : Slt:=(0,0,false)
/-- Its numbers are small. -/
def slOK (s : Slt) : Prop:=(-1000000 ≤ s.1 ∧ s.1 ≤ 1000000) ∧ -1000000 ≤ s.2.1 ∧ s.2.1 ≤ 1000000
def g0 : List Slt:=List.replicate 16 s0
@[reducible] def tabB (n : Int) (es : List (El uI × El uG)) : BL:=[(1001,.cells [.d (.int .i64 n),.mp 1002]),(1002,.map uI uG es)]
def gAt (es : List (El uI × El uG)) (k : Int) : List Slt:=(mget (ku:=uI) (vu:=uG) es k).getD g0
structure TabR (t : List Slt) (es : List (El uI × El uG)) : Prop where
 nd : KNd es
 wf : ∀ p,p ∈ es → List.length (α:=Slt) p.2 = 16
 ok : ∀ k i,slOK ((gAt es k).getD i s0)
 at_ : ∀ c (h : c < t.length),(gAt es ((c / 16 : Nat) : Int)).getD (c % 16) s0 = t[c]
theorem TabR.len {t : List Slt} {es : List (El uI × El uG)} (h : TabR t es) (k : Int) : (gAt es k).length = 16:=by
 unfold gAt
 cases e : mget (ku:=uI) (vu:=uG) es k with
 | none=>rfl
 | some g=>exact h.wf _ (mget_mem_key eqKey_int e)
theorem gAt_put (es : List (El uI × El uG)) (k : Int) (g : List Slt) : gAt (mput (ku:=uI) (vu:=uG) es k g) k = g ∧ ∀ j,j ≠ k → gAt (mput (ku:=uI) (vu:=uG) es k g) j = gAt es j:=by
 obtain ⟨h1,h2⟩:=mget_mput (ku:=uI) (vu:=uG) eqKey_int k g es
 refine ⟨by unfold gAt; rw [h1]; rfl,fun j hj=>?_⟩
 unfold gAt
 rw [h2 j hj]
theorem gAt_del {es : List (El uI × El uG)} (hn : KNd es) (k : Int) : gAt (mdel (ku:=uI) (vu:=uG) es k) k = g0 ∧ ∀ j,j ≠ k → gAt (mdel (ku:=uI) (vu:=uG) es k) j = gAt es j:=by
 obtain ⟨h1,h2⟩:=mget_mdel (ku:=uI) (vu:=uG) eqKey_int k es hn
 refine ⟨by unfold gAt; rw [h1]; rfl,fun j hj=>?_⟩
 unfold gAt
 rw [h2 j hj]
/-- What put leaves. -/
def tput (es : List (El uI × El uG)) (c : Nat) (s : Slt) : List (El uI × El uG) :=
 if (gAt es ((c / 16 : Nat) : Int)).set (c % 16) s = g0 then mdel (ku:=uI) (vu:=uG) es ((c / 16 : Nat) : Int) else mput (ku:=uI) (vu:=uG) es ((c / 16 : Nat) : Int) ((gAt es ((c / 16 : Nat) : Int)).set (c % 16) s)
theorem gAt_tput {t : List Slt} {es : List (El uI × El uG)} (h : TabR t es) (c : Nat) (s : Slt) : gAt (tput es c s) ((c / 16 : Nat) : Int) = (gAt es ((c / 16 : Nat) : Int)).set (c % 16) s ∧ ∀ j,j ≠ ((c / 16 : Nat) : Int) → gAt (tput es c s) j = gAt es j:=by
 unfold tput
 split
 · rename_i e
   obtain ⟨h1,h2⟩:=gAt_del h.nd ((c / 16 : Nat) : Int)
   exact ⟨h1.trans e.symm,h2⟩
 · exact gAt_put es _ _
theorem TabR.set {t : List Slt} {es : List (El uI × El uG)} (h : TabR t es) (c : Nat) (s : Slt) (hs : slOK s) : TabR (t.set c s) (tput es c s):=by
 obtain ⟨g1,g2⟩:=gAt_tput h c s
 refine ⟨?_,?_,fun k i=>?_,fun d hd=>?_⟩
 · unfold tput
   split
   · exact KNd.del h.nd
   · exact KNd.put eqKey_int h.nd
 · intro p hp
   unfold tput at hp
   split at hp
   · exact h.wf p (mem_mdel hp)
   · rcases mem_mput hp with rfl | hp
     · show List.length (α:=Slt) ((gAt es ((c / 16 : Nat) : Int)).set (c % 16) s) = 16
       rw [List.length_set]; exact h.len _
     · exact h.wf p hp
 · by_cases e : k = ((c / 16 : Nat) : Int)
   · rw [e,g1,List.getD_eq_getElem?_getD,List.getElem?_set]
     split
     · split
       · exact hs
       · exact ⟨by decide,by decide⟩
     · rw [← List.getD_eq_getElem?_getD]
       exact h.ok _ _
   · rw [g2 _ e]
     exact h.ok _ _
 · rw [List.length_set] at hd
   have hl:=h.len ((c / 16 : Nat) : Int)
   by_cases e : d / 16 = c / 16
   · rw [e,g1]
     by_cases e2 : d = c
     · subst e2
       rw [List.getElem_set_self,List.getD_eq_getElem?_getD,List.getElem?_set_self (by rw [hl]; omega)]
       rfl
     · have hne : c % 16 ≠ d % 16:=fun h=>e2 (by omega)
       rw [List.getElem_set_ne (Ne.symm e2),List.getD_eq_getElem?_getD,List.getElem?_set_ne hne,← List.getD_eq_getElem?_getD,← e]
       exact h.at_ d hd
   · have hne : ((d / 16 : Nat) : Int) ≠ ((c / 16 : Nat) : Int):=fun h=>e (by omega)
     rw [g2 _ hne,List.getElem_set_ne (fun e2=>e (by rw [e2]))]
     exact h.at_ d hd
/-! ### slots -/
theorem slInf : (Tryz.prog.info? 188).map (·.size) = some 3:=by kernel_rfl
def slRight (s : Slt) : Bool:=if s.1 = 1 then decide (0 ≤ s.2.1) && decide (s.2.1 < 512) else decide (s = s0) || decide (s = (2,0,false))
theorem slt_eq (s q : Slt) : decide (s = q) = true ↔ litsL (slL s) = litsL (slL q):=by
 rw [decide_eq_true_iff]
 simp only [litsL,litS,slL,List.cons.injEq,Lit.int.injEq,Lit.bool.injEq,true_and,and_true]
 constructor
 · intro h; subst h; exact ⟨rfl,rfl,rfl⟩
 · rintro ⟨h1,h2,h3⟩; exact Prod.ext h1 (Prod.ext h2 h3)
theorem wf_small {n : Int} (h : -1000000 ≤ n ∧ n ≤ 1000000) : (Lit.int .i64 n).wf = true:=by
 simp only [Lit.wf,Bool.and_eq_true,decide_eq_true_eq]
 have h1 : IntKind.min .i64 = -9223372036854775808:=by decide
 have h2 : IntKind.max .i64 = 9223372036854775807:=by decide
 rw [h1,h2]
 omega
theorem kl_int (d : Nat) {n : Int} (h : -1000000 ≤ n ∧ n ≤ 1000000) : Tryz.prog.keyLits (d + 1) 3 [.int .i64 n] = some [.int .i64 n]:=by
 unfold Program.keyLits
 simp only [Tryz.underlying3]
 have hw:=wf_small h
 simp [hw]
theorem kl_slot (d : Nat) {s : Slt} (h : slOK s) : Tryz.prog.keyLits (d + 2) 188 (valsL (slL s)) = some (litsL (slL s)):=by
 have c1 : Tryz.prog.cellsOf 188 = 3:=by kernel_rfl
 have c2 : Tryz.prog.cellsOf 3 = 1:=by kernel_rfl
 have c3 : Tryz.prog.cellsOf 4 = 1:=by kernel_rfl
 have k1:=kl_int d h.1
 have k2:=kl_int d h.2
 have k3 : Tryz.prog.keyLits (d + 1) 4 [.bool s.2.2] = some [.bool s.2.2]:=by
   unfold Program.keyLits
   simp only [Tryz.underlying4]
 unfold Program.keyLits
 simp only [Tryz.underlying188,c1]
 simp [valsL,valS,slL,c2,c3,k1,k2,k3,litsL,litS]
theorem sright_fn (s : Slt) (hs : slOK s) : Fn Tryz.prog 151 [.c (vSl s)] [] [] (vB (slRight s)) []:=by
 refine Fn.of tblOK [] _ _ _ _ _ Tryz.func151 rfl rfl (by kernel_rfl) (by kernel_rfl) rfl (drawOK tblOK) rfl ?_
 refine ⟨rfl,?_⟩
 refine ⟨fun h1=>?_,fun h1=>?_⟩
 · have h1:=of_decide_eq_true h1
   refine ⟨fun h2=>?_,fun h2=>?_⟩
   · refine ⟨_,_,_,Le.refl _ _,rfl,?_,trivial,rfl⟩
     show decide (s.2.1 < 512) = slRight s
     unfold slRight
     have h2 : decide (0 ≤ s.2.1) = true:=h2
     rw [if_pos h1,h2,Bool.true_and]
   · refine ⟨_,_,_,Le.refl _ _,rfl,?_,trivial,rfl⟩
     show false = slRight s
     unfold slRight
     have h2 : decide (0 ≤ s.2.1) = false:=h2
     rw [if_pos h1,h2,Bool.false_and]
 · have h1:=of_decide_eq_false h1
   refine ⟨_,_,fun N=>opOK_eqDeep (m:=5) (D:=5) (lx:=slL s) (ly:=[.d (.int .i64 0),.d (.int .i64 0),.d (.lit false)]) rfl (by kernel_rfl) (by kernel_rfl) (by decide) rfl rfl rfl rfl rfl (kl_slot 3 hs) (kl_slot 3 (s:=s0) ⟨by decide,by decide⟩) (slt_eq s s0) N,rfl,?_⟩
   refine ⟨fun h2=>?_,fun h2=>?_⟩
   · refine ⟨_,_,_,Le.refl _ _,rfl,?_,trivial,rfl⟩
     show true = slRight s
     unfold slRight
     rw [if_neg h1,h2,Bool.true_or]
   · refine ⟨_,_,fun N=>opOK_eqDeep (m:=5) (D:=5) (lx:=slL s) (ly:=[.d (.int .i64 2),.d (.int .i64 0),.d (.lit false)]) rfl (by kernel_rfl) (by kernel_rfl) (by decide) rfl rfl rfl rfl rfl (kl_slot 3 hs) (kl_slot 3 (s:=(2,0,false)) ⟨by decide,by decide⟩) (slt_eq s (2,0,false)) N,rfl,?_⟩
     refine ⟨_,_,_,Le.refl _ _,rfl,?_,trivial,rfl⟩
     show decide (s = (2,0,false)) = slRight s
     unfold slRight
     rw [if_neg h1,h2,Bool.false_or]
def slWr (s : Slt) : Bool:=decide (s.1 = 1) && s.2.2
theorem swrites_fn (s : Slt) : Fn Tryz.prog 134 [.c (vSl s)] [] [] (vB (slWr s)) []:=by
 refine Fn.of tblOK [] _ _ _ _ _ Tryz.func134 rfl rfl (by kernel_rfl) (by kernel_rfl) rfl (drawOK tblOK) rfl ?_
 refine ⟨rfl,?_⟩
 refine ⟨fun h1=>?_,fun h1=>?_⟩
 · refine ⟨_,_,_,Le.refl _ _,rfl,?_,trivial,rfl⟩
   show s.2.2 = slWr s
   unfold slWr
   have h1 : decide (s.1 = 1) = true:=h1
   rw [h1,Bool.true_and]
 · refine ⟨_,_,_,Le.refl _ _,rfl,?_,trivial,rfl⟩
   show false = slWr s
   unfold slWr
   have h1 : decide (s.1 = 1) = false:=h1
   rw [h1,Bool.false_and]
/-! ### the table's functions,laid open -/
theorem tright_fn (n : Int) : Fn Tryz.prog 113 [vI n] [] [] (vB (decide (0 ≤ n) && decide (n ≤ 256))) []:=by
 refine Fn.of tblOK [] _ _ _ _ _ Tryz.func113 rfl rfl (by kernel_rfl) (by kernel_rfl) rfl (drawOK tblOK) rfl ?_
 refine ⟨fun h=>?_,fun h=>?_⟩
 · refine ⟨_,_,_,Le.refl _ _,rfl,?_,trivial,rfl⟩
   show decide (n ≤ 256) = _
   have h : decide (0 ≤ n) = true:=h
   rw [h,Bool.true_and]
 · refine ⟨_,_,_,Le.refl _ _,rfl,?_,trivial,rfl⟩
   show false = _
   have h : decide (0 ≤ n) = false:=h
   rw [h,Bool.false_and]
theorem tlen_fn (n : Int) (es : List (El uI × El uG)) : Fn Tryz.prog 105 [vP 1001] (tabB n es) [] (vI n) (tabB n es):=by
 refine Fn.of tblOK [] _ _ _ _ _ Tryz.func105 rfl rfl (by kernel_rfl) (by kernel_rfl) rfl (drawOK tblOK) rfl ?_
 exact ⟨_,_,_,Le.refl _ _,rfl,rfl,⟨rfl,rfl,trivial⟩,rfl⟩
theorem tget_fn {t : List Slt} {es : List (El uI × El uG)} (hR : TabR t es) (hl : t.length ≤ 256) (c : Nat) (hc : c < t.length) : Fn Tryz.prog 108 [vP 1001,vI (c : Int)] (tabB (t.length : Nat) es) [] (.c (vSl t[c])) (tabB (t.length : Nat) es):=by
 have hg : (gAt es ((c : Int) / 16)).getD ((c : Int) % 16).toNat s0 = t[c]:=by
   rw [← hR.at_ c hc]
   congr 1
 obtain ⟨sinf,si1,si2⟩ : ∃ i,Tryz.prog.info? 188 = some i ∧ i.size = 3:=by
   have:=slInf
   cases e : Tryz.prog.info? 188 with
   | none=>rw [e] at this; cases this
   | some i=>rw [e] at this; exact ⟨i,rfl,by simpa using this⟩
 refine Fn.of tblOK [] _ _ _ _ _ Tryz.func108 rfl rfl (by kernel_rfl) (by kernel_rfl) rfl (drawOK tblOK) rfl ?_
 refine ⟨rfl,?_⟩
 refine ⟨fun h1=>absurd (of_decide_eq_true h1) (by omega),fun h1=>?_⟩
 refine ⟨fun h1=>absurd (of_decide_eq_true h1) (by omega),fun h1=>?_⟩
 refine ⟨⟨by omega,by omega⟩,⟨by omega,by omega⟩,?_⟩
 refine ⟨⟨by omega,by omega⟩,⟨by omega,by omega⟩,?_⟩
 refine ⟨_,_,fun N=>opOK_indexArr (n:=16) (e:=188) (u:=uSl) (g:=gAt es ((c : Int) / 16)) (j:=(c : Int) % 16) rfl Tryz.underlying217 Tryz.underlying188 rfl si1 si2 rfl rfl (by omega) (by omega) N,rfl,?_⟩
 refine ⟨_,_,_,Le.refl _ _,rfl,?_,⟨rfl,rfl,trivial⟩,rfl⟩
 show leV (.c (.agg (listU uSl ((gAt es ((c : Int) / 16)).getD ((c : Int) % 16).toNat s0) 0 3))) _
 rw [hg]
 exact ⟨rfl,rfl,rfl,trivial⟩
/-- No Hole is a group without anything. -/
theorem lits_arr (g g' : List Slt) (hl : g.length = 16) (hl' : g'.length = 16) : litsL (listU uG g 0 48) = litsL (listU uG g' 0 48) → g = g':=by
 intro h
 have hget : ∀ (l : List S1) (j : Nat),(litsL l)[j]? = (l[j]?).map litS:=fun l=>by
   induction l with
   | nil=>intro j; simp [litsL]
   | cons s l ih =>
     intro j
     match j with
     | 0=>rfl
     | j + 1=>simpa [litsL] using ih j
 have hc : ∀ i,i < 16 → ∀ q,q < 3 → litS (.d (cellU uSl (g.getD i s0) q)) = litS (.d (cellU uSl (g'.getD i s0) q)):=fun i hi q hq=>by
   have h1:=congrArg (fun l=>l[i * 3 + q]?) h
   simp only [hget] at h1
   have e1:=listU_get uG g 48 0 (i * 3 + q) (by omega)
   have e2:=listU_get uG g' 48 0 (i * 3 + q) (by omega)
   rw [e1,e2] at h1
   simp only [Option.map_some,Option.some.injEq,Nat.zero_add] at h1
   have c1 : cellU uG g (i * 3 + q) = cellU uSl (g.getD i s0) q:=cell_arr (u:=uSl) (n:=16) g i q hq
   have c2 : cellU uG g' (i * 3 + q) = cellU uSl (g'.getD i s0) q:=cell_arr (u:=uSl) (n:=16) g' i q hq
   rw [c1,c2] at h1
   exact h1
 refine List.ext_getElem (hl.trans hl'.symm) fun i h1 h2=>?_
 have a0:=hc i (by omega) 0 (by omega)
 have a1:=hc i (by omega) 1 (by omega)
 have a2:=hc i (by omega) 2 (by omega)
 have e1 : g.getD i s0 = g[i]:=by rw [List.getD_eq_getElem?_getD,List.getElem?_eq_getElem h1]; rfl
 have e2 : g'.getD i s0 = g'[i]:=by rw [List.getD_eq_getElem?_getD,List.getElem?_eq_getElem h2]; rfl
 rw [e1,e2] at a0 a1 a2
 have b0 : Lit.int .i64 (g[i]).1 = Lit.int .i64 (g'[i]).1:=a0
 have b1 : Lit.int .i64 (g[i]).2.1 = Lit.int .i64 (g'[i]).2.1:=a1
 have b2 : Lit.bool (g[i]).2.2 = Lit.bool (g'[i]).2.2:=a2
 injection b0 with _ b0
 injection b1 with _ b1
 injection b2 with b2
 exact Prod.ext b0 (Prod.ext b1 b2)
theorem mapM_some {α β : Type} {f : α → Option β} {g : α → β} : ∀ {l : List α},(∀ a,a ∈ l → f a = some (g a)) → l.mapM f = some (l.map g)
 | [],_=>rfl
 | a :: l,h=>by
   rw [List.mapM_cons,h a (List.mem_cons_self ..),mapM_some fun b hb=>h b (List.mem_cons_of_mem _ hb)]
   rfl
theorem kl_grp (d : Nat) (g : List Slt) (h : ∀ i,i < 16 → slOK (g.getD i s0)) : Tryz.prog.keyLits (d + 3) 217 (valsL (listU uG g 0 48)) = some (litsL (listU uG g 0 48)):=by
 have c1 : Tryz.prog.cellsOf 217 = 48:=by kernel_rfl
 have c2 : Tryz.prog.cellsOf 188 = 3:=by kernel_rfl
 have key : ∀ i,i < 16 → Tryz.prog.keyLits (d + 2) 188 (((valsL (listU uG g 0 48)).drop (i * 3)).take 3) = some (litsL (slL (g.getD i s0))):=by
   intro i hi
   match i,hi with
   | 0,_=>exact kl_slot d (h 0 (by omega))
   | 1,_=>exact kl_slot d (h 1 (by omega))
   | 2,_=>exact kl_slot d (h 2 (by omega))
   | 3,_=>exact kl_slot d (h 3 (by omega))
   | 4,_=>exact kl_slot d (h 4 (by omega))
   | 5,_=>exact kl_slot d (h 5 (by omega))
   | 6,_=>exact kl_slot d (h 6 (by omega))
   | 7,_=>exact kl_slot d (h 7 (by omega))
   | 8,_=>exact kl_slot d (h 8 (by omega))
   | 9,_=>exact kl_slot d (h 9 (by omega))
   | 10,_=>exact kl_slot d (h 10 (by omega))
   | 11,_=>exact kl_slot d (h 11 (by omega))
   | 12,_=>exact kl_slot d (h 12 (by omega))
   | 13,_=>exact kl_slot d (h 13 (by omega))
   | 14,_=>exact kl_slot d (h 14 (by omega))
   | 15,_=>exact kl_slot d (h 15 (by omega))
   | n + 16,hi=>exact absurd hi (by omega)
 unfold Program.keyLits
 simp only [Tryz.underlying217,c1,c2]
 have hl : (valsL (listU uG g 0 48)).length = 48:=rfl
 have hr : ((List.range 16).map fun i=>litsL (slL (g.getD i s0))).flatten = litsL (listU uG g 0 48):=rfl
 generalize valsL (listU uG g 0 48) = vl at hl key ⊢
 rw [if_pos hl,mapM_some (g:=fun i=>litsL (slL (g.getD i s0))) fun i hi=>key i (List.mem_range.1 hi)]
 exact congrArg some hr
theorem grpInf : (Tryz.prog.info? 217).map (·.size) = some 48:=by kernel_rfl
theorem inf_of {T n : Nat} (h : (Tryz.prog.info? T).map (·.size) = some n) : ∃ i,Tryz.prog.info? T = some i ∧ i.size = n:=by
 cases e : Tryz.prog.info? T with
 | none=>rw [e] at h; cases h
 | some i=>rw [e] at h; exact ⟨i,rfl,by simpa using h⟩
theorem g0_get (i : Nat) : g0.getD i s0 = s0:=by
 unfold g0
 rw [List.getD_eq_getElem?_getD,List.getElem?_replicate]
 split <;> rfl
@[reducible] def sZ : List S1:=[.d (.int .i64 0),.d (.int .i64 0),.d (.lit false)]
@[reducible] def gZ : List S1:=sZ ++ (sZ ++ (sZ ++ (sZ ++ (sZ ++ (sZ ++ (sZ ++ (sZ ++ (sZ ++ (sZ ++ (sZ ++ (sZ ++ (sZ ++ (sZ ++ (sZ ++ sZ))))))))))))))
theorem kl_zero : Tryz.prog.keyLits 5 217 (valsL gZ) = some (litsL gZ):=kl_grp 2 g0 fun i _=>by rw [g0_get]; exact ⟨by decide,by decide⟩
@[reducible] def tpK (c : Nat) : KL:=[(0,vP 1001),(1,vI (c : Int)),(5,vP 5),(6,vP 6)]
@[reducible] def tpB (n : Int) (es : List (El uI × El uG)) (s : Slt) (g : List Slt) : BL:=[(6,.val uG g),(5,.cells (slL s)),(1001,.cells [.d (.int .i64 n),.mp 1002]),(1002,.map uI uG es)]
set_option maxHeartbeats 1000000 in
theorem tput_fn {t : List Slt} {es : List (El uI × El uG)} (hR : TabR t es) (n : Int) (c : Nat) (hc : c < 100000) (s : Slt) (hs : slOK s) : Fn Tryz.prog 152 [vP 1001,vI (c : Int),.c (vSl s)] (tabB n es) [] vU (tabB n (tput es c s)):=by
 obtain ⟨sinf,si1,si2⟩:=inf_of slInf
 obtain ⟨ginf,gi1,gi2⟩:=inf_of grpInf
 have hlen:=hR.len ((c : Int) / 16)
 have ek : ((c / 16 : Nat) : Int) = (c : Int) / 16:=by omega
 have ej : ((c : Int) % 16).toNat = c % 16:=by omega
 have hp1 : (gAt es ((c : Int) / 16)).set (c % 16) s = g0 → tput es c s = mdel (ku:=uI) (vu:=uG) es ((c : Int) / 16):=fun h=>by
   unfold tput
   rw [ek,if_pos h]
   rfl
 have hp2 : ¬ (gAt es ((c : Int) / 16)).set (c % 16) s = g0 → tput es c s = mput (ku:=uI) (vu:=uG) es ((c : Int) / 16) ((gAt es ((c : Int) / 16)).set (c % 16) s):=fun h=>by
   unfold tput
   rw [ek,if_neg h]
   rfl
 have hlg : ((gAt es ((c : Int) / 16)).set (c % 16) s).length = 16:=by rw [List.length_set]; exact hlen
 have hsok : ∀ i,i < 16 → slOK (((gAt es ((c : Int) / 16)).set (c % 16) s).getD i s0):=fun i _=>by
   rw [List.getD_eq_getElem?_getD,List.getElem?_set]
   split
   · split
     · exact hs
     · exact ⟨by decide,by decide⟩
   · rw [← List.getD_eq_getElem?_getD]; exact hR.ok _ _
 obtain ⟨g',hg'⟩ : ∃ g' : List Slt,g' = (gAt es ((c : Int) / 16)).set (c % 16) s:=⟨_,rfl⟩
 rw [← hg'] at hp1 hp2 hsok hlg
 have heq : decide (g' = g0) = true ↔ litsL (listU uG g' 0 48) = litsL gZ:=by
   rw [decide_eq_true_iff]
   exact ⟨fun h=>by rw [h]; rfl,lits_arr g' g0 hlg rfl⟩
 refine Fn.of tblOK [2] _ _ _ _ _ Tryz.func152 rfl rfl (by kernel_rfl) (by kernel_rfl) rfl (drawOK tblOK) rfl ?_
 refine ⟨rfl,?_⟩
 refine ⟨⟨by omega,by omega⟩,⟨by omega,by omega⟩,?_⟩
 refine ⟨rfl,?_⟩
 show TrQ _ _ _ _ _ _ _
 refine TrQ.go tblOK (drawOK tblOK) [] (by kernel_rfl) ((Le.toVal 6 (u:=uG) (x:=gAt es ((c : Int) / 16)) ⟨hlen,fun _ _=>⟨trivial,trivial,trivial⟩⟩ rfl).trans (Le.sub (K':=tpK c) (B':=tpB n es s (gAt es ((c : Int) / 16))) ⟨rfl,rfl,rfl,rfl,trivial⟩ ⟨rfl,rfl,rfl,rfl,trivial⟩)) ?_
 refine ⟨⟨by omega,by omega⟩,⟨by omega,by omega⟩,?_⟩
 refine ⟨_,_,fun N=>opOK_indexVal (s:=3) (j:=(c : Int) % 16) rfl Tryz.underlying217 si1 si2 rfl rfl (by omega) (by omega) N,rfl,?_⟩
 rw [ej]
 refine ⟨_,⟨[6],[],[(6,some (.val uG g'))]⟩,fun N=>by rw [hg']; exact opOK_storeVal (n:=16) (u:=uSl) (g:=gAt es ((c : Int) / 16)) (y:=s) rfl si1 si2 rfl (by omega) rfl rfl ⟨trivial,trivial,trivial⟩ N,rfl,?_⟩
 refine ⟨_,_,fun N=>opOK_loadVal (u:=uG) (y:=g') rfl Tryz.underlying217 rfl gi1 gi2 rfl rfl N,rfl,?_⟩
 refine ⟨_,_,fun N=>opOK_build0 tblOK rfl rfl Tryz.underlying217 si1 rfl N,rfl,?_⟩
 refine ⟨_,_,fun N=>opOK_eqDeep (m:=5) (D:=5) (r:=decide (g' = g0)) (lx:=listU uG g' 0 48) (ly:=gZ) rfl (by kernel_rfl) (by kernel_rfl) (by decide) rfl rfl rfl rfl rfl (kl_grp 2 g' hsok) kl_zero (heq) N,rfl,?_⟩
 refine ⟨fun h=>?_,fun h=>?_⟩
 · have h:=of_decide_eq_true h
   refine ⟨⟨by omega,by omega⟩,⟨by omega,by omega⟩,?_⟩
   rw [hp1 h]
   exact ⟨_,_,_,Le.refl _ _,rfl,trivial,⟨rfl,rfl,trivial⟩,rfl⟩
 · have h:=of_decide_eq_false h
   refine ⟨⟨by omega,by omega⟩,⟨by omega,by omega⟩,?_⟩
   refine ⟨_,_,fun N=>opOK_loadVal (u:=uG) (y:=g') rfl Tryz.underlying217 rfl gi1 gi2 rfl rfl N,rfl,?_⟩
   refine ⟨g',⟨⟨hlg,fun _ _=>⟨trivial,trivial,trivial⟩⟩,rfl⟩,?_⟩
   refine ⟨rfl,?_⟩
   rw [hp2 h]
   exact ⟨_,_,_,Le.refl _ _,rfl,trivial,⟨rfl,rfl,trivial⟩,rfl⟩
theorem tset_fn {t : List Slt} {es : List (El uI × El uG)} (hR : TabR t es) (hl : t.length ≤ 256) (c : Nat) (hc : c < t.length) (s : Slt) (hs : slOK s) (hr : slRight s = true) :
   Fn Tryz.prog 145 [vP 1001,vI (c : Int),.c (vSl s)] (tabB (t.length : Nat) es) [] (.tup [vSl t[c],vErr 0]) (tabB (t.length : Nat) (tput es c s)):=by
 refine Fn.of tblOK [] _ _ _ _ _ Tryz.func145 rfl rfl (by kernel_rfl) (by kernel_rfl) rfl (drawOK tblOK) rfl ?_
 refine ⟨rfl,?_⟩
 refine ⟨rfl,?_⟩
 refine ⟨fun h1=>absurd (of_decide_eq_true h1) (by omega),fun h1=>?_⟩
 refine ⟨fun h1=>absurd (of_decide_eq_true h1) (by omega),fun h1=>?_⟩
 refine ⟨_,_,_,_,sright_fn s hs,trivial,rfl,?_⟩
 refine ⟨fun h1=>absurd h1 (by rw [hr]; decide),fun _=>?_⟩
 refine ⟨_,_,_,_,tget_fn hR hl c hc,⟨rfl,rfl,trivial⟩,rfl,?_⟩
 refine ⟨rfl,?_⟩
 refine ⟨_,_,_,_,tput_fn hR (t.length : Nat) c (by omega) s hs,⟨rfl,rfl,trivial⟩,rfl,?_⟩
 exact ⟨_,_,_,Le.refl _ _,rfl,⟨⟨rfl,rfl,rfl,trivial⟩,rfl,trivial⟩,⟨rfl,rfl,trivial⟩,rfl⟩
def tabO (t : List Slt) : Ob where
 R:=fun I F w p=>∃ es,TabR t es ∧ grpR 1001 (tabB (t.length : Nat) es) I F w p
 stable:=fun I F w I' w' p ⟨es,h,hg⟩ he hF hz=>⟨es,h,(Ob.grp 1001 (tabB (t.length : Nat) es)).stable I F w I' w' p hg he hF hz⟩
theorem TabR.new (n : Nat) : TabR (List.replicate n s0) []:=by
 have hg : ∀ k i,(gAt [] k).getD i s0 = s0:=fun k i=>g0_get i
 refine ⟨.nil,fun p hp=>(nomatch hp),fun k i=>?_,fun c hc=>?_⟩
 · rw [hg]; exact ⟨by decide,by decide⟩
 · rw [hg,List.getElem_replicate]
theorem tnew_bad (n : Int) (h : ¬ (0 ≤ n ∧ n ≤ 256)) : Fn Tryz.prog 85 [vI n] [] [] (.tup [vNilP,vErr 1]) []:=by
 have hb : (decide (0 ≤ n) && decide (n ≤ 256)) = false:=by
   rw [Bool.and_eq_false_iff,decide_eq_false_iff_not,decide_eq_false_iff_not]
   omega
 refine Fn.of tblOK [] _ _ _ _ _ Tryz.func85 rfl rfl (by kernel_rfl) (by kernel_rfl) rfl (drawOK tblOK) rfl ?_
 refine ⟨_,_,_,_,tright_fn n,trivial,rfl,?_⟩
 rw [hb]
 refine ⟨fun _=>?_,fun h1=>absurd h1 (by decide)⟩
 exact ⟨_,_,_,Le.refl _ _,rfl,⟨rfl,rfl,trivial⟩,trivial,rfl⟩
theorem tnew_ok (n : Nat) (h : n ≤ 256) : Fn Tryz.prog 85 [vI (n : Int)] [] [1001] (.tup [.one (.ptr 1001 0),vErr 0]) [(1001,.obj (tabO (List.replicate n s0)))]:=by
 have hb : (decide ((0 : Int) ≤ n) && decide ((n : Int) ≤ 256)) = true:=by
   rw [Bool.and_eq_true,decide_eq_true_iff,decide_eq_true_iff]
   omega
 have hl : ((List.replicate n s0).length : Nat) = n:=List.length_replicate
 refine Fn.of tblOK [] _ _ _ _ _ Tryz.func85 rfl rfl (by kernel_rfl) (by kernel_rfl) rfl (drawOK tblOK) rfl ?_
 refine ⟨_,_,_,_,tright_fn n,trivial,rfl,?_⟩
 rw [hb]
 refine ⟨fun h1=>absurd h1 (by decide),fun _=>?_⟩
 refine ⟨rfl,?_⟩
 refine ⟨rfl,?_⟩
 refine ⟨_,_,_,(Le.ren 10 1001 rfl).trans ((Le.ren 8 1002 rfl).trans (Le.close 1001 (tabB (n : Nat) []) (o:=tabO (List.replicate n s0)) ⟨rfl,rfl,trivial⟩ rfl fun _ _ _ _ h=>⟨[],TabR.new n,by rw [hl]; exact h⟩)),rfl,⟨rfl,rfl,trivial⟩,⟨rfl,trivial⟩,rfl⟩
end Go.Proofs.YteoamepgonpdlaaGreat
/-!
  Counts: how many have each cluster.
-/
namespace Go.Proofs.YteoamepgonpdlaaGreat
set_option linter.unusedVariables false
set_option linter.unusedSimpArgs false
set_option maxRecDepth 10000
open Go.RowKit Go.Proofs
@[reducible] def cntB (l : List Int) : BL:=[(1001,.cells [.own 1002]),(1002,.row 3 uI l)]
def cntO (l : List Int) : Ob:=.grp 1001 (cntB l)
theorem intInf : (Tryz.prog.info? 3).map (fun i=>(i.zero,i.size,i.bytes)) = some (some (.int .i64 0),1,8):=by kernel_rfl
theorem cnew_bad (n : Int) (h : ¬ (0 ≤ n ∧ n ≤ 512)) : Fn Tryz.prog 86 [vI n] [] [] (.tup [vNilP,vErr 1]) []:=by
 refine Fn.of tblOK [] _ _ _ _ _ Tryz.func86 rfl rfl (by kernel_rfl) (by kernel_rfl) rfl (drawOK tblOK) rfl ?_
 refine ⟨fun h1=>?_,fun h1=>?_⟩
 · exact ⟨_,_,_,Le.refl _ _,rfl,⟨rfl,rfl,trivial⟩,trivial,rfl⟩
 refine ⟨fun h2=>?_,fun h2=>?_⟩
 · exact ⟨_,_,_,Le.refl _ _,rfl,⟨rfl,rfl,trivial⟩,trivial,rfl⟩
 · exfalso
   simp at h1 h2
   omega
theorem cnew_ok (n : Int) (h0 : 0 ≤ n) (hn : n ≤ 512) : Fn Tryz.prog 86 [vI n] [] [1001] (.tup [.one (.ptr 1001 0),vErr 0]) [(1001,.obj (cntO (List.replicate n.toNat (0 : Int))))]:=by
 obtain ⟨inf,i1,i2,i3,i4⟩:=info_parts intInf
 refine Fn.of tblOK [] _ _ _ _ _ Tryz.func86 rfl rfl (by kernel_rfl) (by kernel_rfl) rfl (drawOK tblOK) rfl ?_
 refine ⟨fun h1=>?_,fun h1=>?_⟩
 · exfalso; simp at h1; omega
 refine ⟨fun h2=>?_,fun h2=>?_⟩
 · exfalso; simp at h2; omega
 refine ⟨_,_,fun N=>opOK_makeInts (d:=11) rfl Tryz.underlying128 i1 i2 i3 i4 rfl rfl h0 (by omega) N,rfl,?_⟩
 refine ⟨rfl,?_⟩
 exact ⟨_,_,_,(Le.ren 13 1001 rfl).trans ((Le.ren 11 1002 rfl).trans (Le.close 1001 (cntB (List.replicate n.toNat (0 : Int))) (o:=cntO (List.replicate n.toNat (0 : Int))) ⟨rfl,rfl,trivial⟩ rfl fun _ _ _ _ h=>h)),rfl,⟨rfl,rfl,trivial⟩,⟨rfl,trivial⟩,rfl⟩
theorem is_fn (l : List Int) (h : Int) : Fn Tryz.prog 173 [vP 1001,vI h] (cntB l) [] (vB (decide (0 ≤ h) && decide (h < l.length))) (cntB l):=by
 refine Fn.of tblOK [] _ _ _ _ _ Tryz.func173 rfl rfl (by kernel_rfl) (by kernel_rfl) rfl (drawOK tblOK) rfl ?_
 refine ⟨fun h1=>?_,fun h1=>?_⟩
 · refine ⟨_,_,_,Le.refl _ _,rfl,?_,⟨rfl,rfl,trivial⟩,rfl⟩
   show decide (h < (l.length : Nat)) = (decide (0 ≤ h) && decide (h < (l.length : Nat)))
   have h1 : decide (0 ≤ h) = true:=h1
   rw [h1,Bool.true_and]
 · refine ⟨_,_,_,Le.refl _ _,rfl,?_,⟨rfl,rfl,trivial⟩,rfl⟩
   show false = (decide (0 ≤ h) && decide (h < (l.length : Nat)))
   have h1 : decide (0 ≤ h) = false:=h1
   rw [h1,Bool.false_and]
theorem cless1_fn (n : Int) (h : n ≠ 0) : Fn Tryz.prog 166 [vI n] [] [] (vI 0) []:=by
 refine Fn.of tblOK [] _ _ _ _ _ Tryz.func166 rfl rfl (by kernel_rfl) (by kernel_rfl) rfl (drawOK tblOK) rfl ?_
 refine ⟨fun h1=>absurd (of_decide_eq_true h1) h,fun h1=>?_⟩
 exact ⟨_,_,_,Le.refl _ _,rfl,rfl,trivial,rfl⟩
theorem change_fn (l : List Int) (h : Nat) (n : Int) (hn : l[h]? = some n) (h1 : 1 ≤ n) (h2 : n ≤ 65535) : Fn Tryz.prog 165 [vP 1001,vI (h : Int),vI (-1),v1 (.clo 166 [])] (cntB l) [] (vI 0) (cntB (l.set h (n - 1))):=by
 have hl : h < l.length:=(List.getElem?_eq_some_iff.1 hn).1
 refine Fn.of tblOK [] _ _ _ _ _ Tryz.func165 rfl rfl (by kernel_rfl) (by kernel_rfl) rfl (drawOK tblOK) rfl ?_
 refine ⟨_,_,_,_,is_fn l h,⟨rfl,rfl,trivial⟩,rfl,?_⟩
 have m1 : (0 : Int) ≤ (h : Int):=by omega
 have m2 : (h : Int) < (l.length : Nat):=by omega
 refine ⟨fun _=>?_,fun hf=>?_⟩
 · refine ⟨⟨m1,m2⟩,n,hn,?_⟩
   refine ⟨_,_,_,_,cless1_fn n (by omega),trivial,rfl,?_⟩
   refine ⟨fun _=>?_,fun h=>absurd h (by decide)⟩
   refine ⟨⟨m1,m2⟩,n,hn,⟨by omega,by omega⟩,⟨m1,m2⟩,⟨trivial,hl⟩,?_⟩
   exact ⟨_,_,_,Le.refl _ _,rfl,rfl,⟨rfl,rfl,trivial⟩,rfl⟩
 · exfalso
   have hf : (decide ((0 : Int) ≤ h) && decide ((h : Int) < l.length)) = false:=hf
   rw [decide_eq_true (by omega),decide_eq_true (by omega)] at hf
   cases hf
theorem cless_fn (l : List Int) (h : Nat) (n : Int) (hn : l[h]? = some n) (h1 : 1 ≤ n) (h2 : n ≤ 65535) : Fn Tryz.prog 153 [vP 1001,vI (h : Int)] (cntB l) [] (.tup [.one (.d (.int .i64 (n - 1))),vErr 0]) (cntB (l.set h (n - 1))):=by
 have hl : h < l.length:=(List.getElem?_eq_some_iff.1 hn).1
 refine Fn.of tblOK [] _ _ _ _ _ Tryz.func153 rfl rfl (by kernel_rfl) (by kernel_rfl) rfl (drawOK tblOK) rfl ?_
 refine ⟨_,_,_,_,change_fn l h n hn h1 h2,⟨rfl,rfl,trivial⟩,rfl,?_⟩
 refine ⟨fun h=>absurd h (by decide),fun _=>?_⟩
 have hl2 : h < (l.set h (n - 1)).length:=by rw [List.length_set]; exact hl
 have m1 : (0 : Int) ≤ (h : Int):=by omega
 have m2 : (h : Int) < ((l.set h (n - 1)).length : Nat):=by omega
 have m3 : (l.set h (n - 1))[h]? = some (n - 1):=by rw [List.getElem?_set_self hl]
 refine ⟨⟨m1,m2⟩,n - 1,m3,?_⟩
 exact ⟨_,_,_,Le.refl _ _,rfl,⟨rfl,rfl,trivial⟩,⟨rfl,rfl,trivial⟩,rfl⟩
def zeros (l : List Int) : Nat:=(l.filter fun x=>decide (x = 0)).length
theorem zeros_le (l : List Int) : zeros l ≤ l.length:=List.length_filter_le _ _
theorem zeros_step {l : List Int} {k : Nat} (h : k < l.length) : zeros (l.take (k + 1)) = zeros (l.take k) + (if l[k] = 0 then 1 else 0):=by
 unfold zeros
 rw [List.take_succ_eq_append_getElem h,List.filter_append,List.length_append]
 congr 1
 by_cases e : l[k] = 0
 · simp [e]
 · simp [e]
@[reducible] def cfK (l : List Int) (k : Nat) : KL:=[(3,vI (zeros (l.take k) : Nat)),(9,vOwn 1002),(10,vI (l.length : Nat)),(11,vI (k : Nat))]
theorem cfree_fn (l : List Int) (hl : l.length ≤ 1000000) : Fn Tryz.prog 135 [vP 1001] (cntB l) [] (vI (zeros l : Nat)) (cntB l):=by
 refine Fn.of tblOK [] _ _ _ _ _ Tryz.func135 rfl rfl (by kernel_rfl) (by kernel_rfl) rfl (drawOK tblOK) rfl ?_
 show TrQ _ _ _ _ _ _ _
 refine TrQ.loop tblOK (drawOK tblOK) [] (by kernel_rfl) (X:=Nat) (cfK l) (fun _=>cntB l) (fun k=>k ≤ l.length) (fun k=>l.length - k) 0 (Nat.zero_le _) ?_ ?_
 · exact Le.sub ⟨rfl,rfl,rfl,rfl,trivial⟩ ⟨rfl,rfl,trivial⟩
 intro k hk
 have hz:=zeros_le (l.take k)
 have hz2 : (l.take k).length ≤ l.length:=by rw [List.length_take]; omega
 refine ⟨fun h=>?_,fun h=>?_⟩
 · have h : decide ((k : Int) < (l.length : Nat)) = true:=h
   have hk2 : k < l.length:=by simpa using h
   have hs:=zeros_step hk2
   have m1 : (0 : Int) ≤ (k : Int):=by omega
   have m2 : (k : Int) < (l.length : Nat):=by omega
   refine ⟨⟨m1,m2⟩,l[k],lgAt (n:=k) hk2,?_⟩
   refine ⟨fun h0=>?_,fun h0=>?_⟩
   · have h0:=of_decide_eq_true h0
     refine ⟨by omega,by omega,k + 1,by omega,by omega,Le.sub ⟨?_,rfl,rfl,rfl,trivial⟩ ⟨rfl,rfl,trivial⟩⟩
     show ((zeros (l.take k) : Nat) : Int) + 1 = (zeros (l.take (k + 1)) : Nat)
     rw [hs,if_pos h0]
     omega
   · have h0:=of_decide_eq_false h0
     refine ⟨by omega,k + 1,by omega,by omega,Le.sub ⟨?_,rfl,rfl,rfl,trivial⟩ ⟨rfl,rfl,trivial⟩⟩
     show ((zeros (l.take k) : Nat) : Int) = (zeros (l.take (k + 1)) : Nat)
     rw [hs,if_neg h0]
     omega
 · have h : decide ((k : Int) < (l.length : Nat)) = false:=h
   have hk2 : k = l.length:=by simp at h; omega
   subst hk2
   refine ⟨_,_,_,Le.refl _ _,rfl,?_,⟨rfl,rfl,trivial⟩,rfl⟩
   show ((zeros (l.take l.length) : Nat) : Int) = _
   rw [List.take_length]
@[reducible] def ctK (l : List Int) (k : Nat) : KL:=[(0,vP 1001),(9,vI (l.length : Nat)),(10,vI (k : Nat))]
/-- The first free one. -/
theorem ctake_fn (l : List Int) (hl : l.length ≤ 1000000) (h : Nat) (hh : l[h]? = some 0) (hf : ∀ j,j < h → l[j]? ≠ some 0) : Fn Tryz.prog 136 [vP 1001] (cntB l) [] (.tup [.one (.d (.int .i64 (h : Int))),vErr 0]) (cntB (l.set h 1)):=by
 have hlt : h < l.length:=(List.getElem?_eq_some_iff.1 hh).1
 refine Fn.of tblOK [] _ _ _ _ _ Tryz.func136 rfl rfl (by kernel_rfl) (by kernel_rfl) rfl (drawOK tblOK) rfl ?_
 show TrQ _ _ _ _ _ _ _
 refine TrQ.loop tblOK (drawOK tblOK) [] (by kernel_rfl) (X:=Nat) (ctK l) (fun _=>cntB l) (fun k=>k ≤ h) (fun k=>l.length - k) 0 (Nat.zero_le _) ?_ ?_
 · exact Le.sub ⟨rfl,rfl,rfl,trivial⟩ ⟨rfl,rfl,trivial⟩
 intro k hk
 refine ⟨fun _=>?_,fun h1=>?_⟩
 · have hk2 : k < l.length:=by omega
   have m1 : (0 : Int) ≤ (k : Int):=by omega
   have m2 : (k : Int) < (l.length : Nat):=by omega
   refine ⟨⟨m1,m2⟩,l[k],lgAt (n:=k) hk2,?_⟩
   refine ⟨fun h0=>?_,fun h0=>?_⟩
   · have h0:=of_decide_eq_true h0
     have hkh : k = h:=by
       rcases Nat.lt_or_ge k h with h3 | h3
       · exact absurd (by rw [List.getElem?_eq_getElem hk2,h0]) (hf k h3)
       · omega
     subst hkh
     refine ⟨⟨m1,m2⟩,⟨trivial,hk2⟩,?_⟩
     exact ⟨_,_,_,Le.refl _ _,rfl,⟨rfl,rfl,trivial⟩,⟨rfl,rfl,trivial⟩,rfl⟩
   · have h0:=of_decide_eq_false h0
     have hkh : k ≠ h:=fun e=>by
       subst e
       rw [List.getElem?_eq_getElem hk2] at hh
       exact h0 (by injection hh)
     exact ⟨by omega,k + 1,by omega,by omega,Le.sub ⟨rfl,rfl,rfl,trivial⟩ ⟨rfl,rfl,trivial⟩⟩
 · exfalso
   have h1 : decide ((k : Int) < (l.length : Nat)) = false:=h1
   simp at h1
   omega
end Go.Proofs.YteoamepgonpdlaaGreat
