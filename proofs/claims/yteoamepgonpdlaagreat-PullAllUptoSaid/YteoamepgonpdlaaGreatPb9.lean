/-
Part 9 of the proof that stands in YteoamepgonpdlaaGreatPbRow, with what it needs from the parts ahead; the parts of this text: Da, Fx, Iw.
-/
import Derived.Test.YteoamepgonpdlaaGreatPb8
/-!
  Rows of bytes by numbers: a map to slices, each row its own, as one object.
-/
namespace Go.Proofs.YteoamepgonpdlaaGreat
set_option linter.unusedVariables false
set_option linter.unusedSimpArgs false
set_option maxRecDepth 10000
open Go.RowKit Go.Proofs
section
variable {P : Program} {tt : Tr} {N : Nat} {ids : List Nat} {o : Oper} {K : KL} {B : BL} {C : Ctx} {ρ : Nat → Pl} {F : Nat → Nat → Prop} {w w' : World}
/-- A block falls apart into two. -/
theorem Mem.split (h : Mem ids C B ρ F w) {c d : Nat} {ch0 ch1 ch2 : Ch} (hc : lookB B c = some ch0) (hf : freshB ids K B d = true) (pl : Pl) (F1 F2 : Nat → Prop) (h1 : ∀ b,F1 b → F c b) (h2 : ∀ b,F2 b → F c b) (hdj : ∀ b,F1 b → ¬ F2 b)
   (H1 : ∀ I,Ext (Imm C B F w) w I w → Holds (upd ρ d pl) I F1 w (ρ c) ch1) (H2 : ∀ I,Ext (Imm C B F w) w I w → Holds (upd ρ d pl) I F2 w pl ch2) :
   Mem ids C ((d,ch2) :: (c,ch1) :: B) (upd ρ d pl) (upd (upd F c F1) d F2) w ∧ Ext (Imm C B F w) w (Imm C ((d,ch2) :: (c,ch1) :: B) (upd (upd F c F1) d F2) w) w:=by
 obtain ⟨f1,f2,f3,f4⟩:=fresh_of hf
 have hcd : c ≠ d:=fun e=>by rw [← e,hc] at f2; cases f2
 have look2 : ∀ j ch,lookB ((d,ch2) :: (c,ch1) :: B) j = some ch → (j = c ∨ j = d) → (j = c ∧ ch = ch1) ∨ (j = d ∧ ch = ch2):=fun j ch hj hm=>by
   rw [lookB_cons] at hj
   split at hj
   · rename_i e; injection hj with hj; exact .inr ⟨e.symm,hj.symm⟩
   · rename_i e
     rw [lookB_cons] at hj
     split at hj
     · rename_i e; injection hj with hj; exact .inl ⟨e.symm,hj.symm⟩
     · rename_i e2
       rcases hm with hm | hm
       · exact absurd hm.symm e2
       · exact absurd hm.symm e
 have eF1 : upd (upd F c F1) d F2 c = F1:=by rw [upd_other _ _ hcd,upd_same]
 have eF2 : upd (upd F c F1) d F2 d = F2:=by rw [upd_same]
 refine h.step (fun j=>j = c ∨ j = d) (fun j=>j = d) (Fr.refl _ _) (fun j ch hj hm=>?_) (fun j hj=>upd_other _ _ hj) (fun j hj=>?_) (fun j hj e=>f4 (e ▸ hj)) (fun j hj=>.inr hj) (fun j ch hj _ k hk e=>?_) (fun j ch hj hm hE=>?_) (fun j ch hj hm b hb=>?_) (fun j j' ch ch' b hj hj' hm hm' hne hb hb'=>?_)
 · rw [lookB_cons,if_neg (fun e=>hm (.inr e.symm)),lookB_cons,if_neg (fun e=>hm (.inl e.symm))] at hj
   exact hj
 · rw [upd_other _ _ (fun e=>hj (.inr e)),upd_other _ _ (fun e=>hj (.inl e))]
 · subst e
   rw [f3 j ch hj] at hk
   cases hk
 · rcases look2 j ch hj hm with ⟨rfl,rfl⟩ | ⟨rfl,rfl⟩
   · rw [eF1,upd_other _ _ hcd]; exact H1 _ hE
   · rw [eF2,upd_same]; exact H2 _ hE
 · have : F c b:=by
     rcases look2 j ch hj hm with ⟨rfl,rfl⟩ | ⟨rfl,rfl⟩
     · rw [eF1] at hb; exact h1 b hb
     · rw [eF2] at hb; exact h2 b hb
   exact ⟨(h.own c _ hc b this).1,.inl ⟨c,_,hc,.inl rfl,this⟩⟩
 · rcases look2 j ch hj hm with ⟨rfl,rfl⟩ | ⟨rfl,rfl⟩ <;> rcases look2 j' ch' hj' hm' with ⟨rfl,rfl⟩ | ⟨rfl,rfl⟩
   · exact hne rfl
   · rw [eF1] at hb; rw [eF2] at hb'; exact hdj b hb hb'
   · rw [eF2] at hb; rw [eF1] at hb'; exact hdj b hb' hb
   · exact hne rfl
/-- Two blocks become one. -/
theorem Mem.join (h : Mem ids C B ρ F w) {c d : Nat} {ch0 ch1 ch : Ch} (hc : lookB B c = some ch0) (hd : lookB B d = some ch1) (hne : c ≠ d) (G : Nat → Prop) (hG : ∀ b,G b → F c b ∨ F d b) (hfr : Fr (fun b=>F c b ∨ F d b) w w')
   (hH : ∀ I,Ext (Imm C B F w) w I w' → Holds ρ I G w' (ρ c) ch) :
   Mem ids C ((c,ch) :: dropB B d) ρ (upd F c G) w' ∧ Ext (Imm C B F w) w (Imm C ((c,ch) :: dropB B d) (upd F c G) w') w':=by
 have look2 : ∀ j ch',lookB ((c,ch) :: dropB B d) j = some ch' → (j = c ∨ j = d) → j = c ∧ ch' = ch:=fun j ch' hj hm=>by
   rw [lookB_cons] at hj
   split at hj
   · rename_i e; injection hj with hj; exact ⟨e.symm,hj.symm⟩
   · rename_i e
     rcases hm with hm | hm
     · exact absurd hm.symm e
     · rw [hm,lookB_dropB,if_pos rfl] at hj; cases hj
 refine h.step (fun j=>j = c ∨ j = d) (fun _=>False) (hfr.mono fun b _ hb=>?_) (fun j ch' hj hm=>?_) (fun _ _=>rfl) (fun j hm=>upd_other _ _ (fun e=>hm (.inl e))) (fun _ _ h=>h) (fun _ h=>h.elim) (fun _ _ _ _ _ _ h=>h) (fun j ch' hj hm hE=>?_) (fun j ch' hj hm b hb=>?_) (fun j j' c1 c2 b hj hj' hm hm' hn=>?_)
 · rcases hb with hb | hb
   · exact ⟨c,_,hc,.inl rfl,hb⟩
   · exact ⟨d,_,hd,.inr rfl,hb⟩
 · rw [lookB_cons,if_neg (fun e=>hm (.inl e.symm)),lookB_dropB,if_neg (fun e=>hm (.inr e.symm))] at hj
   exact hj
 · obtain ⟨rfl,rfl⟩:=look2 j ch' hj hm
   rw [upd_same]
   exact hH _ hE
 · obtain ⟨rfl,rfl⟩:=look2 j ch' hj hm
   rw [upd_same] at hb
   rcases hG b hb with hb | hb
   · exact ⟨Nat.lt_of_lt_of_le (h.own j _ hc b hb).1 hfr.size,.inl ⟨j,_,hc,.inl rfl,hb⟩⟩
   · exact ⟨Nat.lt_of_lt_of_le (h.own d _ hd b hb).1 hfr.size,.inl ⟨d,_,hd,.inr rfl,hb⟩⟩
 · exact absurd ((look2 j c1 hj hm).1.trans (look2 j' c2 hj' hm').1.symm) hn
/-- A block turns,and gives something up. -/
theorem Mem.turnG (h : Mem ids C B ρ F w) {c : Nat} {ch0 ch : Ch} (hc : lookB B c = some ch0) (G : Nat → Prop) (hG : ∀ b,G b → F c b) (hfr : Fr (F c) w w') (hH : ∀ I,Ext (Imm C B F w) w I w' → Holds ρ I G w' (ρ c) ch) :
   Mem ids C ((c,ch) :: B) ρ (upd F c G) w' ∧ Ext (Imm C B F w) w (Imm C ((c,ch) :: B) (upd F c G) w') w':=by
 have look2 : ∀ j ch',lookB ((c,ch) :: B) j = some ch' → j = c → ch' = ch:=fun j ch' hj hm=>by
   rw [lookB_cons,if_pos hm.symm] at hj
   injection hj with hj; exact hj.symm
 refine h.step (fun j=>j = c) (fun _=>False) (hfr.mono fun b _ hb=>⟨c,_,hc,rfl,hb⟩) (fun j ch' hj hm=>?_) (fun _ _=>rfl) (fun j hm=>upd_other _ _ hm) (fun _ _ h=>h) (fun _ h=>h.elim) (fun _ _ _ _ _ _ h=>h) (fun j ch' hj hm hE=>?_) (fun j ch' hj hm b hb=>?_) (fun j j' c1 c2 b hj hj' hm hm' hn=>absurd (hm.trans hm'.symm) hn)
 · rw [lookB_cons,if_neg (fun e=>hm e.symm)] at hj
   exact hj
 · have e:=look2 j ch' hj hm
   subst hm e
   rw [upd_same]
   exact hH _ hE
 · subst hm
   rw [upd_same] at hb
   exact ⟨Nat.lt_of_lt_of_le (h.own _ _ hc b (hG b hb)).1 hfr.size,.inl ⟨_,_,hc,rfl,hG b hb⟩⟩
end
/-! ### rows by numbers -/
abbrev FMap:=Int → Option (List UInt8)
def fset (f : FMap) (k : Int) (xs : List UInt8) : FMap:=fun j=>if j = k then some xs else f j
def fdel (f : FMap) (k : Int) : FMap:=fun j=>if j = k then none else f j
def fnone : FMap:=fun _=>none
/-- A row of bytes of one's own. -/
def rowH (I F : Nat → Prop) (w : World) (p : Pl) (xs : List UInt8) : Prop:=Holds (fun _=>p) I F w p (.row 5 .u8 xs)
theorem rowH.congr {I F F' : Nat → Prop} {w : World} {p : Pl} {xs : List UInt8} (h : rowH I F w p xs) (e : ∀ b,F' b ↔ F b) : rowH I F' w p xs :=
 ⟨fun b=>(e b).trans (h.1 b),h.2⟩
theorem hdl_of {I F : Nat → Prop} {w : World} {p : Pl} {xs : List UInt8} (h : rowH I F w p xs) : ∃ x : El .hdl,p.hdr = hdlV x:=by
 obtain ⟨_,_,cs,⟨_,h⟩,_⟩:=h
 rcases h with ⟨h,_⟩ | ⟨g,cap,cur,h,_⟩
 · exact ⟨none,h⟩
 · exact ⟨some (g,_,cap),h⟩
/-- The rows of a map's slices; those of hs are elsewhere now. -/
structure RowsG (hs : Int → Option Pl) (f : FMap) (es : List (El uI × El .hdl)) (G : Int → Nat → Prop) (I : Nat → Prop) (w : World) : Prop where
 nd : KNd es
 none_ : ∀ k : Int,mget (ku:=uI) (vu:=.hdl) es k = none → f k = none ∧ hs k = none ∧ ∀ b,¬ G k b
 some_ : ∀ (k : Int) h,mget (ku:=uI) (vu:=.hdl) es k = some h → hs k = none → ∃ xs p,f k = some xs ∧ p.hdr = hdlV h ∧ rowH I (G k) w p xs
 away : ∀ (k : Int) h q,mget (ku:=uI) (vu:=.hdl) es k = some h → hs k = some q → q.hdr = hdlV h ∧ ∀ b,¬ G k b
 disj : ∀ (j k : Int) b,j ≠ k → G j b → ¬ G k b
theorem RowsG.stable {hs : Int → Option Pl} {f : FMap} {es : List (El uI × El .hdl)} {G : Int → Nat → Prop} {I I' : Nat → Prop} {w w' : World} (h : RowsG hs f es G I w) (he : Ext I w I' w') (hF : ∀ k b,G k b → w'.heap[b]? = w.heap[b]?) (hz : w.heap.size ≤ w'.heap.size) : RowsG hs f es G I' w' :=
 ⟨h.nd,h.none_,fun k x h1 h2=>let ⟨xs,p,a1,a2,a3⟩:=h.some_ k x h1 h2; ⟨xs,p,a1,a2,Holds.stable he (fun b hb=>hF k b hb) hz _ (fun _ _=>rfl) a3⟩,h.away,h.disj⟩
def dataR (hs : Int → Option Pl) (f : FMap) (I F : Nat → Prop) (w : World) (p : Pl) : Prop :=
 ∃ es G,RowsG hs f es G I w ∧ (∀ b,F b ↔ b = p.blk ∨ ∃ k,G k b) ∧ (∀ k,¬ G k p.blk) ∧ ∃ ents clock,w.heap[p.blk]? = some (.map (List.toArray ents) clock) ∧ MapU I w uI .hdl es ents ∧ Births ents clock
def dataHO (hs : Int → Option Pl) (f : FMap) : Ob where
 R:=dataR hs f
 stable:=fun I F w I' w' p ⟨es,G,h1,h2,h3,ents,clock,h4,h5,h6⟩ he hF hz =>
   ⟨es,G,h1.stable he (fun k b hb=>hF b ((h2 b).2 (.inr ⟨k,hb⟩))) hz,h2,h3,ents,clock,(hF _ ((h2 _).2 (.inl rfl))).trans h4,h5.mono he,h6⟩
def dataO (f : FMap) : Ob:=dataHO (fun _=>none) f
def hole1 (k : Int) (q : Pl) : Int → Option Pl:=fun j=>if j = k then some q else none
def dataH (f : FMap) (k : Int) : Pl → Ob:=fun q=>dataHO (hole1 k q) f
/-- A row is taken out. -/
theorem dataR.out {f : FMap} {k : Int} {xs : List UInt8} {I F : Nat → Prop} {w : World} {p : Pl} (hf : f k = some xs) (h : (dataO f).R I F w p) :
   ∃ (F1 F2 : Nat → Prop) (q : Pl) (es : List (El uI × El .hdl)) (x : El .hdl),(∀ b,F1 b → F b) ∧ (∀ b,F2 b → F b) ∧ (∀ b,F1 b → ¬ F2 b) ∧ q.hdr = hdlV x ∧ mget (ku:=uI) (vu:=.hdl) es k = some x ∧ (∃ ents clock,w.heap[p.blk]? = some (.map (List.toArray ents) clock) ∧ MapU I w uI .hdl es ents) ∧ rowH I F2 w q xs ∧ (dataH f k q).R I F1 w p:=by
 obtain ⟨es,G,h1,h2,h3,ents,clock,h4,h5,h6⟩:=h
 cases e : mget (ku:=uI) (vu:=.hdl) es k with
 | none=>rw [(h1.none_ k e).1] at hf; cases hf
 | some x =>
   obtain ⟨ys,q,a1,a2,a3⟩:=h1.some_ k x e rfl
   rw [hf] at a1
   injection a1 with a1
   subst a1
   refine ⟨fun b=>b = p.blk ∨ ∃ j,j ≠ k ∧ G j b,G k,q,es,x,fun b hb=>(h2 b).2 (hb.imp id fun ⟨j,_,hj⟩=>⟨j,hj⟩),fun b hb=>(h2 b).2 (.inr ⟨k,hb⟩),fun b hb hk=>?_,a2,e,⟨ents,clock,h4,h5⟩,a3,?_⟩
   · rcases hb with rfl | ⟨j,hj,hb⟩
     · exact h3 k hk
     · exact h1.disj j k b hj hb hk
   · refine ⟨es,fun j b=>j ≠ k ∧ G j b,⟨h1.nd,fun j hj=>?_,fun j y hj hh=>?_,fun j y q' hj hh=>?_,fun i j b hij a b=>h1.disj i j _ hij a.2 b.2⟩,fun b=>Iff.rfl,fun j hj=>h3 j hj.2,ents,clock,h4,h5,h6⟩
     · obtain ⟨b1,_,b3⟩:=h1.none_ j hj
       have : j ≠ k:=fun e'=>by rw [e',e] at hj; cases hj
       exact ⟨b1,if_neg this,fun b hb=>b3 b hb.2⟩
     · have hne : j ≠ k:=fun e'=>by rw [show hole1 k q j = some q from if_pos e'] at hh; cases hh
       obtain ⟨ys,r,b1,b2,b3⟩:=h1.some_ j y hj rfl
       exact ⟨ys,r,b1,b2,b3.congr fun b=>⟨fun h=>h.2,fun h=>⟨hne,h⟩⟩⟩
     · simp only [hole1] at hh
       split at hh
       · rename_i e'
         injection hh with hh
         subst e' hh
         rw [e] at hj
         injection hj with hj
         subst hj
         exact ⟨a2,fun b hb=>hb.1 rfl⟩
       · cases hh
/-- And put back. -/
theorem dataR.in_ {f : FMap} {k : Int} {xs : List UInt8} {I F1 F2 : Nat → Prop} {w : World} {p q : Pl} (h : (dataH f k q).R I F1 w p) (hr : rowH I F2 w q xs) (hd : ∀ b,F1 b → ¬ F2 b) (hk : ∃ ys,f k = some ys) : (dataO (fset f k xs)).R I (fun b=>F1 b ∨ F2 b) w p:=by
 obtain ⟨es,G,h1,h2,h3,ents,clock,h4,h5,h6⟩:=h
 obtain ⟨ys,hk⟩:=hk
 have hkk : hole1 k q k = some q:=if_pos rfl
 cases e : mget (ku:=uI) (vu:=.hdl) es k with
 | none=>rw [(h1.none_ k e).1] at hk; cases hk
 | some x =>
   obtain ⟨a1,a2⟩:=h1.away k x q e hkk
   refine ⟨es,fun j b=>if j = k then F2 b else G j b,⟨h1.nd,fun j hj=>?_,fun j y hj _=>?_,fun _ _ _ _ hh=>(by cases hh),fun i j b hij ha hb=>?_⟩,fun b=>?_,fun j hj=>?_,ents,clock,h4,h5,h6⟩
   · have hne : j ≠ k:=fun e'=>by rw [e',e] at hj; cases hj
     obtain ⟨b1,_,b3⟩:=h1.none_ j hj
     exact ⟨by unfold fset; rw [if_neg hne]; exact b1,rfl,fun b hb=>by rw [if_neg hne] at hb; exact b3 b hb⟩
   · by_cases hne : j = k
     · subst hne
       rw [e] at hj
       injection hj with hj
       subst hj
       exact ⟨xs,q,if_pos rfl,a1,hr.congr fun b=>by rw [if_pos rfl]⟩
     · obtain ⟨zs,r,b1,b2,b3⟩:=h1.some_ j y hj (if_neg hne)
       exact ⟨zs,r,(if_neg hne).trans b1,b2,b3.congr fun b=>by rw [if_neg hne]⟩
   · by_cases hi : i = k
     · rw [if_pos hi] at ha
       have hj : j ≠ k:=fun e'=>hij (hi.trans e'.symm)
       rw [if_neg hj] at hb
       exact hd b ((h2 b).2 (.inr ⟨j,hb⟩)) ha
     · rw [if_neg hi] at ha
       by_cases hj : j = k
       · rw [if_pos hj] at hb
         exact hd b ((h2 b).2 (.inr ⟨i,ha⟩)) hb
       · rw [if_neg hj] at hb
         exact h1.disj i j b hij ha hb
   · show (F1 b ∨ F2 b) ↔ (b = p.blk ∨ ∃ j,(if j = k then F2 b else G j b))
     rw [h2]
     constructor
     · rintro ((h | ⟨j,h⟩) | h)
       · exact .inl h
       · refine .inr ⟨j,?_⟩
         by_cases hj : j = k
         · subst hj; exact absurd h (a2 b)
         · rw [if_neg hj]; exact h
       · exact .inr ⟨k,by rw [if_pos rfl]; exact h⟩
     · rintro (h | ⟨j,h⟩)
       · exact .inl (.inl h)
       · by_cases hj : j = k
         · rw [if_pos hj] at h; exact .inr h
         · rw [if_neg hj] at h; exact .inl (.inr ⟨j,h⟩)
   · replace hj : (if j = k then F2 p.blk else G j p.blk):=hj
     by_cases hj' : j = k
     · rw [if_pos hj'] at hj
       exact hd _ ((h2 _).2 (.inl rfl)) hj
     · rw [if_neg hj'] at hj
       exact h3 j hj
section
variable {P : Program} {tt : Tr} {ids : List Nat} {K : KL} {B : BL}
/-- A row that is there: read,it is laid open. -/
theorem opOK_dataGet {o : Oper} {T kt et : TypeId} {x i : Operand} {c d : Nat} {f : FMap} {k : Int} {xs : List UInt8} (ho : o.op = .lookup T x i false) (hT : P.underlying T = some (.map kt et)) {dk : TypeDesc} (hkt : P.underlying kt = some dk) (hdk : keyD uI dk = true) {inf : TypeInfo} (hi : P.info? et = some inf) (hz : inf.zero = some (.slice none 0 0))
   (hx : opv K x = .c (.one (.mp c))) (hk : opv K i = .c (.one (.d (.int .i64 k)))) (hc : lookB B c = some (.obj (dataO f))) (hf : f k = some xs) (N : Nat) : OpOK P N ids o K B (.c (.one (.own d))) ⟨[c],[d],[(c,some (.dep d (dataH f k))),(d,some (.row 5 .u8 xs))]⟩:=by
 have m1 : x ∈ o.op.operands:=by rw [ho]; simp [Op.operands]
 have m2 : i ∈ o.op.operands:=by rw [ho]; simp [Op.operands]
 rintro K' B' g1 g2 g3 C a w ⟨hn,hdf,ρ,F,hM,hS⟩ hlt Kn Q hK
 have hc':=(g2 c (by simp)).trans hc
 have hfr:=g3 d (by simp)
 obtain ⟨f1,f2,f3,f4⟩:=fresh_of hfr
 have hcd : c ≠ d:=fun e=>by rw [← e,hc'] at f2; cases f2
 obtain ⟨F1,F2,q,es,y,h1,h2,h3,h4,h5,⟨ents,clock,h6,h7⟩,h8,h9⟩:=dataR.out hf (hM.holds c _ hc')
 have e1:=hS.mp ((g1 x m1).trans hx)
 have e2 : a.eval i = keyV uI k:=hS.int ((g1 i m2).trans hk)
 have hzv : (zeroValue et).run P w = .ok (.slice none 0 0) w:=by simp [zeroValue,typeInfo,hi,hz]
 obtain ⟨v,hr,hv⟩:=lookup_run (P:=P) (vu:=.hdl) hT hkt hdk h6 h7 hzv ⟨rfl,⟨fun _=>rfl,fun h=>by cases h⟩,rfl⟩ k false
 have hv2 : v = hdlV y:=by
   have h:=denE_one (ρ:=ρ) rfl hv
   rw [h5] at h
   exact h
 have hx : (execOp a.eval o).run P w = .ok (.value v) w:=by simp only [execOp,ho,Sem.run_bind,e1,e2,hr,Result.andThen_ok,Sem.run_pure]; rfl
 unfold Oper.wp
 rw [hx,Oper.upon_value]
 obtain ⟨hM',hE⟩:=hM.split (K:=K') (ch1:=.dep d (dataH f k)) (ch2:=.row 5 .u8 xs) hc' hfr q F1 F2 h1 h2 h3
   (fun I hI=>by
     show (dataH f k (upd ρ d q d)).R I F1 w (ρ c)
     rw [upd_same]
     exact (dataH f k q).stable _ _ _ _ _ _ h9 hI (fun _ _=>rfl) (Nat.le_refl _))
   (fun I hI=>Holds.stable hI (fun _ _=>rfl) (Nat.le_refl _) _ (fun _ h=>by cases h) h8)
 refine hK _ _ ⟨put_size.trans hn,put_defers.trans hdf,_,_,hM',(hS.mono hE fun s e he=>upd_other _ _ (fun e'=>by subst e'; rw [f1 s] at he; cases he)).putO (fun e he=>by rw [hn]; exact hlt e he) ?_⟩
 show v = (upd ρ d q d).hdr
 rw [upd_same,hv2,h4]
/-- It is closed again. -/
theorem Le.dataIn (c d : Nat) {f f' : FMap} {k : Int} {xs : List UInt8} (hf' : fset f k xs = f') (hc : lookB B c = some (.dep d (dataH f k))) (hd : lookB B d = some (.row 5 .u8 xs)) (hne : c ≠ d) (hk : (f k).isSome = true) : Le ids K B K ((c,.obj (dataO f')) :: dropB B d):=by
 subst hf'
 rintro N C a w ⟨hn,hdf,ρ,F,hM,hS⟩
 have h1 : (dataH f k (ρ d)).R (Imm C B F w) (F c) w (ρ c):=hM.holds c _ hc
 have h2 : rowH (Imm C B F w) (F d) w (ρ d) xs:=hM.holds d _ hd
 have hk : ∃ ys,f k = some ys:=by
   cases e : f k with
   | none=>rw [e] at hk; cases hk
   | some ys=>exact ⟨ys,rfl⟩
 obtain ⟨hM',hE⟩:=hM.join (w':=w) (ch:=.obj (dataO (fset f k xs))) hc hd hne (fun b=>F c b ∨ F d b) (fun _ h=>h) (Fr.refl _ _) fun I hI =>
   (dataO (fset f k xs)).stable _ _ _ _ _ _ (dataR.in_ h1 h2 (fun b hb hb'=>hM.disj c d _ _ b hc hd hne hb hb') hk) hI (fun _ _=>rfl) (Nat.le_refl _)
 exact ⟨hn,hdf,ρ,_,hM',hS.mono hE fun _ _ _=>rfl⟩
/-- A row of one's own is laid in,where none is. -/
theorem opOK_dataPut {o : Oper} {T kt et : TypeId} {x i v : Operand} {c d : Nat} {f : FMap} {k : Int} {xs : List UInt8} (ho : o.op = .mapUpdate T x i v) (hT : P.underlying T = some (.map kt et)) {dk : TypeDesc} (hkt : P.underlying kt = some dk) (hdk : keyD uI dk = true)
   (hx : opv K x = .c (.one (.mp c))) (hk : opv K i = .c (.one (.d (.int .i64 k)))) (hv : opv K v = .c (.one (.own d))) (hc : lookB B c = some (.obj (dataO f))) (hd : lookB B d = some (.row 5 .u8 xs)) (hne : c ≠ d) (hf : f k = none) (N : Nat) :
   OpOK P N ids o K B .undef ⟨[c,d],[],[(d,none),(c,some (.obj (dataO (fset f k xs))))]⟩:=by
 have m1 : x ∈ o.op.operands:=by rw [ho]; simp [Op.operands]
 have m2 : i ∈ o.op.operands:=by rw [ho]; simp [Op.operands]
 have m3 : v ∈ o.op.operands:=by rw [ho]; simp [Op.operands]
 rintro K' B' g1 g2 - C a w ⟨hn,hdf,ρ,F,hM,hS⟩ hlt Kn Q hK
 have hc':=(g2 c (by simp)).trans hc
 have hd':=(g2 d (by simp)).trans hd
 obtain ⟨es,G,h1,h2,h3,ents,clock,h4,h5,h6⟩ : (dataO f).R (Imm C B' F w) (F c) w (ρ c):=hM.holds c _ hc'
 have hrow : rowH (Imm C B' F w) (F d) w (ρ d) xs:=hM.holds d _ hd'
 obtain ⟨y,hy⟩:=hdl_of hrow
 have e1:=hS.mp ((g1 x m1).trans hx)
 have e2 : a.eval i = keyV uI k:=hS.int ((g1 i m2).trans hk)
 have e3 : a.eval v = (ρ d).hdr:=hS.ev ((g1 v m3).trans hv)
 have e4 : DenE (Imm C B' F w) w .hdl y (a.eval v):=by
   rw [e3,hy]
   have hc1 : (hdlV y).cells = #[hdlV y]:=by
     match y with
     | none=>rfl
     | some (_,_,_)=>rfl
   exact ⟨by rw [hc1]; rfl,⟨fun _=>hc1,fun h=>by cases h⟩,by rw [hc1]; rfl⟩
 obtain ⟨es',clock',hr,hm',hB'⟩:=update_run (P:=P) hT hkt hdk h4 h5 h6 k e4
 have hlt2:=(Array.getElem?_eq_some_iff.1 h4).1
 have hdj : ∀ y,F c y → ¬ F d y:=fun y hy hy'=>hM.disj c d _ _ y hc' hd' hne hy hy'
 have hnone : mget (ku:=uI) (vu:=.hdl) es k = none:=by
   cases e : mget (ku:=uI) (vu:=.hdl) es k with
   | none=>rfl
   | some z =>
     obtain ⟨_,_,a1,_⟩:=h1.some_ k z e rfl
     rw [hf] at a1
     cases a1
 obtain ⟨p1,p2⟩:=mget_mput (ku:=uI) (vu:=.hdl) eqKey_int k y es
 have hfrB : ∀ z,z ≠ (ρ c).blk → ({ w with heap:=w.heap.setIfInBounds (ρ c).blk (.map (List.toArray es') clock') } : World).heap[z]? = w.heap[z]?:=fun z hz=>Array.getElem?_setIfInBounds_ne (Ne.symm hz)
 have hxx : (execOp a.eval o).run P w = .ok .skip { w with heap:=w.heap.setIfInBounds (ρ c).blk (.map (List.toArray es') clock') }:=by simp only [execOp,ho,Sem.run_bind,e1,e2,hr,Result.andThen_ok,Sem.run_pure]
 unfold Oper.wp
 rw [hxx,Oper.upon_skip]
 obtain ⟨hM',hE⟩:=hM.join (ch:=.obj (dataO (fset f k xs))) (w':={ w with heap:=w.heap.setIfInBounds (ρ c).blk (.map (List.toArray es') clock') }) hc' hd' hne (fun b=>F c b ∨ F d b) (fun _ h=>h) (map_fr (S:=fun b=>F c b ∨ F d b) (.inl ((h2 _).2 (.inl rfl)))) fun I hI=>by
   have hs1:=h1.stable hI (fun j b hb=>hfrB b fun e=>h3 j (e ▸ hb)) (by simp)
   have hs2 : rowH I (F d) { w with heap:=w.heap.setIfInBounds (ρ c).blk (.map (List.toArray es') clock') } (ρ d) xs:=Holds.stable hI (fun b hb=>hfrB b fun e=>hdj b (e ▸ (h2 _).2 (.inl rfl)) hb) (by simp) _ (fun _ h=>by cases h) hrow
   refine ⟨mput (ku:=uI) (vu:=.hdl) es k y,fun j b=>if j = k then F d b else G j b,⟨KNd.put eqKey_int h1.nd,fun j hj=>?_,fun j z hj _=>?_,fun _ _ _ _ hh=>(by cases hh),fun i j b hij ha hb=>?_⟩,fun b=>?_,fun j hj=>?_,es',clock',by simp [hlt2],hm'.mono hI,hB'⟩
   · have hjk : j ≠ k:=fun e=>by rw [e,p1] at hj; cases hj
     rw [p2 j hjk] at hj
     obtain ⟨b1,_,b3⟩:=hs1.none_ j hj
     exact ⟨by unfold fset; rw [if_neg hjk]; exact b1,rfl,fun b hb=>by rw [if_neg hjk] at hb; exact b3 b hb⟩
   · by_cases hjk : j = k
     · subst hjk
       rw [p1] at hj
       injection hj with hj
       subst hj
       exact ⟨xs,ρ d,if_pos rfl,hy,hs2.congr fun b=>by rw [if_pos rfl]⟩
     · rw [p2 j hjk] at hj
       obtain ⟨zs,r,b1,b2,b3⟩:=hs1.some_ j z hj rfl
       exact ⟨zs,r,(if_neg hjk).trans b1,b2,b3.congr fun b=>by rw [if_neg hjk]⟩
   · by_cases hi : i = k
     · rw [if_pos hi] at ha
       have hj : j ≠ k:=fun e'=>hij (hi.trans e'.symm)
       rw [if_neg hj] at hb
       exact hdj b ((h2 b).2 (.inr ⟨j,hb⟩)) ha
     · rw [if_neg hi] at ha
       by_cases hj : j = k
       · rw [if_pos hj] at hb
         exact hdj b ((h2 b).2 (.inr ⟨i,ha⟩)) hb
       · rw [if_neg hj] at hb
         exact h1.disj i j b hij ha hb
   · show (F c b ∨ F d b) ↔ (b = (ρ c).blk ∨ ∃ j,(if j = k then F d b else G j b))
     rw [h2]
     have hGk:=(h1.none_ k hnone).2.2
     constructor
     · rintro ((h | ⟨j,h⟩) | h)
       · exact .inl h
       · refine .inr ⟨j,?_⟩
         have hj : j ≠ k:=fun e=>hGk b (e ▸ h)
         rw [if_neg hj]; exact h
       · exact .inr ⟨k,by rw [if_pos rfl]; exact h⟩
     · rintro (h | ⟨j,h⟩)
       · exact .inl (.inl h)
       · by_cases hj : j = k
         · rw [if_pos hj] at h; exact .inr h
         · rw [if_neg hj] at h; exact .inl (.inr ⟨j,h⟩)
   · replace hj : (if j = k then F d (ρ c).blk else G j (ρ c).blk):=hj
     by_cases hj' : j = k
     · rw [if_pos hj'] at hj
       exact hdj _ ((h2 _).2 (.inl rfl)) hj
     · rw [if_neg hj'] at hj
       exact h3 j hj
 exact hK _ _ ⟨put_size.trans hn,put_defers.trans hdf,ρ,_,hM',(hS.mono hE fun _ _ _=>rfl).putO (fun e he=>by rw [hn]; exact hlt e he) rfl⟩
/-- A row is given up. -/
theorem opOK_dataDel {o : Oper} {T T' kt et : TypeId} {x i : Operand} {c : Nat} {f : FMap} {k : Int} (ho : o.op = .call { callee:=.builtin .delete,args:=#[x,i],argTypes:=#[T,T'] }) (hT : P.underlying T = some (.map kt et)) {dk : TypeDesc} (hkt : P.underlying kt = some dk) (hdk : keyD uI dk = true)
   (hx : opv K x = .c (.one (.mp c))) (hk : opv K i = .c (.one (.d (.int .i64 k)))) (hc : lookB B c = some (.obj (dataO f))) (N : Nat) :
   OpOK P N ids o K B (.tup []) ⟨[c],[],[(c,some (.obj (dataO (fdel f k))))]⟩:=by
 have m1 : x ∈ o.op.operands:=by rw [ho]; simp [Op.operands,Call.operands]
 have m2 : i ∈ o.op.operands:=by rw [ho]; simp [Op.operands,Call.operands]
 rintro K' B' g1 g2 - C a w ⟨hn,hdf,ρ,F,hM,hS⟩ hlt Kn Q hK
 have hc':=(g2 c (by simp)).trans hc
 obtain ⟨es,G,h1,h2,h3,ents,clock,h4,h5,h6⟩ : (dataO f).R (Imm C B' F w) (F c) w (ρ c):=hM.holds c _ hc'
 have e1:=hS.mp ((g1 x m1).trans hx)
 have e2 : a.eval i = keyV uI k:=hS.int ((g1 i m2).trans hk)
 obtain ⟨es',hr,hm',hB'⟩:=delete_run (P:=P) (ty:=o.type) hT hkt hdk h4 h5 h6 k T'
 have hlt2:=(Array.getElem?_eq_some_iff.1 h4).1
 obtain ⟨p1,p2⟩:=mget_mdel (ku:=uI) (vu:=.hdl) eqKey_int k es h1.nd
 have hfrB : ∀ z,z ≠ (ρ c).blk → ({ w with heap:=w.heap.setIfInBounds (ρ c).blk (.map (List.toArray es') clock) } : World).heap[z]? = w.heap[z]?:=fun z hz=>Array.getElem?_setIfInBounds_ne (Ne.symm hz)
 have hxx : (execOp a.eval o).run P w = .ok (.value (.tuple #[])) { w with heap:=w.heap.setIfInBounds (ρ c).blk (.map (List.toArray es') clock) }:=by simp [execOp,ho,resolve,invoke,builtin,e1,e2,hr]
 unfold Oper.wp
 rw [hxx,Oper.upon_value]
 obtain ⟨hM',hE⟩:=hM.turnG (ch:=.obj (dataO (fdel f k))) (w':={ w with heap:=w.heap.setIfInBounds (ρ c).blk (.map (List.toArray es') clock) }) hc' (fun b=>b = (ρ c).blk ∨ ∃ j,j ≠ k ∧ G j b) (fun b hb=>(h2 b).2 (hb.imp id fun ⟨j,_,h⟩=>⟨j,h⟩)) (map_fr (S:=F c) ((h2 _).2 (.inl rfl))) fun I hI=>by
   have hs1:=h1.stable hI (fun j b hb=>hfrB b fun e=>h3 j (e ▸ hb)) (by simp)
   refine ⟨mdel (ku:=uI) (vu:=.hdl) es k,fun j b=>j ≠ k ∧ G j b,⟨KNd.del h1.nd,fun j hj=>?_,fun j z hj _=>?_,fun _ _ _ _ hh=>(by cases hh),fun i j b hij ha hb=>h1.disj i j b hij ha.2 hb.2⟩,fun b=>Iff.rfl,fun j hj=>h3 j hj.2,es',clock,by simp [hlt2],hm'.mono hI,hB'⟩
   · by_cases hjk : j = k
     · exact ⟨if_pos hjk,rfl,fun b hb=>hb.1 hjk⟩
     · rw [p2 j hjk] at hj
       obtain ⟨b1,_,b3⟩:=hs1.none_ j hj
       exact ⟨(if_neg hjk).trans b1,rfl,fun b hb=>b3 b hb.2⟩
   · have hjk : j ≠ k:=fun e=>by rw [e,p1] at hj; cases hj
     rw [p2 j hjk] at hj
     obtain ⟨zs,r,b1,b2,b3⟩:=hs1.some_ j z hj rfl
     exact ⟨zs,r,(if_neg hjk).trans b1,b2,b3.congr fun b=>⟨fun h=>h.2,fun h=>⟨hjk,h⟩⟩⟩
 exact hK _ _ ⟨put_size.trans hn,put_defers.trans hdf,ρ,_,hM',(hS.mono hE fun _ _ _=>rfl).putO (fun e he=>by rw [hn]; exact hlt e he) ⟨[],rfl,rfl⟩⟩
/-- A map without anything. -/
theorem Le.dataEmp (c : Nat) {vu : U} (hc : lookB B c = some (.map uI vu [])) : Le ids K B K ((c,.obj (dataO fnone)) :: B):=by
 rintro N C a w ⟨hn,hd,ρ,F,hM,hS⟩
 obtain ⟨hF,ents,clock,h3,h4,h6⟩:=hM.holds c _ hc
 have h4 : ents = []:=h4
 subst h4
 obtain ⟨hM',hE⟩:=hM.turn (w':=w) (ch:=.obj (dataO fnone)) hc (Fr.refl _ _) fun I hI=>⟨[],fun _ _=>False,⟨.nil,fun _ _=>⟨rfl,rfl,fun _ h=>h⟩,fun _ _ h=>(by cases h),fun _ _ _ h=>(by cases h),fun _ _ _ _ h=>h.elim⟩,fun b=>by rw [hF]; simp,fun _ h=>h,[],clock,h3,rfl,h6⟩
 exact ⟨hn,hd,ρ,F,hM',hS.mono hE fun _ _ _=>rfl⟩
end
end Go.Proofs.YteoamepgonpdlaaGreat
/-!
  Contracts: with more blocks; with a row that becomes data.
-/
namespace Go.Proofs.YteoamepgonpdlaaGreat
set_option linter.unusedVariables false
set_option linter.unusedSimpArgs false
open Go.RowKit
/-- None of these blocks is one of l,or names one. -/
def farB (l : List Nat) : BL → Bool
 | []=>true
 | (c,ch) :: B=>!l.contains c && (l.all fun d=>!ch.has d) && farB l B
theorem farB_get {l : List Nat} : ∀ {B : BL},farB l B = true → ∀ {c ch},lookB B c = some ch → c ∉ l ∧ ∀ d,d ∈ l → ch.has d = false
 | [],_,c,ch,hc=>by cases hc
 | (e,x) :: B,h,c,ch,hc=>by
   simp only [farB,Bool.and_eq_true,Bool.not_eq_true'] at h
   obtain ⟨⟨h1,h2⟩,h3⟩:=h
   rw [lookB_cons] at hc
   split at hc
   · rename_i e
     injection hc with hc
     subst e hc
     refine ⟨fun hm=>(by rw [List.contains_iff_mem.2 hm] at h1; cases h1),fun d hd=>?_⟩
     have:=List.all_eq_true.1 h2 d hd
     simpa using this
   · exact farB_get h3 hc
theorem Fn.more {P : Program} {f : FuncId} {args : List SV} {Bi : BL} {nw : List Nat} {res : SV} {Bo : BL} (Be : BL) (h : Fn P f args Bi nw res Bo) (h1 : ((keysB Be).all fun d=>!(keysB Bi).contains d && !(keysB Bo).contains d) = true) (h2 : farB nw Be = true) :
   Fn P f args (Bi ++ Be) nw res (Bo ++ Be):=by
 have k1 : ∀ {c ch},lookB Be c = some ch → lookB Bi c = none ∧ lookB Bo c = none:=fun {c ch} hc=>by
   have:=List.all_eq_true.1 h1 c (keysB_mem.2 ⟨ch,hc⟩)
   simp only [Bool.and_eq_true,Bool.not_eq_true'] at this
   constructor
   · cases e : lookB Bi c with
     | none=>rfl
     | some x=>rw [List.contains_iff_mem.2 (keysB_mem.2 ⟨x,e⟩)] at this; cases this.1
   · cases e : lookB Bo c with
     | none=>rfl
     | some x=>rw [List.contains_iff_mem.2 (keysB_mem.2 ⟨x,e⟩)] at this; cases this.2
 have inI : ∀ {c ch},lookB Bi c = some ch → lookB (Bi ++ Be) c = some ch:=fun {c ch} hc=>by rw [lookB_app,hc]
 have inE : ∀ {c ch},lookB Be c = some ch → lookB (Bi ++ Be) c = some ch:=fun {c ch} hc=>by rw [lookB_app,(k1 hc).1]; exact hc
 have un : ∀ {c ch},lookB (Bo ++ Be) c = some ch → lookB Bo c = some ch ∨ lookB Be c = some ch:=fun {c ch} hc=>by
   rw [lookB_app] at hc
   cases e : lookB Bo c with
   | none=>rw [e] at hc; exact .inr hc
   | some x=>rw [e] at hc; exact .inl hc
 refine ⟨h.1,fun ρ F I w vals a1 a2 a3 a4 a5 a6=>?_⟩
 refine (h.2 ρ F I w vals a1 (fun c ch hc=>a2 c ch (inI hc)) (fun c ch hc=>a3 c ch (inI hc)) (fun c c' ch ch' b hc hc'=>a4 c c' ch ch' b (inI hc) (inI hc')) a5 a6).mono ?_
 rintro e w' ⟨x,ρ',F',r1,r2,r3,I',r4,r5,r6,r7,r8,r9⟩
 let F2 : Nat → Nat → Prop:=fun c=>if (lookB Be c).isSome = true then F c else F' c
 have f1 : ∀ {c ch},lookB Be c = some ch → F2 c = F c:=fun {c ch} hc=>if_pos (by rw [hc]; rfl)
 have f2 : ∀ {c ch},lookB Bo c = some ch → F2 c = F' c:=fun {c ch} hc=>if_neg (fun hs=>by
   cases e : lookB Be c with
   | none=>rw [e] at hs; cases hs
   | some x=>rw [(k1 e).2] at hc; cases hc)
 have notBi : ∀ {c ch} {b : Nat},lookB Be c = some ch → F c b → ¬ ∃ d ch',lookB Bi d = some ch' ∧ F d b:=fun {c ch b} hc hb=>by
   rintro ⟨d,ch',hd,hb'⟩
   refine a4 c d ch ch' b (inE hc) (inI hd) (fun e=>?_) hb hb'
   subst e
   rw [(k1 hc).1] at hd
   cases hd
 refine ⟨x,ρ',F2,r1,r2.mono fun b _ ⟨c,ch,hc,hb⟩=>⟨c,ch,inI hc,hb⟩,r3,I',r4,fun b hb=>⟨(r5 b hb).1,(r5 b hb).2.imp id (Or.imp (fun ⟨c,ch,hc,hb⟩=>⟨c,ch,inI hc,hb⟩) id)⟩,fun c ch hc=>?_,fun c ch hc b hb=>?_,fun c c' ch ch' b hc hc' hne hb hb'=>?_,r9⟩
 · rcases un hc with hc | hc
   · rw [f2 hc]; exact r6 c ch hc
   · rw [f1 hc]
     obtain ⟨g1,g2⟩:=farB_get h2 hc
     rw [r3 c g1]
     exact Holds.stable r4 (fun b hb=>r2.block b (a3 c ch (inE hc) b hb).1 (notBi hc hb)) r2.size ch (fun d hd=>r3 d fun hm=>by rw [g2 d hm] at hd; cases hd) (a2 c ch (inE hc))
 · rcases un hc with hc | hc
   · rw [f2 hc] at hb
     obtain ⟨g1,g2,g3⟩:=r7 c ch hc b hb
     exact ⟨g1,g2,g3.imp (fun ⟨d,ch',hd,hb⟩=>⟨d,ch',inI hd,hb⟩) id⟩
   · rw [f1 hc] at hb
     obtain ⟨g1,g2⟩:=a3 c ch (inE hc) b hb
     refine ⟨Nat.lt_of_lt_of_le g1 r2.size,fun hI=>?_,.inl ⟨c,ch,inE hc,hb⟩⟩
     rcases (r5 b hI).2 with h | h | h
     · exact g2 h
     · exact notBi hc hb h
     · omega
 · rcases un hc with hc | hc <;> rcases un hc' with hc' | hc'
   · rw [f2 hc] at hb; rw [f2 hc'] at hb'; exact r8 c c' ch ch' b hc hc' hne hb hb'
   · rw [f2 hc] at hb; rw [f1 hc'] at hb'
     rcases (r7 c ch hc b hb).2.2 with h | h
     · exact notBi hc' hb' h
     · have:=(a3 c' ch' (inE hc') b hb').1; omega
   · rw [f1 hc] at hb; rw [f2 hc'] at hb'
     rcases (r7 c' ch' hc' b hb').2.2 with h | h
     · exact notBi hc hb h
     · have:=(a3 c ch (inE hc) b hb).1; omega
   · rw [f1 hc] at hb; rw [f1 hc'] at hb'; exact a4 c c' ch ch' b (inE hc) (inE hc') hne hb hb'
/-- A result that is a new row,as data. -/
theorem Fn.frz {P : Program} {f : FuncId} {args : List SV} {Bi : BL} {nw : List Nat} {d : Nat} {e : TypeId} {u : U} {xs : List (El u)} {Bo : BL} (h : Fn P f args Bi (d :: nw) (.c (.one (.own d))) (Bo ++ [(d,.row e u xs)])) (h1 : (keysB Bo).contains d = false) (h2 : farB [d] Bo = true) :
   Fn P f args Bi nw (.c (.one (.d (.lst u xs)))) Bo:=by
 have k1 : lookB Bo d = none:=by
   cases e : lookB Bo d with
   | none=>rfl
   | some x=>rw [List.contains_iff_mem.2 (keysB_mem.2 ⟨x,e⟩)] at h1; cases h1
 have ld : lookB (Bo ++ [(d,Ch.row e u xs)]) d = some (.row e u xs):=by rw [lookB_app,k1]; simp [lookB]
 have inB : ∀ {c ch},lookB Bo c = some ch → lookB (Bo ++ [(d,Ch.row e u xs)]) c = some ch:=fun {c ch} hc=>by rw [lookB_app,hc]
 have hne : ∀ {c ch},lookB Bo c = some ch → c ≠ d:=fun {c ch} hc e=>by rw [e,k1] at hc; cases hc
 refine ⟨h.1,fun ρ F I w vals a1 a2 a3 a4 a5 a6=>?_⟩
 refine (h.2 ρ F I w vals a1 a2 a3 a4 a5 a6).mono ?_
 rintro ex w' ⟨x,ρ',F',r1,r2,r3,I',r4,r5,r6,r7,r8,r9⟩
 have hrow:=r6 d _ ld
 have hI1 : ∀ b,I' b → (fun b=>I' b ∨ F' d b) b:=fun b hb=>.inl hb
 have hE : Ext I' w' (fun b=>I' b ∨ F' d b) w':=fun b hb=>⟨.inl hb,rfl⟩
 have hden : Den (fun b=>I' b ∨ F' d b) w' (.lst u xs) (ρ' d).hdr:=row_data hrow hI1 (fun b hb=>.inr hb)
 refine ⟨x,upd ρ' d (ρ d),F',r1,r2,fun c hc=>?_,fun b=>I' b ∨ F' d b,fun b hb=>⟨.inl (r4 b hb).1,(r4 b hb).2⟩,fun b hb=>?_,fun c ch hc=>?_,fun c ch hc b hb=>?_,fun c c' ch ch' b hc hc'=>r8 c c' ch ch' b (inB hc) (inB hc'),?_⟩
 · by_cases e : c = d
   · rw [e,upd_same]
   · rw [upd_other _ _ e]; exact r3 c (fun hm=>by rcases List.mem_cons.1 hm with h | h; exact e h; exact hc h)
 · rcases hb with hb | hb
   · exact r5 b hb
   · obtain ⟨g1,g2,g3⟩:=r7 d _ ld b hb
     exact ⟨g1,.inr g3⟩
 · have hcd:=hne hc
   obtain ⟨_,g2⟩:=farB_get h2 hc
   rw [upd_other _ _ hcd]
   exact Holds.stable hE (fun _ _=>rfl) (Nat.le_refl _) ch (fun j hj=>upd_other _ _ fun e=>by rw [e,g2 d (List.mem_singleton.2 rfl)] at hj; cases hj) (r6 c ch (inB hc))
 · obtain ⟨g1,g2,g3⟩:=r7 c ch (inB hc) b hb
   refine ⟨g1,fun hI=>?_,g3⟩
   rcases hI with hI | hI
   · exact g2 hI
   · exact r8 c d ch _ b (inB hc) ld (hne hc) hb hI
 · have hx : x = (ρ' d).hdr:=r9
   rw [hx]
   exact hden
/-- A new row that is part of a result,as data. -/
theorem Fn.frzR {P : Program} {f : FuncId} {args : List SV} {Bi : BL} {nw : List Nat} {d : Nat} {e : TypeId} {u : U} {xs : List (El u)} {res : SV} {Bo : BL} (h : Fn P f args Bi (d :: nw) res (Bo ++ [(d,.row e u xs)])) (h1 : (keysB Bo).contains d = false) (h2 : farB [d] Bo = true) (h3 : (res.frz d (.lst u xs)).has d = false) :
   Fn P f args Bi nw (res.frz d (.lst u xs)) Bo:=by
 have k1 : lookB Bo d = none:=by
   cases e : lookB Bo d with
   | none=>rfl
   | some x=>rw [List.contains_iff_mem.2 (keysB_mem.2 ⟨x,e⟩)] at h1; cases h1
 have ld : lookB (Bo ++ [(d,Ch.row e u xs)]) d = some (.row e u xs):=by rw [lookB_app,k1]; simp [lookB]
 have inB : ∀ {c ch},lookB Bo c = some ch → lookB (Bo ++ [(d,Ch.row e u xs)]) c = some ch:=fun {c ch} hc=>by rw [lookB_app,hc]
 have hne : ∀ {c ch},lookB Bo c = some ch → c ≠ d:=fun {c ch} hc e=>by rw [e,k1] at hc; cases hc
 refine ⟨h.1,fun ρ F I w vals a1 a2 a3 a4 a5 a6=>?_⟩
 refine (h.2 ρ F I w vals a1 a2 a3 a4 a5 a6).mono ?_
 rintro ex w' ⟨x,ρ',F',r1,r2,r3,I',r4,r5,r6,r7,r8,r9⟩
 have hrow:=r6 d _ ld
 have hI1 : ∀ b,I' b → (fun b=>I' b ∨ F' d b) b:=fun b hb=>.inl hb
 have hE : Ext I' w' (fun b=>I' b ∨ F' d b) w':=fun b hb=>⟨.inl hb,rfl⟩
 have hden : Den (fun b=>I' b ∨ F' d b) w' (.lst u xs) (ρ' d).hdr:=row_data hrow hI1 (fun b hb=>.inr hb)
 refine ⟨x,upd ρ' d (ρ d),F',r1,r2,fun c hc=>?_,fun b=>I' b ∨ F' d b,fun b hb=>⟨.inl (r4 b hb).1,(r4 b hb).2⟩,fun b hb=>?_,fun c ch hc=>?_,fun c ch hc b hb=>?_,fun c c' ch ch' b hc hc'=>r8 c c' ch ch' b (inB hc) (inB hc'),?_⟩
 · by_cases e : c = d
   · rw [e,upd_same]
   · rw [upd_other _ _ e]; exact r3 c (fun hm=>by rcases List.mem_cons.1 hm with h | h; exact e h; exact hc h)
 · rcases hb with hb | hb
   · exact r5 b hb
   · obtain ⟨g1,g2,g3⟩:=r7 d _ ld b hb
     exact ⟨g1,.inr g3⟩
 · have hcd:=hne hc
   obtain ⟨_,g2⟩:=farB_get h2 hc
   rw [upd_other _ _ hcd]
   exact Holds.stable hE (fun _ _=>rfl) (Nat.le_refl _) ch (fun j hj=>upd_other _ _ fun e=>by rw [e,g2 d (List.mem_singleton.2 rfl)] at hj; cases hj) (r6 c ch (inB hc))
 · obtain ⟨g1,g2,g3⟩:=r7 c ch (inB hc) b hb
   refine ⟨g1,fun hI=>?_,g3⟩
   rcases hI with hI | hI
   · exact g2 hI
   · exact r8 c d ch _ b (inB hc) ld (hne hc) hb hI
 · have hv : DenV ρ' (fun b=>I' b ∨ F' d b) w' (res.frz d (.lst u xs)) x:=DenV.frz hE hden res x r9
   exact DenV.mono (Ext.refl _ _) _ _ (fun c hc=>upd_other _ _ fun e=>by subst e; rw [h3] at hc; cases hc) hv
/-- A row of the caller's own,given away: data for whoever is called. -/
theorem Fn.own {P : Program} {f : FuncId} {args : List SV} {Bi : BL} {nw : List Nat} {d : Nat} {e : TypeId} {u : U} {xs : List (El u)} {res : SV} {Bo : BL} (h : Fn P f (args.map (SV.frz d (.lst u xs))) Bi nw res Bo) (h1 : (keysB Bi).contains d = false) :
   Fn P f args (Bi ++ [(d,.row e u xs)]) nw res Bo:=by
 have k1 : lookB Bi d = none:=by
   cases e : lookB Bi d with
   | none=>rfl
   | some x=>rw [List.contains_iff_mem.2 (keysB_mem.2 ⟨x,e⟩)] at h1; cases h1
 have ld : lookB (Bi ++ [(d,Ch.row e u xs)]) d = some (.row e u xs):=by rw [lookB_app,k1]; simp [lookB]
 have inB : ∀ {c ch},lookB Bi c = some ch → lookB (Bi ++ [(d,Ch.row e u xs)]) c = some ch:=fun {c ch} hc=>by rw [lookB_app,hc]
 have hne : ∀ {c ch},lookB Bi c = some ch → c ≠ d:=fun {c ch} hc e=>by rw [e,k1] at hc; cases hc
 refine ⟨h.1,fun ρ F I w vals a1 a2 a3 a4 a5 a6=>?_⟩
 have hrow:=a2 d _ ld
 have hE : Ext I w (fun b=>I b ∨ F d b) w:=fun b hb=>⟨.inl hb,rfl⟩
 have hden : Den (fun b=>I b ∨ F d b) w (.lst u xs) (ρ d).hdr:=row_data hrow (fun b hb=>.inl hb) (fun b hb=>.inr hb)
 refine (h.2 ρ F (fun b=>I b ∨ F d b) w vals (fun b hb=>hb.elim (a1 b) fun hb=>(a3 d _ ld b hb).1) (fun c ch hc=>Holds.stable hE (fun _ _=>rfl) (Nat.le_refl _) ch (fun _ _=>rfl) (a2 c ch (inB hc)))
   (fun c ch hc b hb=>⟨(a3 c ch (inB hc) b hb).1,fun hI=>hI.elim (a3 c ch (inB hc) b hb).2 fun hd=>a4 c d ch _ b (inB hc) ld (hne hc) hb hd⟩) (fun c c' ch ch' b hc hc'=>a4 c c' ch ch' b (inB hc) (inB hc')) (by rw [List.length_map]; exact a5) (fun i v x hv hx=>?_)).mono ?_
 · rw [List.getElem?_map] at hv
   obtain ⟨s,hs,rfl⟩:=Option.map_eq_some_iff.1 hv
   exact DenV.frz hE hden s x (a6 i s x hs hx)
 · rintro ex w' ⟨x,ρ',F',r1,r2,r3,I',r4,r5,r6,r7,r8,r9⟩
   refine ⟨x,ρ',F',r1,r2.mono fun b _ ⟨c,ch,hc,hb⟩=>⟨c,ch,inB hc,hb⟩,r3,I',fun b hb=>r4 b (.inl hb),fun b hb=>⟨(r5 b hb).1,?_⟩,r6,fun c ch hc b hb=>?_,r8,r9⟩
   · rcases (r5 b hb).2 with h | ⟨c,ch,hc,hb⟩ | h
     · exact h.elim .inl fun h=>.inr (.inl ⟨d,_,ld,h⟩)
     · exact .inr (.inl ⟨c,ch,inB hc,hb⟩)
     · exact .inr (.inr h)
   · obtain ⟨g1,g2,g3⟩:=r7 c ch hc b hb
     exact ⟨g1,g2,g3.imp (fun ⟨c,ch,hc,hb⟩=>⟨c,ch,inB hc,hb⟩) id⟩
end Go.Proofs.YteoamepgonpdlaaGreat
/-!
  Images, laid open: a table, counts, rows.
-/
namespace Go.Proofs.YteoamepgonpdlaaGreat
set_option linter.unusedVariables false
set_option linter.unusedSimpArgs false
set_option maxRecDepth 10000
open Go.RowKit Go.Proofs
structure ImS where
 bits : Nat
 t : List Slt
 l : List Int
 f : FMap
@[reducible] def imC (n : Int) : List S1:=[.d (.int .i64 n),.ptr 1002 0,.ptr 1003 0,.mp 1004,.nils]
@[reducible] def imB (s : ImS) : BL:=[(1001,.cells (imC s.bits)),(1002,.obj (tabO s.t)),(1003,.obj (cntO s.l)),(1004,.obj (dataO s.f))]
def imO (s : ImS) : Ob:=.grp 1001 (imB s)
theorem tlenO (t : List Slt) : Fn Tryz.prog 105 [vP 1001] [(1001,.obj (tabO t))] [] (vI (t.length : Nat)) [(1001,.obj (tabO t))] :=
 Fn.openEx (oy:=fun es : { es // TabR t es }=>.grp 1001 (tabB (t.length : Nat) es.1)) (by kernel_rfl) (fun _ _ _ _ ⟨es,h,hg⟩=>⟨⟨es,h⟩,hg⟩) fun es =>
   Fn.close [1002] (tlen_fn _ es.1) (fun _ _ _ _ h=>h) (fun _ _ _ _ h=>⟨es.1,es.2,h⟩) rfl rfl
theorem tgetO (t : List Slt) (hl : t.length ≤ 256) (c : Nat) (hc : c < t.length) : Fn Tryz.prog 108 [vP 1001,vI (c : Int)] [(1001,.obj (tabO t))] [] (.c (vSl t[c])) [(1001,.obj (tabO t))] :=
 Fn.openEx (oy:=fun es : { es // TabR t es }=>.grp 1001 (tabB (t.length : Nat) es.1)) (by kernel_rfl) (fun _ _ _ _ ⟨es,h,hg⟩=>⟨⟨es,h⟩,hg⟩) fun es =>
   Fn.close [1002] (tget_fn es.2 hl c hc) (fun _ _ _ _ h=>h) (fun _ _ _ _ h=>⟨es.1,es.2,h⟩) rfl rfl
theorem tsetO (t : List Slt) (hl : t.length ≤ 256) (c : Nat) (hc : c < t.length) (s : Slt) (hs : slOK s) (hr : slRight s = true) :
   Fn Tryz.prog 145 [vP 1001,vI (c : Int),.c (vSl s)] [(1001,.obj (tabO t))] [] (.tup [vSl t[c],vErr 0]) [(1001,.obj (tabO (t.set c s)))] :=
 Fn.openEx (oy:=fun es : { es // TabR t es }=>.grp 1001 (tabB (t.length : Nat) es.1)) (by kernel_rfl) (fun _ _ _ _ ⟨es,h,hg⟩=>⟨⟨es,h⟩,hg⟩) fun es =>
   Fn.close [1002] (tset_fn es.2 hl c hc s hs hr) (fun _ _ _ _ h=>h) (fun _ _ _ _ h=>⟨_,es.2.set c s hs,by rw [List.length_set]; exact h⟩) rfl rfl
theorem clessO (l : List Int) (h : Nat) (n : Int) (hn : l[h]? = some n) (h1 : 1 ≤ n) (h2 : n ≤ 65535) : Fn Tryz.prog 153 [vP 1001,vI (h : Int)] [(1001,.obj (cntO l))] [] (.tup [.one (.d (.int .i64 (n - 1))),vErr 0]) [(1001,.obj (cntO (l.set h (n - 1))))] :=
 Fn.close [1002] (cless_fn l h n hn h1 h2) (fun _ _ _ _ h=>h) (fun _ _ _ _ h=>h) rfl rfl
theorem cfreeO (l : List Int) (hl : l.length ≤ 1000000) : Fn Tryz.prog 135 [vP 1001] [(1001,.obj (cntO l))] [] (vI (zeros l : Nat)) [(1001,.obj (cntO l))] :=
 Fn.close [1002] (cfree_fn l hl) (fun _ _ _ _ h=>h) (fun _ _ _ _ h=>h) rfl rfl
theorem ctakeO (l : List Int) (hl : l.length ≤ 1000000) (h : Nat) (hh : l[h]? = some 0) (hf : ∀ j,j < h → l[j]? ≠ some 0) : Fn Tryz.prog 136 [vP 1001] [(1001,.obj (cntO l))] [] (.tup [.one (.d (.int .i64 (h : Int))),vErr 0]) [(1001,.obj (cntO (l.set h 1)))] :=
 Fn.close [1002] (ctake_fn l hl h hh hf) (fun _ _ _ _ h=>h) (fun _ _ _ _ h=>h) rfl rfl
/-! ### the image's small functions -/
def wid (s : ImS) : Nat:=16 * 2 ^ s.bits
theorem pow_le8 {b : Nat} (h : b ≤ 3) : 1 ≤ 2 ^ b ∧ 2 ^ b ≤ 8:=by
 match b,h with
 | 0,_=>decide
 | 1,_=>decide
 | 2,_=>decide
 | 3,_=>decide
theorem wid_le {s : ImS} (h : s.bits ≤ 3) : 16 ≤ wid s ∧ wid s ≤ 128:=by
 have:=pow_le8 h
 unfold wid
 omega
theorem ibytes_fn (s : ImS) (hb : s.bits ≤ 3) : Fn Tryz.prog 126 [vP 1001] (imB s) [] (vI (wid s : Nat)) (imB s):=by
 have h:=pow_le8 hb
 have e : (16 : Int) * ((2 ^ s.bits : Nat) : Int) = ((wid s : Nat) : Int):=by unfold wid; omega
 refine Fn.of tblOK [] _ _ _ _ _ Tryz.func126 rfl rfl (by kernel_rfl) (by kernel_rfl) rfl (drawOK tblOK) rfl ?_
 have m : (0 : Int) ≤ 16 ∧ (0 : Int) ≤ (s.bits : Int) ∧ (s.bits : Int) ≤ 64:=by omega
 have m2 : (-9223372036854775808 : Int) ≤ 16 * ((2 ^ s.bits : Nat) : Int) ∧ (16 : Int) * ((2 ^ s.bits : Nat) : Int) ≤ 9223372036854775807:=by omega
 refine ⟨m,m2,?_⟩
 exact ⟨_,_,_,Le.refl _ _,rfl,e,⟨rfl,rfl,rfl,rfl,trivial⟩,rfl⟩
theorem isize_fn (s : ImS) : Fn Tryz.prog 64 [vP 1001] (imB s) [] (vI (s.t.length : Nat)) (imB s):=by
 refine Fn.of tblOK [] _ _ _ _ _ Tryz.func64 rfl rfl (by kernel_rfl) (by kernel_rfl) rfl (drawOK tblOK) rfl ?_
 refine ⟨_,_,_,_,Fn.ren [(1001,1002)] (tlenO s.t),⟨rfl,trivial⟩,rfl,?_⟩
 exact ⟨_,_,_,Le.refl _ _,rfl,rfl,⟨rfl,rfl,rfl,rfl,trivial⟩,rfl⟩
theorem ikind_fn (s : ImS) (hl : s.t.length ≤ 256) (c : Nat) (hc : c < s.t.length) : Fn Tryz.prog 76 [vP 1001,vI (c : Int)] (imB s) [] (vI (s.t[c]).1) (imB s):=by
 refine Fn.of tblOK [] _ _ _ _ _ Tryz.func76 rfl rfl (by kernel_rfl) (by kernel_rfl) rfl (drawOK tblOK) rfl ?_
 refine ⟨_,_,_,_,Fn.ren [(1001,1002)] (tgetO s.t hl c hc),⟨rfl,trivial⟩,rfl,?_⟩
 refine ⟨_,_,fun N=>opOK_field rfl Tryz.underlying188 rfl Tryz.underlying3 rfl rfl rfl N,rfl,?_⟩
 exact ⟨_,_,_,Le.refl _ _,rfl,rfl,⟨rfl,rfl,rfl,rfl,trivial⟩,rfl⟩
theorem ifree_fn (s : ImS) (hl : s.l.length ≤ 1000000) : Fn Tryz.prog 118 [vP 1001] (imB s) [] (vI (zeros s.l : Nat)) (imB s):=by
 refine Fn.of tblOK [] _ _ _ _ _ Tryz.func118 rfl rfl (by kernel_rfl) (by kernel_rfl) rfl (drawOK tblOK) rfl ?_
 refine ⟨_,_,_,_,Fn.ren [(1001,1003),(1002,2003)] (cfreeO s.l hl),⟨rfl,trivial⟩,rfl,?_⟩
 exact ⟨_,_,_,Le.refl _ _,rfl,rfl,⟨rfl,rfl,rfl,rfl,trivial⟩,rfl⟩
/-! ### rows are cloned -/
theorem cloneRow_fn (x : List UInt8) (hx : x.length ≤ 4294967296) : Fn Tryz.prog 137 [vOwn 1001] [(1001,.row 5 .u8 x)] [1002] (vOwn 1002) [(1001,.row 5 .u8 x),(1002,.row 5 .u8 x)]:=by
 refine Fn.of tblOK [1] _ _ _ _ _ Tryz.func137 rfl rfl (by kernel_rfl) (by kernel_rfl) rfl (drawOK tblOK) rfl ?_
 show TrQ _ _ _ _ _ _ _
 refine TrQ.regionX tblOK (by kernel_rfl) ?_
 refine ⟨_,opS_ownNil (c:=1001) rfl rfl rfl Tryz.underlying34,fun v e h=>?_⟩
 obtain ⟨b,hb,rfl,rfl⟩:=h
 cases b
 · refine ⟨rfl,?_⟩
   have m1 : ([] : List UInt8).length + x.length ≤ 4294967296:=by simp; omega
   refine ⟨m1,rfl,?_⟩
   exact ⟨_,_,_,Le.ren 7 1002 rfl,rfl,rfl,⟨rfl,rfl,trivial⟩,rfl⟩
 · have hb:=hb rfl
   subst hb
   exact ⟨_,_,_,Le.nil 2 1002 5 .u8 rfl rfl,rfl,rfl,⟨rfl,rfl,trivial⟩,rfl⟩
theorem cloneDat_fn (x : List UInt8) (hx : x.length ≤ 4294967296) : Fn Tryz.prog 137 [vL .u8 x] [] [2001] (vOwn 2001) [(2001,.row 5 .u8 x)]:=by
 refine Fn.of tblOK [1] _ _ _ _ _ Tryz.func137 rfl rfl (by kernel_rfl) (by kernel_rfl) rfl (drawOK tblOK) rfl ?_
 show TrQ _ _ _ _ _ _ _
 refine TrQ.regionX tblOK (by kernel_rfl) ?_
 refine ⟨_,opS_lstNil rfl rfl Tryz.underlying34,fun v e h=>?_⟩
 obtain ⟨b,hb,rfl,rfl⟩:=h
 cases b
 · refine ⟨rfl,?_⟩
   have hl : 0 + x.length ≤ 4294967296:=by omega
   refine ⟨hl,rfl,?_⟩
   exact ⟨_,_,_,Le.ren 7 2001 rfl,rfl,rfl,⟨rfl,trivial⟩,rfl⟩
 · have hb:=hb rfl
   subst hb
   exact ⟨_,_,_,Le.nil 2 2001 5 .u8 rfl rfl,rfl,rfl,⟨rfl,trivial⟩,rfl⟩
theorem fset_self {f : FMap} {k : Int} {xs : List UInt8} (h : f k = some xs) : fset f k xs = f:=funext fun j=>by
 unfold fset
 split
 · rename_i e; rw [e,h]
 · rfl
theorem slcInf : (Tryz.prog.info? 34).map (fun i=>(i.zero,i.size,i.bytes)) = some (some (.slice none 0 0),1,24):=by kernel_rfl
def zer (s : ImS) : List UInt8:=List.replicate (wid s) 0
/-- What a cluster has; y: what is below. -/
def clus (s : ImS) (c : Nat) (y : Option (List UInt8)) : List UInt8:=match s.t[c]? with
 | some q=>if q.1 = 1 then (s.f q.2.1).getD [] else if q.1 = 0 then (match y with
   | some y=>if y.length = wid s then y else zer s
   | none=>zer s) else zer s
 | none=>[]
theorem iclus0_fn (s : ImS) (hb : s.bits ≤ 3) (hl : s.t.length ≤ 256) (c : Nat) (hc : c < s.t.length) (hf : (s.t[c]).1 = 1 → ∃ xs,s.f (s.t[c]).2.1 = some xs ∧ xs.length ≤ 128) :
   Fn Tryz.prog 120 [vP 1001,vI (c : Int),.c (.one (.raw .nilFunc))] (imB s) [2001] (vOwn 2001) (imB s ++ [(2001,.row 5 .u8 (clus s c none))]):=by
 obtain ⟨inf,i1,i2,i3,i4⟩:=info_parts slcInf
 have hw:=wid_le hb
 have hcl : clus s c none = if (s.t[c]).1 = 1 then (s.f (s.t[c]).2.1).getD [] else zer s:=by
   unfold clus
   rw [List.getElem?_eq_getElem hc]
   simp
 refine Fn.of tblOK [] _ _ _ _ _ Tryz.func120 rfl rfl (by kernel_rfl) (by kernel_rfl) rfl (drawOK tblOK) rfl ?_
 refine ⟨_,_,_,_,Fn.ren [(1001,1002)] (tgetO s.t hl c hc),⟨rfl,trivial⟩,rfl,?_⟩
 refine ⟨rfl,?_⟩
 refine ⟨fun h=>?_,fun h=>?_⟩
 · have h:=of_decide_eq_true h
   obtain ⟨xs,hx,hxl⟩:=hf h
   rw [if_pos h,hx] at hcl
   refine ⟨_,_,fun N=>opOK_dataGet (d:=5001) (k:=(s.t[c]).2.1) rfl Tryz.underlying162 Tryz.underlying3 rfl i1 i2 rfl rfl rfl hx N,rfl,?_⟩
   refine ⟨_,_,_,_,Fn.ren [(1001,5001),(1002,2001)] (cloneRow_fn xs (by omega)),⟨rfl,trivial⟩,rfl,?_⟩
   refine ⟨rfl,?_⟩
   exact ⟨_,_,_,Le.dataIn 1004 5001 (fset_self hx) rfl rfl (by decide) (by rw [hx]; rfl),rfl,rfl,⟨rfl,rfl,rfl,rfl,by rw [hcl]; rfl,trivial⟩,rfl⟩
 · have h:=of_decide_eq_false h
   rw [if_neg h] at hcl
   have m : (0 : Int) ≤ (wid s : Nat) ∧ ((wid s : Nat) : Int) ≤ 4294967296:=by omega
   refine ⟨fun h0=>?_,fun h0=>?_⟩
   · refine ⟨_,_,fun N=>opOK_nilNil (.inr ⟨rfl,rfl⟩) rfl Tryz.underlying168 rfl N,rfl,?_⟩
     refine ⟨_,_,_,_,ibytes_fn s hb,⟨rfl,rfl,rfl,rfl,trivial⟩,rfl,?_⟩
     refine ⟨⟨rfl,m⟩,rfl,?_⟩
     exact ⟨_,_,_,Le.ren 45 2001 rfl,rfl,rfl,⟨rfl,rfl,rfl,rfl,by rw [hcl]; rfl,trivial⟩,rfl⟩
   · refine ⟨_,_,_,_,ibytes_fn s hb,⟨rfl,rfl,rfl,rfl,trivial⟩,rfl,?_⟩
     refine ⟨⟨rfl,m⟩,rfl,?_⟩
     exact ⟨_,_,_,Le.ren 45 2001 rfl,rfl,rfl,⟨rfl,rfl,rfl,rfl,by rw [hcl]; rfl,trivial⟩,rfl⟩
@[reducible] def vFn (b1 b2 : Nat) : SV:=.c (.one (.d (.fn (114,[b1,b2]))))
@[reducible] def imR (s : ImS) (R : Pl → Ob) : BL:=imB s ++ [(9000,.dep 1001 R)]
/-- What is below a cluster. -/
def BelowI (s : ImS) (R : Pl → Ob) (b1 b2 : Nat) (c : Nat) (y : List UInt8) : Prop :=
 y.length ≤ 1000000 ∧ Fn Tryz.prog 114 [vI (c : Int),vAd b1,vAd b2] (imR s R) [] (vL .u8 y) (imR s R)
set_option maxHeartbeats 1000000 in
theorem iclus_fn (s : ImS) (R : Pl → Ob) (b1 b2 : Nat) (hb : s.bits ≤ 3) (hl : s.t.length ≤ 256) (c : Nat) (hc : c < s.t.length) (hf : (s.t[c]).1 = 1 → ∃ xs,s.f (s.t[c]).2.1 = some xs ∧ xs.length ≤ 128) (y : List UInt8) (hB : (s.t[c]).1 = 0 → BelowI s R b1 b2 c y) :
   Fn Tryz.prog 120 [vP 1001,vI (c : Int),vFn b1 b2] (imR s R) [2001] (vOwn 2001) (imR s R ++ [(2001,.row 5 .u8 (clus s c (some y)))]):=by
 obtain ⟨inf,i1,i2,i3,i4⟩:=info_parts slcInf
 have hw:=wid_le hb
 have hcl : clus s c (some y) = if (s.t[c]).1 = 1 then (s.f (s.t[c]).2.1).getD [] else if (s.t[c]).1 = 0 then (if y.length = wid s then y else zer s) else zer s:=by
   unfold clus
   rw [List.getElem?_eq_getElem hc]
 refine Fn.of tblOK [7,8] _ _ _ _ _ Tryz.func120 rfl rfl (by kernel_rfl) (by kernel_rfl) rfl (drawOK tblOK) rfl ?_
 refine ⟨_,_,_,_,Fn.ren [(1001,1002)] (tgetO s.t hl c hc),⟨rfl,trivial⟩,rfl,?_⟩
 refine ⟨rfl,?_⟩
 refine ⟨fun h=>?_,fun h=>?_⟩
 · have h:=of_decide_eq_true h
   obtain ⟨xs,hx,hxl⟩:=hf h
   rw [if_pos h,hx] at hcl
   refine ⟨_,_,fun N=>opOK_dataGet (d:=5001) (k:=(s.t[c]).2.1) rfl Tryz.underlying162 Tryz.underlying3 rfl i1 i2 rfl rfl rfl hx N,rfl,?_⟩
   refine ⟨_,_,_,_,Fn.ren [(1001,5001),(1002,2001)] (cloneRow_fn xs (by omega)),⟨rfl,trivial⟩,rfl,?_⟩
   refine ⟨rfl,?_⟩
   exact ⟨_,_,_,Le.dataIn 1004 5001 (fset_self hx) rfl rfl (by decide) (by rw [hx]; rfl),rfl,rfl,⟨rfl,rfl,rfl,rfl,rfl,by rw [hcl]; rfl,trivial⟩,rfl⟩
 · have h:=of_decide_eq_false h
   rw [if_neg h] at hcl
   have m : (0 : Int) ≤ (wid s : Nat) ∧ ((wid s : Nat) : Int) ≤ 4294967296:=by omega
   refine ⟨fun h0=>?_,fun h0=>?_⟩
   · have h0:=of_decide_eq_true h0
     obtain ⟨hyl,hB⟩:=hB h0
     rw [if_pos h0] at hcl
     refine ⟨_,_,fun N=>opOK_fnNil (.inr ⟨rfl,rfl⟩) rfl Tryz.underlying168 rfl N,rfl,?_⟩
     refine ⟨_,_,_,_,hB,⟨rfl,rfl,rfl,rfl,rfl,trivial⟩,rfl,?_⟩
     refine ⟨_,_,_,_,ibytes_fn s hb,⟨rfl,rfl,rfl,rfl,trivial⟩,rfl,?_⟩
     refine ⟨fun h2=>?_,fun h2=>?_⟩
     · have h2 : (y.length : Int) = (wid s : Nat):=of_decide_eq_true h2
       have h2 : y.length = wid s:=by omega
       rw [if_pos h2] at hcl
       show TrQ _ _ _ _ _ _ _
       refine TrQ.go tblOK (drawOK tblOK) [] (by kernel_rfl) (Le.sub (K':=[(8,vL .u8 y)]) (B':=imR s R) ⟨rfl,trivial⟩ ⟨rfl,rfl,rfl,rfl,rfl,trivial⟩) ?_
       refine ⟨_,_,_,_,cloneDat_fn y (by omega),trivial,rfl,?_⟩
       exact ⟨_,_,_,Le.refl _ _,rfl,rfl,⟨rfl,rfl,rfl,rfl,rfl,by rw [hcl]; rfl,trivial⟩,rfl⟩
     · have h2 : ¬ (y.length : Int) = (wid s : Nat):=of_decide_eq_false h2
       have h2 : ¬ y.length = wid s:=by omega
       rw [if_neg h2] at hcl
       show TrQ _ _ _ _ _ _ _
       refine TrQ.go tblOK (drawOK tblOK) [] (by kernel_rfl) (Le.sub (K':=[(0,vP 1001)]) (B':=imR s R) ⟨rfl,trivial⟩ ⟨rfl,rfl,rfl,rfl,rfl,trivial⟩) ?_
       refine ⟨_,_,_,_,ibytes_fn s hb,⟨rfl,rfl,rfl,rfl,trivial⟩,rfl,?_⟩
       refine ⟨⟨rfl,m⟩,rfl,?_⟩
       exact ⟨_,_,_,Le.ren 45 2001 rfl,rfl,rfl,⟨rfl,rfl,rfl,rfl,rfl,by rw [hcl]; rfl,trivial⟩,rfl⟩
   · have h0:=of_decide_eq_false h0
     rw [if_neg h0] at hcl
     show TrQ _ _ _ _ _ _ _
     refine TrQ.go tblOK (drawOK tblOK) [] (by kernel_rfl) (Le.sub (K':=[(0,vP 1001)]) (B':=imR s R) ⟨rfl,trivial⟩ ⟨rfl,rfl,rfl,rfl,rfl,trivial⟩) ?_
     refine ⟨_,_,_,_,ibytes_fn s hb,⟨rfl,rfl,rfl,rfl,trivial⟩,rfl,?_⟩
     refine ⟨⟨rfl,m⟩,rfl,?_⟩
     exact ⟨_,_,_,Le.ren 45 2001 rfl,rfl,rfl,⟨rfl,rfl,rfl,rfl,rfl,by rw [hcl]; rfl,trivial⟩,rfl⟩
/-! ### slots are set -/
def iless (s : ImS) (q : Slt) : ImS:=if q.1 = 1 then { s with l:=s.l.set q.2.1.toNat 0,f:=fdel s.f q.2.1 } else s
theorem iless_fn (s : ImS) (q : Slt) (hq : q.1 = 1 → ∃ h : Nat,q.2.1 = (h : Int) ∧ s.l[h]? = some 1) : Fn Tryz.prog 146 [vP 1001,.c (vSl q)] (imB s) [] vU (imB (iless s q)):=by
 refine Fn.of tblOK [] _ _ _ _ _ Tryz.func146 rfl rfl (by kernel_rfl) (by kernel_rfl) rfl (drawOK tblOK) rfl ?_
 refine ⟨rfl,?_⟩
 refine ⟨fun h1=>?_,fun h1=>?_⟩
 · have h1 : ¬ q.1 = 1:=by
     have h1 : (!decide (q.1 = 1)) = true:=h1
     simpa using h1
   rw [show iless s q = s from if_neg h1]
   exact ⟨_,_,_,Le.refl _ _,rfl,trivial,⟨rfl,rfl,rfl,rfl,trivial⟩,rfl⟩
 · have h1 : q.1 = 1:=by
     have h1 : (!decide (q.1 = 1)) = false:=h1
     simpa using h1
   obtain ⟨h,e,hl⟩:=hq h1
   rw [show iless s q = { s with l:=s.l.set q.2.1.toNat 0,f:=fdel s.f q.2.1 } from if_pos h1]
   obtain ⟨k,x,o⟩:=q
   simp only at e
   subst e
   refine ⟨_,_,_,_,Fn.ren [(1001,1003),(1002,2003)] (clessO s.l h 1 hl (by decide) (by decide)),⟨rfl,trivial⟩,rfl,?_⟩
   refine ⟨rfl,?_⟩
   refine ⟨fun _=>?_,fun h=>absurd h (by decide)⟩
   refine ⟨_,_,fun N=>opOK_dataDel (k:=(h : Int)) rfl Tryz.underlying162 Tryz.underlying3 rfl rfl rfl rfl N,rfl,?_⟩
   refine ⟨rfl,?_⟩
   exact ⟨_,_,_,Le.refl _ _,rfl,trivial,⟨rfl,rfl,rfl,rfl,trivial⟩,rfl⟩
def iset (s : ImS) (c : Nat) (q : Slt) : ImS:=iless { s with t:=s.t.set c q } (s.t.getD c s0)
theorem iset_fn (s : ImS) (hl : s.t.length ≤ 256) (c : Nat) (hc : c < s.t.length) (q : Slt) (hs : slOK q) (hr : slRight q = true) (hq : (s.t.getD c s0).1 = 1 → ∃ h : Nat,(s.t.getD c s0).2.1 = (h : Int) ∧ s.l[h]? = some 1) :
   Fn Tryz.prog 127 [vP 1001,vI (c : Int),.c (vSl q)] (imB s) [] vU (imB (iset s c q)):=by
 have e : s.t[c] = s.t.getD c s0:=by rw [List.getD_eq_getElem?_getD,List.getElem?_eq_getElem hc]; rfl
 have hset:=tsetO s.t hl c hc q hs hr
 unfold iset
 rw [e] at hset
 generalize s.t.getD c s0 = old at hq hset
 refine Fn.of tblOK [] _ _ _ _ _ Tryz.func127 rfl rfl (by kernel_rfl) (by kernel_rfl) rfl (drawOK tblOK) rfl ?_
 refine ⟨rfl,?_⟩
 refine ⟨_,_,_,_,Fn.ren [(1001,1002)] hset,⟨rfl,trivial⟩,rfl,?_⟩
 refine ⟨rfl,?_⟩
 refine ⟨rfl,?_⟩
 refine ⟨_,_,_,_,iless_fn { s with t:=s.t.set c q } old hq,⟨rfl,rfl,rfl,rfl,trivial⟩,rfl,?_⟩
 exact ⟨_,_,_,Le.refl _ _,rfl,trivial,⟨rfl,rfl,rfl,rfl,trivial⟩,rfl⟩
/-- A piece: its cluster,from where,to where,where it is of the whole. -/
structure Pce where
 c : Nat
 a : Nat
 b : Nat
 at_ : Nat
@[reducible] def pcL (p : Pce) : List S1:=[.d (.int .i64 (p.c : Int)),.d (.int .i64 (p.a : Int)),.d (.int .i64 (p.b : Int)),.d (.int .i64 (p.at_ : Int))]
@[reducible] def vPc (p : Pce) : SV:=.c (.agg (pcL p))
def iNeeds (s : ImS) (c : Nat) : Bool:=!slWr (s.t.getD c s0)
theorem ineeds_fn (s : ImS) (hl : s.t.length ≤ 256) (p : Pce) (hc : p.c < s.t.length) : Fn Tryz.prog 117 [vP 1001,vPc p] (imB s) [] (vB (iNeeds s p.c)) (imB s):=by
 have e : s.t[p.c] = s.t.getD p.c s0:=by rw [List.getD_eq_getElem?_getD,List.getElem?_eq_getElem hc]; rfl
 have hget:=tgetO s.t hl p.c hc
 unfold iNeeds
 rw [e] at hget
 refine Fn.of tblOK [] _ _ _ _ _ Tryz.func117 rfl rfl (by kernel_rfl) (by kernel_rfl) rfl (drawOK tblOK) rfl ?_
 refine ⟨rfl,?_⟩
 refine ⟨_,_,_,_,Fn.ren [(1001,1002)] hget,⟨rfl,trivial⟩,rfl,?_⟩
 refine ⟨_,_,_,_,swrites_fn (s.t.getD p.c s0),trivial,rfl,?_⟩
 refine ⟨rfl,?_⟩
 exact ⟨_,_,_,Le.refl _ _,rfl,rfl,⟨rfl,rfl,rfl,rfl,trivial⟩,rfl⟩
/-! Images: put; what an image is that nobody broke. -/
/-- Slots are what they may be; each data slot has a host of its own. -/
structure ImOK (s : ImS) : Prop where
 bits : s.bits ≤ 3
 tl : s.t.length ≤ 256
 ll : s.l.length ≤ 512
 slot : ∀ (c : Nat) (q : Slt),s.t[c]? = some q → q = s0 ∨ q = ((2 : Int),(0 : Int),false) ∨ ∃ h : Nat,q = ((1 : Int),(h : Int),true) ∧ s.l[h]? = some 1 ∧ ∃ xs,s.f (h : Int) = some xs ∧ xs.length = wid s
 inj : ∀ (c d : Nat) (h : Int),s.t[c]? = some ((1 : Int),h,true) → s.t[d]? = some ((1 : Int),h,true) → c = d
 cnt : ∀ (h : Nat) n,s.l[h]? = some n → n = 0 ∨ n = 1
 free : ∀ h : Nat,s.l[h]? = some 0 → s.f (h : Int) = none
 used : ∀ h : Nat,s.l[h]? = some 1 → ∃ c : Nat,s.t[c]? = some ((1 : Int),(h : Int),true)
 dom : ∀ (k : Int) xs,s.f k = some xs → xs.length ≤ 128
def ifree (l : List Int) : Nat:=l.findIdx fun n=>decide (n = 0)
theorem ifree_spec {l : List Int} (h : 0 < zeros l) : l[ifree l]? = some 0 ∧ ∀ j,j < ifree l → l[j]? ≠ some 0:=by
 have hlt : ifree l < l.length:=by
   unfold ifree
   rw [List.findIdx_lt_length]
   unfold zeros at h
   obtain ⟨x,hx⟩:=List.exists_mem_of_length_pos h
   rw [List.mem_filter] at hx
   exact ⟨x,hx.1,hx.2⟩
 refine ⟨?_,fun j hj e=>?_⟩
 · have:=List.findIdx_getElem (xs:=l) (p:=fun n=>decide (n = 0)) (w:=hlt)
   rw [List.getElem?_eq_getElem hlt]
   exact congrArg some (of_decide_eq_true this)
 · have hj2 : j < l.length:=by omega
   have:=List.not_of_lt_findIdx (p:=fun n=>decide (n = 0)) (xs:=l) hj
   rw [List.getElem?_eq_getElem hj2] at e
   injection e with e
   simp [e] at this
/-- A cluster gets a host of its own,with what it reads as. -/
def iown (s : ImS) (c : Nat) (y : List UInt8) : ImS :=
 if iNeeds s c = true then { s with t:=s.t.set c ((1 : Int),(ifree s.l : Int),true),l:=s.l.set (ifree s.l) 1,f:=fset s.f (ifree s.l : Int) (clus s c (some y)) } else s
def iputS (s : ImS) (p : Pce) (bs : List UInt8) : ImS:={ s with f:=fset s.f (s.t.getD p.c s0).2.1 (laid ((s.f (s.t.getD p.c s0).2.1).getD []) p.a (p.b - p.a) bs) }
def iput (s : ImS) (p : Pce) (bs : List UInt8) (y : List UInt8) : ImS:=iputS (iown s p.c y) p bs
@[reducible] def ptK (bs : List UInt8) : KL:=[(0,vP 1001),(2,vL .u8 bs),(5,vP 5)]
@[reducible] def ptB (s : ImS) (R : Pl → Ob) (p : Pce) : BL:=(5,.cells (pcL p)) :: imR s R
theorem getD_of {t : List Slt} {c : Nat} {q : Slt} (h : t[c]? = some q) : t.getD c s0 = q:=by
 rw [List.getD_eq_getElem?_getD,h]; rfl
theorem clus_len {s : ImS} (hO : ImOK s) {c : Nat} (hc : c < s.t.length) (y : Option (List UInt8)) : (clus s c y).length = wid s:=by
 have hz : (zer s).length = wid s:=List.length_replicate
 have hg : s.t[c]? = some s.t[c]:=List.getElem?_eq_getElem hc
 unfold clus
 rw [hg]
 simp only
 rcases hO.slot c _ hg with e | e | ⟨h,e,_,xs,hx,hl⟩
 · rw [e,if_neg (by decide),if_pos (by decide)]
   split
   · split
     · rename_i h; exact h
     · exact hz
   · exact hz
 · rw [e,if_neg (by decide),if_neg (by decide)]
   exact hz
 · rw [e,if_pos rfl]
   simp only [hx,Option.getD_some]
   exact hl
theorem needs_slot {s : ImS} (hO : ImOK s) {c : Nat} (hc : c < s.t.length) : (iNeeds s c = true ∧ (s.t.getD c s0 = s0 ∨ s.t.getD c s0 = ((2 : Int),(0 : Int),false))) ∨ (iNeeds s c = false ∧ ∃ h : Nat,s.t[c]? = some ((1 : Int),(h : Int),true) ∧ s.l[h]? = some 1 ∧ ∃ xs,s.f (h : Int) = some xs ∧ xs.length = wid s):=by
 have hg : s.t[c]? = some s.t[c]:=List.getElem?_eq_getElem hc
 have hd:=getD_of hg
 unfold iNeeds slWr
 rw [hd]
 rcases hO.slot c _ hg with e | e | ⟨h,e,h2⟩
 · rw [e]; exact .inl ⟨rfl,.inl rfl⟩
 · rw [e]; exact .inl ⟨rfl,.inr rfl⟩
 · rw [e] at hg ⊢; exact .inr ⟨rfl,h,hg,h2⟩
theorem wid128 {s : ImS} (h : s.bits ≤ 3) : wid s ≤ 128:=by
 have:=pow_le8 h
 show 16 * 2 ^ s.bits ≤ 128
 omega
theorem fset_dom {f : FMap} (h : ∀ (k : Int) xs,f k = some xs → xs.length ≤ 128) {k0 : Int} {ys : List UInt8} (hy : ys.length ≤ 128) : ∀ (k : Int) xs,fset f k0 ys k = some xs → xs.length ≤ 128:=fun k xs hk=>by
 unfold fset at hk
 split at hk
 · injection hk with hk
   rw [← hk]
   exact hy
 · exact h k xs hk
theorem iown_ok {s : ImS} (hO : ImOK s) {c : Nat} (hc : c < s.t.length) (y : List UInt8) (hz : iNeeds s c = true → 0 < zeros s.l) :
   ImOK (iown s c y) ∧ wid (iown s c y) = wid s ∧ (iown s c y).t.length = s.t.length ∧ ∃ h : Nat,(iown s c y).t[c]? = some ((1 : Int),(h : Int),true) ∧ (iown s c y).f (h : Int) = some (clus s c (some y)):=by
 rcases needs_slot hO hc with ⟨hn,hq⟩ | ⟨hn,h,h1,h2,xs,h3,h4⟩
 · obtain ⟨z1,z2⟩:=ifree_spec (hz hn)
   have hlt : ifree s.l < s.l.length:=(List.getElem?_eq_some_iff.1 z1).1
   have hfn:=hO.free _ z1
   have hcl:=clus_len hO hc (some y)
   have hold : s.t[c]? = some (s.t.getD c s0):=by rw [List.getD_eq_getElem?_getD,List.getElem?_eq_getElem hc]; rfl
   rw [show iown s c y = { s with t:=s.t.set c ((1 : Int),(ifree s.l : Int),true),l:=s.l.set (ifree s.l) 1,f:=fset s.f (ifree s.l : Int) (clus s c (some y)) } from if_pos hn]
   generalize clus s c (some y) = xs at hcl
   generalize ifree s.l = h0 at *
   have notUsed : ∀ (d : Nat),s.t[d]? ≠ some ((1 : Int),(h0 : Int),true):=fun d e=>by
     rcases hO.slot d _ e with e2 | e2 | ⟨h,e2,h3,_⟩
     · cases e2
     · cases e2
     · have : (h0 : Int) = (h : Int):=by injection e2 with _ e2; injection e2
       have : h0 = h:=by omega
       subst this
       rw [z1] at h3
       cases h3
   refine ⟨⟨hO.bits,by show (s.t.set _ _).length ≤ 256; rw [List.length_set]; exact hO.tl,by show (s.l.set _ _).length ≤ 512; rw [List.length_set]; exact hO.ll,fun d q hq=>?_,fun d e h hd he=>?_,fun h n hn=>?_,fun h hh=>?_,fun h hh=>?_,fset_dom hO.dom (by rw [hcl]; exact wid128 hO.bits)⟩,rfl,List.length_set,h0,?_,if_pos rfl⟩
   · rw [List.getElem?_set] at hq
     split at hq
     · rename_i e
       subst e
       injection hq with hq
       exact .inr (.inr ⟨h0,hq.symm,by rw [List.getElem?_set_self hlt],xs,if_pos rfl,hcl⟩)
     · rcases hO.slot d q hq with e | e | ⟨h,e,g1,ys,g2,g3⟩
       · exact .inl e
       · exact .inr (.inl e)
       · have hne : h0 ≠ h:=fun e=>by subst e; rw [z1] at g1; cases g1
         exact .inr (.inr ⟨h,e,by rw [List.getElem?_set_ne hne]; exact g1,ys,by show (if (h : Int) = (h0 : Int) then some xs else s.f h) = some ys; rw [if_neg (by omega)]; exact g2,g3⟩)
   · rw [List.getElem?_set] at hd he
     split at hd
     · rename_i e1
       split at he
       · rename_i e2; rw [← e1,← e2]
       · have : (h0 : Int) = h:=by injection hd with hd; injection hd with _ hd; injection hd
         subst this
         exact absurd he (notUsed e)
     · split at he
       · rename_i e2
         have : (h0 : Int) = h:=by injection he with hd; injection hd with _ hd; injection hd
         subst this
         exact absurd hd (notUsed d)
       · exact hO.inj d e h hd he
   · rw [List.getElem?_set] at hn
     split at hn
     · rename_i e
       injection hn with hn
       exact .inr hn.symm
     · exact hO.cnt h n hn
   · rw [List.getElem?_set] at hh
     split at hh
     · rename_i e
       injection hh with hh
       exact absurd hh (by decide)
     · rename_i e
       show (if (h : Int) = (h0 : Int) then some xs else s.f h) = none
       rw [if_neg (by omega)]
       exact hO.free h hh
   · by_cases e : h0 = h
     · subst e
       exact ⟨c,List.getElem?_set_self hc⟩
     · rw [List.getElem?_set_ne e] at hh
       obtain ⟨d,hd⟩:=hO.used h hh
       have hne : c ≠ d:=fun e2=>by
         subst e2
         rw [hold] at hd
         injection hd with hd
         rw [hd] at hq
         rcases hq with hq | hq <;> cases hq
       exact ⟨d,by rw [List.getElem?_set_ne hne]; exact hd⟩
   · exact List.getElem?_set_self hc
 · have e : iown s c y = s:=if_neg (by rw [hn]; decide)
   rw [e]
   refine ⟨hO,rfl,rfl,h,h1,?_⟩
   unfold clus
   rw [h1]
   simp only [if_pos,h3,Option.getD_some]
set_option maxHeartbeats 1000000 in
theorem iput_fn (s : ImS) (R : Pl → Ob) (b1 b2 : Nat) (hO : ImOK s) (p : Pce) (hc : p.c < s.t.length) (bs : List UInt8) (h1 : p.a ≤ p.b) (h2 : p.b ≤ wid s) (h3 : bs.length = p.b - p.a) (y : List UInt8) (hB : (s.t[p.c]).1 = 0 → BelowI s R b1 b2 p.c y) (hz : iNeeds s p.c = true → 0 < zeros s.l) :
   Fn Tryz.prog 119 [vP 1001,vPc p,vL .u8 bs,vFn b1 b2] (imR s R) [] vU (imR (iput s p bs y) R):=by
 obtain ⟨inf,i1,i2,i3,i4⟩:=info_parts slcInf
 have hw:=wid_le hO.bits
 have e : s.t[p.c] = s.t.getD p.c s0:=by rw [List.getD_eq_getElem?_getD,List.getElem?_eq_getElem hc]; rfl
 obtain ⟨o1,o2,o3,hst,o4,o5⟩:=iown_ok hO hc y hz
 have hcl:=clus_len hO hc (some y)
 unfold iput
 have hcs:=iclus_fn s R b1 b2 hO.bits hO.tl p.c hc (fun h=>by
   rcases hO.slot p.c _ (List.getElem?_eq_getElem hc) with e2 | e2 | ⟨h,e2,_,xs,hx,hl⟩
   · rw [e2] at h; cases h
   · rw [e2] at h; cases h
   · rw [e2]; exact ⟨xs,hx,by omega⟩) y hB
 generalize hs' : iown s p.c y = s' at o1 o2 o3 o4 o5
 have hgd:=getD_of o4
 have hge : s'.t[p.c]'(by omega) = ((1 : Int),(hst : Int),true):=by
   have:=List.getElem?_eq_getElem (l:=s'.t) (i:=p.c) (by omega)
   rw [o4] at this
   injection this with this
   exact this.symm
 have hgs:=tgetO s'.t o1.tl p.c (by omega)
 rw [hge] at hgs
 unfold iputS
 rw [hgd]
 simp only [o5,Option.getD_some]
 have m : (0 : Int) ≤ (p.a : Int) ∧ (p.a : Int) ≤ (p.b : Int) ∧ (p.b : Int) ≤ (((clus s p.c (some y)).length : Nat) : Int):=by omega
 have m2 : p.a + (p.b - p.a) ≤ (clus s p.c (some y)).length:=by omega
 have hfs : fset s'.f (hst : Int) (laid (clus s p.c (some y)) p.a (p.b - p.a) bs) = fset s'.f (hst : Int) (laid (clus s p.c (some y)) p.a (p.b - p.a) bs):=rfl
 refine Fn.of tblOK [3,5,6] _ _ _ _ _ Tryz.func119 rfl rfl (by kernel_rfl) (by kernel_rfl) rfl (drawOK tblOK) rfl ?_
 refine ⟨rfl,?_⟩
 refine ⟨_,_,_,_,ineeds_fn s hO.tl p hc,⟨rfl,rfl,rfl,rfl,trivial⟩,rfl,?_⟩
 refine ⟨fun hn=>?_,fun hn=>?_⟩
 · obtain ⟨z1,z2⟩:=ifree_spec (hz hn)
   refine ⟨_,_,_,_,hcs,⟨rfl,rfl,rfl,rfl,rfl,trivial⟩,rfl,?_⟩
   show TrQ _ _ _ _ _ _ _
   refine TrQ.go tblOK (drawOK tblOK) [5,6] (by kernel_rfl) (Le.sub (K':=[(0,vP 1001),(2,vL .u8 bs),(5,vP 5),(8,vOwn 2001)]) (B':=(5,.cells (pcL p)) :: (2001,.row 5 .u8 (clus s p.c (some y))) :: imR s R) ⟨rfl,rfl,rfl,rfl,trivial⟩ ⟨rfl,rfl,rfl,rfl,rfl,rfl,rfl,trivial⟩) ?_
   refine ⟨_,_,_,_,Fn.ren [(1001,1003),(1002,2003)] (ctakeO s.l (by have:=hO.ll; omega) (ifree s.l) z1 z2),⟨rfl,trivial⟩,rfl,?_⟩
   refine ⟨_,_,fun N=>opOK_dataPut (d:=2001) (k:=(ifree s.l : Int)) rfl Tryz.underlying162 Tryz.underlying3 rfl rfl rfl rfl rfl rfl (by decide) (hO.free _ z1) N,rfl,?_⟩
   show TrQ _ _ _ _ _ _ _
   refine TrQ.go tblOK (drawOK tblOK) [6] (by kernel_rfl) (Le.sub (K':=[(0,vP 1001),(2,vL .u8 bs),(5,vP 5),(9,vI (ifree s.l : Nat))]) (B':=(5,.cells (pcL p)) :: imR { s with l:=s.l.set (ifree s.l) 1,f:=fset s.f (ifree s.l : Int) (clus s p.c (some y)) } R) ⟨rfl,rfl,rfl,rfl,trivial⟩ ⟨rfl,rfl,rfl,rfl,rfl,rfl,trivial⟩) ?_
   have hset : Fn Tryz.prog 127 [vP 1001,vI (p.c : Int),.c (vSl ((1 : Int),(ifree s.l : Int),true))] (imB { s with l:=s.l.set (ifree s.l) 1,f:=fset s.f (ifree s.l : Int) (clus s p.c (some y)) }) [] vU (imB s'):=by
     have hlt : ifree s.l < s.l.length:=(List.getElem?_eq_some_iff.1 z1).1
     have hll:=hO.ll
     have hnot : ¬ (s.t.getD p.c s0).1 = 1:=by
       rcases needs_slot hO hc with ⟨_,h⟩ | ⟨h,_⟩
       · rcases h with h | h <;> rw [h] <;> decide
       · rw [hn] at h; cases h
     have h:=iset_fn { s with l:=s.l.set (ifree s.l) 1,f:=fset s.f (ifree s.l : Int) (clus s p.c (some y)) } hO.tl p.c hc ((1 : Int),(ifree s.l : Int),true) ⟨⟨by show (-1000000 : Int) ≤ 1; decide,by show (1 : Int) ≤ 1000000; decide⟩,by show (-1000000 : Int) ≤ (ifree s.l : Int); omega,by show ((ifree s.l : Nat) : Int) ≤ 1000000; omega⟩ (by
       show (if (1 : Int) = 1 then decide (0 ≤ (ifree s.l : Int)) && decide ((ifree s.l : Int) < 512) else _) = true
       rw [if_pos rfl,decide_eq_true (by omega),decide_eq_true (by omega)]
       rfl) (fun h=>absurd h hnot)
     rwa [show iset { s with l:=s.l.set (ifree s.l) 1,f:=fset s.f (ifree s.l : Int) (clus s p.c (some y)) } p.c ((1 : Int),(ifree s.l : Int),true) = s' by
       rw [← hs']
       unfold iset iless iown
       rw [if_neg hnot,if_pos hn]] at h
   refine ⟨_,_,_,_,Fn.arg hset ⟨rfl,rfl,⟨rfl,rfl,rfl,trivial⟩,trivial⟩,⟨rfl,rfl,rfl,rfl,trivial⟩,rfl,?_⟩
   show TrQ _ _ _ _ _ _ _
   refine TrQ.go tblOK (drawOK tblOK) [] (by kernel_rfl) (Le.sub (K':=ptK bs) (B':=ptB s' R p) ⟨rfl,rfl,rfl,trivial⟩ ⟨rfl,rfl,rfl,rfl,rfl,rfl,trivial⟩) ?_
   refine ⟨_,_,_,_,Fn.ren [(1001,1002)] hgs,⟨rfl,trivial⟩,rfl,?_⟩
   refine ⟨_,_,fun N=>opOK_field rfl Tryz.underlying188 rfl Tryz.underlying3 rfl rfl rfl N,rfl,?_⟩
   refine ⟨_,_,fun N=>opOK_dataGet (d:=5001) (k:=(hst : Int)) rfl Tryz.underlying162 Tryz.underlying3 rfl i1 i2 rfl rfl rfl o5 N,rfl,?_⟩
   refine ⟨m,?_⟩
   refine ⟨m2,?_⟩
   refine ⟨rfl,?_⟩
   exact ⟨_,_,_,Le.dataIn 1004 5001 hfs rfl rfl (by decide) (by rw [o5]; rfl),rfl,trivial,⟨rfl,rfl,rfl,rfl,rfl,trivial⟩,rfl⟩
 · have hs2 : s = s':=by rw [← hs']; unfold iown; rw [if_neg (by rw [hn]; decide)]
   subst hs2
   show TrQ _ _ _ _ _ _ _
   refine TrQ.go tblOK (drawOK tblOK) [] (by kernel_rfl) (Le.sub (K':=ptK bs) (B':=ptB s R p) ⟨rfl,rfl,rfl,trivial⟩ ⟨rfl,rfl,rfl,rfl,rfl,rfl,trivial⟩) ?_
   refine ⟨_,_,_,_,Fn.ren [(1001,1002)] hgs,⟨rfl,trivial⟩,rfl,?_⟩
   refine ⟨_,_,fun N=>opOK_field rfl Tryz.underlying188 rfl Tryz.underlying3 rfl rfl rfl N,rfl,?_⟩
   refine ⟨_,_,fun N=>opOK_dataGet (d:=5001) (k:=(hst : Int)) rfl Tryz.underlying162 Tryz.underlying3 rfl i1 i2 rfl rfl rfl o5 N,rfl,?_⟩
   refine ⟨m,?_⟩
   refine ⟨m2,?_⟩
   refine ⟨rfl,?_⟩
   exact ⟨_,_,_,Le.dataIn 1004 5001 hfs rfl rfl (by decide) (by rw [o5]; rfl),rfl,trivial,⟨rfl,rfl,rfl,rfl,rfl,trivial⟩,rfl⟩
/-! Images: the pieces of a range of sectors. -/
/-! ### inside -/
def iall (s : ImS) : Nat:=s.t.length * 2 ^ s.bits
def iIns (s : ImS) (at_ long : Int) : Int:=if long < 0 then 1 else if at_ < 0 ∨ long > iall s ∨ at_ > iall s - long then 121 else 0
theorem iinside_fn (s : ImS) (hO : ImOK s) (at_ long : Int) : Fn Tryz.prog 115 [vP 1001,vI at_,vI long] (imB s) [] (vI (iIns s at_ long)) (imB s):=by
 have hp:=pow_le8 hO.bits
 have htl:=hO.tl
 have h1 : s.t.length * 2 ^ s.bits ≤ 256 * 8:=Nat.mul_le_mul htl hp.2
 have e : ((s.t.length : Nat) : Int) * ((2 ^ s.bits : Nat) : Int) = ((iall s : Nat) : Int):=by unfold iall; rw [Int.natCast_mul]
 have hall : iall s ≤ 2048:=h1
 refine Fn.of tblOK [1,2] _ _ _ _ _ Tryz.func115 rfl rfl (by kernel_rfl) (by kernel_rfl) rfl (drawOK tblOK) rfl ?_
 show TrQ _ _ _ _ _ _ _
 refine TrQ.ro 64 (by decide) ?_
 refine TrQ.go tblOK (drawOK tblOK) [2] (by kernel_rfl) (Le.refl _ _) ?_
 refine ⟨_,_,fun N=>opOK_callR rfl rfl rfl (isize_fn s) (by exact ⟨rfl,rfl,rfl,rfl,trivial⟩) rfl (fun _=>rfl) N,rfl,?_⟩
 have m1 : (0 : Int) ≤ (s.t.length : Nat) ∧ (0 : Int) ≤ (s.bits : Int) ∧ (s.bits : Int) ≤ 64:=by have:=hO.bits; omega
 have m2 : (-9223372036854775808 : Int) ≤ ((s.t.length : Nat) : Int) * ((2 ^ s.bits : Nat) : Int) ∧ ((s.t.length : Nat) : Int) * ((2 ^ s.bits : Nat) : Int) ≤ 9223372036854775807:=by rw [e]; omega
 refine ⟨m1,m2,?_⟩
 refine ⟨rfl,?_⟩
 show TrQ _ _ _ _ _ _ _
 refine TrQ.go tblOK (drawOK tblOK) [] (by kernel_rfl) (Le.sub (K':=[(1,vI at_),(2,vI long),(7,vI (iall s : Nat))]) (B':=imB s) ⟨rfl,rfl,e,trivial⟩ ⟨rfl,rfl,rfl,rfl,trivial⟩) ?_
 refine ⟨fun h=>?_,fun h=>?_⟩
 · have h : long < 0:=of_decide_eq_true h
   exact ⟨_,_,_,Le.refl _ _,rfl,(show (1 : Int) = iIns s at_ long by unfold iIns; rw [if_pos h]),⟨rfl,rfl,rfl,rfl,trivial⟩,rfl⟩
 · have h : ¬ long < 0:=of_decide_eq_false h
   have big : ∀ (_ : at_ < 0 ∨ long > iall s ∨ at_ > iall s - long),(121 : Int) = iIns s at_ long:=fun h2=>by unfold iIns; rw [if_neg h,if_pos h2]
   refine ⟨fun h1=>?_,fun h1=>?_⟩
   · have h1 : at_ < 0:=of_decide_eq_true h1
     exact ⟨_,_,_,Le.refl _ _,rfl,big (.inl h1),⟨rfl,rfl,rfl,rfl,trivial⟩,rfl⟩
   · have h1 : ¬ at_ < 0:=of_decide_eq_false h1
     refine ⟨fun h2=>?_,fun h2=>?_⟩
     · have h2 : ((iall s : Nat) : Int) < long:=of_decide_eq_true h2
       exact ⟨_,_,_,Le.refl _ _,rfl,big (.inr (.inl h2)),⟨rfl,rfl,rfl,rfl,trivial⟩,rfl⟩
     · have h2 : ¬ ((iall s : Nat) : Int) < long:=of_decide_eq_false h2
       have m3 : (-9223372036854775808 : Int) ≤ ((iall s : Nat) : Int) - long ∧ ((iall s : Nat) : Int) - long ≤ 9223372036854775807:=by omega
       refine ⟨m3,?_⟩
       refine ⟨fun h3=>?_,fun h3=>?_⟩
       · have h3 : ((iall s : Nat) : Int) - long < at_:=of_decide_eq_true h3
         exact ⟨_,_,_,Le.refl _ _,rfl,big (.inr (.inr h3)),⟨rfl,rfl,rfl,rfl,trivial⟩,rfl⟩
       · have h3 : ¬ ((iall s : Nat) : Int) - long < at_:=of_decide_eq_false h3
         exact ⟨_,_,_,Le.refl _ _,rfl,(show (0 : Int) = iIns s at_ long by unfold iIns; rw [if_neg h,if_neg (by omega)]),⟨rfl,rfl,rfl,rfl,trivial⟩,rfl⟩
/-! ### the pieces -/
def pce (W a l k : Nat) : Pce:=⟨16 * a / W + k,16 * a - (16 * a / W + k) * W,min (16 * (a + l) - (16 * a / W + k) * W) W,(16 * a / W + k) * W + (16 * a - (16 * a / W + k) * W) - 16 * a⟩
def pcN (W a l : Nat) : Nat:=if l = 0 then 0 else (16 * (a + l) + W - 1) / W - 16 * a / W
def isW (W : Nat) : Prop:=W = 16 ∨ W = 32 ∨ W = 64 ∨ W = 128
theorem wid_isW {s : ImS} (h : s.bits ≤ 3) : isW (wid s):=by
 unfold isW wid
 generalize s.bits = b at h
 match b,h with
 | 0,_=>exact .inl rfl
 | 1,_=>exact .inr (.inl rfl)
 | 2,_=>exact .inr (.inr (.inl rfl))
 | 3,_=>exact .inr (.inr (.inr rfl))
theorem pcN_iff {W a l k : Nat} (hW : isW W) : (0 < l ∧ (16 * a / W + k) * W < 16 * (a + l)) ↔ k < pcN W a l:=by
 unfold pcN
 rcases hW with rfl | rfl | rfl | rfl <;> (split <;> omega)
theorem pce_ok {W a l k : Nat} (hW : isW W) (hk : k < pcN W a l) : (pce W a l k).a ≤ (pce W a l k).b ∧ (pce W a l k).b ≤ W ∧ (pce W a l k).at_ + ((pce W a l k).b - (pce W a l k).a) ≤ 16 * l ∧ (pce W a l k).c * W < 16 * (a + l):=by
 have h:=(pcN_iff (a:=a) (l:=l) (k:=k) hW).2 hk
 unfold pce
 simp only
 rcases hW with rfl | rfl | rfl | rfl <;> omega
@[reducible] def vYl (l : Nat) : SV:=.c (.one (.raw (.func (.yield l) #[] #[])))
@[reducible] def pbB (a l : Int) : BL:=[(2001,.cells [.ptr 1001 0]),(2002,.cells [.d (.int .i64 a)]),(2003,.cells [.d (.int .i64 l)])]
@[reducible] def pcK (y W a l k : Nat) : KL:=[(0,vYl y),(1,vP 2001),(2,vP 2002),(3,vP 2003),(5,vI (W : Nat)),(6,vI ((16 * a : Nat) : Int)),(7,vI ((16 * (a + l) : Nat) : Int)),(8,vI ((16 * a / W + k : Nat) : Int))]
@[reducible] def pjB (a l : Nat) (o : Ob) : BL:=[(2001,.cells [.ptr 1001 0]),(2002,.cells [.d (.int .i64 (a : Int))]),(2003,.cells [.d (.int .i64 (l : Int))]),(1001,.obj o)]
@[reducible] def pcK0 (y W : Nat) : KL:=[(0,vYl y),(1,vP 2001),(2,vP 2002),(3,vP 2003),(5,vI (W : Nat))]
theorem pce_eqs {W a l k : Nat} (hW : isW W) : (((16 * a / W + k : Nat) : Int)) * (W : Int) = (((16 * a / W + k) * W : Nat) : Int) ∧ max (((16 * a : Nat) : Int) - (((16 * a / W + k) * W : Nat) : Int)) 0 = ((pce W a l k).a : Int) ∧ (k < pcN W a l → min (((16 * (a + l) : Nat) : Int) - (((16 * a / W + k) * W : Nat) : Int)) (W : Int) = ((pce W a l k).b : Int)) ∧ (((16 * a / W + k) * W : Nat) : Int) + ((pce W a l k).a : Int) - ((16 * a : Nat) : Int) = ((pce W a l k).at_ : Int):=by
 refine ⟨by rw [Int.natCast_mul],?_,fun hk=>?_,?_⟩
 · unfold pce; simp only; omega
 · have h:=(pcN_iff (a:=a) (l:=l) (k:=k) hW).2 hk
   unfold pce; simp only; omega
 · unfold pce
   simp only
   rcases hW with rfl | rfl | rfl | rfl <;> omega
theorem pieces_it (y W a l : Nat) (hW : isW W) (ha : a ≤ 10000) (hl : l ≤ 10000) (J : Nat → Ob) (hb : ∀ k,Fn Tryz.prog 126 [vP 1001] [(1001,.obj (J k))] [] (vI (W : Nat)) [(1001,.obj (J k))])
   (hy : ∀ k,k < pcN W a l → YieldX Tryz.prog y [vPc (pce W a l k)] [(1001,.obj (J k))] (fun _ : Unit=>vLit true) (fun _=>[(1001,.obj (J (k + 1)))])) :
   Fn Tryz.prog 133 [vYl y,vP 2001,vP 2002,vP 2003] (pjB a l (J 0)) [] (.tup []) [(1001,.obj (J (pcN W a l)))]:=by
 have hW2 : 16 ≤ W ∧ W ≤ 128:=by rcases hW with rfl | rfl | rfl | rfl <;> omega
 refine Fn.of tblOK [1,7] _ _ _ _ _ Tryz.func133 rfl rfl (by kernel_rfl) (by kernel_rfl) rfl (drawOK tblOK) rfl ?_
 refine ⟨_,_,_,_,hb 0,⟨rfl,trivial⟩,rfl,?_⟩
 show TrQ _ _ _ _ _ _ _
 refine TrQ.go tblOK (drawOK tblOK) [7] (by kernel_rfl) (Le.sub (K':=pcK0 y W) (B':=pjB a l (J 0)) ⟨rfl,rfl,rfl,rfl,rfl,trivial⟩ ⟨rfl,rfl,rfl,rfl,trivial⟩) ?_
 have m1 : (-9223372036854775808 : Int) ≤ (a : Int) * 16 ∧ (a : Int) * 16 ≤ 9223372036854775807:=by omega
 have m2 : (-9223372036854775808 : Int) ≤ (a : Int) + (l : Int) ∧ (a : Int) + (l : Int) ≤ 9223372036854775807:=by omega
 have m3 : (-9223372036854775808 : Int) ≤ ((a : Int) + (l : Int)) * 16 ∧ ((a : Int) + (l : Int)) * 16 ≤ 9223372036854775807:=by omega
 refine ⟨m1,m2,m3,rfl,?_⟩
 have e0 : ((a : Int) * 16) / (W : Int) = ((16 * a / W + 0 : Nat) : Int):=by rcases hW with rfl | rfl | rfl | rfl <;> omega
 have m4 : (0 : Int) ≤ (a : Int) * 16 ∧ (0 : Int) < (W : Int):=by omega
 have hd0 : 16 * a / W ≤ 10000:=by rcases hW with rfl | rfl | rfl | rfl <;> omega
 have m5 : (-9223372036854775808 : Int) ≤ ((a : Int) * 16) / (W : Int) ∧ ((a : Int) * 16) / (W : Int) ≤ 9223372036854775807:=by rw [e0]; generalize 16 * a / W = q at hd0; omega
 refine ⟨m4,m5,?_⟩
 show TrQ _ _ _ _ _ _ _
 refine TrQ.loop tblOK (drawOK tblOK) [7] (by kernel_rfl) (X:=Nat) (pcK y W a l) (fun k=>pjB a l (J k)) (fun k=>k ≤ pcN W a l) (fun k=>pcN W a l - k) 0 (Nat.zero_le _) ?_ ?_
 · exact Le.sub ⟨rfl,rfl,rfl,rfl,rfl,(by show (a : Int) * 16 = ((16 * a : Nat) : Int); omega),(by show ((a : Int) + (l : Int)) * 16 = ((16 * (a + l) : Nat) : Int); omega),e0,trivial⟩ ⟨rfl,rfl,rfl,rfl,trivial⟩
 intro k hk
 obtain ⟨g1,g2,g3,g4⟩:=pce_eqs (a:=a) (l:=l) (k:=k) hW
 have hiff:=pcN_iff (a:=a) (l:=l) (k:=k) hW
 have hN : pcN W a l ≤ 30000:=by
   unfold pcN
   rcases hW with rfl | rfl | rfl | rfl <;> (split <;> omega)
 have hcl : (16 * a / W + k) * W ≤ 40000 * 128:=Nat.mul_le_mul (by omega) hW2.2
 have out : ∀ (h : ¬ k < pcN W a l),k = pcN W a l:=fun h=>by omega
 refine ⟨fun h1=>?_,fun h1=>?_⟩
 · have h1 : (0 : Int) < (l : Int):=of_decide_eq_true h1
   have n1 : (-9223372036854775808 : Int) ≤ ((16 * a / W + k : Nat) : Int) * (W : Int) ∧ ((16 * a / W + k : Nat) : Int) * (W : Int) ≤ 9223372036854775807:=by rw [g1]; omega
   refine ⟨n1,?_⟩
   refine ⟨fun h2=>?_,fun h2=>?_⟩
   · have h2 : ((16 * a / W + k : Nat) : Int) * (W : Int) < ((16 * (a + l) : Nat) : Int):=of_decide_eq_true h2
     have hkN : k < pcN W a l:=hiff.1 ⟨by omega,by rw [g1] at h2; omega⟩
     have n2 : (-9223372036854775808 : Int) ≤ ((16 * a : Nat) : Int) - ((16 * a / W + k : Nat) : Int) * (W : Int) ∧ ((16 * a : Nat) : Int) - ((16 * a / W + k : Nat) : Int) * (W : Int) ≤ 9223372036854775807:=by rw [g1]; omega
     have n3 : (-9223372036854775808 : Int) ≤ ((16 * (a + l) : Nat) : Int) - ((16 * a / W + k : Nat) : Int) * (W : Int) ∧ ((16 * (a + l) : Nat) : Int) - ((16 * a / W + k : Nat) : Int) * (W : Int) ≤ 9223372036854775807:=by rw [g1]; omega
     refine ⟨n1,n2,n1,n3,rfl,?_⟩
     have n4 : (-9223372036854775808 : Int) ≤ ((16 * a / W + k : Nat) : Int) * (W : Int) + max (((16 * a : Nat) : Int) - ((16 * a / W + k : Nat) : Int) * (W : Int)) 0 ∧ ((16 * a / W + k : Nat) : Int) * (W : Int) + max (((16 * a : Nat) : Int) - ((16 * a / W + k : Nat) : Int) * (W : Int)) 0 ≤ 9223372036854775807:=by rw [g1]; omega
     have n5 : (-9223372036854775808 : Int) ≤ ((16 * a / W + k : Nat) : Int) * (W : Int) + max (((16 * a : Nat) : Int) - ((16 * a / W + k : Nat) : Int) * (W : Int)) 0 - ((16 * a : Nat) : Int) ∧ ((16 * a / W + k : Nat) : Int) * (W : Int) + max (((16 * a : Nat) : Int) - ((16 * a / W + k : Nat) : Int) * (W : Int)) 0 - ((16 * a : Nat) : Int) ≤ 9223372036854775807:=by rw [g1]; omega
     refine ⟨n1,n4,n5,?_⟩
     have hcs : [S1.d (.int .i64 ((16 * a / W + k : Nat) : Int)),.d (.int .i64 (max (((16 * a : Nat) : Int) - ((16 * a / W + k : Nat) : Int) * (W : Int)) 0)),.d (.int .i64 (min (((16 * (a + l) : Nat) : Int) - ((16 * a / W + k : Nat) : Int) * (W : Int)) (W : Int))),.d (.int .i64 (((16 * a / W + k : Nat) : Int) * (W : Int) + max (((16 * a : Nat) : Int) - ((16 * a / W + k : Nat) : Int) * (W : Int)) 0 - ((16 * a : Nat) : Int)))] = pcL (pce W a l k):=by
       rw [g1,g2,g3 hkN,g4]
       rfl
     show TrQ _ _ _ _ _ _ _
     refine TrQ.le (Le.sub (K':=(9,vP 9) :: pcK y W a l k) (B':=(9,.cells (pcL (pce W a l k))) :: pjB a l (J k)) ⟨rfl,rfl,rfl,rfl,rfl,rfl,rfl,rfl,rfl,trivial⟩ ⟨?_,rfl,rfl,rfl,rfl,trivial⟩) ?_
     · exact congrArg (fun l=>some (Ch.cells l)) hcs
     refine TrQ.regionX tblOK (by kernel_rfl) ?_
     refine ⟨Unit,_,_,_,hy k hkN,⟨rfl,trivial⟩,fun _=>rfl,fun _=>?_⟩
     have n6 : (-9223372036854775808 : Int) ≤ ((16 * a / W + k : Nat) : Int) + 1 ∧ ((16 * a / W + k : Nat) : Int) + 1 ≤ 9223372036854775807:=by generalize 16 * a / W = q at hd0; omega
     refine ⟨n6,k + 1,hkN,by omega,Le.sub ⟨rfl,rfl,rfl,rfl,rfl,rfl,rfl,rfl,trivial⟩ ⟨rfl,rfl,rfl,rfl,trivial⟩⟩
   · have h2 : ¬ ((16 * a / W + k : Nat) : Int) * (W : Int) < ((16 * (a + l) : Nat) : Int):=of_decide_eq_false h2
     have hkN : k = pcN W a l:=out fun h=>h2 (by have:=(hiff.2 h).2; rw [g1]; omega)
     subst hkN
     exact ⟨_,_,_,Le.refl _ _,rfl,trivial,⟨rfl,trivial⟩,rfl⟩
 · have h1 : ¬ (0 : Int) < (l : Int):=of_decide_eq_false h1
   have hkN : k = pcN W a l:=out fun h=>h1 (by have:=(hiff.2 h).1; omega)
   subst hkN
   exact ⟨_,_,_,Le.refl _ _,rfl,trivial,⟨rfl,trivial⟩,rfl⟩
/-! Images: Read. -/
theorem ipieces_fn (s : ImS) (a l : Int) : Fn Tryz.prog 116 [vP 1001,vI a,vI l] (imB s) [2001,2002,2003] (.c (.one (.clo 133 [.p 2001 0,.p 2002 0,.p 2003 0]))) (imB s ++ pbB a l):=by
 refine Fn.of tblOK [] _ _ _ _ _ Tryz.func116 rfl rfl (by kernel_rfl) (by kernel_rfl) rfl (drawOK tblOK) rfl ?_
 refine ⟨rfl,rfl,rfl,?_⟩
 exact ⟨_,_,_,(Le.ren 3 2001 rfl).trans ((Le.ren 4 2002 rfl).trans (Le.ren 5 2003 rfl)),rfl,rfl,⟨rfl,rfl,rfl,rfl,rfl,rfl,rfl,trivial⟩,rfl⟩
theorem iclusD_fn (s : ImS) (hO : ImOK s) (c : Nat) (hc : c < s.t.length) : Fn Tryz.prog 120 [vP 1001,vI (c : Int),.c (.one (.raw .nilFunc))] (imB s) [] (vL .u8 (clus s c none)) (imB s) :=
 Fn.frz (iclus0_fn s hO.bits hO.tl c hc fun h=>by
   rcases hO.slot c _ (List.getElem?_eq_getElem hc) with e2 | e2 | ⟨h,e2,_,xs,hx,hl⟩
   · rw [e2] at h; cases h
   · rw [e2] at h; cases h
   · rw [e2]; exact ⟨xs,hx,by have:=(wid_le hO.bits).2; omega⟩) rfl rfl
/-- What a piece reads as; what the first k do. -/
def pcRd (s : ImS) (a l k : Nat) : List UInt8:=((clus s (pce (wid s) a l k).c none).take (pce (wid s) a l k).b).drop (pce (wid s) a l k).a
def irdK (s : ImS) (a l : Nat) : Nat → List UInt8
 | 0=>[]
 | k + 1=>irdK s a l k ++ pcRd s a l k
def ird (s : ImS) (a l : Nat) : List UInt8:=irdK s a l (pcN (wid s) a l)
@[reducible] def rdKI : KL:=[(3,vP 3),(9,vP 9)]
@[reducible] def rdBI (s : ImS) (acc : List UInt8) : BL:=imB s ++ [(3,.cells [.ptr 1001 0]),(9,.cells [.own 5002]),(5002,.row 5 .u8 acc)]
@[reducible] def rdBJ (s : ImS) (acc : List UInt8) : BL:=imB s ++ [(3,.cells [.ptr 1001 0]),(9,.cells [.own 33]),(33,.row 5 .u8 acc)]
theorem irdK_len {s : ImS} (hO : ImOK s) {a l : Nat} : ∀ k,(irdK s a l k).length ≤ k * 128
 | 0=>Nat.le_refl _
 | k + 1=>by
   have h:=irdK_len hO (a:=a) (l:=l) k
   have h2 : (pcRd s a l k).length ≤ 128:=by
     unfold pcRd
     rw [List.length_drop,List.length_take]
     have h3 : (pce (wid s) a l k).b ≤ 128:=by
       unfold pce; simp only
       have:=(wid_le hO.bits).2
       omega
     omega
   show (irdK s a l k ++ pcRd s a l k).length ≤ _
   rw [List.length_append]
   omega
set_option maxHeartbeats 1000000 in
theorem iread_ok (s : ImS) (hO : ImOK s) (a l : Nat) (h0 : iIns s a l = 0) : Fn Tryz.prog 92 [vP 1001,vI (a : Int),vI (l : Int)] (imB s) [] (.tup [.one (.d (.lst .u8 (ird s a l))),vErr 0]) (imB s):=by
 have hW:=wid_isW hO.bits
 have hall : (a : Int) + (l : Int) ≤ (iall s : Nat):=by
   unfold iIns at h0
   split at h0
   · cases h0
   · split at h0
     · cases h0
     · omega
 have hal : iall s ≤ 2048:=Nat.mul_le_mul hO.tl (pow_le8 hO.bits).2
 refine Fn.of tblOK [4,5] _ _ _ _ _ Tryz.func92 rfl rfl (by kernel_rfl) (by kernel_rfl) rfl (drawOK tblOK) rfl ?_
 refine ⟨rfl,?_⟩
 refine ⟨_,_,_,_,iinside_fn s hO a l,⟨rfl,rfl,rfl,rfl,trivial⟩,rfl,?_⟩
 rw [h0]
 refine ⟨fun h=>absurd h (by decide),fun _=>?_⟩
 show TrQ _ _ _ _ _ _ _
 refine TrQ.go tblOK (drawOK tblOK) [5] (by kernel_rfl) (Le.refl _ _) ?_
 refine ⟨rfl,?_⟩
 show TrQ _ _ _ _ _ _ _
 refine TrQ.go tblOK (drawOK tblOK) [] (by kernel_rfl) ((Le.nilc 9 0 5002 5 .u8 rfl rfl rfl).trans (Le.sub (K':=[(1,vI (a : Int)),(2,vI (l : Int)),(3,vP 3),(9,vP 9)]) (B':=rdBI s []) ⟨rfl,rfl,rfl,rfl,trivial⟩ ⟨rfl,rfl,rfl,rfl,rfl,rfl,rfl,trivial⟩)) ?_
 refine ⟨_,_,_,_,ipieces_fn s a l,⟨rfl,rfl,rfl,rfl,trivial⟩,rfl,?_⟩
 show TrQ _ _ _ _ _ _ _
 refine TrQ.le (Le.sub (K':=[(21,.c (.one (.clo 133 [.p 2001 0,.p 2002 0,.p 2003 0]))),(3,vP 3),(9,vP 9)]) (B':=pbB a l ++ rdBI s []) ⟨rfl,rfl,rfl,trivial⟩ ⟨rfl,rfl,rfl,rfl,rfl,rfl,rfl,rfl,rfl,rfl,trivial⟩) ?_
 refine TrQ.range tblOK [] (pl:=[22]) rfl (by kernel_rfl) (by kernel_rfl) (by kernel_rfl) (by kernel_rfl) [1001,1002,1003,1004,3,9] _ rdKI (pbB a l) (fun k : Nat=>rdBI s (irdK s a l k)) 1001 0 (pcN (wid s) a l) (fun k vs k'=>k < pcN (wid s) a l ∧ vs = [vPc (pce (wid s) a l k)] ∧ k' = k + 1) rfl (by exact ⟨rfl,rfl,trivial⟩) rfl rfl ?_ ?_ ?_
 · rintro k vs k' ⟨hk,rfl,rfl⟩
   obtain ⟨p1,p2,p3,p4⟩:=pce_ok hW hk
   have hc : (pce (wid s) a l k).c < s.t.length:=by
     have e : iall s * 16 = s.t.length * wid s:=by unfold iall wid; rw [Nat.mul_assoc,Nat.mul_comm (2 ^ s.bits) 16]
     have h1 : (pce (wid s) a l k).c * wid s < s.t.length * wid s:=by omega
     exact Nat.lt_of_mul_lt_mul_right h1
   have hcl:=clus_len hO hc none
   have hlen:=irdK_len hO (a:=a) (l:=l) k
   have hkN : k ≤ 3000:=by
     have h1:=(pcN_iff (a:=a) (l:=l) (k:=k) hW).2 hk
     rcases hW with e | e | e | e <;> rw [e] at h1 <;> omega
   have m1 : (0 : Int) ≤ ((pce (wid s) a l k).a : Int) ∧ ((pce (wid s) a l k).a : Int) ≤ ((pce (wid s) a l k).b : Int) ∧ ((pce (wid s) a l k).b : Int) ≤ (((clus s (pce (wid s) a l k).c none).length : Nat) : Int):=by omega
   have m2 : (irdK s a l k).length + (((clus s (pce (wid s) a l k).c none).take (pce (wid s) a l k).b).drop (pce (wid s) a l k).a).length ≤ 4294967296:=by
     rw [List.length_drop,List.length_take]
     omega
   have hclD:=iclusD_fn s hO _ hc
   refine ⟨rfl,rfl,?_⟩
   refine ⟨rfl,?_⟩
   refine ⟨rfl,?_⟩
   refine ⟨_,_,_,_,hclD,⟨rfl,rfl,rfl,rfl,trivial⟩,rfl,?_⟩
   refine ⟨m1,?_⟩
   refine ⟨m2,rfl,?_⟩
   refine ⟨rfl,?_⟩
   exact ⟨rfl,(Le.sub (K':=[]) (B':=rdBJ s (irdK s a l (k + 1))) trivial ⟨rfl,rfl,rfl,rfl,rfl,rfl,rfl,trivial⟩).trans (Le.ren 33 5002 rfl)⟩
 · intro y J hlift hy
   exact pieces_it y (wid s) a l hW (by omega) (by omega) J (fun k=>hlift _ _ _ k k (Fn.more _ (ibytes_fn s hO.bits) rfl rfl) rfl rfl) (fun k hk=>hy k _ (k + 1) ⟨hk,rfl,rfl⟩)
 · refine ⟨_,_,_,Le.frz 5002 rfl,rfl,⟨rfl,rfl,trivial⟩,⟨rfl,rfl,rfl,rfl,trivial⟩,rfl⟩
theorem iread_no (s : ImS) (hO : ImOK s) (a l : Int) (h0 : iIns s a l ≠ 0) : Fn Tryz.prog 92 [vP 1001,vI a,vI l] (imB s) [] (.tup [.one .nils,vErr (iIns s a l)]) (imB s):=by
 refine Fn.of tblOK [] _ _ _ _ _ Tryz.func92 rfl rfl (by kernel_rfl) (by kernel_rfl) rfl (drawOK tblOK) rfl ?_
 refine ⟨rfl,?_⟩
 refine ⟨_,_,_,_,iinside_fn s hO a l,⟨rfl,rfl,rfl,rfl,trivial⟩,rfl,?_⟩
 refine ⟨fun _=>?_,fun h=>absurd (show iIns s a l = 0 by have h : (!decide (iIns s a l = 0)) = false:=h; simpa using h) h0⟩
 exact ⟨_,_,_,Le.refl _ _,rfl,⟨rfl,rfl,trivial⟩,⟨rfl,rfl,rfl,rfl,trivial⟩,rfl⟩
theorem pce_c {s : ImS} (hO : ImOK s) {a l : Nat} (hall : a + l ≤ iall s) {k : Nat} (hk : k < pcN (wid s) a l) : (pce (wid s) a l k).c < s.t.length ∧ k ≤ 3000:=by
 have hW:=wid_isW hO.bits
 have hal : iall s ≤ 2048:=Nat.mul_le_mul hO.tl (pow_le8 hO.bits).2
 obtain ⟨p1,p2,p3,p4⟩:=pce_ok hW hk
 refine ⟨?_,?_⟩
 · have e : iall s * 16 = s.t.length * wid s:=by unfold iall wid; rw [Nat.mul_assoc,Nat.mul_comm (2 ^ s.bits) 16]
   have h1 : (pce (wid s) a l k).c * wid s < s.t.length * wid s:=by omega
   exact Nat.lt_of_mul_lt_mul_right h1
 · have h1:=(pcN_iff (a:=a) (l:=l) (k:=k) hW).2 hk
   rcases hW with e | e | e | e <;> rw [e] at h1 <;> omega
theorem iIns_all {s : ImS} {a l : Nat} (h0 : iIns s a l = 0) : a + l ≤ iall s:=by
 unfold iIns at h0
 split at h0
 · cases h0
 · split at h0
   · cases h0
   · omega
/-! Images: Write. -/
/-- How many of the first k pieces need a host. -/
def ndK (s : ImS) (a l : Nat) : Nat → Nat
 | 0=>0
 | k + 1=>ndK s a l k + (if iNeeds s (pce (wid s) a l k).c = true then 1 else 0)
def bsP (bs : List UInt8) (p : Pce) : List UInt8:=(bs.take (p.at_ + p.b - p.a)).drop p.at_
/-- What the first k pieces leave. -/
def iwrK (s : ImS) (a l : Nat) (bs : List UInt8) (y : Nat → List UInt8) : Nat → ImS
 | 0=>s
 | k + 1=>iput (iwrK s a l bs y k) (pce (wid s) a l k) (bsP bs (pce (wid s) a l k)) (y (pce (wid s) a l k).c)
theorem ndK_le (s : ImS) (a l k : Nat) : ndK s a l k ≤ k:=by
 induction k with
 | zero=>exact Nat.le_refl _
 | succ k ih =>
   show ndK s a l k + _ ≤ k + 1
   split <;> omega
@[reducible] def iwX (s : ImS) (R : Pl → Ob) (bs : List UInt8) (b1 b2 : Nat) (n : Nat) : BL:=imR s R ++ [(4,.cells [.ptr 1001 0]),(6,.cells [.d (.lst .u8 bs)]),(7,.cells [.d (.fn (114,[b1,b2]))]),(11,.cells [.d (.int .i64 (n : Int))])]
@[reducible] def iwX0 (s : ImS) (R : Pl → Ob) (bs : List UInt8) (b1 b2 : Nat) : BL:=imR s R ++ [(4,.cells [.ptr 1001 0]),(6,.cells [.d (.lst .u8 bs)]),(7,.cells [.d (.fn (114,[b1,b2]))])]
@[reducible] def iwKI2 (a l : Nat) : KL:=[(1,vI (a : Int)),(4,vP 4),(6,vP 6),(7,vP 7),(9,vI (l : Int))]
@[reducible] def iwKI (a l : Nat) : KL:=[(1,vI (a : Int)),(4,vP 4),(6,vP 6),(7,vP 7),(9,vI (l : Int)),(11,vP 11)]
set_option maxHeartbeats 1000000 in
theorem iwrite_in (s : ImS) (R : Pl → Ob) (b1 b2 : Nat) (hO : ImOK s) (a l : Nat) (bs : List UInt8) (hbl : bs.length = 16 * l) (h0 : iIns s a l = 0) (y : Nat → List UInt8) (r : Int) (s' : ImS) (hno : zeros s.l < ndK s a l (pcN (wid s) a l) → r = 120 ∧ s' = s) (hyes : ndK s a l (pcN (wid s) a l) ≤ zeros s.l → r = 0 ∧ s' = iwrK s a l bs y (pcN (wid s) a l))
   (hst : ndK s a l (pcN (wid s) a l) ≤ zeros s.l → ∀ k,k < pcN (wid s) a l → Fn Tryz.prog 119 [vP 1001,vPc (pce (wid s) a l k),vL .u8 (bsP bs (pce (wid s) a l k)),vFn b1 b2] (imR (iwrK s a l bs y k) R) [] vU (imR (iwrK s a l bs y (k + 1)) R)) (hbits : ndK s a l (pcN (wid s) a l) ≤ zeros s.l → ∀ k,k ≤ pcN (wid s) a l → (iwrK s a l bs y k).bits = s.bits) :
   Fn Tryz.prog 91 [vP 1001,vI (a : Int),vL .u8 bs,vFn b1 b2] (imR s R) [] (vI r) (imR s' R):=by
 have hW:=wid_isW hO.bits
 have hall:=iIns_all h0
 have hal : iall s ≤ 2048:=Nat.mul_le_mul hO.tl (pow_le8 hO.bits).2
 have hq : ((bs.length : Nat) : Int) / 16 = (l : Int):=by omega
 have hr : ((bs.length : Nat) : Int) % 16 = 0:=by omega
 refine Fn.of tblOK [4,7,8,12,14,17] _ _ _ _ _ Tryz.func91 rfl rfl (by kernel_rfl) (by kernel_rfl) rfl (drawOK tblOK) rfl ?_
 refine ⟨rfl,rfl,rfl,?_⟩
 have m1 : (0 : Int) ≤ ((bs.length : Nat) : Int) ∧ (0 : Int) < 16:=by omega
 have m2 : (-9223372036854775808 : Int) ≤ ((bs.length : Nat) : Int) / 16 ∧ ((bs.length : Nat) : Int) / 16 ≤ 9223372036854775807:=by omega
 have m3 : (-9223372036854775808 : Int) ≤ ((bs.length : Nat) : Int) % 16 ∧ ((bs.length : Nat) : Int) % 16 ≤ 9223372036854775807:=by omega
 refine ⟨m1,m2,?_⟩
 refine ⟨m1,m3,?_⟩
 refine ⟨fun h=>(by
   have h : (!decide ((((bs.length : Nat) : Int)) % 16 = 0)) = true:=h
   rw [decide_eq_true hr] at h
   cases h),fun _=>?_⟩
 show TrQ _ _ _ _ _ _ _
 refine TrQ.go tblOK (drawOK tblOK) [7] (by kernel_rfl) (Le.sub (K':=[(1,vI (a : Int)),(4,vP 4),(6,vP 6),(7,vP 7),(9,vI (l : Int))]) (B':=iwX0 s R bs b1 b2) ⟨rfl,rfl,rfl,rfl,hq,trivial⟩ ⟨rfl,rfl,rfl,rfl,rfl,rfl,rfl,rfl,trivial⟩) ?_
 refine ⟨_,_,_,_,iinside_fn s hO a l,⟨rfl,rfl,rfl,rfl,trivial⟩,rfl,?_⟩
 rw [h0]
 refine ⟨fun h=>absurd h (by decide),fun _=>?_⟩
 show TrQ _ _ _ _ _ _ _
 refine TrQ.go tblOK (drawOK tblOK) [8] (by kernel_rfl) (Le.refl _ _) ?_
 refine ⟨rfl,?_⟩
 show TrQ _ _ _ _ _ _ _
 refine TrQ.go tblOK (drawOK tblOK) [] (by kernel_rfl) (Le.sub (K':=iwKI a l) (B':=iwX s R bs b1 b2 0) ⟨rfl,rfl,rfl,rfl,rfl,rfl,trivial⟩ ⟨rfl,rfl,rfl,rfl,rfl,rfl,rfl,rfl,rfl,trivial⟩) ?_
 refine ⟨_,_,_,_,ipieces_fn s a l,⟨rfl,rfl,rfl,rfl,trivial⟩,rfl,?_⟩
 show TrQ _ _ _ _ _ _ _
 refine TrQ.le (Le.sub (K':=(31,.c (.one (.clo 133 [.p 2001 0,.p 2002 0,.p 2003 0]))) :: iwKI a l) (B':=pbB a l ++ iwX s R bs b1 b2 0) ⟨rfl,rfl,rfl,rfl,rfl,rfl,rfl,trivial⟩ ⟨rfl,rfl,rfl,rfl,rfl,rfl,rfl,rfl,rfl,rfl,rfl,rfl,trivial⟩) ?_
 refine TrQ.range tblOK [] (pl:=[32]) rfl (by kernel_rfl) (by kernel_rfl) (by kernel_rfl) (by kernel_rfl) [1001,1002,1003,1004,9000,4,6,7,11] _ (iwKI a l) (pbB a l) (fun k : Nat=>iwX s R bs b1 b2 (ndK s a l k)) 1001 0 (pcN (wid s) a l) (fun k vs k'=>k < pcN (wid s) a l ∧ vs = [vPc (pce (wid s) a l k)] ∧ k' = k + 1) rfl (by exact ⟨rfl,rfl,rfl,rfl,rfl,rfl,trivial⟩) rfl rfl ?_ ?_ ?_
 · rintro k vs k' ⟨hk,rfl,rfl⟩
   obtain ⟨hc,hkN⟩:=pce_c hO hall hk
   have hnl:=ndK_le s a l k
   refine ⟨rfl,rfl,?_⟩
   refine ⟨rfl,?_⟩
   refine ⟨rfl,?_⟩
   refine ⟨_,_,_,_,ineeds_fn s hO.tl _ hc,⟨rfl,rfl,rfl,rfl,trivial⟩,rfl,?_⟩
   refine ⟨fun hn=>?_,fun hn=>?_⟩
   · have e : ((ndK s a l k : Nat) : Int) + 1 = ((ndK s a l (k + 1) : Nat) : Int):=by
       show _ = ((ndK s a l k + _ : Nat) : Int)
       rw [if_pos hn]
       omega
     have m4 : (-9223372036854775808 : Int) ≤ ((ndK s a l k : Nat) : Int) + 1 ∧ ((ndK s a l k : Nat) : Int) + 1 ≤ 9223372036854775807:=by omega
     refine ⟨m4,?_⟩
     exact ⟨rfl,Le.sub trivial ⟨rfl,rfl,rfl,rfl,rfl,rfl,rfl,rfl,by rw [← e]; rfl,trivial⟩⟩
   · have e : ndK s a l (k + 1) = ndK s a l k:=by
       show ndK s a l k + _ = _
       rw [if_neg (by rw [hn]; decide)]
       exact Nat.add_zero _
     exact ⟨rfl,Le.sub trivial ⟨rfl,rfl,rfl,rfl,rfl,rfl,rfl,rfl,by rw [e]; rfl,trivial⟩⟩
 · intro y J hlift hy
   exact pieces_it y (wid s) a l hW (by omega) (by omega) J (fun k=>hlift _ _ _ k k (Fn.more [(9000,.dep 1001 R),(4,.cells [.ptr 1001 0]),(6,.cells [.d (.lst .u8 bs)]),(7,.cells [.d (.fn (114,[b1,b2]))]),(11,.cells [.d (.int .i64 (ndK s a l k : Int))])] (ibytes_fn s hO.bits) rfl rfl) rfl rfl) (fun k hk=>hy k _ (k + 1) ⟨hk,rfl,rfl⟩)
 · have hz : zeros s.l ≤ 512:=Nat.le_trans (zeros_le _) hO.ll
   show TrQ _ _ _ _ _ _ _
   refine TrQ.go tblOK (drawOK tblOK) [14,17] (by kernel_rfl) (Le.refl _ _) ?_
   refine ⟨_,_,_,_,ifree_fn s (by have:=hO.ll; omega),⟨rfl,rfl,rfl,rfl,trivial⟩,rfl,?_⟩
   refine ⟨rfl,?_⟩
   refine ⟨fun h=>?_,fun h=>?_⟩
   · have h : ((zeros s.l : Nat) : Int) < ((ndK s a l (pcN (wid s) a l) : Nat) : Int):=of_decide_eq_true h
     obtain ⟨rfl,rfl⟩:=hno (by omega)
     exact ⟨_,_,_,Le.refl _ _,rfl,rfl,⟨rfl,rfl,rfl,rfl,rfl,trivial⟩,rfl⟩
   have h : ¬ ((zeros s.l : Nat) : Int) < ((ndK s a l (pcN (wid s) a l) : Nat) : Int):=of_decide_eq_false h
   have hnd : ndK s a l (pcN (wid s) a l) ≤ zeros s.l:=by omega
   obtain ⟨rfl,rfl⟩:=hyes hnd
   have hst:=hst hnd
   have hbits:=hbits hnd
   show TrQ _ _ _ _ _ _ _
   refine TrQ.go tblOK (drawOK tblOK) [17] (by kernel_rfl) (Le.sub (K':=iwKI2 a l) (B':=iwX0 s R bs b1 b2) ⟨rfl,rfl,rfl,rfl,rfl,trivial⟩ ⟨rfl,rfl,rfl,rfl,rfl,rfl,rfl,rfl,trivial⟩) ?_
   refine ⟨_,_,_,_,ipieces_fn s a l,⟨rfl,rfl,rfl,rfl,trivial⟩,rfl,?_⟩
   show TrQ _ _ _ _ _ _ _
   refine TrQ.le (Le.sub (K':=(45,.c (.one (.clo 133 [.p 2001 0,.p 2002 0,.p 2003 0]))) :: iwKI2 a l) (B':=pbB a l ++ iwX0 s R bs b1 b2) ⟨rfl,rfl,rfl,rfl,rfl,rfl,trivial⟩ ⟨rfl,rfl,rfl,rfl,rfl,rfl,rfl,rfl,rfl,rfl,rfl,trivial⟩) ?_
   refine TrQ.range tblOK [] (pl:=[46]) rfl (by kernel_rfl) (by kernel_rfl) (by kernel_rfl) (by kernel_rfl) [1001,1002,1003,1004,9000,4,6,7] _ (iwKI2 a l) (pbB a l) (fun k : Nat=>iwX0 (iwrK s a l bs y k) R bs b1 b2) 1001 0 (pcN (wid s) a l) (fun k vs k'=>k < pcN (wid s) a l ∧ vs = [vPc (pce (wid s) a l k)] ∧ k' = k + 1) rfl (by exact ⟨rfl,rfl,rfl,rfl,rfl,trivial⟩) rfl rfl ?_ ?_ ?_
   · rintro k vs k' ⟨hk,rfl,rfl⟩
     obtain ⟨hc,hkN⟩:=pce_c hO hall hk
     obtain ⟨p1,p2,p3,p4⟩:=pce_ok hW hk
     have hst:=hst k hk
     have hw:=wid_le hO.bits
     refine ⟨rfl,rfl,?_⟩
     refine ⟨rfl,?_⟩
     refine ⟨rfl,?_⟩
     have hx : bsP bs (pce (wid s) a l k) = (bs.take (((pce (wid s) a l k).at_ : Int) + ((pce (wid s) a l k).b : Int) - ((pce (wid s) a l k).a : Int)).toNat).drop (((pce (wid s) a l k).at_ : Int)).toNat:=by
       unfold bsP
       rw [show (((pce (wid s) a l k).at_ : Int) + ((pce (wid s) a l k).b : Int) - ((pce (wid s) a l k).a : Int)).toNat = (pce (wid s) a l k).at_ + (pce (wid s) a l k).b - (pce (wid s) a l k).a by omega]
       rfl
     have m4 : (-9223372036854775808 : Int) ≤ ((pce (wid s) a l k).at_ : Int) + ((pce (wid s) a l k).b : Int) ∧ ((pce (wid s) a l k).at_ : Int) + ((pce (wid s) a l k).b : Int) ≤ 9223372036854775807:=by omega
     have m5 : (-9223372036854775808 : Int) ≤ ((pce (wid s) a l k).at_ : Int) + ((pce (wid s) a l k).b : Int) - ((pce (wid s) a l k).a : Int) ∧ ((pce (wid s) a l k).at_ : Int) + ((pce (wid s) a l k).b : Int) - ((pce (wid s) a l k).a : Int) ≤ 9223372036854775807:=by omega
     have m6 : (0 : Int) ≤ ((pce (wid s) a l k).at_ : Int) ∧ ((pce (wid s) a l k).at_ : Int) ≤ ((pce (wid s) a l k).at_ : Int) + ((pce (wid s) a l k).b : Int) - ((pce (wid s) a l k).a : Int) ∧ ((pce (wid s) a l k).at_ : Int) + ((pce (wid s) a l k).b : Int) - ((pce (wid s) a l k).a : Int) ≤ ((bs.length : Nat) : Int):=by omega
     rw [hx] at hst
     refine ⟨m4,m5,m6,?_⟩
     refine ⟨_,_,_,_,hst,⟨rfl,rfl,rfl,rfl,rfl,trivial⟩,rfl,?_⟩
     refine ⟨rfl,?_⟩
     exact ⟨rfl,Le.sub trivial ⟨rfl,rfl,rfl,rfl,rfl,rfl,rfl,rfl,trivial⟩⟩
   · intro yl J hlift hy
     have h:=pieces_it yl (wid s) a l hW (by omega) (by omega) (fun k=>J (min k (pcN (wid s) a l))) (fun k=>hlift _ _ _ (min k (pcN (wid s) a l)) (min k (pcN (wid s) a l)) (by
       have hb:=hbits (min k (pcN (wid s) a l)) (Nat.min_le_right _ _)
       have h2:=ibytes_fn (iwrK s a l bs y (min k (pcN (wid s) a l))) (by rw [hb]; exact hO.bits)
       rw [show wid (iwrK s a l bs y (min k (pcN (wid s) a l))) = wid s from congrArg (fun b=>16 * 2 ^ b) hb] at h2
       exact Fn.more [(9000,.dep 1001 R),(4,.cells [.ptr 1001 0]),(6,.cells [.d (.lst .u8 bs)]),(7,.cells [.d (.fn (114,[b1,b2]))])] h2 rfl rfl) rfl rfl) (fun k hk=>by
       have h:=hy k _ (k + 1) ⟨hk,rfl,rfl⟩
       rw [Nat.min_eq_left (by omega),Nat.min_eq_left (by omega)]
       exact h)
     simp only [Nat.zero_min,Nat.min_self] at h
     exact h
   · show TrQ _ _ _ _ _ _ _
     refine TrQ.go tblOK (drawOK tblOK) [] (by kernel_rfl) (Le.refl _ _) ?_
     exact ⟨_,_,_,Le.refl _ _,rfl,rfl,⟨rfl,rfl,rfl,rfl,rfl,trivial⟩,rfl⟩
theorem iwrite_odd (s : ImS) (R : Pl → Ob) (b1 b2 : Nat) (a : Int) (bs : List UInt8) (h : bs.length % 16 ≠ 0) (hl : bs.length ≤ 1000000000) : Fn Tryz.prog 91 [vP 1001,vI a,vL .u8 bs,vFn b1 b2] (imR s R) [] (vI 1) (imR s R):=by
 have hr : ¬ ((bs.length : Nat) : Int) % 16 = 0:=by omega
 refine Fn.of tblOK [] _ _ _ _ _ Tryz.func91 rfl rfl (by kernel_rfl) (by kernel_rfl) rfl (drawOK tblOK) rfl ?_
 refine ⟨rfl,rfl,rfl,?_⟩
 have m1 : (0 : Int) ≤ ((bs.length : Nat) : Int) ∧ (0 : Int) < 16:=by omega
 have m2 : (-9223372036854775808 : Int) ≤ ((bs.length : Nat) : Int) / 16 ∧ ((bs.length : Nat) : Int) / 16 ≤ 9223372036854775807:=by omega
 have m3 : (-9223372036854775808 : Int) ≤ ((bs.length : Nat) : Int) % 16 ∧ ((bs.length : Nat) : Int) % 16 ≤ 9223372036854775807:=by omega
 refine ⟨m1,m2,?_⟩
 refine ⟨m1,m3,?_⟩
 refine ⟨fun _=>?_,fun h=>(by
   have h : (!decide ((((bs.length : Nat) : Int)) % 16 = 0)) = false:=h
   rw [decide_eq_false hr] at h
   cases h)⟩
 exact ⟨_,_,_,Le.refl _ _,rfl,rfl,⟨rfl,rfl,rfl,rfl,rfl,trivial⟩,rfl⟩
theorem iwrite_end (s : ImS) (R : Pl → Ob) (b1 b2 : Nat) (hO : ImOK s) (a : Int) (l : Nat) (bs : List UInt8) (hbl : bs.length = 16 * l) (hl : l ≤ 100000000) (h0 : iIns s a l ≠ 0) : Fn Tryz.prog 91 [vP 1001,vI a,vL .u8 bs,vFn b1 b2] (imR s R) [] (vI (iIns s a l)) (imR s R):=by
 have hq : ((bs.length : Nat) : Int) / 16 = (l : Int):=by omega
 have hr : ((bs.length : Nat) : Int) % 16 = 0:=by omega
 refine Fn.of tblOK [4] _ _ _ _ _ Tryz.func91 rfl rfl (by kernel_rfl) (by kernel_rfl) rfl (drawOK tblOK) rfl ?_
 refine ⟨rfl,rfl,rfl,?_⟩
 have m1 : (0 : Int) ≤ ((bs.length : Nat) : Int) ∧ (0 : Int) < 16:=by omega
 have m2 : (-9223372036854775808 : Int) ≤ ((bs.length : Nat) : Int) / 16 ∧ ((bs.length : Nat) : Int) / 16 ≤ 9223372036854775807:=by omega
 have m3 : (-9223372036854775808 : Int) ≤ ((bs.length : Nat) : Int) % 16 ∧ ((bs.length : Nat) : Int) % 16 ≤ 9223372036854775807:=by omega
 refine ⟨m1,m2,?_⟩
 refine ⟨m1,m3,?_⟩
 refine ⟨fun h=>(by
   have h : (!decide ((((bs.length : Nat) : Int)) % 16 = 0)) = true:=h
   rw [decide_eq_true hr] at h
   cases h),fun _=>?_⟩
 show TrQ _ _ _ _ _ _ _
 refine TrQ.go tblOK (drawOK tblOK) [] (by kernel_rfl) (Le.sub (K':=[(1,vI a),(4,vP 4),(9,vI (l : Int))]) (B':=iwX0 s R bs b1 b2) ⟨rfl,rfl,hq,trivial⟩ ⟨rfl,rfl,rfl,rfl,rfl,rfl,rfl,rfl,trivial⟩) ?_
 refine ⟨_,_,_,_,iinside_fn s hO a l,⟨rfl,rfl,rfl,rfl,trivial⟩,rfl,?_⟩
 refine ⟨fun _=>?_,fun h=>absurd (show iIns s a l = 0 by have h : (!decide (iIns s a l = 0)) = false:=h; simpa using h) h0⟩
 exact ⟨_,_,_,Le.refl _ _,rfl,rfl,⟨rfl,rfl,rfl,rfl,rfl,trivial⟩,rfl⟩
/-! ### Discard -/
def idsK (s : ImS) (a l : Nat) : Nat → ImS
 | 0=>s
 | k + 1=>if (pce (wid s) a l k).b - (pce (wid s) a l k).a = wid s then iset (idsK s a l k) (pce (wid s) a l k).c s0 else idsK s a l k
@[reducible] def idX (s : ImS) : BL:=imB s ++ [(3,.cells [.ptr 1001 0])]
@[reducible] def idKI : KL:=[(3,vP 3)]
set_option maxHeartbeats 1000000 in
theorem idiscard_in (s : ImS) (hO : ImOK s) (a l : Nat) (h0 : iIns s a l = 0) (hst : ∀ k,k < pcN (wid s) a l → Fn Tryz.prog 127 [vP 1001,vI ((pce (wid s) a l k).c : Int),.c (vSl s0)] (imB (idsK s a l k)) [] vU (imB (iset (idsK s a l k) (pce (wid s) a l k).c s0))) (hbits : ∀ k,k ≤ pcN (wid s) a l → (idsK s a l k).bits = s.bits) :
   Fn Tryz.prog 102 [vP 1001,vI (a : Int),vI (l : Int)] (imB s) [] (vI 0) (imB (idsK s a l (pcN (wid s) a l))):=by
 have hW:=wid_isW hO.bits
 have hw:=wid_le hO.bits
 have hall:=iIns_all h0
 have hal : iall s ≤ 2048:=Nat.mul_le_mul hO.tl (pow_le8 hO.bits).2
 refine Fn.of tblOK [4,8] _ _ _ _ _ Tryz.func102 rfl rfl (by kernel_rfl) (by kernel_rfl) rfl (drawOK tblOK) rfl ?_
 refine ⟨rfl,?_⟩
 refine ⟨_,_,_,_,iinside_fn s hO a l,⟨rfl,rfl,rfl,rfl,trivial⟩,rfl,?_⟩
 rw [h0]
 refine ⟨fun h=>absurd h (by decide),fun _=>?_⟩
 show TrQ _ _ _ _ _ _ _
 refine TrQ.go tblOK (drawOK tblOK) [8] (by kernel_rfl) (Le.sub (K':=[(1,vI (a : Int)),(2,vI (l : Int)),(3,vP 3)]) (B':=idX s) ⟨rfl,rfl,rfl,trivial⟩ ⟨rfl,rfl,rfl,rfl,rfl,trivial⟩) ?_
 refine ⟨_,_,_,_,ipieces_fn s a l,⟨rfl,rfl,rfl,rfl,trivial⟩,rfl,?_⟩
 show TrQ _ _ _ _ _ _ _
 refine TrQ.le (Le.sub (K':=(19,.c (.one (.clo 133 [.p 2001 0,.p 2002 0,.p 2003 0]))) :: idKI) (B':=pbB a l ++ idX s) ⟨rfl,rfl,trivial⟩ ⟨rfl,rfl,rfl,rfl,rfl,rfl,rfl,rfl,trivial⟩) ?_
 refine TrQ.range tblOK [] (pl:=[20]) rfl (by kernel_rfl) (by kernel_rfl) (by kernel_rfl) (by kernel_rfl) [1001,1002,1003,1004,3] _ idKI (pbB a l) (fun k : Nat=>idX (idsK s a l k)) 1001 0 (pcN (wid s) a l) (fun k vs k'=>k < pcN (wid s) a l ∧ vs = [vPc (pce (wid s) a l k)] ∧ k' = k + 1) rfl (by exact ⟨rfl,trivial⟩) rfl rfl ?_ ?_ ?_
 · rintro k vs k' ⟨hk,rfl,rfl⟩
   obtain ⟨p1,p2,p3,p4⟩:=pce_ok hW hk
   have hst:=hst k hk
   have hb:=hbits k (Nat.le_of_lt hk)
   have h2:=ibytes_fn (idsK s a l k) (by rw [hb]; exact hO.bits)
   rw [show wid (idsK s a l k) = wid s from congrArg (fun b=>16 * 2 ^ b) hb] at h2
   have m4 : (-9223372036854775808 : Int) ≤ ((pce (wid s) a l k).b : Int) - ((pce (wid s) a l k).a : Int) ∧ ((pce (wid s) a l k).b : Int) - ((pce (wid s) a l k).a : Int) ≤ 9223372036854775807:=by omega
   refine ⟨rfl,rfl,?_⟩
   refine ⟨rfl,?_⟩
   refine ⟨rfl,?_⟩
   refine ⟨m4,?_⟩
   refine ⟨_,_,_,_,h2,⟨rfl,rfl,rfl,rfl,trivial⟩,rfl,?_⟩
   refine ⟨rfl,?_⟩
   refine ⟨fun h=>?_,fun h=>?_⟩
   · have h : ((pce (wid s) a l k).b : Int) - ((pce (wid s) a l k).a : Int) = ((wid s : Nat) : Int):=of_decide_eq_true h
     have e : idsK s a l (k + 1) = iset (idsK s a l k) (pce (wid s) a l k).c s0:=if_pos (by omega)
     refine ⟨_,_,_,_,Fn.arg hst ⟨rfl,rfl,⟨rfl,rfl,rfl,trivial⟩,trivial⟩,⟨rfl,rfl,rfl,rfl,trivial⟩,rfl,?_⟩
     rw [e]
     exact ⟨rfl,Le.sub trivial ⟨rfl,rfl,rfl,rfl,rfl,trivial⟩⟩
   · have h : ¬ ((pce (wid s) a l k).b : Int) - ((pce (wid s) a l k).a : Int) = ((wid s : Nat) : Int):=of_decide_eq_false h
     have e : idsK s a l (k + 1) = idsK s a l k:=if_neg (by omega)
     rw [e]
     exact ⟨rfl,Le.sub trivial ⟨rfl,rfl,rfl,rfl,rfl,trivial⟩⟩
 · intro yl J hlift hy
   have h:=pieces_it yl (wid s) a l hW (by omega) (by omega) (fun k=>J (min k (pcN (wid s) a l))) (fun k=>hlift _ _ _ (min k (pcN (wid s) a l)) (min k (pcN (wid s) a l)) (by
     have hb:=hbits (min k (pcN (wid s) a l)) (Nat.min_le_right _ _)
     have h2:=ibytes_fn (idsK s a l (min k (pcN (wid s) a l))) (by rw [hb]; exact hO.bits)
     rw [show wid (idsK s a l (min k (pcN (wid s) a l))) = wid s from congrArg (fun b=>16 * 2 ^ b) hb] at h2
     exact Fn.more [(3,.cells [.ptr 1001 0])] h2 rfl rfl) rfl rfl) (fun k hk=>by
     have h:=hy k _ (k + 1) ⟨hk,rfl,rfl⟩
     rw [Nat.min_eq_left (by omega),Nat.min_eq_left (by omega)]
     exact h)
   simp only [Nat.zero_min,Nat.min_self] at h
   exact h
 · show TrQ _ _ _ _ _ _ _
   refine TrQ.go tblOK (drawOK tblOK) [] (by kernel_rfl) (Le.refl _ _) ?_
   exact ⟨_,_,_,Le.refl _ _,rfl,rfl,⟨rfl,rfl,rfl,rfl,trivial⟩,rfl⟩
theorem idiscard_end (s : ImS) (hO : ImOK s) (a l : Int) (h0 : iIns s a l ≠ 0) : Fn Tryz.prog 102 [vP 1001,vI a,vI l] (imB s) [] (vI (iIns s a l)) (imB s):=by
 refine Fn.of tblOK [] _ _ _ _ _ Tryz.func102 rfl rfl (by kernel_rfl) (by kernel_rfl) rfl (drawOK tblOK) rfl ?_
 refine ⟨rfl,?_⟩
 refine ⟨_,_,_,_,iinside_fn s hO a l,⟨rfl,rfl,rfl,rfl,trivial⟩,rfl,?_⟩
 refine ⟨fun _=>?_,fun h=>absurd (show iIns s a l = 0 by have h : (!decide (iIns s a l = 0)) = false:=h; simpa using h) h0⟩
 exact ⟨_,_,_,Le.refl _ _,rfl,rfl,⟨rfl,rfl,rfl,rfl,trivial⟩,rfl⟩
end Go.Proofs.YteoamepgonpdlaaGreat
