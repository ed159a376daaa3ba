/-
Part 4 of the proof that stands in YteoamepgonpdlaaGreatPbRow, with what it needs from the parts ahead; the parts of this text: SndP, SndM.
-/
import Derived.Great.BuildSlice
import Derived.Laws.Small
import Derived.Maps.AppendAt
import Derived.Lib.Strings
import Derived.Test.YteoamepgonpdlaaGreatPb3
/-!
  Soundness of the conditions: stores, literals, slices, append.
-/
namespace Go.Proofs.YteoamepgonpdlaaGreat
set_option linter.unusedVariables false
set_option linter.unusedSimpArgs false
open Go.RowKit
section
variable {ρ : Nat → Pl} {I : Nat → Prop} {w : World}
theorem DenU.wf : ∀ (u : U) (x : El u) (c : Nat → Option Value),DenU I w u x c → WfU u x:=by
 intro u
 induction u with
 | pr u v ih1 ih2=>exact fun x c h=>⟨ih1 _ _ h.1,ih2 _ _ h.2⟩
 | arr n u ih =>
   refine fun x c h=>⟨h.1,fun y hy=>?_⟩
   obtain ⟨i,hi⟩:=List.getElem?_of_mem (α:=El u) hy
   exact ih _ _ (h.2 i y hi)
 | _=>exact fun x c h=>trivial
theorem DenU.one (u : U) (x : El u) (c : Nat → Option Value) (h : DenU I w u x c) (j : Nat) (hj : j < sz u) : ∃ v,c j = some v ∧ v.oneCell' = true:=by
 obtain ⟨v,h1,h2⟩:=DenU.cell u x c j h hj
 exact ⟨v,h1,ok_one (ρ:=fun _=>⟨0,none,0,0⟩) (s:=.d (cellU u x j)) rfl h2⟩
theorem mul_lt_of {i j n s : Nat} (hi : i < n) (hj : j < s) : i * s + j < n * s:=by
 have:=Nat.mul_le_mul_right s hi
 rw [Nat.succ_mul] at this
 omega
/-- The cells of a slice of data. -/
theorem den_cells {u : U} {ys : List (El u)} {v : Value} (h : DenU I w (.sl u) ys (fun _=>some v)) (hI : ∀ b,I b → b < w.heap.size) :
   ∃ news,Sl I w (sz u) v ys.length news ∧ RecsU I w u ys news ∧ ∀ x ∈ news,x.oneCell' = true:=by
 obtain ⟨A,cap,e,h1,h2,h3⟩:=h
 injection e with e
 subst e
 rcases Nat.eq_zero_or_pos ys.length with h0 | h0
 · have hy : ys = []:=List.eq_nil_of_length_eq_zero h0
   subst hy
   exact ⟨[],⟨by simp,A,cap,rfl,h1,h2,fun h=>absurd h (by simp)⟩,fun i x hx=>by simp at hx,fun x hx=>by cases hx⟩
 · obtain ⟨b,o,rfl,hb,hx⟩:=h3 h0
   have hc : ∀ i (hi : i < ys.length) j,j < sz u → ∃ v,w.cell? ⟨b,o + (i * sz u + j),none⟩ = some v ∧ v.oneCell' = true:=fun i hi j hj =>
     DenU.one u _ _ (hx i ys[i] (by simp [lget,hi])) j hj
   have hn : ∀ j,j < ys.length * sz u → ∃ v,w.cell? ⟨b,o + j,none⟩ = some v ∧ v.oneCell' = true:=fun j hj=>by
     obtain ⟨e1,e2,e3⟩:=sz_div hj
     have:=hc _ e1 _ e2
     rwa [e3] at this
   have hget : ∀ j,j < ys.length * sz u → ((List.range (ys.length * sz u)).map fun j=>(w.cell? ⟨b,o + j,none⟩).getD undef)[j]? = w.cell? ⟨b,o + j,none⟩:=fun j hj=>by
     obtain ⟨v,hv,_⟩:=hn j hj
     rw [List.getElem?_map,List.getElem?_range hj]
     simp [hv]
   refine ⟨(List.range (ys.length * sz u)).map fun j=>(w.cell? ⟨b,o + j,none⟩).getD undef,⟨by simp,some ⟨b,o,none⟩,cap,rfl,h1,h2,fun _=>⟨b,o,rfl,hb,hI b hb,fun j x hj=>?_⟩⟩,fun i x hx'=>?_,fun x hx'=>?_⟩
   · have hj':=(List.getElem?_eq_some_iff.1 hj).1
     simp only [List.length_map,List.length_range] at hj'
     rwa [hget j hj'] at hj
   · have hi:=(List.getElem?_eq_some_iff.1 hx').1
     have hd:=hx i x hx'
     refine DenU.mk u x _ (DenU.wf u x _ hd) fun j hj=>?_
     obtain ⟨v,hv,h4⟩:=DenU.cell u x _ j hd hj
     exact ⟨v,by rw [hget _ (mul_lt_of hi hj)]; exact hv,h4⟩
   · obtain ⟨j,hj,rfl⟩:=List.mem_map.1 hx'
     obtain ⟨v,hv,h4⟩:=hn j (List.mem_range.1 hj)
     simpa [hv] using h4
theorem RecsU.app {u : U} {xs ys : List (El u)} {cs ds : List Value} (h : RecsU I w u xs cs) (h' : RecsU I w u ys ds) (hl : cs.length = xs.length * sz u) : RecsU I w u (xs ++ ys) (cs ++ ds):=fun i x hx=>by
 by_cases hi : i < xs.length
 · rw [List.getElem?_append_left hi] at hx
   have hd:=h i x hx
   refine DenU.mk u x _ (DenU.wf u x _ hd) fun j hj=>?_
   obtain ⟨v,hv,h4⟩:=DenU.cell u x _ j hd hj
   exact ⟨v,by rw [List.getElem?_append_left (by rw [hl]; exact mul_lt_of hi hj)]; exact hv,h4⟩
 · rw [List.getElem?_append_right (by omega)] at hx
   have hd:=h' _ x hx
   refine DenU.mono (Ext.refl _ _) u x _ _ (fun j v hj=>?_) hd
   have e : i * sz u = xs.length * sz u + (i - xs.length) * sz u:=by rw [← Nat.add_mul]; congr 1; omega
   rw [List.getElem?_append_right (by rw [hl,e]; omega),← hj,hl,e]
   congr 1
   omega
theorem RecsU.nil (u : U) : RecsU I w u [] []:=fun i x hx=>by simp at hx
/-- A row of the call's own is a slice of data,if nobody writes it. -/
theorem row_data {ρ : Nat → Pl} {F : Nat → Prop} {p : Pl} {e : TypeId} {u : U} {xs : List (El u)} (h : Holds ρ I F w p (.row e u xs)) {I' : Nat → Prop} (hI : ∀ b,I b → I' b) (hF : ∀ b,F b → I' b) : DenU I' w (.sl u) xs (fun _=>some p.hdr):=by
 obtain ⟨h1,h2,cs,h3,h4⟩:=h
 have h3':=h3
 rcases h3.2 with ⟨hv,h0⟩ | ⟨g,cap,cur,hv,_,hg,hl,hm,_,_⟩
 · exact ⟨none,0,by rw [hv,h0],by omega,by decide,fun h=>absurd h (by omega)⟩
 · refine ⟨some ⟨g,0,none⟩,cap,by rw [hv],hl,hm,fun _=>⟨g,0,rfl,hF g ((h1 g).2 (by rw [hv]; rfl)),fun i x hx=>?_⟩⟩
   refine DenU.mono (fun b hb=>⟨hI b hb,rfl⟩) u x _ _ (fun j v hj=>?_) (h4 i x hx)
   have:=h3'.cells (g:=g) (by rw [hv]; rfl) _ v hj
   rwa [addr_add] at this
end
section
variable {P : Program} {tt : Tr} {N : Nat} {ids : List Nat} {o : Oper} {K : KL} {B : BL} {k : SV → Eff → Prop} {C : Ctx} {ρ : Nat → Pl} {F : Nat → Nat → Prop} {w w' : World}
theorem setRow_fr {b : Nat} {cs : Array Value} {S : Nat → Prop} (hS : S b) : Fr S w (w.setRow b cs) :=
 ⟨rfl,rfl,rfl,by simp [World.setRow],fun j _ hn=>setRow_other w b j cs (fun e=>hn (by rw [e]; exact hS))⟩
/-! ### stores -/
theorem anyP_and {p q : Option Prop} (h : PropO (anyP p q)) : PropO p ∧ PropO q:=by
 cases p <;> cases q <;> first | exact ⟨trivial,trivial⟩ | exact ⟨trivial,h⟩ | exact ⟨h,trivial⟩ | exact h
/-- What decU yields. -/
def Dec {α : Type} (u : U) (f : List S1 → Option (α × List S1 × Option Prop)) (g : α → El u) : Prop:=∀ (ρ : Nat → Pl) (I : Nat → Prop) (w : World) (l : List S1) (x : α) (l' : List S1) (p : Option Prop),f l = some (x,l',p) → PropO p → ∀ vs,DenL ρ I w l vs →
   ∃ vs1 vs2,vs = vs1 ++ vs2 ∧ vs1.length = sz u ∧ DenU I w u (g x) (fun j=>vs1[j]?) ∧ DenL ρ I w l' vs2 ∧ ∀ v ∈ vs1,v.oneCell' = true
theorem dec_int (k : IntKind) : Dec (.int k) (decInt k) (fun x=>x):=by
 intro ρ I w l x l' p h hp vs hv
 unfold decInt at h
 split at h
 · rename_i k' n l
   split at h
   · rename_i hk
     have:=eqK_eq hk
     subst this
     simp only [Option.some.injEq,Prod.mk.injEq] at h
     obtain ⟨rfl,rfl,rfl⟩:=h
     obtain ⟨v,r,rfl,h1,h2⟩:=hv
     have h1 : v = .int k' n:=h1
     subst h1
     exact ⟨[.int k' n],r,rfl,rfl,rfl,h2,by simp [Value.oneCell']⟩
   · cases h
 · cases h
theorem dec_u8 : Dec .u8 decU8 (fun x=>x):=by
 intro ρ I w l x l' p h hp vs hv
 unfold decU8 at h
 split at h
 · rename_i k' n l
   split at h
   · rename_i hk
     have:=eqK_eq hk
     subst this
     simp only [Option.some.injEq,Prod.mk.injEq] at h
     obtain ⟨rfl,rfl,rfl⟩:=h
     obtain ⟨v,r,rfl,h1,h2⟩:=hv
     have h1 : v = .int .u8 n:=h1
     subst h1
     have hp : 0 ≤ n ∧ n < 256:=hp
     refine ⟨[.int .u8 n],r,rfl,rfl,?_,h2,by simp [Value.oneCell']⟩
     show some (Value.int .u8 n) = some (Value.int .u8 ((UInt8.ofNat n.toNat).toNat : Int))
     congr 2
     rw [UInt8.toNat_ofNat']
     omega
   · cases h
 · cases h
theorem dec_bool : Dec .bool decBool (fun x=>x):=by
 intro ρ I w l x l' p h hp vs hv
 unfold decBool at h
 split at h
 all_goals first | (cases h; done) | skip
 all_goals
   rename_i b l
   simp only [Option.some.injEq,Prod.mk.injEq] at h
   obtain ⟨rfl,rfl,rfl⟩:=h
   obtain ⟨v,r,rfl,h1,h2⟩:=hv
   have h1 : v = .bool b:=h1
   subst h1
   exact ⟨[.bool b],r,rfl,rfl,rfl,h2,by simp [Value.oneCell']⟩
theorem dec_str : Dec .str decStr (fun x=>x):=by
 intro ρ I w l x l' p h hp vs hv
 unfold decStr at h
 split at h
 · rename_i s l
   simp only [Option.some.injEq,Prod.mk.injEq] at h
   obtain ⟨rfl,rfl,rfl⟩:=h
   obtain ⟨v,r,rfl,h1,h2⟩:=hv
   have h1 : v = .string ⟨s.toArray⟩:=h1
   subst h1
   exact ⟨[_],r,rfl,rfl,rfl,h2,by simp [Value.oneCell']⟩
 · cases h
theorem dec_hdl : Dec .hdl decHdl (fun x=>x):=by
 intro ρ I w l x l' p h hp vs hv
 unfold decHdl at h
 split at h
 · rename_i s l
   simp only [Option.some.injEq,Prod.mk.injEq] at h
   obtain ⟨rfl,rfl,rfl⟩:=h
   obtain ⟨v,r,rfl,h1,h2⟩:=hv
   have h1 : v = hdlV s:=h1
   subst h1
   refine ⟨[_],r,rfl,rfl,rfl,h2,?_⟩
   rcases s with _ | ⟨b,n,c⟩ <;> simp [Value.oneCell',hdlV]
 · rename_i l
   simp only [Option.some.injEq,Prod.mk.injEq] at h
   obtain ⟨rfl,rfl,rfl⟩:=h
   obtain ⟨v,r,rfl,h1,h2⟩:=hv
   have h1 : v = .slice none 0 0:=h1
   subst h1
   exact ⟨[_],r,rfl,rfl,rfl,h2,by simp [Value.oneCell']⟩
 · cases h
theorem adrCaps_den {ρ : Nat → Pl} {I : Nat → Prop} {w : World} : ∀ {m : List Cap} {bs : List Nat} {vs : List Value},adrCaps m = some bs → DenCaps ρ I w m vs → vs = ptrsV bs
 | [],bs,vs,h,hv=>by
   unfold adrCaps at h
   injection h with h
   rw [← h]
   exact hv
 | c :: m,bs,vs,h,hv=>by
   unfold adrCaps at h
   split at h
   · rename_i e; cases e
   · rename_i b l e
     injection e with e1 e2
     subst e1 e2
     split at h
     · rename_i r hr
       injection h with h
       subst h
       obtain ⟨v,t,e,h1,h2⟩:=hv
       have h1 : v = .pointer (some ⟨b,0,none⟩):=h1
       rw [e,h1,adrCaps_den hr h2]
       rfl
     · cases h
   · cases h
theorem dec_fn : Dec .fn decFn (fun x=>x):=by
 intro ρ I w l x l' p h hp vs hv
 unfold decFn at h
 split at h
 · rename_i s l
   simp only [Option.some.injEq,Prod.mk.injEq] at h
   obtain ⟨rfl,rfl,rfl⟩:=h
   obtain ⟨v,r,rfl,h1,h2⟩:=hv
   have h1 : v = fnV s:=h1
   subst h1
   exact ⟨[_],r,rfl,rfl,rfl,h2,by simp [Value.oneCell',fnV]⟩
 · rename_i f m l
   split at h
   · rename_i bs hbs
     simp only [Option.some.injEq,Prod.mk.injEq] at h
     obtain ⟨rfl,rfl,rfl⟩:=h
     obtain ⟨v,r,rfl,⟨us,e,hc⟩,h2⟩:=hv
     have hus:=adrCaps_den hbs hc
     subst e hus
     exact ⟨[_],r,rfl,rfl,rfl,h2,by simp [Value.oneCell']⟩
   · cases h
 · cases h
theorem dec_adr : Dec .adr decAdr (fun x=>x):=by
 intro ρ I w l x l' p h hp vs hv
 unfold decAdr at h
 split at h
 · rename_i s l
   simp only [Option.some.injEq,Prod.mk.injEq] at h
   obtain ⟨rfl,rfl,rfl⟩:=h
   obtain ⟨v,r,rfl,h1,h2⟩:=hv
   have h1 : v = .pointer (adrP s):=h1
   subst h1
   exact ⟨[_],r,rfl,rfl,rfl,h2,by simp [Value.oneCell']⟩
 · rename_i l
   simp only [Option.some.injEq,Prod.mk.injEq] at h
   obtain ⟨rfl,rfl,rfl⟩:=h
   obtain ⟨v,r,rfl,h1,h2⟩:=hv
   have h1 : v = .pointer none:=h1
   subst h1
   exact ⟨[_],r,rfl,rfl,rfl,h2,by simp [Value.oneCell']⟩
 · cases h
theorem dec_sl (u : U) : Dec (.sl u) (decSl u) (fun x=>x):=by
 intro ρ I w l x l' p h hp vs hv
 unfold decSl at h
 split at h
 · rename_i l
   simp only [Option.some.injEq,Prod.mk.injEq] at h
   obtain ⟨rfl,rfl,rfl⟩:=h
   obtain ⟨v,r,rfl,h1,h2⟩:=hv
   have h1 : v = .slice none 0 0:=h1
   subst h1
   exact ⟨[_],r,rfl,rfl,⟨none,0,rfl,Nat.le_refl _,by decide,fun h=>absurd h (by simp)⟩,h2,by simp [Value.oneCell']⟩
 · rename_i v xs l
   split at h
   · rename_i he _
     subst he
     simp only [Option.some.injEq,Prod.mk.injEq] at h
     obtain ⟨rfl,rfl,rfl⟩:=h
     obtain ⟨v,r,rfl,h1,h2⟩:=hv
     have h1 : DenU I w (.sl _) xs (fun _=>some v):=h1
     refine ⟨[v],r,rfl,rfl,?_,h2,?_⟩
     · obtain ⟨A,cap,e,h3⟩:=h1
       exact ⟨A,cap,e,h3⟩
     · obtain ⟨A,cap,e,h3⟩:=h1
       injection e with e
       subst e
       simp [Value.oneCell']
   · cases h
 · cases h
theorem dec_pr {u v : U} (h1 : Dec u (decU u) (fun x=>x)) (h2 : Dec v (decU v) (fun x=>x)) : Dec (.pr u v) (decU (.pr u v)) (fun x=>x):=by
 intro ρ I w l x l' p h hp vs hv
 unfold decU at h
 cases e1 : decU u l with
 | none=>simp only [e1] at h; cases h
 | some t =>
   obtain ⟨y,l1,p1⟩:=t
   simp only [e1] at h
   cases e2 : decU v l1 with
   | none=>simp only [e2] at h; cases h
   | some t =>
     obtain ⟨z,l2,p2⟩:=t
     simp only [e2,Option.some.injEq,Prod.mk.injEq] at h
     obtain ⟨rfl,rfl,rfl⟩:=h
     obtain ⟨q1,q2⟩:=anyP_and hp
     obtain ⟨vs1,r1,rfl,g1,g2,g3,g4⟩:=h1 ρ I w l y l1 p1 e1 q1 vs hv
     obtain ⟨vs2,r2,rfl,k1,k2,k3,k4⟩:=h2 ρ I w l1 z _ p2 e2 q2 r1 g3
     refine ⟨vs1 ++ vs2,r2,by simp,by simp [sz,g1,k1],⟨?_,?_⟩,k3,fun x hx=>(List.mem_append.1 hx).elim (g4 x) (k4 x)⟩
     · refine DenU.mk u y _ (DenU.wf u y _ g2) fun j hj=>?_
       obtain ⟨x,hx,hd⟩:=DenU.cell u y _ j g2 hj
       exact ⟨x,by rw [List.getElem?_append_left (by omega)]; exact hx,hd⟩
     · refine DenU.mono (Ext.refl _ _) v z _ _ (fun j x hj=>?_) k2
       show (vs1 ++ vs2)[sz u + j]? = some x
       rw [List.getElem?_append_right (by omega),show sz u + j - vs1.length = j by omega]
       exact hj
theorem dec_all : ∀ u : U,Dec u (decU u) (fun x=>x)
 | .int k=>dec_int k
 | .u8=>dec_u8
 | .bool=>dec_bool
 | .str=>dec_str
 | .adr=>dec_adr
 | .hdl=>dec_hdl
 | .fn=>dec_fn
 | .sl u=>dec_sl u
 | .pr u v=>dec_pr (dec_all u) (dec_all v)
 | .arr n u=>fun ρ I w l x l' p h=>by unfold decU at h; cases h
theorem decs_sound {ρ : Nat → Pl} {I : Nat → Prop} {w : World} (u : U) : ∀ (n : Nat) (l : List S1) (xs : List (El u)) (p : Option Prop),decs u n l = some (xs,p) → PropO p → ∀ vs,DenL ρ I w l vs → xs.length = n ∧ vs.length = n * sz u ∧ RecsU I w u xs vs ∧ ∀ v ∈ vs,v.oneCell' = true
 | 0,l,xs,p,h,hp,vs,hv=>by
   unfold decs at h
   split at h
   · simp only [Option.some.injEq,Prod.mk.injEq] at h
     obtain ⟨rfl,rfl⟩:=h
     rw [show vs = [] from hv]
     exact ⟨rfl,by simp,RecsU.nil u,by simp⟩
   · cases h
   · rename_i e; cases e
 | n + 1,l,xs,p,h,hp,vs,hv=>by
   unfold decs at h
   cases e1 : decU u l with
   | none=>simp only [e1] at h; cases h
   | some t =>
     obtain ⟨y,l1,p1⟩:=t
     simp only [e1] at h
     cases e2 : decs u n l1 with
     | none=>simp only [e2] at h; cases h
     | some t =>
       obtain ⟨ys,p2⟩:=t
       simp only [e2,Option.some.injEq,Prod.mk.injEq] at h
       obtain ⟨rfl,rfl⟩:=h
       obtain ⟨q1,q2⟩:=anyP_and hp
       obtain ⟨vs1,r1,rfl,g1,g2,g3,g4⟩:=dec_all u ρ I w l y l1 p1 e1 q1 vs hv
       obtain ⟨k1,k2,k3,k4⟩:=decs_sound u n l1 ys p2 e2 q2 r1 g3
       refine ⟨by simp [k1],by simp [g1,k2,Nat.succ_mul,Nat.add_comm],?_,fun x hx=>(List.mem_append.1 hx).elim (g4 x) (k4 x)⟩
       have : RecsU I w u [y] vs1:=fun i x hx=>by
         match i with
         | 0 =>
           simp only [List.getElem?_cons_zero,Option.some.injEq] at hx
           subst hx
           exact DenU.mono (Ext.refl _ _) u y _ _ (fun j v hj=>by simpa using hj) g2
         | i + 1=>simp at hx
       exact RecsU.app this k3 (by simpa using g1)
theorem snd_store (hP : TblOK P tt) {T : TypeId} {x v : Operand} (ho : o.op = .store T x v) (h : match tt.find T with
   | some ti=>match opv K x with
     | .c (.one (.ptr c o))=>match lookB B c with
       | some (.cells l)=>match cellsV (opv K v) with
         | some cs=>match Nat.beq cs.length ti.size,Nat.ble (o + cs.length) l.length with
           | true,true=>forceL (spl l o cs) fun l=>k .undef ⟨[c],[],[(c,some (.cells l))]⟩
           | _,_=>False
         | none=>False
       | _=>False
     | .c (.one (.rp c s i o))=>match lookB B c with
       | some (.row e u xs)=>match Nat.beq (sz u) 1,Nat.beq s 1,Nat.beq o 0,Nat.beq ti.size 1,opv K v with
         | true,true,true,true,.c (.one sv)=>match decU u [sv] with
           | some (y,[],p)=>(PropO p ∧ i < xs.length) ∧ k .undef ⟨[c],[],[(c,some (.row e u (xs.set i y)))]⟩
           | _=>False
         | _,_,_,_,_=>False
       | _=>False
     | _=>False
   | none=>False) : Snd P N ids o K B k:=by
 have m1 : x ∈ o.op.operands:=by rw [ho]; simp [Op.operands]
 have m2 : v ∈ o.op.operands:=by rw [ho]; simp [Op.operands]
 split at h
 · rename_i ti hti
   obtain ⟨inf,d,hok⟩:=hP.at_ hti
   split at h
   · rename_i c p hc
     split at h
     · rename_i l hl
       split at h
       · rename_i cs hcs
         split at h
         · rename_i h1 h2
           have h1:=Nat.eq_of_beq_eq_true h1
           have h2:=Nat.le_of_ble_eq_true h2
           rw [forceL_eq] at h
           refine Snd.of h <| OpOK.turn hl fun K' B' e1 C ρ F a w hM hS hl'=>?_
           obtain ⟨hF,vs,T',hb,hd⟩:=hM.holds c _ hl'
           have hv:=hS.get v
           rw [e1 v m2] at hv
           obtain ⟨us,hu1,hu2,hu3⟩:=cells_of hcs hv
           have hlen:=DenL.length _ _ hu2
           have hlen2:=DenL.length _ _ hd
           refine ⟨_,exec_store ho (hS.ptr ((e1 x m1).trans hc)) hu1 hok.info (by rw [hlen,h1]; exact hok.size) hb (by omega) hu3,setRow_fr ((hF _).2 rfl),fun I he=>⟨hF,_,T',setRow_heap w _ _ _ T' _ hb,?_⟩⟩
           exact DenL.splice (DenL.mono he _ _ (fun _ _=>rfl) hd) (DenL.mono he _ _ (fun _ _=>rfl) hu2)
         · exact h.elim
       · exact h.elim
     · exact h.elim
   · rename_i c s i p hc
     split at h
     · rename_i e u xs hl
       split at h
       · rename_i sv s1 s2 s3 s4 hsv
         split at h
         · rename_i y q hdec
           have s1:=Nat.eq_of_beq_eq_true s1
           have s2:=Nat.eq_of_beq_eq_true s2
           have s3:=Nat.eq_of_beq_eq_true s3
           subst s2 s3
           obtain ⟨⟨hq,hi⟩,h⟩:=h
           refine Snd.of h <| OpOK.turn hl fun K' B' e1 C ρ F a w hM hS hl'=>?_
           obtain ⟨hF,hblk,cs,hown,hrec⟩:=hM.holds c _ hl'
           have hv:=hS.get v
           rw [e1 v m2,hsv] at hv
           have hxp:=hS.rp ((e1 x m1).trans hc)
           obtain ⟨vs1,vs2,e4,g1,g2,g3,g4⟩:=dec_all u ρ _ w [sv] y [] q hdec hq [a.eval v] ⟨_,[],rfl,hv,rfl⟩
           have hlen : vs1.length = 1:=by rw [g1,s1]
           obtain rfl : vs1 = [a.eval v]:=by
             match vs1,hlen with
             | [z],_=>simp at e4; rw [e4.1]
           have hone:=g4 (a.eval v) (by simp)
           have hcells : (a.eval v).cells = List.toArray [a.eval v]:=by
             cases hx : a.eval v <;> first | rfl | (rw [hx] at hone; simp [Value.oneCell'] at hone)
           have hown':=hown
           obtain ⟨hl1,hown⟩:=hown
           rcases hown with ⟨_,h0⟩ | ⟨g,cap,cur,hv',_,hg,hcap,hm,hsz,ht⟩
           · omega
           · have hbg : g = (ρ c).blk:=hblk g (by rw [hv']; rfl)
             subst hbg
             rw [s1,Nat.mul_one] at hsz ht hl1
             have hgt : w.heap[(ρ c).blk]? = some (.cells (List.toArray cur.toList) e (0,0)):=by simpa using hg
             have hfit : i * 1 + 0 + [a.eval v].length ≤ cur.toList.length:=by simp; omega
             have hex:=exec_store (P:=P) (ev:=a.eval) (w:=w) ho hxp hcells hok.info (by rw [hok.size,Nat.eq_of_beq_eq_true s4]; rfl) hgt hfit (by simpa using hone)
             refine ⟨_,hex,setRow_fr ((hF _).2 (by rw [hv']; rfl)),fun I he=>?_⟩
             have hnew:=setRow_heap w (ρ c).blk cur (List.take (i * 1 + 0) cur.toList ++ [a.eval v] ++ List.drop (i * 1 + 0 + [a.eval v].length) cur.toList).toArray e (0,0) hg
             have hset : (List.take (i * 1 + 0) cur.toList ++ [a.eval v] ++ List.drop (i * 1 + 0 + [a.eval v].length) cur.toList) = cur.toList.set i (a.eval v):=by
               rw [List.set_eq_take_append_cons_drop,if_pos (by simp; omega)]
               simp
             rw [hset] at hnew
             refine ⟨hF,hblk,cs.set i (a.eval v),⟨by simp [hl1,s1],.inr ⟨(ρ c).blk,cap,_,by rw [hv']; simp,Nat.zero_le _,by rw [hset]; exact hnew,by simpa using hcap,hm,by simp [hsz,s1],?_⟩⟩,fun j z hz=>?_⟩
             · rw [← ht]
               simp [s1,List.take_set]
             · by_cases hji : i = j
               · subst hji
                 rw [List.getElem?_set_self hi] at hz
                 injection hz with hz
                 subst hz
                 refine DenU.mono he u y _ _ (fun q x hx=>?_) g2
                 match q with
                 | 0 =>
                   rw [s1,Nat.mul_one,Nat.add_zero,List.getElem?_set_self (by omega)]
                   simpa using hx
                 | q + 1=>simp at hx
               · rw [List.getElem?_set_ne hji] at hz
                 have hd:=hrec j z hz
                 refine DenU.mk u z _ (DenU.wf u z _ hd) fun q hq=>?_
                 obtain ⟨x,hx,hx2⟩:=DenU.cell u z _ q hd hq
                 refine ⟨x,?_,Den.mono he _ _ hx2⟩
                 rw [s1] at hq ⊢
                 rw [s1] at hx
                 rw [List.getElem?_set_ne (by omega)]
                 exact hx
         · exact h.elim
       · exact h.elim
     · exact h.elim
   · exact h.elim
 · exact h.elim
end
end Go.Proofs.YteoamepgonpdlaaGreat
/-
 Soundness of the conditions: new blocks,literals.
-/
set_option linter.unusedVariables false
set_option linter.unusedSimpArgs false
namespace Go.Proofs.YteoamepgonpdlaaGreat
open Go.RowKit
section
variable {P : Program} {tt : Tr} {N : Nat} {ids : List Nat} {o : Oper} {K : KL} {B : BL} {k : SV → Eff → Prop}
theorem zeroS_den {ρ : Nat → Pl} {I : Nat → Prop} {w : World} {v : Value} {s : S1} (h : zeroS v s = true) : DenS ρ I w s v ∧ v.oneCell' = true:=by
 unfold zeroS at h
 split at h
 · rename_i k n k' n'
   simp only [Bool.and_eq_true,decide_eq_true_eq] at h
   have:=eqK_eq h.1
   subst this
   rw [h.2]
   exact ⟨rfl,rfl⟩
 · rename_i b b'
   rw [show b = b' by simpa using h]
   exact ⟨rfl,rfl⟩
 · rename_i s l
   have h : s.data.toList = l:=by simpa using h
   subst h
   exact ⟨by simp [DenS,Den],rfl⟩
 · exact ⟨rfl,rfl⟩
 · exact ⟨rfl,rfl⟩
 · exact ⟨rfl,rfl⟩
 · exact ⟨rfl,rfl⟩
 · cases h
theorem zeroL_den {ρ : Nat → Pl} {I : Nat → Prop} {w : World} : ∀ (vs : List Value) (l : List S1),zeroL vs l = true → DenL ρ I w l vs ∧ ∀ u ∈ vs,u.oneCell' = true
 | [],[],_=>⟨rfl,by simp⟩
 | v :: vs,s :: l,h=>by
   simp only [zeroL,Bool.and_eq_true] at h
   obtain ⟨h1,h2⟩:=zeroS_den (ρ:=ρ) (I:=I) (w:=w) h.1
   obtain ⟨h3,h4⟩:=zeroL_den (ρ:=ρ) (I:=I) (w:=w) vs l h.2
   exact ⟨⟨v,vs,rfl,h1,h3⟩,fun u hu=>(List.mem_cons.1 hu).elim (fun e=>e ▸ h2) (h4 u)⟩
 | [],_ :: _,h=>by simp [zeroL] at h
 | _ :: _,[],h=>by simp [zeroL] at h
theorem has_ptr {c d p : Nat} (h : SV.has d (.c (.one (.ptr c p))) = true) : d = c:=(Nat.eq_of_beq_eq_true h).symm
theorem has_own {c d : Nat} (h : SV.has d (.c (.one (.own c))) = true) : d = c:=(Nat.eq_of_beq_eq_true h).symm
theorem snd_alloc (hP : TblOK P tt) {T : TypeId} (ho : o.op = .alloc T) (h : match tt.find T,o.dst with
   | some ti,some d=>freshB ids K B d = true ∧ k (.c (.one (.ptr d 0))) ⟨[],[d],[(d,some (.cells ti.zero))]⟩
   | _,_=>False) : Snd P N ids o K B k:=by
 split at h
 · rename_i ti d hti hd
   obtain ⟨i,ds,hok⟩:=hP.at_ hti
   obtain ⟨z,hz,hzl⟩:=hok.zero
   refine Snd.nw h.2 h.1 <| OpOK.make (fun d h=>has_ptr h) fun K' B' h1 h2 C ρ F a w hM hS hn=>?_
   refine ⟨_,_,⟨w.heap.size,none,0,0⟩,fun b=>b = w.heap.size,(by
     simp [execOp,ho,Instr.alloc,zeroValue,typeInfo,hok.info,hz,newVar,newRow]
     rfl),alloc_below w _,fun b hb=>by subst hb; exact ⟨Nat.le_refl _,by simp⟩,fun I he hb=>⟨⟨fun b=>Iff.rfl,z.cells.toList,T,heap_alloc_at _ rfl,(zeroL_den _ _ hzl).1⟩,?_⟩⟩
   simp only [DenV,DenC,DenS,upd_same]
 · exact h.elim
theorem snd_box (hP : TblOK P tt) {T : TypeId} {x : Operand} (ho : o.op = .box T x) (h : match tt.find T,o.dst,cellsV (opv K x) with
   | some ti,some d,some l=>match Nat.beq l.length ti.size with
     | true=>freshB ids K B d = true ∧ k (.c (.one (.ptr d 0))) ⟨[],[d],[(d,some (.cells l))]⟩
     | false=>False
   | _,_,_=>False) : Snd P N ids o K B k:=by
 have m1 : x ∈ o.op.operands:=by rw [ho]; simp [Op.operands]
 split at h
 · rename_i ti d l hti hd hl
   split at h
   · refine Snd.nw h.2 h.1 <| OpOK.make (fun d h=>has_ptr h) fun K' B' h1 h2 C ρ F a w hM hS hn=>?_
     have hv:=hS.get x
     rw [h1 x m1] at hv
     obtain ⟨vs,e1,e2,e3⟩:=cells_of hl hv
     refine ⟨_,_,⟨w.heap.size,none,0,0⟩,fun b=>b = w.heap.size,(by
       simp [execOp,ho,Instr.box,newVar,newRow,e1]
       rfl),alloc_below w _,fun b hb=>by subst hb; exact ⟨Nat.le_refl _,by simp⟩,fun I he hb=>⟨⟨fun b=>Iff.rfl,vs,T,heap_alloc_at _ rfl,?_⟩,?_⟩⟩
     · refine DenL.mono he l vs (fun c hc=>?_) e2
       refine upd_other _ _ fun e=>?_
       subst e
       have hh : (opv K x).has c = true:=by
         unfold cellsV at hl
         split at hl
         · rename_i hx
           split at hl
           · injection hl with hl; subst hl; rw [hx]; simpa [SV.has,SC.has,hasL] using hc
           · cases hl
         · rename_i hx
           split at hl
           · injection hl with hl; subst hl; rw [hx]; simpa [SV.has,SC.has] using hc
           · cases hl
         · cases hl
       rw [← h1 x m1] at hh
       cases x with
       | tmp t=>have:=hn t; simp only [opv] at hh; rw [this] at hh; cases hh
       | const v =>
         have hcn : ∀ u : Value,(constS u).has c = false:=fun u=>by unfold constS; split <;> rfl
         have hcl : ∀ us : List Value,hasL c (us.map constS) = false:=fun us=>by induction us with
           | nil=>rfl
           | cons u us ih=>simp [hasL,hcn,ih]
         simp only [opv] at hh
         unfold constV at hh
         split at hh <;> simp [SV.has,SC.has,hcn,hcl] at hh
       | func f=>simp [opv,SV.has,SC.has,S1.has,capsHave] at hh
       | global g=>simp [opv,SV.has,SC.has,S1.has] at hh
     · simp only [DenV,DenC,DenS,upd_same]
   · exact h.elim
 · exact h.elim
/-! ### literals -/
theorem foldl_parts : ∀ (us : List Value) (off j : Nat) (p m s : List Value),p.length = off + j → m.length = us.length →
   (us.zipIdx j).foldl (fun cs p=>cs.setIfInBounds (off + p.2) p.1) (p ++ m ++ s).toArray = (p ++ us ++ s).toArray
 | [],off,j,p,m,s,hp,hm=>by
   rw [show m = [] from List.eq_nil_of_length_eq_zero (by simpa using hm)]
   simp
 | u :: us,off,j,p,[],s,hp,hm=>by simp at hm
 | u :: us,off,j,p,x :: m,s,hp,hm=>by
   simp only [List.zipIdx_cons,List.foldl_cons]
   have e : (p ++ x :: m ++ s).toArray.setIfInBounds (off + j) u = ((p ++ [u]) ++ m ++ s).toArray:=by
     rw [List.setIfInBounds_toArray,← hp]
     simp
   rw [e,foldl_parts us off (j + 1) (p ++ [u]) m s (by simp; omega) (by simpa using hm)]
   simp
theorem foldl_set (us vs : List Value) (off : Nat) (h : off + us.length ≤ vs.length) :
   (us.zipIdx).foldl (fun cs p=>cs.setIfInBounds (off + p.2) p.1) vs.toArray = (vs.take off ++ us ++ vs.drop (off + us.length)).toArray:=by
 have e : vs = vs.take off ++ (vs.drop off).take us.length ++ vs.drop (off + us.length):=by
   rw [List.append_assoc,← List.drop_drop,List.take_append_drop,List.take_append_drop]
 have:=foldl_parts us off 0 (vs.take off) ((vs.drop off).take us.length) (vs.drop (off + us.length)) (by simp; omega) (by simp; omega)
 rw [← e] at this
 exact this
theorem fill_sound {K' : KL} {ρ : Nat → Pl} {I : Nat → Prop} {a : Act} {w : World} (hS : Slots K' ρ I a w) {offs place : Nat → Option (Nat × Nat)} (hpl : ∀ i d n,offs i = some (d,n) → place i = some (d,n)) :
   ∀ (ps : List (Nat × Operand)) (l l' : List S1) (vs : List Value),(∀ p ∈ ps,opv K' p.2 = opv K p.2) → fillP K offs ps l = some l' → DenL ρ I w l vs → (∀ u ∈ vs,u.oneCell' = true) →
     ∃ vs',Instr.fill place (List.toArray vs) (ps.map fun p=>(p.1,a.eval p.2)) = some (List.toArray vs') ∧ DenL ρ I w l' vs' ∧ ∀ u ∈ vs',u.oneCell' = true
 | [],l,l',vs,_,h,hv,h1=>by
   simp only [fillP,Option.some.injEq] at h
   subst h
   exact ⟨vs,rfl,hv,h1⟩
 | (i,x) :: ps,l,l',vs,hK,h,hv,h1=>by
   unfold fillP at h
   split at h
   · rename_i d n cs hd hcs
     split at h
     · rename_i e1 e2
       have e1:=Nat.eq_of_beq_eq_true e1
       have e2:=Nat.le_of_ble_eq_true e2
       have hx:=hS.get x
       rw [hK (i,x) (by simp)] at hx
       obtain ⟨us,g1,g2,g3⟩:=cells_of hcs hx
       have q1:=DenL.length _ _ g2
       have q2:=DenL.length _ _ hv
       obtain ⟨vs',k1,k2,k3⟩:=fill_sound hS hpl ps _ l' (vs.take d ++ us ++ vs.drop (d + us.length)) (fun p hp=>hK p (by simp [hp])) h (DenL.splice hv g2) (fun u hu=>by
         simp only [List.mem_append] at hu
         rcases hu with (hu | hu) | hu
         · exact h1 u (List.mem_of_mem_take hu)
         · exact g3 u hu
         · exact h1 u (List.mem_of_mem_drop hu))
       refine ⟨vs',?_,k2,k3⟩
       rw [← k1]
       simp only [List.map_cons,Instr.fill,hpl i d n hd,g1]
       have hf:=foldl_set us vs d (by omega)
       rw [if_neg (by simp; omega)]
       congr 1
       rw [← hf,← Array.foldl_toList,Array.toList_zipIdx]
     · cases h
   · cases h
theorem offs_map {fs : List Field} {l : List (Nat × Nat)} (h : offsL P fs l = true) : fs.mapM (fun f=>(P.info? f.type).map fun i=>(f.offset,i.size)) = some l:=by
 induction fs generalizing l with
 | nil=>cases l with
   | nil=>rfl
   | cons _ _=>simp [offsL] at h
 | cons f fs ih=>cases l with
   | nil=>simp [offsL] at h
   | cons p l =>
     obtain ⟨d,n⟩:=p
     simp only [offsL,Bool.and_eq_true] at h
     obtain ⟨⟨⟨h1,h2⟩,_⟩,h4⟩:=h
     split at h2
     · rename_i i hi
       have h2:=Nat.eq_of_beq_eq_true h2
       have h1:=Nat.eq_of_beq_eq_true h1
       simp [List.mapM_cons,hi,ih h4,h1,h2]
     · cases h2
theorem snd_build (hP : TblOK P tt) {T : TypeId} {ps : Array (Nat × Operand)} (ho : o.op = .build T ps) (h : match tt.find T with
   | some ti=>match ti.kd,fillP K (fun f=>ti.offs[f]?) ps.toList ti.zero with
     | .st,some l=>forceL l fun l=>k (.c (.agg l)) e0
     | _,_=>False
   | none=>False) : Snd P N ids o K B k:=by
 split at h
 · rename_i ti hti
   obtain ⟨i,d,hok⟩:=hP.at_ hti
   obtain ⟨z,hz,hzl⟩:=hok.zero
   split at h
   · rename_i l hk hl
     rw [forceL_eq] at h
     refine Snd.of h <| OpOK.val fun K' B' h1 h2 C ρ F a w hM hS=>?_
     obtain ⟨z1,z2⟩:=zeroL_den (ρ:=ρ) (I:=Imm C B' F w) (w:=w) _ _ hzl
     obtain ⟨vs',f1,f2,f3⟩:=fill_sound (K:=K) hS (offs:=fun f=>ti.offs[f]?) (place:=fun f=>ti.offs[f]?) (fun i d n hi=>hi) ps.toList _ _ _ (fun p hp=>h1 p.2 (by rw [ho]; simp only [Op.operands]; simpa using ⟨p.1,by simpa using hp⟩)) hl z1 z2
     refine ⟨.agg (List.toArray vs'),?_,vs',rfl,f2⟩
     have hbuilt : P.built T (ps.toList.map fun p=>(p.1,a.eval p.2)) = some (List.toArray vs'):=by
       unfold Program.built
       rw [hok.info,hok.und]
       obtain ⟨fs,_,hdd⟩:=hok.st hk
       have:=offs_map (hok.offs fs hdd)
       subst hdd
       simp only [hz,this]
       simpa using f1
     unfold execOp
     simp only [ho,Sem.run_bind,run_build w T _ _ (show P.built T ((ps.map fun p=>(p.1,a.eval p.2)).toList) = _ by simpa using hbuilt),Result.andThen_ok]
     rfl
   · exact h.elim
 · exact h.elim
end
end Go.Proofs.YteoamepgonpdlaaGreat
/-
 Soundness of the conditions: slices.
-/
set_option linter.unusedVariables false
set_option linter.unusedSimpArgs false
namespace Go.Proofs.YteoamepgonpdlaaGreat
open Go.RowKit
section
variable {P : Program} {tt : Tr} {N : Nat} {ids : List Nat} {o : Oper} {K : KL} {B : BL} {k : SV → Eff → Prop}
theorem elem_ok (hP : TblOK P tt) {T e : Nat} {te : TI} (h : elemOf tt T = some (e,te)) : P.underlying T = some (.slice e) ∧ ∃ i d,TIok P e te i d:=by
 unfold elemOf at h
 split at h
 · rename_i ti hti
   split at h
   · rename_i e' hk
     split at h
     · rename_i te' hte
       injection h with h
       injection h with h1 h2
       subst h1 h2
       obtain ⟨_,_,hok⟩:=hP.at_ hti
       exact ⟨hok.sl hk,hP.at_ hte⟩
     · cases h
   · cases h
 · cases h
theorem isStr_ok (hP : TblOK P tt) {T : Nat} (h : isStr tt T = true) : P.underlying T = some .string:=by
 unfold isStr at h
 split at h
 · rename_i ti hti
   split at h
   · rename_i hk
     obtain ⟨_,_,hok⟩:=hP.at_ hti
     exact hok.str hk
   · cases h
 · cases h
theorem isU8_ok (hP : TblOK P tt) {T : Nat} (h : isU8 tt T = true) : P.underlying T = some (.int .u8) ∧ ∃ ti i d,TIok P T ti i d ∧ ti.zero = [.d (.int .u8 0)] ∧ ti.size = 1 ∧ ti.bytes = 1:=by
 unfold isU8 at h
 split at h
 · rename_i ti hti
   split at h
   · rename_i hk hz hs hb
     obtain ⟨i,d,hok⟩:=hP.at_ hti
     exact ⟨hok.int hk,ti,i,d,hok,hz,hs,hb⟩
   · cases h
 · cases h
/-! ### slice literals -/
def repV (n : Nat) (l : List Value) : List Value:=match n with
 | 0=>[]
 | n + 1=>l ++ repV n l
theorem repV_length (n : Nat) (l : List Value) : (repV n l).length = n * l.length:=by
 induction n with
 | zero=>simp [repV]
 | succ n ih=>simp [repV,ih,Nat.succ_mul,Nat.add_comm]
theorem repV_get (n : Nat) (l : List Value) : ∀ j,j < n * l.length → (repV n l)[j]? = l[j % l.length]?:=by
 induction n with
 | zero=>intro j hj; simp at hj
 | succ n ih =>
   intro j hj
   unfold repV
   by_cases h : j < l.length
   · rw [List.getElem?_append_left h,Nat.mod_eq_of_lt h]
   · rw [List.getElem?_append_right (by omega),ih _ (by rw [Nat.succ_mul] at hj; omega),Nat.mod_eq_sub_mod (a:=j) (by omega)]
theorem rep_den {ρ : Nat → Pl} {I : Nat → Prop} {w : World} (n : Nat) {l : List S1} {vs : List Value} (h : DenL ρ I w l vs) : DenL ρ I w (repL n l) (repV n vs):=by
 induction n with
 | zero=>rfl
 | succ n ih=>exact DenL.app _ _ _ _ h ih
theorem repV_mem {n : Nat} {l : List Value} {v : Value} (h : v ∈ repV n l) : v ∈ l:=by
 induction n with
 | zero=>simp [repV] at h
 | succ n ih=>exact (List.mem_append.1 h).elim id ih
theorem made_rep (z : Array Value) (n : Nat) (hz : 0 < z.size) : (Array.range (n * z.size)).map (z[· % z.size]!) = (repV n z.toList).toArray:=by
 apply Array.ext'
 simp only [Array.toList_map,List.toList_toArray]
 apply List.ext_getElem?
 intro j
 by_cases hj : j < n * z.size
 · rw [repV_get n z.toList j (by simpa using hj)]
   simp only [Array.length_toList]
   have hm : j % z.size < z.size:=Nat.mod_lt _ hz
   simp [hj,hm]
 · rw [List.getElem?_eq_none (by simp; omega),List.getElem?_eq_none (by rw [repV_length]; simp; omega)]
theorem alloc_cell {w : World} {l : List Value} {e : TypeId} {j : Nat} {v : Value} (h : l[j]? = some v) : (w.alloc (.cells (List.toArray l) e)).cell? ⟨w.heap.size,j,none⟩ = some v :=
 cell_of (T:=e) (heap_alloc_new w _) h
theorem data_new {I : Nat → Prop} {w : World} {u : U} {xs : List (El u)} {cs : List Value} {e : TypeId} {cap : Nat} (hr : RecsU I (w.alloc (.cells (List.toArray cs) e)) u xs cs) (hI : I w.heap.size) (hc : xs.length ≤ cap) (hm : cap ≤ maxLen) :
   DenU I (w.alloc (.cells (List.toArray cs) e)) (.sl u) xs (fun _=>some (.slice (some ⟨w.heap.size,0,none⟩) xs.length cap)) :=
 ⟨_,cap,rfl,hc,hm,fun _=>⟨_,0,rfl,hI,fun i x hx=>DenU.mono (Ext.refl _ _) u x _ _ (fun j v hj=>by
   simp only [Nat.zero_add]
   exact alloc_cell hj) (hr i x hx)⟩⟩
theorem ownsRow_new (w : World) (e s n : Nat) (cs : List Value) (hl : cs.length = n * s) (hm : n ≤ maxLen) : (w.alloc (.cells (List.toArray cs) e)).ownsRow 0 e s (.slice (some ⟨w.heap.size,0,none⟩) n n) n cs :=
 ⟨hl,.inr ⟨_,n,_,rfl,Nat.zero_le _,heap_alloc_new w _,Nat.le_refl _,hm,by simpa using hl,by simp [← hl]⟩⟩
theorem snd_slice0 (hP : TblOK P tt) {T : TypeId} {ps : Array (Nat × Operand)} (ho : o.op = .buildSlice T 0 ps) (h : match elemOf tt T,o.dst with
   | some (e,te),some d=>match te.u with
     | some u=>freshB ids K B d = true ∧ k (.c (.one (.own d))) ⟨[],[d],[(d,some (.row e u []))]⟩
     | none=>False
   | _,_=>False) (hps : ps.toList = []) : Snd P N ids o K B k:=by
 split at h
 · rename_i e te d he hd
   obtain ⟨hu,inf,ds,hok⟩:=elem_ok hP he
   split at h
   · rename_i u hte
     refine Snd.nw h.2 h.1 <| OpOK.make (fun d h=>has_own h) fun K' B' h1 h2 C ρ F a w hM hS hn=>?_
     have hps' : ps = #[]:=Array.toList_eq_nil_iff.1 hps
     refine ⟨.slice (some ⟨w.heap.size,0,none⟩) 0 0,w.alloc (.cells #[] e),⟨w.heap.size,some ⟨w.heap.size,0,none⟩,0,0⟩,fun b=>b = w.heap.size,?_,alloc_below w _,fun b hb=>by subst hb; exact ⟨Nat.le_refl _,by simp⟩,fun I he hb=>⟨⟨?_,?_,[],?_,RecsU.nil u⟩,?_⟩⟩
     · subst hps'
       simp [execOp,ho,Instr.buildSlice,run_underlying hu,sizeOf,typeInfo,hok.info,Instr.fill,newRow]
       rw [show (Array.range 0) = #[] from rfl]
       simp
     · intro b
       simp [Pl.hdr,Value.ownBlock,eq_comm]
     · intro b hb
       simp [Pl.hdr,Value.ownBlock] at hb
       exact hb.symm
     · exact ownsRow_new w e (sz u) 0 [] (by simp) (by decide)
     · simp only [DenV,DenC,DenS,upd_same,Pl.hdr]
   · exact h.elim
 · exact h.elim
theorem snd_sliceN (hP : TblOK P tt) {T n : Nat} {ps : Array (Nat × Operand)} (ho : o.op = .buildSlice T n ps) (hn0 : n ≠ 0) (h : match elemOf tt T with
   | some (_,te)=>match te.u with
     | some u=>match Nat.ble (n * te.size) 1000,fillP K (fun i=>some (i * te.size,te.size)) ps.toList (repL n te.zero) with
       | true,some l=>match decs u n l with
         | some (xs,none)=>k (.c (.one (.d (.lst u xs)))) e0
         | some (xs,some p)=>p ∧ k (.c (.one (.d (.lst u xs)))) e0
         | none=>n = 1 ∧ ∃ y : El u,(WfU u y ∧ l = listU u y 0 (sz u)) ∧ k (.c (.one (.d (.lst u [y])))) e0
       | _,_=>False
     | none=>False
   | none=>False) : Snd P N ids o K B k:=by
 split at h
 · rename_i e te he
   obtain ⟨hu,inf,ds,hok⟩:=elem_ok hP he
   obtain ⟨z,hz,hzl⟩:=hok.zero
   split at h
   · rename_i u hte
     split at h
     · rename_i l hle hl
       have hle:=Nat.le_of_ble_eq_true hle
       have main : ∀ xs : List (El u),(∀ (ρ : Nat → Pl) (I : Nat → Prop) (w : World) (vs : List Value),DenL ρ I w l vs → xs.length = n ∧ vs.length = n * sz u ∧ RecsU I w u xs vs) → OpOK P N ids o K B (.c (.one (.d (.lst u xs)))) e0:=fun xs hds=>OpOK.new fun K' B' h1 h2 C ρ F a w hM hS=>by
         obtain ⟨z1,z2⟩:=zeroL_den (ρ:=ρ) (I:=Imm C B' F w) (w:=w) _ _ hzl
         have hzs : z.cells.size = inf.size:=by
           have h1:=DenL.length _ _ z1
           simp at h1
           rw [h1,hok.zlen,hok.size]
         have hpos : 0 < inf.size:=by have:=hok.pos; have:=hok.size; omega
         have hsu : sz u = inf.size:=(hok.u u hte).trans hok.size.symm
         obtain ⟨vs,f1,f2,f3⟩:=fill_sound (K:=K) hS (offs:=fun i=>some (i * te.size,te.size)) (place:=fun i=>some (i * inf.size,inf.size)) (fun i d n hi=>by rw [hok.size]; exact hi) ps.toList _ _ (repV n z.cells.toList)
           (fun p hp=>h1 p.2 (by rw [ho]; simp only [Op.operands]; simpa using ⟨p.1,by simpa using hp⟩)) hl (rep_den n z1) (fun v hv=>z2 v (repV_mem hv))
         obtain ⟨d1,d2,d3⟩:=hds ρ _ w vs f2
         have hrun:=run_buildSlice (P:=P) w T e n (ps.map fun p=>(p.1,a.eval p.2)) (List.toArray vs) inf z hu hok.info hz (by rw [hok.size]; omega)
           (by rw [Nat.mul_eq_zero]; omega) (by rw [← hzs,made_rep z.cells n (by omega),hzs]; simpa using f1)
         refine ⟨.slice (some ⟨w.heap.size,0,none⟩) n n,w.alloc (.cells (List.toArray vs) e),?_,alloc_below w (.cells (List.toArray vs) e),fun I he hI=>?_⟩
         · unfold execOp
           simp only [ho,Sem.run_bind,hrun,Result.andThen_ok]
           rfl
         · have:=data_new (e:=e) (cap:=n) (RecsU.mono (he) d3) (hI _ (Nat.le_refl _) (by simp)) (by omega) (by simp only [maxLen]; have:=Nat.le_mul_of_pos_right n (show 0 < te.size by have:=hok.pos; omega); omega)
           rw [d1] at this
           exact this
       split at h
       · rename_i xs hd
         exact Snd.of h <| main xs fun ρ I w vs hv=>by
           obtain ⟨d1,d2,d3,_⟩:=decs_sound u n l xs none hd trivial vs hv
           exact ⟨d1,d2,d3⟩
       · rename_i xs p hd
         exact Snd.of h.2 <| main xs fun ρ I w vs hv=>by
           obtain ⟨d1,d2,d3,_⟩:=decs_sound u n l xs (some p) hd h.1 vs hv
           exact ⟨d1,d2,d3⟩
       · obtain ⟨hn,y,⟨hw,hl'⟩,h⟩:=h
         subst hn
         refine Snd.of h <| main [y] fun ρ I w vs hv=>?_
         subst hl'
         refine ⟨rfl,by rw [DenL.length _ _ hv,listU_length,Nat.one_mul],fun i x hx=>?_⟩
         match i with
         | 0 =>
           simp only [List.getElem?_cons_zero,Option.some.injEq] at hx
           subst hx
           refine DenU.mono (Ext.refl _ _) u y _ _ (fun j v hj=>?_) (listU_mk hw hv)
           rw [Nat.zero_mul,Nat.zero_add]
           exact hj
         | i + 1=>simp at hx
     · exact h.elim
   · exact h.elim
 · exact h.elim
end
end Go.Proofs.YteoamepgonpdlaaGreat
/-
 Soundness of the conditions: indexes,slicing,conversions,builtins.
-/
set_option linter.unusedVariables false
set_option linter.unusedSimpArgs false
namespace Go.Proofs.YteoamepgonpdlaaGreat
open Go.RowKit
section
variable {P : Program} {tt : Tr} {N : Nat} {ids : List Nat} {o : Oper} {K : KL} {B : BL} {k : SV → Eff → Prop}
theorem exec_index {ev : Operand → Value} {T E : TypeId} {x i : Operand} {b q n c s : Nat} {w : World} {m : Int} {inf : TypeInfo} (ho : o.op = .indexAddr T x i) (hx : ev x = .slice (some ⟨b,q,none⟩) n c) (hi : ev i = .int .i64 m) (hu : P.underlying T = some (.slice E)) (hinf : P.info? E = some inf) (hs : inf.size = s)
   (h0 : 0 ≤ m) (hk : m.toNat < n) : (execOp ev o).run P w = .ok (.value (.pointer (some ⟨b,q + m.toNat * s,none⟩))) w:=by
 subst hs
 have h1 : m < (n : Int):=by omega
 simp [execOp,ho,hx,hi,Instr.indexAt,asIntOf,run_underlying hu,h0,h1,sizeOf,typeInfo,hinf,addr_add]
theorem snd_indexAddr (hP : TblOK P tt) {T : TypeId} {x i : Operand} (ho : o.op = .indexAddr T x i) (h : match elemOf tt T,opv K i with
   | some (_,te),.c (.one (.d (.int .i64 n)))=>match opv K x with
     | .c (.one (.d (.lst u xs)))=>match Nat.beq te.size (sz u) with
       | true=>0 ≤ n ∧ ∃ y,lget xs n.toNat = some y ∧ k (.c (.one (.el u y 0))) e0
       | false=>False
     | .c (.one (.own c))=>match lookB B c with
       | some (.row _ u xs)=>match Nat.beq te.size (sz u) with
         | true=>(0 ≤ n ∧ n < xs.length) ∧ k (.c (.one (.rp c (sz u) n.toNat 0))) ⟨[c],[],[]⟩
         | false=>False
       | _=>False
     | _=>False
   | _,_=>False) : Snd P N ids o K B k:=by
 have m1 : x ∈ o.op.operands:=by rw [ho]; simp [Op.operands]
 have m2 : i ∈ o.op.operands:=by rw [ho]; simp [Op.operands]
 split at h
 · rename_i e te n he hi
   obtain ⟨hu,inf,ds,hok⟩:=elem_ok hP he
   split at h
   · rename_i u xs hx
     split at h
     · rename_i hs
       have hs:=Nat.eq_of_beq_eq_true hs
       obtain ⟨h0,y,hy,h⟩:=h
       refine Snd.of h <| OpOK.two hx hi m1 m2 fun K' ρ I a w hS e1 e2=>?_
       obtain ⟨A,cap,e3,e4,e5,e6⟩:=hS.lst e1
       injection e3 with e3
       have hlt:=lget_lt hy
       obtain ⟨b,q,rfl,hI,hd⟩:=e6 (by omega)
       refine ⟨_,exec_index ho e3 (hS.int e2) hu hok.info (hok.size.trans hs) h0 hlt,b,q + n.toNat * sz u,by rw [Nat.add_zero],hI,?_⟩
       refine DenU.mono (Ext.refl _ _) u y _ _ (fun j v hj=>?_) (hd _ y hy)
       rw [← hj]
       congr 2
       omega
     · exact h.elim
   · rename_i c hx
     split at h
     · rename_i e' u xs hl
       split at h
       · rename_i hs
         have hs:=Nat.eq_of_beq_eq_true hs
         obtain ⟨⟨h0,h1⟩,h⟩:=h
         refine Snd.of h <| OpOK.val fun K' B' g1 g2 C ρ F a w hM hS=>?_
         obtain ⟨hF,hblk,cs,hown,_⟩:=hM.holds c _ ((g2 c (by simp)).trans hl)
         have hx':=hS.own ((g1 x m1).trans hx)
         rcases hown.2 with ⟨_,h2⟩ | ⟨g,cap,cur,hv,_⟩
         · omega
         · have hb:=hblk g (by rw [hv]; rfl)
           refine ⟨_,exec_index ho (hx'.trans hv) (hS.int ((g1 i m2).trans hi)) hu hok.info (hok.size.trans hs) h0 (by omega),?_⟩
           simp only [DenV,DenC,DenS]
           rw [← hb,Nat.zero_add,Nat.add_zero]
       · exact h.elim
     · exact h.elim
   · exact h.elim
 · exact h.elim
theorem snd_index (hP : TblOK P tt) {T : TypeId} {x i : Operand} (ho : o.op = .index T x i) (h : match isStr tt T,opv K x,opv K i with
   | true,.c (.one (.d (.str s))),.c (.one (.d (.int .i64 n)))=>0 ≤ n ∧ ∃ y,lget s n.toNat = some y ∧ k (.c (.one (.d (.int .u8 (UInt8.toNat y : Int))))) e0
   | _,_,_=>False) : Snd P N ids o K B k:=by
 have m1 : x ∈ o.op.operands:=by rw [ho]; simp [Op.operands]
 have m2 : i ∈ o.op.operands:=by rw [ho]; simp [Op.operands]
 split at h
 · rename_i s n hT hx hi
   obtain ⟨h0,y,hy,h⟩:=h
   have hu:=isStr_ok hP hT
   refine Snd.of h <| OpOK.two hx hi m1 m2 fun K' ρ I a w hS e1 e2=>⟨_,?_,rfl⟩
   have hb : (⟨s.toArray⟩ : ByteArray)[n.toNat]? = some y:=by
     have hlt:=lget_lt hy
     have:=(List.getElem?_eq_some_iff.1 hy).2
     rw [getElem?_pos (⟨s.toArray⟩ : ByteArray) n.toNat (by rw [size_mk]; exact hlt)]
     simp only [Option.some.injEq]
     rw [← this]
     rfl
   simp [execOp,ho,hS.str e1,hS.int e2,Instr.index,asIntOf,run_underlying hu,h0,hb]
 · exact h.elim
/-! ### slicing -/
theorem bnds_ok {K' : KL} {ρ : Nat → Pl} {I : Nat → Prop} {a : Act} {w : World} (hS : Slots K' ρ I a w) {n cap : Nat} {isS : Bool} {lo hi : Option Operand} {l h : Nat} {p : Prop} (hb : bnds n (lo.map (opv K)) (hi.map (opv K)) = some (l,h,p)) (hp : p) (hc : n ≤ cap)
   (hl : ∀ x,lo = some x → opv K' x = opv K x) (hh : ∀ x,hi = some x → opv K' x = opv K x) :
   (Instr.sliceBounds isS n cap (lo.map a.eval) (hi.map a.eval) none).run P w = .ok (l,h,cap) w ∧ l ≤ h ∧ h ≤ n:=by
 unfold bnds at hb
 split at hb
 · rename_i j h1 h2
   cases lo with
   | some x=>simp at h1
   | none =>
     cases hi with
     | none=>simp at h2
     | some y =>
       simp only [Option.map_some,Option.some.injEq] at h2
       simp only [Option.some.injEq,Prod.mk.injEq] at hb
       obtain ⟨rfl,rfl,rfl⟩:=hb
       have hy:=hS.int ((hh y rfl).trans h2)
       have q : j ≤ (cap : Int):=by omega
       refine ⟨?_,by omega,by omega⟩
       simp [Instr.sliceBounds,Instr.sliceBound,asIntOf,hy,hp.1,q]
 · rename_i i h1 h2
   cases lo with
   | none=>simp at h1
   | some x =>
     cases hi with
     | some y=>simp at h2
     | none =>
       simp only [Option.map_some,Option.some.injEq] at h1
       simp only [Option.some.injEq,Prod.mk.injEq] at hb
       obtain ⟨rfl,rfl,rfl⟩:=hb
       have hx:=hS.int ((hl x rfl).trans h1)
       refine ⟨?_,by omega,Nat.le_refl _⟩
       simp [Instr.sliceBounds,Instr.sliceBound,asIntOf,hx,hp.1,hp.2]
 · rename_i i j h1 h2
   cases lo with
   | none=>simp at h1
   | some x =>
     cases hi with
     | none=>simp at h2
     | some y =>
       simp only [Option.map_some,Option.some.injEq] at h1 h2
       simp only [Option.some.injEq,Prod.mk.injEq] at hb
       obtain ⟨rfl,rfl,rfl⟩:=hb
       have hx:=hS.int ((hl x rfl).trans h1)
       have hy:=hS.int ((hh y rfl).trans h2)
       have q0 : 0 ≤ j:=by omega
       have q : j ≤ (cap : Int):=by omega
       have q1 : i ≤ ((j.toNat : Nat) : Int):=by omega
       refine ⟨?_,by omega,by omega⟩
       simp [Instr.sliceBounds,Instr.sliceBound,asIntOf,hx,hy,hp.1,q0,q,hp.2.1]
       intro hlt
       omega
 · rename_i h1 h2
   cases lo with
   | some x=>simp at h1
   | none =>
     cases hi with
     | some y=>simp at h2
     | none =>
       simp only [Option.some.injEq,Prod.mk.injEq] at hb
       obtain ⟨rfl,rfl,rfl⟩:=hb
       refine ⟨?_,Nat.zero_le _,Nat.le_refl _⟩
       simp [Instr.sliceBounds]
 · cases hb
theorem data_slice {I : Nat → Prop} {w : World} {u : U} {xs : List (El u)} {A : Option Addr} {cap l h : Nat} (hx : DenU I w (.sl u) xs (fun _=>some (.slice A xs.length cap))) (hl : l ≤ h) (hh : h ≤ xs.length) :
   DenU I w (.sl u) ((xs.take h).drop l) (fun _=>some (.slice (if cap = l then A else A.map (·.add (l * sz u))) (h - l) (cap - l))):=by
 obtain ⟨A',cap',e,h1,h2,h3⟩:=hx
 injection e with e
 injection e with e1 e2 e3
 subst e1 e3
 have hlen : List.length ((xs.take h).drop l) = h - l:=by rw [List.length_drop,List.length_take]; omega
 refine ⟨_,_,by rw [hlen],by rw [hlen]; omega,by omega,fun hpos=>?_⟩
 rw [hlen] at hpos
 obtain ⟨b,q,rfl,hI,hd⟩:=h3 (by omega)
 refine ⟨b,q + l * sz u,by rw [if_neg (by omega),Option.map_some,addr_add],hI,fun i x hi=>?_⟩
 have hi' : lget (α:=El u) xs (l + i) = some x:=by
   unfold lget at hi ⊢
   rw [List.getElem?_drop,List.getElem?_take] at hi
   split at hi
   · exact hi
   · cases hi
 refine DenU.mono (Ext.refl _ _) u x _ _ (fun j v hj=>?_) (hd _ x hi')
 rw [← hj,Nat.add_mul]
 congr 2
 omega
theorem snd_slice (hP : TblOK P tt) {T : TypeId} {x : Operand} {lo hi : Option Operand} (ho : o.op = .slice T x lo hi none) (h : vcSlice tt T (opv K x) (lo.map (opv K)) (hi.map (opv K)) k) : Snd P N ids o K B k:=by
 have m1 : x ∈ o.op.operands:=by rw [ho]; simp [Op.operands]
 have m2 : ∀ y,lo = some y → y ∈ o.op.operands:=fun y hy=>by rw [ho]; simp [Op.operands,hy]
 have m3 : ∀ y,hi = some y → y ∈ o.op.operands:=fun y hy=>by rw [ho]; simp [Op.operands,hy]
 unfold vcSlice at h
 split at h
 · rename_i s hx
   split at h
   · rename_i l hh p hT hb
     have hu:=isStr_ok hP hT
     refine Snd.of h.2 <| OpOK.val fun K' B' h1 h2 C ρ F a w hM hS=>⟨_,?_,rfl⟩
     have hx':=hS.str ((h1 x m1).trans hx)
     obtain ⟨q1,q2,q3⟩:=bnds_ok (P:=P) hS (isS:=false) hb h.1 (Nat.le_refl _) (fun y hy=>h1 y (m2 y hy)) (fun y hy=>h1 y (m3 y hy))
     rw [← size_mk s] at q1
     have he : (⟨s.toArray⟩ : ByteArray).extract l hh = ⟨((s.take hh).drop l).toArray⟩:=by
       have e:=Lib.extract_data ⟨s.toArray⟩ l hh
       cases hz : (⟨s.toArray⟩ : ByteArray).extract l hh with
       | mk dd =>
         rw [hz] at e
         simp only at e
         congr 1
         rw [← Array.toArray_toList (xs:=dd),e,List.drop_take]
     rw [← he]
     simp only [execOp,ho,Sem.run_bind,Instr.sliceAt,Instr.slice,run_underlying hu,Result.andThen_ok,hx',Option.map_none]
     simp only [Option.isSome_none,Bool.false_eq_true,if_false,Sem.run_bind,Sem.run_pure,Result.andThen_ok,q1]
   · exact h.elim
 · rename_i u xs hx
   split at h
   · rename_i e te l hh p he hb
     obtain ⟨hu,inf,ds,hok⟩:=elem_ok hP he
     split at h
     · rename_i hs
       have hs:=Nat.eq_of_beq_eq_true hs
       refine Snd.of h.2 <| OpOK.val fun K' B' h1 h2 C ρ F a w hM hS=>?_
       have hd:=hS.lst ((h1 x m1).trans hx)
       have hd':=hd
       obtain ⟨A,cap,e3,e4,e5,e6⟩:=hd'
       injection e3 with e3
       rw [e3] at hd
       obtain ⟨q1,q2,q3⟩:=bnds_ok (P:=P) (w:=w) hS (isS:=true) hb h.1 e4 (fun y hy=>h1 y (m2 y hy)) (fun y hy=>h1 y (m3 y hy))
       refine ⟨_,?_,data_slice hd q2 q3⟩
       have hz : (sizeOf e).run P w = .ok (sz u) w:=by simp [sizeOf,typeInfo,hok.info,hok.size,hs]
       simp only [execOp,ho,Sem.run_bind,Instr.sliceAt,Instr.slice,run_underlying hu,Result.andThen_ok,e3,Option.map_none,q1,hz,Sem.run_pure]
     · exact h.elim
   · exact h.elim
 · exact h.elim
/-! ### conversions -/
theorem data_bytes {I : Nat → Prop} {w : World} {s : List UInt8} {v : Value} (h : DenU I w (.sl .u8) s (fun _=>some v)) (hI : ∀ b,I b → b < w.heap.size) : ∃ A c,v = .slice A s.length c ∧ Bytes I w (.slice A s.length c) s:=by
 obtain ⟨news,h1,h2,h3⟩:=den_cells h hI
 have h1':=h1
 obtain ⟨hl,A,c,rfl,_⟩:=h1
 have e : news = s.map byteV:=by
   apply List.ext_getElem?
   intro i
   rw [List.getElem?_map]
   cases hs : s[i]? with
   | none =>
     have:=List.getElem?_eq_none_iff.1 hs
     rw [List.getElem?_eq_none (by rw [hl]; simp [sz]; exact this)]
     rfl
   | some x =>
     have:=h2 i x hs
     have this : news[i * sz .u8 + 0]? = some (.int .u8 (UInt8.toNat x : Int)):=this
     simpa [sz,byteV] using this
 subst e
 exact ⟨A,c,rfl,h1'⟩
theorem snd_conv (hP : TblOK P tt) {S T : TypeId} {x : Operand} (ho : o.op = .convert S T x) (h : vcConv tt S T (opv K x) B k) : Snd P N ids o K B k:=by
 have m1 : x ∈ o.op.operands:=by rw [ho]; simp [Op.operands]
 unfold vcConv at h
 split at h
 · rename_i si ti hs ht
   obtain ⟨i1,d1,ok1⟩:=hP.at_ hs
   obtain ⟨i2,d2,ok2⟩:=hP.at_ ht
   split at h
   · rename_i i j i' n k1 k2 hx
     split at h
     · rename_i hj _
       have hj:=eqK_eq hj
       subst hj
       refine Snd.of h <| OpOK.one hx m1 fun K' ρ I a w hS e1=>⟨_,?_,rfl⟩
       have hv:=hS.int e1
       have hw : IntKind.u8.wrap n = n % 256:=by simp [IntKind.wrap,IntKind.bits,IntKind.signed]
       simp [execOp,ho,hv,convert,run_underlying (ok1.int k1),run_underlying (ok2.int k2),Conv.intToInt,hw]
     · have h:=rng_and h
       refine Snd.of h.2 <| OpOK.one hx m1 fun K' ρ I a w hS e1=>⟨_,?_,rfl⟩
       have hv:=hS.int e1
       simp [execOp,ho,hv,convert,run_underlying (ok1.int k1),run_underlying (ok2.int k2),Conv.intToInt,wrap_in h.1]
   · rename_i e s k1 k2 hx
     split at h
     · rename_i hu
       obtain ⟨hu8,_⟩:=isU8_ok hP hu
       refine Snd.of h.2 <| OpOK.new fun K' B' h1 h2 C ρ F a w hM hS=>?_
       have hv:=hS.str ((h1 x m1).trans hx)
       obtain ⟨cap,w1,hrun,hb,hbl⟩:=run_str_bytes (P:=P) w S T e ⟨s.toArray⟩ (ok1.str k1) (ok2.sl k2) hu8 (by rw [size_mk]; exact h.1)
       rw [size_mk] at hrun hb
       refine ⟨.slice (some ⟨w.heap.size,0,none⟩) s.length cap,w1,by simp only [execOp,ho,Sem.run_bind,hv,hrun,Result.andThen_ok,Sem.run_pure],hbl,fun I he hI=>?_⟩
       obtain ⟨hl,A,c,e1,e2,e3,e4⟩:=hb
       injection e1 with e1 e1' e1''
       subst e1 e1''
       have e2' : s.length ≤ cap:=by simpa using e2
       refine ⟨_,cap,rfl,e2',e3,fun hpos=>?_⟩
       have hpos' : 0 < s.length:=hpos
       obtain ⟨b,q,eA,hge,hlt,hc⟩:=e4 (by simpa using hpos')
       refine ⟨b,q,eA,hI b hge hlt,fun i y hy=>?_⟩
       have hm : (List.map byteV s)[i]? = some (byteV y):=by
         rw [List.getElem?_map]
         exact congrArg (Option.map byteV) hy
       show w1.cell? ⟨b,q + (i * 1 + 0),none⟩ = some (byteV y)
       rw [Nat.mul_one,Nat.add_zero]
       exact hc i _ hm
     · exact h.elim
   · rename_i e s k1 k2 hx
     split at h
     · rename_i hu
       obtain ⟨hu8,_⟩:=isU8_ok hP hu
       refine Snd.of h <| OpOK.val fun K' B' h1 h2 C ρ F a w hM hS=>⟨_,?_,rfl⟩
       obtain ⟨A,c,hv,hb⟩:=data_bytes (hS.lst ((h1 x m1).trans hx)) (fun b hb=>hb.1)
       simp only [execOp,ho,Sem.run_bind,hv,run_bytes_str hb S T e (ok1.sl k1) hu8 (ok2.str k2),Result.andThen_ok,Sem.run_pure]
     · exact h.elim
   · rename_i e k1 k2 hx
     split at h
     · rename_i hu
       obtain ⟨hu8,_⟩:=isU8_ok hP hu
       refine Snd.of h <| OpOK.one hx m1 fun K' ρ I a w hS e1=>⟨_,?_,rfl⟩
       have hv:=hS.nils e1
       simp only [execOp,ho,Sem.run_bind,hv,run_convert_bytes_nil (P:=P) (w:=w) S e (ok1.sl k1) hu8 0 0 T (ok2.str k2),Result.andThen_ok,Sem.run_pure]
       rfl
     · exact h.elim
   · rename_i e c k1 k2 hx
     split at h
     · rename_i e' s hl hu
       obtain ⟨hu8,_⟩:=isU8_ok hP hu
       refine Snd.of h <| OpOK.val fun K' B' h1 h2 C ρ F a w hM hS=>⟨_,?_,rfl⟩
       have hown:=hM.holds c _ ((h2 c (by simp)).trans hl)
       have hd:=row_data hown (I':=fun b=>b < w.heap.size) (fun b hb=>hb.1) (fun b hb=>(hM.own c _ ((h2 c (by simp)).trans hl) b hb).1)
       obtain ⟨A,cc,hv,hb⟩:=data_bytes hd (fun b hb=>hb)
       have hx':=hS.own ((h1 x m1).trans hx)
       simp only [execOp,ho,Sem.run_bind,hx',hv,run_bytes_str hb S T e (ok1.sl k1) hu8 (ok2.str k2),Result.andThen_ok,Sem.run_pure]
     · exact h.elim
   · exact h.elim
 · exact h.elim
theorem snd_sliceOwn (hP : TblOK P tt) {T : TypeId} {x : Operand} {lo hi : Option Operand} {c : Nat} (ho : o.op = .slice T x lo hi none) (hx : opv K x = .c (.one (.own c))) (h : match elemOf tt T,lookB B c with
     | some (_,te),some (.row _ u xs)=>match bnds xs.length (lo.map (opv K)) (hi.map (opv K)),Nat.beq te.size (sz u) with
       | some (l,h,p),true=>p ∧ k (.c (.one (.os c (sz u) l (h - l)))) ⟨[c],[],[]⟩
       | _,_=>False
     | _,_=>False) : Snd P N ids o K B k:=by
 have m1 : x ∈ o.op.operands:=by rw [ho]; simp [Op.operands]
 have m2 : ∀ y,lo = some y → y ∈ o.op.operands:=fun y hy=>by rw [ho]; simp [Op.operands,hy]
 have m3 : ∀ y,hi = some y → y ∈ o.op.operands:=fun y hy=>by rw [ho]; simp [Op.operands,hy]
 split at h
 · rename_i e te e' u xs he hl
   obtain ⟨hu,inf,ds,hok⟩:=elem_ok hP he
   split at h
   · rename_i l hh p hb hs
     have hs:=Nat.eq_of_beq_eq_true hs
     refine Snd.of h.2 <| OpOK.val fun K' B' h1 h2 C ρ F a w hM hS=>?_
     have hx':=hS.own ((h1 x m1).trans hx)
     obtain ⟨_,_,cs,hown,_⟩:=hM.holds c _ ((h2 c (by simp)).trans hl)
     obtain ⟨_,A,cap,hv,hn,hc,_⟩:=Sl.of_own hown
     unfold Pl.hdr at hv hx'
     injection hv with e1 e2 e3
     rw [e2] at hx'
     obtain ⟨q1,q2,q3⟩:=bnds_ok (P:=P) (w:=w) hS (isS:=true) hb h.1 (by rw [← e3] at hn; exact hn : xs.length ≤ (ρ c).cap) (fun y hy=>h1 y (m2 y hy)) (fun y hy=>h1 y (m3 y hy))
     refine ⟨_,?_,rfl⟩
     have hz : (sizeOf e).run P w = .ok (sz u) w:=by simp [sizeOf,typeInfo,hok.info,hok.size,hs]
     simp only [execOp,ho,Sem.run_bind,Instr.sliceAt,Instr.slice,run_underlying hu,Result.andThen_ok,hx',Option.map_none,q1,hz,Sem.run_pure]
   · exact h.elim
 · exact h.elim
end
end Go.Proofs.YteoamepgonpdlaaGreat
/-!
  Soundness of the conditions: maps of data.
-/
namespace Go.Proofs.YteoamepgonpdlaaGreat
set_option linter.unusedVariables false
set_option linter.unusedSimpArgs false
open Go.RowKit
section
variable {P : Program} {tt : Tr} {N : Nat} {ids : List Nat} {o : Oper} {K : KL} {B : BL} {k : SV → Eff → Prop}
theorem has_mp {c d : Nat} (h : SV.has d (.c (.one (.mp c))) = true) : d = c:=(Nat.eq_of_beq_eq_true h).symm
theorem mapTy_ok (hP : TblOK P tt) {T kt et : Nat} (h : mapTy tt T = some (kt,et)) : P.underlying T = some (.map kt et):=by
 unfold mapTy at h
 split at h
 · rename_i ti hti
   split at h
   · rename_i k e hk
     obtain ⟨_,_,hok⟩:=hP.at_ hti
     injection h with h
     injection h with h1 h2
     subst h1 h2
     have:=hok.kd
     rw [hk] at this
     rw [hok.und]
     cases hd : ‹TypeDesc› <;> simp [hd,kdOK] at this ⊢
     exact this
   · cases h
 · cases h
theorem keyOK_ok (hP : TblOK P tt) {kt : Nat} {ku : U} (h : keyOK tt kt ku = true) : ∃ d,P.underlying kt = some d ∧ keyD ku d = true:=by
 unfold keyOK at h
 split at h
 · rename_i ti hti
   obtain ⟨_,_,hok⟩:=hP.at_ hti
   split at h
   · rename_i k k' hk
     have:=eqK_eq h
     subst this
     exact ⟨_,hok.int hk,by simp [keyD]⟩
   · rename_i hk
     exact ⟨_,hok.str hk,rfl⟩
   · cases h
 · cases h
theorem wf_dflt : ∀ u : U,WfU u (dflt u)
 | .int _=>trivial
 | .u8=>trivial
 | .bool=>trivial
 | .str=>trivial
 | .adr=>trivial
 | .hdl=>trivial
 | .fn=>trivial
 | .sl _=>trivial
 | .pr u v=>⟨wf_dflt u,wf_dflt v⟩
 | .arr n u=>⟨List.length_replicate,fun x hx=>by
     have e : x = dflt u:=List.eq_of_mem_replicate hx
     rw [e]
     exact wf_dflt u⟩
theorem zD_den {ρ : Nat → Pl} {I : Nat → Prop} {w : World} {s : S1} {x : D} {v : Value} (h : zD s x = true) (hv : DenS ρ I w s v) : Den I w x v:=by
 unfold zD at h
 split at h
 · simp only [Bool.and_eq_true,decide_eq_true_eq] at h
   obtain ⟨h1,h2⟩:=h
   have:=eqK_eq h1
   subst this h2
   exact hv
 · exact hv
 · exact hv
 · exact hv
 · rename_i b c
   have : b = c:=by simpa using h
   subst this
   exact hv
 · rw [show v = _ from hv]
   exact ⟨none,0,rfl,Nat.le_refl _,Nat.zero_le _,fun h=>absurd h (Nat.lt_irrefl 0)⟩
 · cases h
theorem zAll_len : ∀ {l m : List S1},zAll l m = true → l.length = m.length
 | [],[],_=>rfl
 | s :: l,.d x :: m,h=>by
   simp only [zAll,Bool.and_eq_true] at h
   simp [zAll_len h.2]
 | [],_ :: _,h=>by simp [zAll] at h
 | _ :: _,[],h=>by simp [zAll] at h
 | _ :: _,.ptr _ _ :: _,h=>by simp [zAll] at h
 | _ :: _,.own _ :: _,h=>by simp [zAll] at h
 | _ :: _,.el _ _ _ :: _,h=>by simp [zAll] at h
 | _ :: _,.rp _ _ _ _ :: _,h=>by simp [zAll] at h
 | _ :: _,.os _ _ _ _ :: _,h=>by simp [zAll] at h
 | _ :: _,.mp _ :: _,h=>by simp [zAll] at h
 | _ :: _,.clo _ _ :: _,h=>by simp [zAll] at h
 | _ :: _,.nils :: _,h=>by simp [zAll] at h
 | _ :: _,.raw _ :: _,h=>by simp [zAll] at h
 | _ :: _,.any :: _,h=>by simp [zAll] at h
theorem zAll_get : ∀ {l m : List S1},zAll l m = true → ∀ (i : Nat) (y : S1),m[i]? = some y → ∃ s x,l[i]? = some s ∧ y = .d x ∧ zD s x = true
 | [],[],_,i,y,hy=>by simp at hy
 | s :: l,.d x :: m,h,0,y,hy=>by
   simp only [zAll,Bool.and_eq_true] at h
   simp only [List.getElem?_cons_zero,Option.some.injEq] at hy
   exact ⟨s,x,rfl,hy.symm,h.1⟩
 | s :: l,.d x :: m,h,i + 1,y,hy=>by
   simp only [zAll,Bool.and_eq_true] at h
   simpa using zAll_get h.2 i y (by simpa using hy)
 | [],_ :: _,h,_,_,_=>by simp [zAll] at h
 | _ :: _,[],h,_,_,hy=>by simp at hy
 | _ :: _,.ptr _ _ :: _,h,_,_,_=>by simp [zAll] at h
 | _ :: _,.own _ :: _,h,_,_,_=>by simp [zAll] at h
 | _ :: _,.el _ _ _ :: _,h,_,_,_=>by simp [zAll] at h
 | _ :: _,.rp _ _ _ _ :: _,h,_,_,_=>by simp [zAll] at h
 | _ :: _,.os _ _ _ _ :: _,h,_,_,_=>by simp [zAll] at h
 | _ :: _,.mp _ :: _,h,_,_,_=>by simp [zAll] at h
 | _ :: _,.clo _ _ :: _,h,_,_,_=>by simp [zAll] at h
 | _ :: _,.nils :: _,h,_,_,_=>by simp [zAll] at h
 | _ :: _,.raw _ :: _,h,_,_,_=>by simp [zAll] at h
 | _ :: _,.any :: _,h,_,_,_=>by simp [zAll] at h
theorem elOK_zero (hP : TblOK P tt) {et : Nat} {vu : U} (h : elOK tt et vu = true) {I : Nat → Prop} {w : World} : ∃ z,(zeroValue et).run P w = .ok z w ∧ DenE I w vu (dflt vu) z:=by
 unfold elOK at h
 split at h
 · rename_i ti hti
   obtain ⟨i,d,hok⟩:=hP.at_ hti
   simp only [Bool.and_eq_true,beq_iff_eq,Bool.or_eq_true] at h
   obtain ⟨⟨h1,h2⟩,h3⟩:=h
   obtain ⟨z,hz,hzl⟩:=hok.zero
   have hd:=(zeroL_den (ρ:=fun _=>⟨0,none,0,0⟩) (I:=I) (w:=w) _ _ hzl).1
   have hl:=DenL.length _ _ hd
   have hl2 : ti.zero.length = sz vu:=(zAll_len h1).trans (listU_length vu _ _ _)
   have hs : z.cells.size = sz vu:=by
     rw [← hl2,← hl]
     simp
   refine ⟨z,by simp [zeroValue,typeInfo,hok.info,hz],hs,⟨fun ho=>?_,fun ho=>?_⟩,DenU.mk _ _ _ (wf_dflt vu) fun j hj=>?_⟩
   · refine hok.zone z hz ?_
     rw [hok.row,h2,ho]
     rfl
   · have : 2 ≤ sz vu:=by
       rcases h3 with h3 | h3
       · rw [ho] at h3; cases h3
       · exact Nat.le_of_ble_eq_true h3
     cases z with
     | agg cs=>exact ⟨cs,rfl⟩
     | _=>simp [Value.cells] at hs; omega
   · have hg:=listU_get vu (dflt vu) (sz vu) 0 j hj
     rw [Nat.zero_add] at hg
     obtain ⟨s,x,e1,e2,e3⟩:=zAll_get h1 j _ hg
     injection e2 with e2
     obtain ⟨v,e4,e5⟩:=DenL.get _ _ hd j s e1
     exact ⟨v,e4,by rw [e2]; exact zD_den e3 e5⟩
 · cases h
theorem denE_one {ρ : Nat → Pl} {I : Nat → Prop} {w : World} {u : U} {x : El u} {v : Value} (ho : oneU u = true) (h : DenE I w u x v) : DenS ρ I w (.d (cellU u x 0)) v:=by
 obtain ⟨h1,h2,h3⟩:=h
 have hc:=h2.1 ho
 have hpos : 0 < sz u:=by rw [← h1,hc]; simp
 obtain ⟨v',e1,e2⟩:=DenU.cell u x _ 0 h3 hpos
 rw [hc] at e1
 simp at e1
 subst e1
 exact e2
theorem denE_dat {ρ : Nat → Pl} {I : Nat → Prop} {w : World} {u : U} {x : El u} {v : Value} (ho : oneU u = false) (h : DenE I w u x v) : DenC ρ I w (.agg (listU u x 0 (sz u))) v:=by
 obtain ⟨h1,h2,h3⟩:=h
 obtain ⟨cs,e⟩:=h2.2 ho
 subst e
 obtain ⟨vs,g1,g2⟩:=listU_den (ρ:=ρ) h3 (sz u) 0 (by omega)
 have hl:=DenL.length _ _ g1
 rw [listU_length] at hl
 have e : vs = cs.toList:=by
   apply List.ext_getElem?
   intro j
   by_cases hj : j < vs.length
   · obtain ⟨v,hv⟩ : ∃ v,vs[j]? = some v:=⟨_,List.getElem?_eq_getElem hj⟩
     have:=g2 j v hv
     rw [hv,← this]
     simp [Value.cells]
   · rw [List.getElem?_eq_none (by omega),List.getElem?_eq_none (by simp [Value.cells] at h1; simp; omega)]
 subst e
 exact ⟨_,by simp,g1⟩
theorem dataC_den {ρ : Nat → Pl} {I : Nat → Prop} {w : World} {u : U} {x : El u} {v : Value} (h : DenE I w u x v) : DenC ρ I w (dataC u x) v:=by
 cases u with
 | pr u v=>exact denE_dat rfl h
 | arr n u=>exact denE_dat rfl h
 | _=>exact denE_one (ρ:=ρ) rfl h
theorem valD_den {ρ : Nat → Pl} {I : Nat → Prop} {w : World} {u : U} {s : SV} {y : El u} {p : Option Prop} (h : valD u s = some (y,p)) (hp : PropO p) {v : Value} (hv : DenV ρ I w s v) : DenE I w u y v:=by
 unfold valD at h
 split at h
 · rename_i v' y'
   split at h
   · rename_i heq _ ho
     subst heq
     injection h with h
     injection h with h1 h2
     subst h1 h2
     obtain ⟨vs,e,h1,h2⟩:=hv
     subst e
     exact ⟨by simpa [Value.cells] using h1,⟨fun e=>(by rw [ho] at e; cases e),fun _=>⟨_,rfl⟩⟩,by simpa [Value.cells,castE] using h2⟩
   · cases h
 · rename_i s'
   split at h
   · rename_i y' p' ho hd
     injection h with h
     injection h with h1 h2
     subst h1 h2
     obtain ⟨vs1,vs2,e1,e2,e3,e4,e5⟩:=dec_all u ρ I w _ _ _ _ hd hp [v] ⟨v,[],rfl,hv,rfl⟩
     rw [show vs2 = [] from e4,List.append_nil] at e1
     subst e1
     have hc : v.cells = #[v]:=by
       have:=e5 v (by simp)
       cases v <;> first | rfl | (simp [Value.oneCell'] at this)
     refine ⟨by rw [hc,← e2]; rfl,⟨fun _=>hc,fun e=>(by rw [ho] at e; cases e)⟩,by rw [hc]; exact e3⟩
   · cases h
 · rename_i l
   split at h
   · rename_i y' p' ho hd
     injection h with h
     injection h with h1 h2
     subst h1 h2
     obtain ⟨vs,e,hv⟩:=hv
     subst e
     obtain ⟨vs1,vs2,e1,e2,e3,e4,e5⟩:=dec_all u ρ I w _ _ _ _ hd hp vs hv
     rw [show vs2 = [] from e4,List.append_nil] at e1
     subst e1
     exact ⟨by simpa [Value.cells] using e2,⟨fun e=>(by rw [ho] at e; cases e),fun _=>⟨_,rfl⟩⟩,by simpa [Value.cells] using e3⟩
   · cases h
 · cases h
theorem keyS_den {ρ : Nat → Pl} {I : Nat → Prop} {w : World} {ku : U} {s : SV} {key : El ku} (h : keyS ku s = some key) {v : Value} (hv : DenV ρ I w s v) : v = keyV ku key:=by
 unfold keyS at h
 split at h
 · split at h
   · rename_i e
     have:=eqK_eq e
     injection h with h
     subst this h
     exact hv
   · cases h
 · injection h with h
   subst h
   exact hv
 · cases h
theorem Slots.mp {K' : KL} {ρ : Nat → Pl} {I : Nat → Prop} {a : Act} {w : World} {x : Operand} (hS : Slots K' ρ I a w) {c : Nat} (h : opv K' x = .c (.one (.mp c))) : a.eval x = .map (some (ρ c).blk):=hS.ev h
theorem snd_lookup (hP : TblOK P tt) {T : TypeId} {x i : Operand} {ok : Bool} (ho : o.op = .lookup T x i ok) (h : vcLookup tt T (opv K x) (opv K i) ok B k) : Snd P N ids o K B k:=by
 have m1 : x ∈ o.op.operands:=by rw [ho]; simp [Op.operands]
 have m2 : i ∈ o.op.operands:=by rw [ho]; simp [Op.operands]
 unfold vcLookup at h
 split at h
 · rename_i c hx
   split at h
   · rename_i ku vu es hl
     split at h
     · rename_i kt et key hT hk
       have main : ∀ (v : SV),(keyOK tt kt ku && elOK tt et vu) = true → (∀ (ρ : Nat → Pl) (I : Nat → Prop) (w : World) (u : Value),DenE I w vu ((mget es key).getD (dflt vu)) u → DenV ρ I w v (if ok then .tuple #[u,.bool (mget es key).isSome] else u)) → OpOK P N ids o K B v ⟨[c],[],[]⟩:=by
         intro v hok hv
         simp only [Bool.and_eq_true] at hok
         obtain ⟨d,hd1,hd2⟩:=keyOK_ok hP hok.1
         refine OpOK.val fun K' B' g1 g2 C ρ F a w hM hS=>?_
         obtain ⟨hF,ents,clock,hb,hm,hB⟩:=hM.holds c _ ((g2 c (by simp)).trans hl)
         obtain ⟨z,hz,hzd⟩:=elOK_zero hP hok.2 (I:=Imm C B' F w) (w:=w)
         obtain ⟨u,hr,hu⟩:=lookup_run (P:=P) (mapTy_ok hP hT) hd1 hd2 hb hm hz hzd key ok
         have e1:=hS.mp ((g1 x m1).trans hx)
         have e2 : a.eval i = keyV ku key:=keyS_den hk (hS.ev (g1 i m2))
         exact ⟨_,by simp only [execOp,ho,Sem.run_bind,e1,e2,hr,Result.andThen_ok,Sem.run_pure],hv ρ _ w u hu⟩
       split at h
       · rename_i hok
         rw [forceC_eq] at h
         refine Snd.of h (main _ hok fun ρ I w u hu=>?_)
         exact ⟨[u,.bool (mget es key).isSome],rfl,u,_,rfl,dataC_den hu,_,_,rfl,rfl,rfl⟩
       · rename_i hok
         rw [forceC_eq] at h
         exact Snd.of h (main _ hok fun ρ I w u hu=>dataC_den hu)
       · exact h.elim
     · exact h.elim
   · exact h.elim
 · exact h.elim
theorem map_fr {w : World} {b : Nat} {ob : Obj} {S : Nat → Prop} (hS : S b) : Fr S w { w with heap:=w.heap.setIfInBounds b ob } :=
 ⟨rfl,rfl,rfl,by simp,fun j _ hn=>by simp only []; rw [Array.getElem?_setIfInBounds_ne (fun e=>hn (by rw [← e]; exact hS))]⟩
theorem snd_update (hP : TblOK P tt) {T : TypeId} {x i v : Operand} (ho : o.op = .mapUpdate T x i v) (h : vcUpdate tt T (opv K x) (opv K i) (opv K v) B k) : Snd P N ids o K B k:=by
 have m1 : x ∈ o.op.operands:=by rw [ho]; simp [Op.operands]
 have m2 : i ∈ o.op.operands:=by rw [ho]; simp [Op.operands]
 have m3 : v ∈ o.op.operands:=by rw [ho]; simp [Op.operands]
 unfold vcUpdate at h
 split at h
 · rename_i c hx
   split at h
   · rename_i ku vu es hl
     split at h
     · rename_i kt et key hT hk
       have main : ∀ y : El vu,keyOK tt kt ku = true → (∀ (ρ : Nat → Pl) (I : Nat → Prop) (w : World) (u : Value),DenV ρ I w (opv K v) u → DenE I w vu y u) → OpOK P N ids o K B .undef ⟨[c],[],[(c,some (.map ku vu (mput es key y)))]⟩:=fun y hok hv=>by
         obtain ⟨d,hd1,hd2⟩:=keyOK_ok hP hok
         refine OpOK.turn hl fun K' B' g1 C ρ F a w hM hS hl'=>?_
         obtain ⟨hF,ents,clock,hb,hm,hB⟩:=hM.holds c _ hl'
         have e1:=hS.mp ((g1 x m1).trans hx)
         have e2 : a.eval i = keyV ku key:=keyS_den hk (hS.ev (g1 i m2))
         have e3 : DenE _ _ vu y (a.eval v):=hv _ _ _ _ (hS.ev (g1 v m3))
         obtain ⟨es',clock',hr,hm',hB'⟩:=update_run (P:=P) (mapTy_ok hP hT) hd1 hd2 hb hm hB key e3
         have hlt:=(Array.getElem?_eq_some_iff.1 hb).1
         refine ⟨{ w with heap:=w.heap.setIfInBounds (ρ c).blk (.map (List.toArray es') clock') },by simp only [execOp,ho,Sem.run_bind,e1,e2,hr,Result.andThen_ok,Sem.run_pure],map_fr ((hF _).2 rfl),fun I hE=>⟨hF,es',clock',by simp [hlt],hm'.mono hE,hB'⟩⟩
       split at h
       · rename_i y p hok hv
         exact Snd.of h.2 (main y hok fun ρ I w u hu=>valD_den hv h.1 hu)
       · rename_i hok _
         split at h
         · rename_i l hv hone
           obtain ⟨y,⟨hw,hl'⟩,h⟩:=h
           refine Snd.of h (main y hok fun ρ I w u hu=>?_)
           rw [hv] at hu
           obtain ⟨vs,e,hd⟩:=hu
           subst e hl'
           exact ⟨by simpa [Value.cells,listU_length] using DenL.length _ _ hd,⟨fun e=>(by rw [hone] at e; cases e),fun _=>⟨_,rfl⟩⟩,by simpa [Value.cells] using listU_mk hw hd⟩
         · exact h.elim
       · exact h.elim
     · exact h.elim
   · exact h.elim
 · exact h.elim
/-- An operation that turns one block,and yields nothing. -/
theorem OpOK.turnT {c : Nat} {ch0 ch : Ch} (hc : lookB B c = some ch0)
   (h : ∀ (K' : KL) (B' : BL),(∀ x,x ∈ o.op.operands → opv K' x = opv K x) → ∀ (C : Ctx) (ρ : Nat → Pl) (F : Nat → Nat → Prop) (a : Act) (w : World),Mem ids C B' ρ F w → Slots K' ρ (Imm C B' F w) a w → lookB B' c = some ch0 → ∃ w',(execOp a.eval o).run P w = .ok (.value (.tuple #[])) w' ∧ Fr (F c) w w' ∧
       (∀ I,Ext (Imm C B' F w) w I w' → Holds ρ I (F c) w' (ρ c) ch)) :
   OpOK P N ids o K B (.tup []) ⟨[c],[],[(c,some ch)]⟩:=by
 rintro K' B' h1 h2 - C a w ⟨hn,hd,ρ,F,hM,hS⟩ hlt Kn Q hK
 have hc' : lookB B' c = some ch0:=(h2 c (by simp)).trans hc
 obtain ⟨w',hx,hfr,hH⟩:=h K' B' h1 C ρ F a w hM hS hc'
 obtain ⟨hM',he⟩:=hM.turn hc' hfr hH
 unfold Oper.wp
 rw [hx,Oper.upon_value]
 exact hK _ _ ⟨put_size.trans hn,put_defers.trans hd,ρ,F,hM',(hS.mono he fun _ _ _=>rfl).putO (fun e he=>by rw [hn]; exact hlt e he) ⟨[],rfl,rfl⟩⟩
theorem snd_delete (hP : TblOK P tt) {T T' : TypeId} {x i : Operand} {c : Call} (ho : o.op = .call c) (hc1 : c.callee = .builtin .delete) (hc2 : c.args.toList = [x,i]) (hc3 : c.argTypes.toList = [T,T']) (h : vcDelete tt T (opv K x) (opv K i) B k) : Snd P N ids o K B k:=by
 have hargs : c.args = #[x,i]:=Array.toList_inj.1 hc2
 have hts : c.argTypes = #[T,T']:=Array.toList_inj.1 hc3
 obtain ⟨cal,args,ts⟩:=c
 simp only at hc1 hargs hts
 subst hc1 hargs hts
 have m1 : x ∈ o.op.operands:=by rw [ho]; simp [Op.operands,Call.operands]
 have m2 : i ∈ o.op.operands:=by rw [ho]; simp [Op.operands,Call.operands]
 unfold vcDelete at h
 split at h
 · rename_i c hx
   split at h
   · rename_i ku vu es hl
     split at h
     · rename_i kt et key hT hk
       split at h
       · rename_i hok
         obtain ⟨d,hd1,hd2⟩:=keyOK_ok hP hok
         refine Snd.of h <| OpOK.turnT hl fun K' B' g1 C ρ F a w hM hS hl'=>?_
         obtain ⟨hF,ents,clock,hb,hm,hB⟩:=hM.holds c _ hl'
         have e1:=hS.mp ((g1 x m1).trans hx)
         have e2 : a.eval i = keyV ku key:=keyS_den hk (hS.ev (g1 i m2))
         obtain ⟨es',hr,hm',hB'⟩:=delete_run (P:=P) (ty:=o.type) (mapTy_ok hP hT) hd1 hd2 hb hm hB key T'
         have hlt:=(Array.getElem?_eq_some_iff.1 hb).1
         refine ⟨{ w with heap:=w.heap.setIfInBounds (ρ c).blk (.map (List.toArray es') clock) },?_,map_fr ((hF _).2 rfl),fun I hE=>⟨hF,es',clock,by simp [hlt],hm'.mono hE,hB'⟩⟩
         simp [execOp,ho,resolve,invoke,builtin,e1,e2,hr]
       · exact h.elim
     · exact h.elim
   · exact h.elim
 · exact h.elim
/-! ### arrays -/
theorem TIok.arr {T : Nat} {ti : TI} {i : TypeInfo} {d : TypeDesc} (h : TIok P T ti i d) {n e : Nat} (hk : ti.kd = .arr n e) : P.underlying T = some (.array n e):=by
 have:=h.kd
 rw [hk] at this
 rw [h.und]
 cases d <;> simp [kdOK] at this ⊢
 exact this
theorem snd_toArr (hP : TblOK P tt) {T : TypeId} {x : Operand} (ho : o.op = .sliceToArrayPointer T x) (h : vcToArr tt T (opv K x) k) : Snd P N ids o K B k:=by
 have m1 : x ∈ o.op.operands:=by rw [ho]; simp [Op.operands]
 unfold vcToArr at h
 split at h
 · rename_i ti v xs hti hx
   obtain ⟨i,d,hok⟩:=hP.at_ hti
   split at h
   · rename_i n e hk
     obtain ⟨⟨h0,hle⟩,h⟩:=h
     have hu:=hok.arr hk
     refine Snd.of h <| OpOK.one hx m1 fun K' ρ I a w hS e1=>?_
     obtain ⟨A,cap,e3,e4,e5,e6⟩:=hS.lst e1
     injection e3 with e3
     obtain ⟨b,q,rfl,hI,hd⟩:=e6 (by omega)
     refine ⟨.pointer (some ⟨b,q,none⟩),?_,b,q,rfl,hI,by simp; omega,fun i z hz=>?_⟩
     · have : ¬ List.length xs < n:=by omega
       simp [execOp,ho,e3,Instr.arrayAt,run_underlying hu,this]
     · have hz' : lget (α:=El v) xs i = some z:=by
         unfold lget at hz ⊢
         rw [List.getElem?_take] at hz
         split at hz
         · exact hz
         · cases hz
       exact hd i z hz'
   · exact h.elim
 · exact h.elim
theorem snd_sliceArr (hP : TblOK P tt) {T : TypeId} {x : Operand} {c : Nat} (ho : o.op = .slice T x none none none) (hx : opv K x = .c (.one (.ptr c 0))) (h : vcSliceArr tt T c B k) : Snd P N ids o K B k:=by
 have m1 : x ∈ o.op.operands:=by rw [ho]; simp [Op.operands]
 unfold vcSliceArr at h
 split at h
 · rename_i ti hti
   obtain ⟨i,d,hok⟩:=hP.at_ hti
   split at h
   · rename_i n e m v hk _
     have hu:=hok.arr hk
     split at h
     · rename_i te l hn hte hl
       simp only [Bool.and_eq_true,Nat.beq_eq,Nat.ble_eq,Nat.blt_eq] at hn
       obtain ⟨⟨_,hn1⟩,hn0⟩:=hn
       obtain ⟨ei,ed,hoke⟩:=hP.at_ hte
       obtain ⟨ys,⟨hw,hl'⟩,h⟩:=h
       refine Snd.of h ?_
       rintro K' B' h1 h2 - C a w ⟨hnn,hdd,ρ,F,hM,hS⟩ hlt Kn Q hK
       have hlB : lookB B' c = some (.cells l):=(h2 c (by simp)).trans hl
       obtain ⟨hF,vs,T',hb,hd⟩:=hM.holds c _ hlB
       have e1:=hS.ptr ((h1 x m1).trans hx)
       subst hl'
       have hdu:=listU_mk hw hd
       have hne : n ≠ 0:=by omega
       have hrun : (execOp a.eval o).run P w = .ok (.value (.slice (some ⟨(ρ c).blk,0,none⟩) n n)) w:=by
         simp [execOp,ho,e1,Instr.sliceAt,run_underlying hu,Instr.sureAddr,Instr.sliceBounds,sizeOf,typeInfo,hoke.info,hne,addr_add]
       obtain ⟨hM',hE⟩:=hM.step (B':=dropB B' c) (ρ':=ρ) (F':=F) (w':=w) (fun d=>d = c) (fun _=>False) (Fr.refl _ w) (fun d ch hd hne=>by
           rw [lookB_dropB,if_neg (fun e=>hne e.symm)] at hd
           exact hd) (fun _ _=>rfl) (fun _ _=>rfl) (fun _ _ h=>h) (fun _ h=>h.elim) (fun _ _ _ _ _ _ h=>h)
         (fun d ch hd hM _=>by subst hM; rw [lookB_dropB,if_pos rfl] at hd; cases hd)
         (fun d ch hd hM=>by subst hM; rw [lookB_dropB,if_pos rfl] at hd; cases hd)
         (fun d d' ch ch' b hd _ hM=>by subst hM; rw [lookB_dropB,if_pos rfl] at hd; cases hd)
       have hFc:=(hF (ρ c).blk).2 rfl
       have hI : Imm C (dropB B' c) F w (ρ c).blk:=by
         obtain ⟨q1,q2⟩:=hM.own c _ hlB _ hFc
         refine ⟨q1,?_,fun d ch hd hb'=>?_⟩
         · rcases q2 with q2 | q2
           · exact .inr (.inl q2)
           · exact .inr (.inr q2)
         · rw [lookB_dropB] at hd
           split at hd
           · cases hd
           · rename_i hne
             exact hM.disj c d _ ch _ hlB hd hne hFc hb'
       unfold Oper.wp
       rw [hrun,Oper.upon_value]
       refine hK _ _ ⟨put_size.trans hnn,put_defers.trans hdd,ρ,F,hM',(hS.mono hE fun _ _ _=>rfl).putO (fun e he=>by rw [hnn]; exact hlt e he) ?_⟩
       have hlen : List.length ys = n:=hw.1
       refine ⟨_,n,by rw [hlen],by omega,by simp only [maxLen]; omega,fun _=>⟨_,0,rfl,hI,fun j z hz=>?_⟩⟩
       refine DenU.mono hE v z _ _ (fun q y hq=>?_) (hdu.2 j z hz)
       rw [Nat.zero_add]
       exact cell_of hb hq
     · exact h.elim
   · exact h.elim
 · exact h.elim
theorem snd_makeMap (hP : TblOK P tt) {T : TypeId} (ho : o.op = .makeMap T none) (h : vcMake tt T o.dst ids K B k) : Snd P N ids o K B k:=by
 unfold vcMake at h
 split at h
 · rename_i kt et d hT hd
   split at h
   · rename_i ki ei hki hei
     split at h
     · rename_i ku vu _ _
       refine Snd.nw h.2 h.1 <| OpOK.make (fun d h=>has_mp h) fun K' B' g1 g2 C ρ F a w hM hS hn=>?_
       refine ⟨.map (some w.heap.size),w.alloc (.map #[] 0),⟨w.heap.size,none,0,0⟩,fun b=>b = w.heap.size,by simp only [execOp,ho,Option.map_none,Sem.run_bind,make_run,Result.andThen_ok,Sem.run_pure],alloc_below w _,fun b hb=>by subst hb; exact ⟨Nat.le_refl _,by simp⟩,fun I he hb=>⟨⟨fun b=>Iff.rfl,[],0,heap_alloc_at _ rfl,rfl,⟨by simp,fun e he=>by cases he⟩⟩,?_⟩⟩
       simp only [DenV,DenC,DenS,upd_same]
     · exact h.elim
   · exact h.elim
 · exact h.elim
end
end Go.Proofs.YteoamepgonpdlaaGreat
