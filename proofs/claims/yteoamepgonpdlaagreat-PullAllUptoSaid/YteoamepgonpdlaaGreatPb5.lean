/-
Part 5 of the proof that stands in YteoamepgonpdlaaGreatPbRow, with what it needs from the parts ahead; the parts of this text: SndT.
-/
import Derived.Lib.AppendStr
import Derived.Test.YteoamepgonpdlaaGreatPb4
/-!
  Soundness of the conditions: make, append, calls; all operations.
-/
namespace Go.Proofs.YteoamepgonpdlaaGreat
set_option linter.unusedVariables false
set_option linter.unusedSimpArgs false
open Go.RowKit
section
variable {P : Program} {tt : Tr} {N : Nat} {ids : List Nat} {o : Oper} {K : KL} {B : BL} {k : SV → Eff → Prop}
theorem run_make_u8 {w : World} (t e : TypeId) (ht : P.underlying t = some (.slice e)) {i : TypeInfo} (hi : P.info? e = some i) {z : Value} (hz : i.zero = some z) (hzc : z.cells = #[.int .u8 0]) (hs : i.size = 1) (hb : i.bytes = 1) (n : Nat) (hn : n ≤ 4294967296) :
   (Instr.makeSlice t (.int .i64 (n : Int)) (.int .i64 (n : Int))).run P w = .ok (.slice (some ⟨w.heap.size,0,none⟩) n n) (w.alloc (.cells (List.replicate n (.int .u8 0)).toArray e)):=by
 have h:=run_make (P:=P) w t e i _ ht hi hz .i64 .i64 (n : Int) (n : Int) (by omega) (by omega) (by rw [hb]; omega) (by omega)
 rw [h,hs,hzc]
 simp only [Int.toNat_natCast,Nat.mul_one]
 congr 3
 simp [madeCells]
 apply Array.ext
 · simp
 · intro i h1 h2
   simp [Nat.mod_one]
theorem zero_u8 {ti : TI} {T : Nat} {i : TypeInfo} {d : TypeDesc} (hok : TIok P T ti i d) (hz : ti.zero = [.d (.int .u8 0)]) : ∃ z,i.zero = some z ∧ z.cells = #[.int .u8 0]:=by
 obtain ⟨z,h1,h2⟩:=hok.zero
 refine ⟨z,h1,?_⟩
 rw [hz] at h2
 have : z.cells.toList = [.int .u8 0]:=by
   match hc : z.cells.toList,h2 with
   | [v],h2 =>
     simp only [zeroL,Bool.and_true] at h2
     have:=(zeroS_den (ρ:=fun _=>⟨0,none,0,0⟩) (I:=fun _=>False) (w:=default) h2).1
     rw [show v = _ from this]
   | [],h2=>simp [zeroL] at h2
   | _ :: _ :: _,h2=>simp [zeroL] at h2
 exact Array.toList_inj.1 this
theorem snd_make (hP : TblOK P tt) {T : TypeId} {x y : Operand} (ho : o.op = .makeSlice T x y) (h : match elemOf tt T,opv K x,opv K y,o.dst with
   | some (e,te),.c (.one (.d (.int .i64 n))),.c (.one (.d (.int .i64 m))),some d=>match isU8 tt e with
     | true=>(n = m ∧ 0 ≤ n ∧ n ≤ 4294967296) ∧ freshB ids K B d = true ∧ k (.c (.one (.own d))) ⟨[],[d],[(d,some (.row e .u8 (List.replicate n.toNat (0 : UInt8))))]⟩
     | false=>False
   | _,_,_,_=>False) : Snd P N ids o K B k:=by
 have m1 : x ∈ o.op.operands:=by rw [ho]; simp [Op.operands]
 have m2 : y ∈ o.op.operands:=by rw [ho]; simp [Op.operands]
 split at h
 · rename_i e te n m d he hx hy hd
   obtain ⟨hu,inf,ds,hok⟩:=elem_ok hP he
   split at h
   · rename_i hu8
     obtain ⟨hu8,ti,i2,d2,hok2,hz2,hs2,hb2⟩:=isU8_ok hP hu8
     obtain ⟨z,hz,hzc⟩:=zero_u8 hok2 hz2
     obtain ⟨⟨rfl,h0,h1⟩,hfr,h⟩:=h
     refine Snd.nw h hfr <| OpOK.make (fun d h=>has_own h) fun K' B' g1 g2 C ρ F a w hM hS hn=>?_
     have hx':=hS.int ((g1 x m1).trans hx)
     have hy':=hS.int ((g1 y m2).trans hy)
     have hrun:=run_make_u8 (P:=P) (w:=w) T e hu hok2.info hz hzc (hok2.size.trans hs2) (hok2.bytes.trans hb2) n.toNat (by omega)
     rw [show ((n.toNat : Nat) : Int) = n by omega] at hrun
     refine ⟨.slice (some ⟨w.heap.size,0,none⟩) n.toNat n.toNat,w.alloc (.cells (List.replicate n.toNat (.int .u8 0)).toArray e),⟨w.heap.size,some ⟨w.heap.size,0,none⟩,n.toNat,n.toNat⟩,fun b=>b = w.heap.size,?_,alloc_below w _,fun b hb=>by subst hb; exact ⟨Nat.le_refl _,by simp⟩,fun I he hb=>⟨⟨?_,?_,List.replicate n.toNat (.int .u8 0),?_,?_⟩,?_⟩⟩
     · simp only [execOp,ho,Sem.run_bind,hx',hy',hrun,Result.andThen_ok,Sem.run_pure]
     · intro b
       simp [Pl.hdr,Value.ownBlock,eq_comm]
     · intro b hb
       simp [Pl.hdr,Value.ownBlock] at hb
       exact hb.symm
     · have:=ownsRow_new w e 1 n.toNat (List.replicate n.toNat (.int .u8 0)) (by simp) (by simp only [maxLen]; omega)
       have e1 : List.length (α:=El .u8) (List.replicate n.toNat (0 : UInt8)) = n.toNat:=List.length_replicate
       rw [e1]
       exact this
     · intro i z hz
       obtain ⟨hi,hz'⟩:=List.getElem?_eq_some_iff.1 hz
       have hz2 : z = (0 : UInt8):=by rw [← hz']; exact List.getElem_replicate ..
       have hi : i < n.toNat:=by
         have e1 : List.length (α:=El .u8) (List.replicate n.toNat (0 : UInt8)) = n.toNat:=List.length_replicate
         rw [e1] at hi
         exact hi
       subst hz2
       show (List.replicate n.toNat (Value.int .u8 0))[i * 1 + 0]? = some (Value.int .u8 ((0 : UInt8).toNat : Int))
       rw [Nat.mul_one,Nat.add_zero,List.getElem?_replicate,if_pos hi]
       rfl
     · simp only [DenV,DenC,DenS,upd_same,Pl.hdr]
   · exact h.elim
 · exact h.elim
/-! ### append -/
theorem hdr_of {w : World} {e s n : Nat} {v : Value} {cs : List Value} (h : w.ownsRow 0 e s v n cs) : ∃ pl : Pl,pl.hdr = v ∧ ∀ b,v.ownBlock = some b → b = pl.blk:=by
 rcases h.2 with ⟨rfl,_⟩ | ⟨g,cap,cur,rfl,_⟩
 · exact ⟨⟨0,none,0,0⟩,rfl,fun b hb=>by cases hb⟩
 · exact ⟨⟨g,some ⟨g,0,none⟩,n,cap⟩,rfl,fun b hb=>by simp [Value.ownBlock] at hb; exact hb.symm⟩
theorem exec_appendO (hP : TblOK P tt) {T : TypeId} {x y : Operand} {c : Call} {e : Nat} {te : TI} {u : U} (ho : o.op = .call c) (hc1 : c.callee = .builtin .append) (hc2 : c.args.toList = [x,y]) (hc3 : c.argTypes.toList = [T,T]) (he : elemOf tt T = some (e,te)) (hu : te.u = some u)
   {a : Act} {w : World} {v : Value} {n m : Nat} {cs news : List Value} {D : Nat → Prop} (hx : a.eval x = v) (hown : w.ownsRow 0 e (sz u) v n cs) (h1 : Sl D w (sz u) (a.eval y) m news) (h3 : ∀ x ∈ news,x.oneCell' = true) (hn : n + m ≤ 4294967296) :
   ∃ v' w',(execOp a.eval o).run P w = .ok (.value v') w' ∧ w'.ownsRow 0 e (sz u) v' (n + m) (cs ++ news) ∧ w.grownBy w' v.ownBlock ∧ (v'.ownBlock = v.ownBlock ∨ v'.ownBlock = some w.heap.size):=by
 obtain ⟨hT,inf,ds,hok⟩:=elem_ok hP he
 obtain ⟨z,hz,hzl⟩:=hok.zero
 have hsz : sz u = inf.size:=(hok.u u hu).trans hok.size.symm
 have hzs : z.cells.size = inf.size:=by
   have h1:=DenL.length _ _ (zeroL_den (ρ:=fun _=>⟨0,none,0,0⟩) (I:=fun _=>False) (w:=w) _ _ hzl).1
   simp at h1
   rw [h1,hok.zlen,hok.size]
 have hpos : 0 < inf.size:=by have:=hok.pos; have:=hok.size; omega
 have hby : (n + m) * inf.bytes ≤ 140737488355328:=by
   have h1 : inf.bytes ≤ 32768:=by rw [hok.bytes]; exact hok.small
   exact Nat.le_trans (Nat.mul_le_mul hn h1) (by decide)
 obtain ⟨v',w',hrun,g1,g2,g3⟩:=run_append_sl (P:=P) w 0 T o.type e inf z (sz u) inf.bytes hT hok.info hz hsz.symm rfl (by rw [hzs,hsz]) (by rw [hsz]; exact hpos) v n cs hown D (a.eval y) m news h1 h3 (by simp only [maxLen]; omega) hby (Nat.zero_le _)
 refine ⟨v',w',?_,g1,g2,g3⟩
 have hargs : c.args = #[x,y]:=Array.toList_inj.1 hc2
 have hts : c.argTypes = #[T,T]:=Array.toList_inj.1 hc3
 obtain ⟨cal,args,ts⟩:=c
 simp only at hc1 hargs hts
 subst hc1 hargs hts
 unfold execOp
 simp only [ho,resolve,invoke,builtin,Sem.run_bind,Sem.run_pure,Result.andThen_ok,List.map_toArray,List.map_cons,List.map_nil,hx,hrun]
theorem row_ones {I : Nat → Prop} {w : World} {u : U} {xs : List (El u)} {cs : List Value} (hl : cs.length = xs.length * sz u) (h : RecsU I w u xs cs) : ∀ v ∈ cs,v.oneCell' = true:=fun v hv=>by
 obtain ⟨k,hk,rfl⟩:=List.getElem_of_mem hv
 obtain ⟨e1,e2,e3⟩:=sz_div (show k < xs.length * sz u by omega)
 obtain ⟨v',h1,h2⟩:=DenU.one u _ _ (h (k / sz u) _ (List.getElem?_eq_getElem e1)) (k % sz u) e2
 rw [e3,List.getElem?_eq_getElem hk] at h1
 injection h1 with h1
 rw [h1]; exact h2
theorem exec_append (hP : TblOK P tt) {T : TypeId} {x y : Operand} {c : Call} {e : Nat} {te : TI} {u : U} (ho : o.op = .call c) (hc1 : c.callee = .builtin .append) (hc2 : c.args.toList = [x,y]) (hc3 : c.argTypes.toList = [T,T]) (he : elemOf tt T = some (e,te)) (hu : te.u = some u)
   {a : Act} {w : World} {v : Value} {n : Nat} {cs : List Value} {I : Nat → Prop} {ys : List (El u)} (hx : a.eval x = v) (hown : w.ownsRow 0 e (sz u) v n cs) (hy : DenU I w (.sl u) ys (fun _=>some (a.eval y))) (hI : ∀ b,I b → b < w.heap.size) (hn : n + ys.length ≤ 4294967296) :
   ∃ v' w' news,(execOp a.eval o).run P w = .ok (.value v') w' ∧ w'.ownsRow 0 e (sz u) v' (n + ys.length) (cs ++ news) ∧ RecsU I w u ys news ∧ w.grownBy w' v.ownBlock ∧ (v'.ownBlock = v.ownBlock ∨ v'.ownBlock = some w.heap.size):=by
 obtain ⟨hT,inf,ds,hok⟩:=elem_ok hP he
 obtain ⟨z,hz,hzl⟩:=hok.zero
 obtain ⟨news,h1,h2,h3⟩:=den_cells hy hI
 have hsz : sz u = inf.size:=(hok.u u hu).trans hok.size.symm
 have hzs : z.cells.size = inf.size:=by
   have h1:=DenL.length _ _ (zeroL_den (ρ:=fun _=>⟨0,none,0,0⟩) (I:=fun _=>False) (w:=w) _ _ hzl).1
   simp at h1
   rw [h1,hok.zlen,hok.size]
 have hpos : 0 < inf.size:=by have:=hok.pos; have:=hok.size; omega
 have hby : (n + ys.length) * inf.bytes ≤ 140737488355328:=by
   have h1 : inf.bytes ≤ 32768:=by rw [hok.bytes]; exact hok.small
   exact Nat.le_trans (Nat.mul_le_mul hn h1) (by decide)
 obtain ⟨v',w',hrun,g1,g2,g3⟩:=run_append_sl (P:=P) w 0 T o.type e inf z (sz u) inf.bytes hT hok.info hz hsz.symm rfl (by rw [hzs,hsz]) (by rw [hsz]; exact hpos) v n cs hown I (a.eval y) ys.length news h1 h3 (by simp only [maxLen]; omega) hby (Nat.zero_le _)
 refine ⟨v',w',news,?_,g1,h2,g2,g3⟩
 have hargs : c.args = #[x,y]:=Array.toList_inj.1 hc2
 have hts : c.argTypes = #[T,T]:=Array.toList_inj.1 hc3
 obtain ⟨cal,args,ts⟩:=c
 simp only at hc1 hargs hts
 subst hc1 hargs hts
 unfold execOp
 simp only [ho,resolve,invoke,builtin,Sem.run_bind,Sem.run_pure,Result.andThen_ok,List.map_toArray,List.map_cons,List.map_nil,hx,hrun]
/-- A block that another one takes the place of. -/
theorem Mem.move {C : Ctx} {ρ : Nat → Pl} {F : Nat → Nat → Prop} {w w' : World} (h : Mem ids C B ρ F w) {c d : Nat} {ch0 ch : Ch} (hc : lookB B c = some ch0) (hf : freshB ids K B d = true) (hfr : Fr (F c) w w') (pl : Pl) (G : Nat → Prop) (hG : ∀ b,G b → (F c b ∨ w.heap.size ≤ b) ∧ b < w'.heap.size)
   (hH : ∀ I,Ext (Imm C B F w) w I w' → (∀ b,I b → b < w'.heap.size ∧ ¬ G b) → Holds (upd ρ d pl) I G w' pl ch) :
   Mem ids C ((d,ch) :: dropB B c) (upd ρ d pl) (upd F d G) w' ∧ Ext (Imm C B F w) w (Imm C ((d,ch) :: dropB B c) (upd F d G) w') w':=by
 obtain ⟨f1,f2,f3,f4⟩:=fresh_of hf
 have hdc : d ≠ c:=fun e=>by subst e; rw [f2] at hc; cases hc
 refine h.step (fun i=>i = d ∨ i = c) (fun i=>i = d) (hfr.mono fun b _ hb=>⟨c,ch0,hc,.inr rfl,hb⟩) ?_ (fun i hi=>upd_other _ _ hi) (fun i hi=>upd_other _ _ (fun e=>hi (.inl e))) (fun i hi e=>f4 (e ▸ hi)) (fun _ h=>.inl h) ?_ ?_ ?_ ?_
 · intro i ch' hi hne
   rw [lookB_cons,if_neg (fun e=>hne (.inl e.symm)),lookB_dropB] at hi
   split at hi
   · cases hi
   · exact hi
 · rintro i ch' hi _ j he rfl
   rw [f3 i ch' hi] at he
   cases he
 · rintro i ch' hi hM he
   rw [lookB_cons] at hi
   split at hi
   · rename_i e
     subst e
     injection hi with hi
     subst hi
     rw [upd_same,upd_same]
     exact hH _ he fun b hb'=>⟨hb'.1,fun hg=>hb'.2.2 d ch (by rw [lookB_cons,if_pos rfl]) (by rw [upd_same]; exact hg)⟩
   · rename_i e
     rcases hM with rfl | rfl
     · exact absurd rfl e
     · rw [lookB_dropB,if_pos rfl] at hi; cases hi
 · rintro i ch' hi hM b hg
   rcases hM with rfl | rfl
   · rw [upd_same] at hg
     obtain ⟨h1,h2⟩:=hG b hg
     exact ⟨h2,h1.imp (fun h=>⟨c,ch0,hc,.inr rfl,h⟩) id⟩
   · rw [lookB_cons,if_neg hdc,lookB_dropB,if_pos rfl] at hi; cases hi
 · rintro i j ch1 ch2 b hi hj hMi hMj hne
   have q : ∀ i ch',lookB ((d,ch) :: dropB B c) i = some ch' → (i = d ∨ i = c) → i = d:=fun i ch' hi hM=>by
     rcases hM with rfl | rfl
     · rfl
     · rw [lookB_cons,if_neg hdc,lookB_dropB,if_pos rfl] at hi; cases hi
   exact absurd ((q i ch1 hi hMi).trans (q j ch2 hj hMj).symm) hne
theorem grown_fr {w w' : World} {r : Option Nat} {S : Nat → Prop} (h : w.grownBy w' r) (hS : ∀ b,r = some b → S b) : Fr S w w':=fr_grown h hS
theorem snd_append (hP : TblOK P tt) {T : TypeId} {x y : Operand} {c : Call} (ho : o.op = .call c) (hc1 : c.callee = .builtin .append) (hc2 : c.args.toList = [x,y]) (hc3 : c.argTypes.toList = [T,T])
   (h : vcApp tt T (opv K x) (opv K y) o.dst ids K B k) : Snd P N ids o K B k:=by
 have mem : ∀ z ∈ [x,y],z ∈ o.op.operands:=fun z hz=>by
   rw [ho]
   simp only [Op.operands,Call.operands,Array.mem_append]
   exact .inr (Array.mem_toList_iff.1 (by rw [hc2]; exact hz))
 have m1:=mem x (by simp)
 have m2:=mem y (by simp)
 unfold vcApp at h
 split at h
 · rename_i e te d he hd
   split at h
   · rename_i u v ys hu hy
     split at h
     · rename_i heq _
       subst heq
       split at h
       · rename_i hx
         obtain ⟨hlen,hfr,h⟩:=h
         refine Snd.nw h hfr <| OpOK.make (fun d h=>has_own h) fun K' B' g1 g2 C ρ F a w hM hS hn=>?_
         obtain ⟨v',w',news,hrun,k1,k2,k3,k4⟩:=exec_append hP ho hc1 hc2 hc3 he hu (hS.nils ((g1 x m1).trans hx)) (World.ownsRow_nil w 0 e (sz v)) (hS.lst ((g1 y m2).trans hy)) (fun b hb=>hb.1) (by omega)
         obtain ⟨pl,hpl,hblk⟩:=hdr_of k1
         have hb : Below w.heap.size w w':=⟨k3.os,k3.tape,k3.output,k3.size,fun b hb=>k3.block b hb (by simp [Value.ownBlock])⟩
         have hob : ∀ b,v'.ownBlock = some b → w.heap.size ≤ b ∧ b < w'.heap.size:=fun b hb'=>by
           have:=k1.lt b hb'
           rcases k4 with k4 | k4
           · rw [k4] at hb'; cases hb'
           · rw [k4] at hb'; injection hb' with hb'; omega
         refine ⟨v',w',pl,fun b=>v'.ownBlock = some b,hrun,hb,hob,fun I he' hI=>⟨⟨fun b=>by rw [hpl],fun b hb=>hblk b (by rwa [hpl] at hb),news,?_,?_⟩,?_⟩⟩
         · rw [hpl]
           have:=k1
           rw [Nat.zero_add,List.nil_append] at this
           exact this
         · exact RecsU.mono he' k2
         · simp only [DenV,DenC,DenS,upd_same,hpl]
       · rename_i cc hx
         split at h
         · rename_i e' u' xs hl
           split at h
           · rename_i heq2 hee _
             have hee:=Nat.eq_of_beq_eq_true hee
             subst heq2 hee
             obtain ⟨hlen,hfr,h⟩:=h
             refine Snd.nw h hfr ?_
             rintro K' B' g1 g2 g3 C a w ⟨hnn,hdd,ρ,F,hM,hS⟩ hlt Kn Q hK
             have hl' : lookB B' cc = _:=(g2 cc (by simp)).trans hl
             have hf:=g3 d (by simp)
             have hfresh:=fresh_of hf
             have hh:=hM.holds cc _ hl'
             obtain ⟨hF,hbk,cs,hown,hrec⟩:=hh
             obtain ⟨v',w',news,hrun,k1,k2,k3,k4⟩:=exec_append hP ho hc1 hc2 hc3 he hu (hS.own ((g1 x m1).trans hx)) hown (hS.lst ((g1 y m2).trans hy)) (fun b hb=>hb.1) (by have : (castL rfl xs).length = xs.length:=rfl; omega)
             obtain ⟨pl,hpl,hblk⟩:=hdr_of k1
             obtain ⟨hM',he'⟩:=hM.move (K:=K') (ch:=.row e' u' (castL rfl xs ++ castL rfl ys)) hl' hf (grown_fr k3 fun b hb=>(hF b).2 hb) pl (fun b=>v'.ownBlock = some b) (fun b hb=>⟨by
                 rcases k4 with k4 | k4
                 · exact .inl ((hF b).2 (k4.symm.trans hb))
                 · rw [k4] at hb; injection hb with hb; exact .inr (by omega),(k1.lt b hb).2⟩)
               (fun I he' hI=>⟨fun b=>by rw [hpl],fun b hb=>hblk b (by rwa [hpl] at hb),cs ++ news,by rw [hpl]; simpa [castL] using k1,RecsU.app (RecsU.mono he' hrec) (RecsU.mono he' k2) hown.1⟩)
             unfold Oper.wp
             rw [hrun,Oper.upon_value]
             exact hK _ _ ⟨put_size.trans hnn,put_defers.trans hdd,_,_,hM',(hS.mono he' fun s i hi=>upd_other _ _ (fun e=>by subst e; rw [hfresh.1 s] at hi; cases hi)).putO (fun e he=>by rw [hnn]; exact hlt e he) (by simp only [DenV,DenC,DenS,upd_same,hpl])⟩
           · exact h.elim
         · exact h.elim
       · exact h.elim
     · exact h.elim
   · rename_i u c2 hu hy
     split at h
     · rename_i cc hx
       split at h
       · rename_i e' u' xs e2 v ys hl hl2
         split at h
         · rename_i heq heq2 hne hee _ _
           have hee:=Nat.eq_of_beq_eq_true hee
           subst heq heq2 hee
           obtain ⟨hlen,hfr,h⟩:=h
           refine Snd.nw h hfr ?_
           rintro K' B' g1 g2 g3 C a w ⟨hnn,hdd,ρ,F,hM,hS⟩ hlt Kn Q hK
           have hl' : lookB B' cc = _:=(g2 cc (by simp)).trans hl
           have hl2' : lookB B' c2 = _:=(g2 c2 (by simp)).trans hl2
           have hf:=g3 d (by simp)
           have hfresh:=fresh_of hf
           obtain ⟨hF,hbk,cs,hown,hrec⟩:=hM.holds cc _ hl'
           obtain ⟨hF2,hbk2,cs2,hown2,hrec2⟩:=hM.holds c2 _ hl2'
           have hsl:=Sl.of_own hown2
           rw [← hS.own ((g1 y m2).trans hy)] at hsl
           obtain ⟨v',w',hrun,k1,k3,k4⟩:=exec_appendO hP ho hc1 hc2 hc3 he hu (hS.own ((g1 x m1).trans hx)) hown hsl (row_ones hown2.1 hrec2) (by have : (castL rfl xs).length = xs.length:=rfl; have : (castL rfl ys).length = ys.length:=rfl; omega)
           obtain ⟨pl,hpl,hblk⟩:=hdr_of k1
           obtain ⟨hM',he'⟩:=hM.move (K:=K') (ch:=.row e' u' (castL rfl xs ++ castL rfl ys)) hl' hf (grown_fr k3 fun b hb=>(hF b).2 hb) pl (fun b=>v'.ownBlock = some b) (fun b hb=>⟨by
               rcases k4 with k4 | k4
               · exact .inl ((hF b).2 (k4.symm.trans hb))
               · rw [k4] at hb; injection hb with hb; exact .inr (by omega),(k1.lt b hb).2⟩)
             (fun I he' hI=>⟨fun b=>by rw [hpl],fun b hb=>hblk b (by rwa [hpl] at hb),cs ++ cs2,by rw [hpl]; simpa [castL] using k1,RecsU.app (RecsU.mono he' hrec) (RecsU.mono he' hrec2) hown.1⟩)
           unfold Oper.wp
           rw [hrun,Oper.upon_value]
           exact hK _ _ ⟨put_size.trans hnn,put_defers.trans hdd,_,_,hM',(hS.mono he' fun s i hi=>upd_other _ _ (fun e=>by subst e; rw [hfresh.1 s] at hi; cases hi)).putO (fun e he=>by rw [hnn]; exact hlt e he) (by simp only [DenV,DenC,DenS,upd_same,hpl])⟩
         · exact h.elim
       · exact h.elim
     · exact h.elim
   · exact h.elim
 · exact h.elim
/-! ### append of a text -/
theorem strCells_map (s : List UInt8) : Go.Lib.strCells ⟨s.toArray⟩ = s.map byteV:=by simp [Go.Lib.strCells,byteV]
theorem append_str_run {w : World} {T T' ty e : TypeId} {i : TypeInfo} (hT : P.underlying T = some (.slice e)) (hu : P.underlying T' = some .string) (hi : P.info? e = some i) (hz : i.zero = some (.int .u8 0)) (hs : i.size = 1) (hb : i.bytes = 1)
   {v : Value} {n : Nat} {cs : List Value} (hown : w.ownsRow 0 e 1 v n cs) (s : List UInt8) (hn : n + s.length ≤ 4294967296) :
   ∃ v' w',(Builtin.append_ #[T,T'] ty #[v,.string ⟨s.toArray⟩]).run P w = .ok v' w' ∧ w'.ownsRow 0 e 1 v' (n + s.length) (cs ++ s.map byteV) ∧ w.grownBy w' v.ownBlock ∧ ∀ b,v'.ownBlock = some b → v.ownBlock = some b ∨ w.heap.size ≤ b:=by
 have hsz : (⟨s.toArray⟩ : ByteArray).size = s.length:=size_mk s
 rcases hown.2 with ⟨rfl,rfl⟩ | ⟨g,cap,cur,rfl,-,hg,hnc,hcm,hcs,htk⟩
 · have hcs0 : cs = []:=List.eq_nil_of_length_eq_zero (by simpa using hown.1)
   subst hcs0
   obtain ⟨v',w',hr,h2,h3,_⟩:=Go.Lib.run_append_own_string (P:=P) w w.heap.size T T' ty e i hT hu hi hz hs hb (.slice none 0 0) 0 [] (World.ownsRow_nil w w.heap.size e 1) ⟨s.toArray⟩ (by rw [hsz]; simp only [maxLen]; omega) (by rw [hsz]; omega) (Nat.le_refl _)
   rw [hsz,strCells_map] at h2
   refine ⟨v',w',hr,⟨h2.1,?_⟩,h3,fun b hb=>.inr ?_⟩
   · rcases h2.2 with h | ⟨g,cap,cur,hv,_,r⟩
     · exact .inl h
     · exact .inr ⟨g,cap,cur,hv,Nat.zero_le _,r⟩
   · rcases h2.2 with ⟨h,_⟩ | ⟨g,cap,cur,hv,hge,r⟩
     · rw [h] at hb; cases hb
     · rw [hv] at hb; simp [Value.ownBlock] at hb; omega
 · obtain ⟨v',w',hr,h2,h3,_⟩:=Go.Lib.run_append_own_string (P:=P) w 0 T T' ty e i hT hu hi hz hs hb (.slice (some ⟨g,0,none⟩) n cap) n cs hown ⟨s.toArray⟩ (by rw [hsz]; simp only [maxLen]; omega) (by rw [hsz]; omega) (Nat.zero_le _)
   have hxl : cs.length = n:=by simpa using hown.1
   refine ⟨v',w',hr,by rw [hsz,strCells_map] at h2; exact h2,h3,fun b hb'=>?_⟩
   by_cases hroom : n + (⟨s.toArray⟩ : ByteArray).size ≤ cap
   · have hr2:=Go.Lib.run_append_room_string (P:=P) w T T' ty e i hT hu hi hs g n cap cur hg ⟨s.toArray⟩ hroom (by omega)
     rw [hr] at hr2
     injection hr2 with e1 e2
     rw [e1] at hb'
     exact .inl hb'
   · have holds : ∀ j u,cs[j]? = some u → w.cell? ((⟨g,0,none⟩ : Addr).add j) = some u:=hown.cells (g:=g) rfl
     have hr2:=Go.Lib.run_append_grow_string (P:=P) w T T' ty e i (.int .u8 0) hT hu hi hz ⟨g,0,none⟩ n cap cs (by rw [hs]; simpa using hxl) holds ⟨s.toArray⟩ (by omega) (by rw [hsz]; omega) (by rw [hb]; exact growslice_fits (by omega) (by rw [hsz]; omega))
     rw [hr] at hr2
     injection hr2 with e1 e2
     rw [e1] at hb'
     simp [Value.ownBlock] at hb'
     exact .inr (by omega)
theorem bytes_recs' (I : Nat → Prop) (w : World) (xs : List UInt8) : RecsU I w .u8 xs (xs.map byteV):=fun i x hx=>by
 show (xs.map byteV)[i * 1 + 0]? = _
 rw [Nat.mul_one,Nat.add_zero,List.getElem?_map,show xs[i]? = some x from hx]
 rfl
theorem snd_appendS (hP : TblOK P tt) {T T' : TypeId} {x y : Operand} {c : Call} (ho : o.op = .call c) (hc1 : c.callee = .builtin .append) (hc2 : c.args.toList = [x,y]) (hc3 : c.argTypes.toList = [T,T'])
   (h : vcAppS tt T T' (opv K x) (opv K y) o.dst ids K B k) : Snd P N ids o K B k:=by
 have mem : ∀ z ∈ [x,y],z ∈ o.op.operands:=fun z hz=>by
   rw [ho]
   simp only [Op.operands,Call.operands,Array.mem_append]
   exact .inr (Array.mem_toList_iff.1 (by rw [hc2]; exact hz))
 have m1:=mem x (by simp)
 have m2:=mem y (by simp)
 unfold vcAppS at h
 split at h
 · rename_i e te d he hstr hd
   split at h
   · rename_i cc s hx hy
     split at h
     · rename_i e' xs hu8 hl
       split at h
       · rename_i hee
         have hee:=Nat.eq_of_beq_eq_true hee
         subst hee
         obtain ⟨hlen,hfr,h⟩:=h
         obtain ⟨hT,inf,ds,hok⟩:=elem_ok hP he
         obtain ⟨hu8a,hu8b⟩:=isU8_ok hP hu8
         have hst:=isStr_ok hP hstr
         refine Snd.nw h hfr ?_
         rintro K' B' g1 g2 g3 C a w ⟨hnn,hdd,ρ,F,hM,hS⟩ hlt Kn Q hK
         have hl' : lookB B' cc = _:=(g2 cc (by simp)).trans hl
         have hf:=g3 d (by simp)
         have hfresh:=fresh_of hf
         have hh:=hM.holds cc _ hl'
         obtain ⟨hF,hbk,cs,hown,hrec⟩:=hh
         obtain ⟨ti,i2,d2,hok2,hz2,hs2,hb2⟩:=hu8b
         obtain ⟨z,hz,hzc⟩:=zero_u8 hok2 hz2
         have hz' : z = .int .u8 0:=by
           have h1:=hok2.zone z hz (by have:=hok2.und; rw [hu8a] at this; injection this with this; rw [← this])
           rw [h1] at hzc
           simpa using hzc
         rw [hz'] at hz
         obtain ⟨v',w',hrun,k1,k3,k4⟩:=append_str_run (P:=P) (w:=w) (T:=T) (T':=T') (ty:=o.type) hT hst hok2.info hz (hok2.size.trans hs2) (hok2.bytes.trans hb2) (show w.ownsRow 0 e' 1 (ρ cc).hdr (List.length (α:=UInt8) xs) cs from hown) s hlen
         obtain ⟨pl,hpl,hblk⟩:=hdr_of k1
         obtain ⟨hM',he'⟩:=hM.move (K:=K') (ch:=.row e' .u8 (List.append (α:=UInt8) xs s)) hl' hf (grown_fr k3 fun b hb=>(hF b).2 hb) pl (fun b=>v'.ownBlock = some b) (fun b hb=>⟨by
             rcases k4 b hb with k4 | k4
             · exact .inl ((hF b).2 k4)
             · exact .inr k4,(k1.lt b hb).2⟩)
           (fun I he' hI=>⟨fun b=>by rw [hpl],fun b hb=>hblk b (by rwa [hpl] at hb),cs ++ s.map byteV,by
             rw [hpl]
             have : List.length (α:=El .u8) (List.append (α:=UInt8) xs s) = List.length (α:=UInt8) xs + s.length:=List.length_append
             rw [this]
             exact k1,RecsU.app (u:=.u8) (RecsU.mono he' hrec) (bytes_recs' _ _ s) hown.1⟩)
         have hargs : c.args = #[x,y]:=Array.toList_inj.1 hc2
         have hts : c.argTypes = #[T,T']:=Array.toList_inj.1 hc3
         obtain ⟨cal,args,ts⟩:=c
         simp only at hc1 hargs hts
         subst hc1 hargs hts
         have hx':=hS.own ((g1 x m1).trans hx)
         have hy':=hS.str ((g1 y m2).trans hy)
         have hex : (execOp a.eval o).run P w = .ok (.value v') w':=by
           unfold execOp
           simp only [ho,resolve,invoke,builtin,Sem.run_bind,Sem.run_pure,Result.andThen_ok,List.map_toArray,List.map_cons,List.map_nil,hx',hy',hrun]
         unfold Oper.wp
         rw [hex,Oper.upon_value]
         exact hK _ _ ⟨put_size.trans hnn,put_defers.trans hdd,_,_,hM',(hS.mono he' fun s i hi=>upd_other _ _ (fun e=>by subst e; rw [hfresh.1 s] at hi; cases hi)).putO (fun e he=>by rw [hnn]; exact hlt e he) (by simp only [DenV,DenC,DenS,upd_same,hpl])⟩
       · exact h.elim
     · exact h.elim
   · exact h.elim
 · exact h.elim
end
end Go.Proofs.YteoamepgonpdlaaGreat
/-
 Soundness of the conditions: copy of bytes onto a row of the call's own.
-/
set_option linter.unusedVariables false
set_option linter.unusedSimpArgs false
namespace Go.Proofs.YteoamepgonpdlaaGreat
open Go.RowKit
section
variable {P : Program} {tt : Tr} {N : Nat} {ids : List Nat} {o : Oper} {K : KL} {B : BL} {k : SV → Eff → Prop}
theorem take_laid {α : Type} (cur ys : List α) (off N : Nat) (h : off + ys.length ≤ N) (h2 : N ≤ cur.length) : (cur.take off ++ ys ++ cur.drop (off + ys.length)).take N = (cur.take N).take off ++ ys ++ (cur.take N).drop (off + ys.length):=by
 rw [List.take_append,List.take_of_length_le (by simp; omega),List.take_take,Nat.min_eq_left (by omega),List.drop_take]
 congr 2
 simp
 omega
theorem run_copyTo {w : World} {dT sT ty e : TypeId} (hu : P.underlying dT = some (.slice e)) (hsz : (P.info? e).map (·.size) = some 1) {v : Value} {M off n dCap m : Nat} {cs ys : List Value} {dp : Option Addr} {src : Value} {D : Nat → Prop} {e' : TypeId}
   (hown : w.ownsRow 0 e' 1 v M cs) (hd : 0 < n → ∀ g cap,v = .slice (some ⟨g,0,none⟩) M cap → M ≤ cap → dp = some ⟨g,off,none⟩) (hfit : off + n ≤ M) (hsl : Sl D w 1 src m ys) (h1 : ∀ v ∈ ys,v.oneCell' = true) :
   ∃ x w',(Builtin.copy_ #[dT,sT] ty #[.slice dp n dCap,src]).run P w = .ok x w' ∧ Fr (fun b=>v.ownBlock = some b) w w' ∧ w'.ownsRow 0 e' 1 v M (cs.take off ++ ys.take n ++ cs.drop (off + (ys.take n).length)):=by
 obtain ⟨sp,sCap,rfl,hl,hpos⟩:=copy_src hsl n
 have hle : (ys.take n).length ≤ n:=by rw [List.length_take]; exact Nat.min_le_left _ _
 by_cases h0 : (ys.take n).length = 0
 · refine ⟨_,w,run_copy_none (P:=P) w dT sT ty e dp sp n dCap m sCap hu hsz (by rw [← hl]; exact h0),Fr.refl _ _,?_⟩
   rw [List.eq_nil_of_length_eq_zero h0]
   simpa using hown
 · obtain ⟨ad,rfl,hsrc⟩:=hpos (by omega)
   obtain ⟨hlen,hown⟩:=hown
   rcases hown with ⟨_,hM⟩ | ⟨g,cap,cur,hv,hb,hg,hc1,hc2,hc3,hc4⟩
   · omega
   · obtain rfl:=hd (by omega) g cap hv hc1
     have hcur : cur.toList.length = cap:=by simpa using hc3
     rw [Nat.mul_one] at hc4 hlen
     refine ⟨_,_,run_copy_row (P:=P) w dT sT ty e g off n dCap ad m sCap cur e' (ys.take n) hu hsz hg hl hsrc (by rw [← Array.length_toList]; omega) (fun v hv=>h1 v (List.mem_of_mem_take hv)),setRow_fr (by rw [hv]; rfl),?_⟩
     refine ⟨by simp only [List.length_append,List.length_take,List.length_drop,Nat.mul_one] at *; omega,.inr ⟨g,cap,_,hv,hb,setRow_heap w g _ _ e' _ hg,hc1,hc2,by simp only [List.size_toArray,List.length_append,List.length_take,List.length_drop,Nat.mul_one] at *; omega,?_⟩⟩
     rw [Nat.mul_one]
     show List.take M (cur.toList.take off ++ ys.take n ++ cur.toList.drop (off + (ys.take n).length)) = _
     rw [take_laid _ _ _ _ (by omega) (by omega),hc4]
theorem laid_length (xs ys : List UInt8) {off n : Nat} (h : off + n ≤ xs.length) : (laid xs off n ys).length = xs.length:=by
 simp only [laid,List.length_append,List.length_take,List.length_drop]
 omega
theorem laid_map (xs ys : List UInt8) (off n : Nat) : List.take off (xs.map byteV) ++ List.take n (ys.map byteV) ++ List.drop (off + (List.take n (ys.map byteV)).length) (xs.map byteV) = (laid xs off n ys).map byteV:=by
 simp only [laid,List.map_append,List.map_take,List.map_drop,List.length_take,List.length_map]
theorem recs_bytes {I : Nat → Prop} {w : World} {xs : List UInt8} {cs : List Value} (h : RecsU I w .u8 xs cs) (hl : cs.length = xs.length) : cs = xs.map byteV:=by
 refine List.ext_getElem? fun i=>?_
 rw [List.getElem?_map]
 cases hx : xs[i]? with
 | none =>
   have:=List.getElem?_eq_none_iff.1 hx
   rw [List.getElem?_eq_none_iff.2 (by omega)]; rfl
 | some x =>
   have h2:=h i x hx
   simpa [DenU,sz,byteV] using h2
theorem bytes_recs (I : Nat → Prop) (w : World) (xs : List UInt8) : RecsU I w .u8 xs (xs.map byteV):=fun i x hx=>by
 have hx : xs[i]? = some x:=hx
 simp [DenU,sz,hx]
 rfl
theorem lst_sl {I : Nat → Prop} {w : World} {v : Value} {l : List UInt8} (hI : ∀ b,I b → b < w.heap.size) (h : DenU I w (.sl .u8) l (fun _=>some v)) : Sl I w 1 v l.length (l.map byteV):=by
 obtain ⟨A,cap,h0,h1,h2,h3⟩:=h
 injection h0 with h0
 refine ⟨by simp,A,cap,h0,h1,h2,fun hp=>?_⟩
 obtain ⟨b,o,hA,hb,hx⟩:=h3 hp
 refine ⟨b,o,hA,hb,hI b hb,fun j u hu=>?_⟩
 rw [List.getElem?_map] at hu
 obtain ⟨x,hx1,rfl⟩:=Option.map_eq_some_iff.1 hu
 have:=hx j x hx1
 simpa [DenU,sz,byteV] using this
/-- An operation that turns one block,and yields something. -/
theorem OpOK.turnV {c : Nat} {ch0 ch : Ch} (hc : lookB B c = some ch0)
   (h : ∀ (K' : KL) (B' : BL),(∀ x,x ∈ o.op.operands → opv K' x = opv K x) → ∀ (C : Ctx) (ρ : Nat → Pl) (F : Nat → Nat → Prop) (a : Act) (w : World),Mem ids C B' ρ F w → Slots K' ρ (Imm C B' F w) a w → lookB B' c = some ch0 → ∃ x w',(execOp a.eval o).run P w = .ok (.value x) w' ∧ Fr (F c) w w' ∧
       (∀ I,Ext (Imm C B' F w) w I w' → Holds ρ I (F c) w' (ρ c) ch)) :
   OpOK P N ids o K B (.c (.one .any)) ⟨[c],[],[(c,some ch)]⟩:=by
 rintro K' B' h1 h2 - C a w ⟨hn,hd,ρ,F,hM,hS⟩ hlt Kn Q hK
 have hc' : lookB B' c = some ch0:=(h2 c (by simp)).trans hc
 obtain ⟨x,w',hx,hfr,hH⟩:=h K' B' h1 C ρ F a w hM hS hc'
 obtain ⟨hM',he⟩:=hM.turn hc' hfr hH
 unfold Oper.wp
 rw [hx,Oper.upon_value]
 exact hK _ _ ⟨put_size.trans hn,put_defers.trans hd,ρ,F,hM',(hS.mono he fun _ _ _=>rfl).putO (fun e he=>by rw [hn]; exact hlt e he) trivial⟩
theorem snd_copyTo (hP : TblOK P tt) {T T' e : TypeId} {te : TI} {x y : Operand} {c : Call} {d off n : Nat} {ys : List UInt8} (ho : o.op = .call c) (hc1 : c.callee = .builtin .copy) (hc2 : c.args.toList = [x,y]) (hc3 : c.argTypes.toList = [T,T']) (he : elemOf tt T = some (e,te)) (h8 : isU8 tt e = true) (hy : opv K y = .c (.one (.d (.lst .u8 ys))))
   (hx : ∀ (K' : KL) (ρ : Nat → Pl) (I : Nat → Prop) (a : Act) (w : World),Slots K' ρ I a w → opv K' x = opv K x → ∀ (M : Nat),(ρ d).n = M → (∀ e xs,lookB B d = some (.row e .u8 xs) → List.length xs = M) → off + n ≤ M → ∃ dp dCap,a.eval x = .slice dp n dCap ∧ (0 < n → ∀ g cap,(ρ d).hdr = .slice (some ⟨g,0,none⟩) M cap → M ≤ cap → dp = some ⟨g,off,none⟩))
   (h : vcCopyTo d off n ys B k) : Snd P N ids o K B k:=by
 have hargs : c.args = #[x,y]:=Array.toList_inj.1 hc2
 have hts : c.argTypes = #[T,T']:=Array.toList_inj.1 hc3
 obtain ⟨cal,args,ts⟩:=c
 simp only at hc1 hargs hts
 subst hc1 hargs hts
 have m1 : x ∈ o.op.operands:=by rw [ho]; simp [Op.operands,Call.operands]
 have m2 : y ∈ o.op.operands:=by rw [ho]; simp [Op.operands,Call.operands]
 obtain ⟨hu,inf,ds,hok⟩:=elem_ok hP he
 obtain ⟨_,ti8,i8,d8,hok8,_,hs8,_⟩:=isU8_ok hP h8
 have hsz : (P.info? e).map (·.size) = some 1:=by rw [hok8.info]; simp [hok8.size,hs8]
 unfold vcCopyTo at h
 split at h
 · rename_i e' xs hl
   obtain ⟨hfit,h⟩:=h
   refine Snd.of h <| OpOK.turnV hl fun K' B' h1 C ρ F a w hM hS hl'=>?_
   obtain ⟨hF,hblk,cs,hown,hrec⟩:=hM.holds d _ hl'
   have hown':=hown
   obtain ⟨hcl,A,cap,hv,_,_,_⟩:=Sl.of_own hown'
   have hn : (ρ d).n = xs.length:=by unfold Pl.hdr at hv; injection hv
   have hcs : cs = xs.map byteV:=recs_bytes hrec (by have:=hcl; simp [sz] at this; exact this)
   obtain ⟨dp,dCap,hxe,hxd⟩:=hx K' ρ _ a w hS (h1 x m1) _ hn (fun e2 xs2 h2=>by rw [hl] at h2; cases h2; rfl) hfit
   have hys:=lst_sl (fun b hb=>hb.1) (hS.lst ((h1 y m2).trans hy))
   obtain ⟨r,w',hrun,hfr,hrow⟩:=run_copyTo (P:=P) (w:=w) (dT:=T) (sT:=T') (ty:=o.type) hu hsz (dCap:=dCap) hown hxd hfit hys (byteV_one _)
   refine ⟨r,w',?_,hfr.mono fun b _ hb=>(hF b).2 hb,fun I hE=>⟨hF,hblk,List.take off cs ++ List.take n (List.map byteV ys) ++ List.drop (off + (List.take n (List.map byteV ys)).length) cs,?_,?_⟩⟩
   · simp [execOp,ho,resolve,invoke,builtin,hxe,hrun]
   · have e3 : List.length (α:=El .u8) (laid xs off n ys) = List.length (α:=El .u8) xs:=laid_length xs ys hfit
     show w'.ownsRow 0 e' 1 (ρ d).hdr (List.length (α:=El .u8) (laid xs off n ys)) _
     rw [e3]
     exact hrow
   · rw [hcs]
     have e1:=laid_map xs ys off n
     rw [e1]
     exact bytes_recs I w' _
 · exact h.elim
theorem snd_copy (hP : TblOK P tt) {T T' : TypeId} {x y : Operand} {c : Call} (ho : o.op = .call c) (hc1 : c.callee = .builtin .copy) (hc2 : c.args.toList = [x,y]) (hc3 : c.argTypes.toList = [T,T']) (h : vcCopy tt T (opv K x) (opv K y) B k) : Snd P N ids o K B k:=by
 unfold vcCopy at h
 split at h
 · rename_i e te he
   split at h
   · rename_i ys h8 hy
     split at h
     · rename_i d hx
       split at h
       · rename_i e' xs hl
         refine snd_copyTo hP ho hc1 hc2 hc3 he h8 hy (fun K' ρ I a w hS hk M hM hxs hfit=>⟨(ρ d).A,(ρ d).cap,?_,fun hp g cap hv _=>?_⟩) h
         · have:=hS.own (hk.trans hx)
           rw [this,hxs e' xs hl,← hM]
           rfl
         · unfold Pl.hdr at hv
           injection hv
       · exact h.elim
     · rename_i d s off n hx
       split at h
       · rename_i hs
         have:=Nat.eq_of_beq_eq_true hs
         subst this
         refine snd_copyTo hP ho hc1 hc2 hc3 he h8 hy (fun K' ρ I a w hS hk M hM hxs hfit=>⟨_,_,hS.os (hk.trans hx),fun hp g cap hv hMc=>?_⟩) h
         unfold Pl.hdr at hv
         injection hv with e1 e2 e3
         rw [if_neg (by omega),e1,Option.map_some,addr_add]
         simp
       · exact h.elim
     · exact h.elim
   · exact h.elim
 · exact h.elim
end
end Go.Proofs.YteoamepgonpdlaaGreat
/-
 Soundness of the conditions: calls; all operations together.
-/
set_option linter.unusedVariables false
set_option linter.unusedSimpArgs false
namespace Go.Proofs.YteoamepgonpdlaaGreat
open Go.RowKit
section
variable {P : Program} {tt : Tr} {N : Nat} {ids : List Nat} {o : Oper} {K : KL} {B : BL} {k : SV → Eff → Prop}
theorem subB_get : ∀ {Bi : BL} {B : BL},subB B Bi → ∀ {c ch},lookB Bi c = some ch → lookB B c = some ch
 | [],B,h,c,ch,hc=>by cases hc
 | (d,x) :: Bi,B,h,c,ch,hc=>by
   rw [lookB_cons] at hc
   split at hc
   · rename_i e
     subst e
     injection hc with hc
     subst hc
     exact h.1
   · exact subB_get h.2 hc
theorem keysB_mem : ∀ {B : BL} {c : Nat},c ∈ keysB B ↔ ∃ ch,lookB B c = some ch
 | [],c=>by simp [keysB,lookB]
 | (d,x) :: B,c=>by
   simp only [keysB,List.mem_cons,lookB_cons]
   by_cases e : d = c
   · subst e; simp
   · rw [if_neg e]
     constructor
     · rintro (h | h)
       · exact absurd h.symm e
       · exact keysB_mem.1 h
     · exact fun h=>.inr (keysB_mem.2 h)
theorem outOK_get : ∀ {Bi : BL} {nw : List Nat} {Bo : BL},outOK Bi nw Bo = true → ∀ {c},c ∈ keysB Bo → c ∈ keysB Bi ∨ c ∈ nw
 | Bi,nw,[],h,c,hc=>by simp [keysB] at hc
 | Bi,nw,(d,x) :: Bo,h,c,hc=>by
   simp only [outOK,Bool.and_eq_true,Bool.or_eq_true,List.contains_iff_mem] at h
   rcases List.mem_cons.1 hc with rfl | hc
   · exact h.1.1
   · exact outOK_get h.2 hc
theorem applyB_push : ∀ (Bo : BL) (Bi : BL) (nw : List Nat) (B : BL),outOK Bi nw Bo = true → ∀ c,lookB (applyB (effB [] Bo) B) c = (match lookB Bo c with | some ch=>some ch | none=>lookB B c)
 | [],_,_,B,_,c=>by simp [effB,pushB,applyB,lookB]
 | (d,x) :: Bo,Bi,nw,B,h,c=>by
   simp only [outOK,Bool.and_eq_true,Bool.not_eq_true'] at h
   show lookB (applyB (effB [] Bo) ((d,x) :: B)) c = _
   rw [applyB_push Bo Bi nw ((d,x) :: B) h.2 c,lookB_cons,lookB_cons]
   by_cases e : d = c
   · subst e
     have hn : lookB Bo d = none:=by
       cases hl : lookB Bo d with
       | none=>rfl
       | some ch =>
         have:=keysB_mem.2 ⟨ch,hl⟩
         have h2:=h.1.2
         rw [← Bool.not_eq_true,List.contains_iff_mem] at h2
         exact absurd this h2
     rw [hn,if_pos rfl,if_pos rfl]
   · rw [if_neg e,if_neg e]
theorem applyB_all : ∀ (Bi : BL) (Bi' : BL) (nw : List Nat) (Bo B : BL),outOK Bi' nw Bo = true → ∀ c,lookB (applyB (effB Bi Bo) B) c = (match lookB Bo c with | some ch=>some ch | none=>if c ∈ keysB Bi then none else lookB B c)
 | [],Bi',nw,Bo,B,h,c=>by
   rw [applyB_push Bo Bi' nw B h c]
   simp [keysB]
 | (d,x) :: Bi,Bi',nw,Bo,B,h,c=>by
   simp only [effB,applyB]
   rw [applyB_all Bi Bi' nw Bo (dropB B d) h c,lookB_dropB]
   cases lookB Bo c with
   | some ch=>rfl
   | none =>
     simp only [keysB,List.mem_cons]
     by_cases e : d = c
     · subst e; simp
     · by_cases e2 : c ∈ keysB Bi
       · simp [e2]
       · simp [e,e2,Ne.symm e]
theorem allFresh_get : ∀ {nw : List Nat},allFresh ids K B nw = true → ∀ c,c ∈ nw → freshB ids K B c = true
 | [],_,c,hc=>by cases hc
 | d :: nw,h,c,hc=>by
   simp only [allFresh,Bool.and_eq_true] at h
   rcases List.mem_cons.1 hc with rfl | hc
   · exact h.1.1
   · exact allFresh_get h.2 c hc
theorem exec_call {ev : Operand → Value} {f : FuncId} {c : Call} {xs : List Operand} {w : World} (hf : callable P f = true) (ho : o.op = .call c) (h1 : c.callee = .value (.func f)) (h2 : c.args.toList = xs) (hev : ev (.func f) = .func (.func f) #[] #[]) : (execOp ev o).run P w = .ok (.enter f (xs.map ev).toArray) w:=by
 have hargs : c.args = xs.toArray:=by rw [← h2]
 obtain ⟨cal,args,ts⟩:=c
 simp only at h1 hargs
 subst h1 hargs
 unfold callable at hf
 split at hf
 · rename_i fn hfn
   simp only [Bool.not_eq_true',Bool.or_eq_false_iff,beq_eq_false_iff_ne] at hf
   have h2 : ¬ fn.body = none:=fun e=>by rw [e] at hf; simp at hf
   simp [execOp,ho,resolve,invoke,hev,Deferred.ofValue,callFunc,go_sem,hfn]
   rw [if_neg hf.1,if_neg h2]
 · cases hf
theorem args_den {xs : List Operand} (mem : ∀ z ∈ xs,z ∈ o.op.operands) {K' : KL} {ρ : Nat → Pl} {I : Nat → Prop} {a : Act} {w : World} (g1 : ∀ x,x ∈ o.op.operands → opv K' x = opv K x) (hS : Slots K' ρ I a w) (i : Nat) (v : SV) (x : Value) (hv : (xs.map (opv K))[i]? = some v) (hx : (xs.map a.eval)[i]? = some x) : DenV ρ I w v x:=by
 rw [List.getElem?_map] at hv hx
 cases hi : xs[i]? with
 | none=>rw [hi] at hv; cases hv
 | some z =>
   rw [hi] at hv hx
   simp only [Option.map_some,Option.some.injEq] at hv hx
   subst hv hx
   rw [← g1 z (mem z (List.mem_of_getElem? hi))]
   exact hS.get z
theorem snd_call_gen {f : FuncId} {args : List SV} {xs : List Operand} (mem : ∀ z ∈ xs,z ∈ o.op.operands)
   (hex : ∀ (K' : KL) (ρ : Nat → Pl) (I : Nat → Prop) (a : Act) (w : World),(∀ x,x ∈ o.op.operands → opv K' x = opv K x) → Slots K' ρ I a w → ∃ vals : List Value,(callable P f = true → (execOp a.eval o).run P w = .ok (.enter f vals.toArray) w) ∧ vals.length = args.length ∧ ∀ (i : Nat) (v : SV) (x : Value),args[i]? = some v → vals[i]? = some x → DenV ρ I w v x)
   (h : vcCall P f args ids K B k) : Snd P N ids o K B k:=by
 obtain ⟨Bi,nw,res,Bo,⟨hcall,hfn⟩,hsub,hok,h⟩:=h
 rw [forceV_eq] at h
 simp only [Bool.and_eq_true] at hok
 have hout:=hok.2
 refine ⟨_,_,h,?_,allFresh_get hok.1⟩
 rintro K' B' g1 g2 g3 C a w ⟨hn,hd,ρ,F,hM,hS⟩ hlt Kn Q hK
 have hBi : ∀ {c ch},lookB Bi c = some ch → lookB B' c = some ch:=fun {c ch} hc=>(g2 c (keysB_mem.2 ⟨ch,hc⟩)).trans (subB_get hsub hc)
 have hfresh : ∀ c ∈ nw,(∀ s,(look K' s).has c = false) ∧ lookB B' c = none ∧ (∀ d ch,lookB B' d = some ch → ch.has c = false) ∧ c ∉ ids:=fun c hc=>fresh_of (g3 c hc)
 obtain ⟨vals,hrun,hvl,hvd⟩:=hex K' ρ _ a w g1 hS
 have hc:=hfn ρ F (Imm C B' F w) w vals (fun b hb=>hb.1) (fun c ch hc=>hM.holds c ch (hBi hc)) (fun c ch hc b hb=>⟨(hM.own c ch (hBi hc) b hb).1,fun hI=>hI.2.2 c ch (hBi hc) hb⟩)
   (fun c c' ch ch' b h1 h2=>hM.disj c c' ch ch' b (hBi h1) (hBi h2)) hvl hvd
 unfold Oper.wp
 rw [hrun hcall,Oper.upon_enter]
 refine hc.mono ?_
 rintro e w' ⟨x,ρ',F',rfl,hfr,hρ,I',he1,he2,hH,hO,hDj,hden⟩
 have hlk : ∀ c,lookB (applyB (effB Bi Bo) B') c = (match lookB Bo c with | some ch=>some ch | none=>if c ∈ keysB Bi then none else lookB B' c):=applyB_all Bi Bi nw Bo B' hout
 have hpart : ∀ c ch,lookB (applyB (effB Bi Bo) B') c = some ch → lookB Bo c = some ch ∨ (lookB Bo c = none ∧ c ∉ keysB Bi ∧ lookB B' c = some ch):=fun c ch hc=>by
   rw [hlk] at hc
   cases hb : lookB Bo c with
   | some ch'=>rw [hb] at hc; exact .inl hc
   | none =>
     rw [hb] at hc
     simp only at hc
     split at hc
     · cases hc
     · rename_i hk; exact .inr ⟨rfl,hk,hc⟩
 let F2 : Nat → Nat → Prop:=fun c=>if c ∈ keysB Bo then F' c else F c
 have hF2 : ∀ c ch,lookB Bo c = some ch → F2 c = F' c:=fun c ch hc=>if_pos (keysB_mem.2 ⟨ch,hc⟩)
 have hF2' : ∀ c,lookB Bo c = none → F2 c = F c:=fun c hc=>if_neg (fun hk=>by
   obtain ⟨ch,h⟩:=keysB_mem.1 hk
   rw [hc] at h; cases h)
 have hM1 : ∀ c ch,lookB Bo c = some ch → c ∈ keysB Bi ∨ c ∈ nw:=fun c ch hc=>outOK_get hout (keysB_mem.2 ⟨ch,hc⟩)
 have hnM : ∀ c ch,lookB (applyB (effB Bi Bo) B') c = some ch → (c ∈ keysB Bi ∨ c ∈ nw) → lookB Bo c = some ch:=fun c ch hc hM'=>by
   rcases hpart c ch hc with h | ⟨h1,h2,h3⟩
   · exact h
   · rcases hM' with h | h
     · exact absurd h h2
     · rw [(hfresh c h).2.1] at h3; cases h3
 have hI2 : Ext I' w' (Imm C (applyB (effB Bi Bo) B') F2 w') w':=fun b hb=>by
   obtain ⟨e1,e2⟩:=he2 b hb
   refine ⟨⟨e1,?_,fun c ch hc hF=>?_⟩,rfl⟩
   · rcases e2 with e2 | ⟨c,ch,e2,e3⟩ | e2
     · exact e2.2.1
     · exact .inr ((hM.own c ch (hBi e2) b e3).2)
     · exact .inr (.inr (hM.fresh e2))
   · rcases hpart c ch hc with h | ⟨h1,h2,h3⟩
     · rw [hF2 c ch h] at hF
       exact (hO c ch h b hF).2.1 hb
     · rw [hF2' c h1] at hF
       rcases e2 with e2 | ⟨d,ch',e2,e3⟩ | e2
       · exact e2.2.2 c ch h3 hF
       · exact hM.disj d c ch' ch b (hBi e2) h3 (fun e=>h2 (e ▸ keysB_mem.2 ⟨ch',e2⟩)) e3 hF
       · have:=(hM.own c ch h3 b hF).1; omega
 obtain ⟨hM',hE⟩:=hM.step (B':=applyB (effB Bi Bo) B') (ρ':=ρ') (F':=F2) (w':=w') (fun c=>c ∈ keysB Bi ∨ c ∈ nw) (fun c=>c ∈ nw)
   (hfr.mono fun b _ ⟨c,ch,h1,h2⟩=>⟨c,ch,hBi h1,.inl (keysB_mem.2 ⟨ch,h1⟩),h2⟩)
   (fun c ch hc hn=>by
     rcases hpart c ch hc with h | ⟨_,_,h3⟩
     · exact absurd (hM1 c ch h) hn
     · exact h3)
   hρ
   (fun c hn=>by
     cases hb : lookB Bo c with
     | none=>exact hF2' c hb
     | some ch=>exact absurd (hM1 c ch hb) hn)
   (fun c hc hn=>(hfresh c hn).2.2.2 hc) (fun c h=>.inr h)
   (fun c ch hc _ d hd hn=>by rw [(hfresh d hn).2.2.1 c ch hc] at hd; cases hd)
   (fun c ch hc hM' _=>by
     have hb:=hnM c ch hc hM'
     rw [hF2 c ch hb]
     exact Holds.stable hI2 (fun _ _=>rfl) (Nat.le_refl _) ch (fun _ _=>rfl) (hH c ch hb))
   (fun c ch hc hM' b hb=>by
     have hbo:=hnM c ch hc hM'
     rw [hF2 c ch hbo] at hb
     obtain ⟨e1,_,e3⟩:=hO c ch hbo b hb
     refine ⟨e1,e3.imp (fun ⟨c0,ch0,h1,h2⟩=>⟨c0,ch0,hBi h1,.inl (keysB_mem.2 ⟨ch0,h1⟩),h2⟩) id⟩)
   (fun c c' ch ch' b hc hc' hM1 hM2 hne hb hb'=>by
     have h1:=hnM c ch hc hM1
     have h2:=hnM c' ch' hc' hM2
     rw [hF2 c ch h1] at hb
     rw [hF2 c' ch' h2] at hb'
     exact hDj c c' ch ch' b h1 h2 hne hb hb')
 refine hK _ _ ⟨put_size.trans hn,put_defers.trans hd,ρ',F2,hM',(hS.mono hE fun s d hd=>hρ d fun hn=>by rw [(hfresh d hn).1 s] at hd; cases hd).putO (fun e he=>by rw [hn]; exact hlt e he) (DenV.mono hI2 _ _ (fun _ _=>rfl) hden)⟩
theorem snd_call {f : FuncId} {c : Call} {xs : List Operand} (ho : o.op = .call c) (h1 : c.callee = .value (.func f)) (h2 : c.args.toList = xs) (h : vcCall P f (xs.map (opv K)) ids K B k) : Snd P N ids o K B k:=by
 have mem : ∀ z ∈ xs,z ∈ o.op.operands:=fun z hz=>by
   rw [ho]
   simp only [Op.operands,Call.operands,Array.mem_append]
   exact .inr (Array.mem_toList_iff.1 (by rw [h2]; exact hz))
 exact snd_call_gen mem (fun K' ρ I a w g1 hS=>⟨xs.map a.eval,fun hcall=>exec_call hcall ho h1 h2 rfl,by simp,args_den mem g1 hS⟩) h
theorem capOf_den {ρ : Nat → Pl} {I : Nat → Prop} {w : World} : ∀ (vs : List SV) (l : List Cap) (us : List Value),capOf vs = some l → us.length = vs.length → (∀ (i : Nat) (v : SV) (x : Value),vs[i]? = some v → us[i]? = some x → DenV ρ I w v x) → DenCaps ρ I w l us
 | [],l,us,h,hl,_=>by
   simp only [capOf,Option.some.injEq] at h
   subst h
   exact List.eq_nil_of_length_eq_zero hl
 | v :: vs,l,[],h,hl,_=>by simp at hl
 | v :: vs,l,u :: us,h,hl,hd=>by
   have ih:=fun r hr=>capOf_den vs r us hr (by simpa using hl) (fun i v x hv hx=>hd (i + 1) v x (by simpa using hv) (by simpa using hx))
   have h0:=hd 0 v u rfl rfl
   unfold capOf at h
   split at h
   · rename_i e; simp at e
   · rename_i c o vs' e
     injection e with e1 e2
     subst e1 e2
     split at h
     · rename_i r hr
       injection h with h
       subst h
       exact ⟨u,us,rfl,h0,ih r hr⟩
     · cases h
   · rename_i x vs' e
     injection e with e1 e2
     subst e1 e2
     split at h
     · rename_i r hr
       injection h with h
       subst h
       exact ⟨u,us,rfl,h0,ih r hr⟩
     · cases h
   · cases h
theorem snd_func {f : FuncId} {fs cs : Array Operand} (ho : o.op = .makeFunc (.func f) fs cs) (h : match fs.toList,capOf (cs.toList.map (opv K)) with
   | [],some l=>k (.c (.one (.clo f l))) e0
   | _,_=>False) : Snd P N ids o K B k:=by
 split at h
 · rename_i l hfs hl
   have mem : ∀ z ∈ cs.toList,z ∈ o.op.operands:=fun z hz=>by
     rw [ho]
     simp only [Op.operands,Array.mem_append]
     exact .inr (Array.mem_toList_iff.1 hz)
   refine Snd.of h <| OpOK.val fun K' B' g1 g2 C ρ F a w hM hS=>?_
   have hfs' : fs = #[]:=Array.toList_eq_nil_iff.1 hfs
   refine ⟨.func (.func f) #[] (List.toArray (cs.toList.map a.eval)),(by
     have e : cs.map a.eval = List.toArray (cs.toList.map a.eval):=Array.toList_inj.1 (by simp)
     simp [execOp,ho,Instr.makeFunc,hfs',e]),_,rfl,?_⟩
   exact capOf_den _ l _ hl (by simp) (args_den mem g1 hS)
 · exact h.elim
theorem exec_callv {ev : Operand → Value} {f : FuncId} {c : Call} {x : Operand} {xs : List Operand} {cs : List Value} {w : World} (hf : callable P f = true) (ho : o.op = .call c) (h1 : c.callee = .value x) (h2 : c.args.toList = xs) (hev : ev x = .func (.func f) #[] (List.toArray cs)) : (execOp ev o).run P w = .ok (.enter f (xs.map ev ++ cs).toArray) w:=by
 have hargs : c.args = xs.toArray:=by rw [← h2]
 obtain ⟨cal,args,ts⟩:=c
 simp only at h1 hargs
 subst h1 hargs
 unfold callable at hf
 split at hf
 · rename_i fn hfn
   simp only [Bool.not_eq_true',Bool.or_eq_false_iff,beq_eq_false_iff_ne] at hf
   have h2 : ¬ fn.body = none:=fun e=>by rw [e] at hf; simp at hf
   simp [execOp,ho,resolve,invoke,hev,Deferred.ofValue,callFunc,go_sem,hfn]
   rw [if_neg hf.1,if_neg h2]
 · cases hf
theorem DenCaps.vals {ρ : Nat → Pl} {I : Nat → Prop} {w : World} : ∀ (l : List Cap) (vs : List Value),DenCaps ρ I w l vs → vs.length = (capV l).length ∧ ∀ (i : Nat) (v : SV) (x : Value),(capV l)[i]? = some v → vs[i]? = some x → DenV ρ I w v x
 | [],vs,h=>by rw [show vs = [] from h]; exact ⟨rfl,fun i v x hv=>by simp [capV] at hv⟩
 | .p c o :: l,_,⟨v,r,e,h1,h2⟩=>by
   subst e
   obtain ⟨g1,g2⟩:=DenCaps.vals l r h2
   refine ⟨by simp [capV,g1],fun i u x hu hx=>?_⟩
   match i with
   | 0 =>
     simp only [capV,List.getElem?_cons_zero,Option.some.injEq] at hu hx
     subst hu hx
     exact h1
   | i + 1=>exact g2 i u x (by simpa [capV] using hu) (by simpa using hx)
 | .d y :: l,_,⟨v,r,e,h1,h2⟩=>by
   subst e
   obtain ⟨g1,g2⟩:=DenCaps.vals l r h2
   refine ⟨by simp [capV,g1],fun i u x hu hx=>?_⟩
   match i with
   | 0 =>
     simp only [capV,List.getElem?_cons_zero,Option.some.injEq] at hu hx
     subst hu hx
     exact h1
   | i + 1=>exact g2 i u x (by simpa [capV] using hu) (by simpa using hx)
theorem snd_callv {f : FuncId} {c : Call} {t : Nat} {l : List Cap} {xs : List Operand} (ho : o.op = .call c) (h1 : c.callee = .value (.tmp t)) (h2 : c.args.toList = xs) (hl : look K t = .c (.one (.clo f l))) (h : vcCall P f (xs.map (opv K) ++ capV l) ids K B k) : Snd P N ids o K B k:=by
 have mem : ∀ z ∈ xs,z ∈ o.op.operands:=fun z hz=>by
   rw [ho]
   simp only [Op.operands,Call.operands,Array.mem_append]
   exact .inr (Array.mem_toList_iff.1 (by rw [h2]; exact hz))
 have mt : Operand.tmp t ∈ o.op.operands:=by
   rw [ho]
   simp only [Op.operands,Call.operands,Array.mem_append,h1]
   exact .inl (by simp)
 refine snd_call_gen mem (fun K' ρ I a w g1 hS=>?_) h
 have hv:=hS (t)
 have hk : look K' t = look K t:=g1 (.tmp t) mt
 rw [hk,hl] at hv
 obtain ⟨vs,e,hc⟩:=hv
 obtain ⟨q1,q2⟩:=DenCaps.vals l vs hc
 refine ⟨xs.map a.eval ++ vs,fun hcall=>exec_callv hcall ho h1 h2 e,by simp [q1],fun i v x hv hx=>?_⟩
 by_cases hi : i < xs.length
 · rw [List.getElem?_append_left (by simpa using hi)] at hv hx
   exact args_den mem g1 hS i v x hv hx
 · rw [List.getElem?_append_right (by simp; omega)] at hv hx
   simp only [List.length_map] at hv hx
   exact q2 _ v x hv hx
theorem ptrsV_len : ∀ bs : List Nat,(ptrsV bs).length = (adrV bs).length
 | []=>rfl
 | b :: l=>by simp [ptrsV,adrV,ptrsV_len l]
theorem ptrsV_den {ρ : Nat → Pl} {I : Nat → Prop} {w : World} : ∀ (bs : List Nat) (i : Nat) (u : SV) (x : Value),(adrV bs)[i]? = some u → (ptrsV bs)[i]? = some x → DenV ρ I w u x
 | [],i,u,x,hu,_=>by simp [adrV] at hu
 | b :: l,0,u,x,hu,hx=>by
   simp only [adrV,ptrsV,List.getElem?_cons_zero,Option.some.injEq] at hu hx
   subst hu hx
   exact rfl
 | b :: l,i + 1,u,x,hu,hx=>by
   simp only [adrV,ptrsV,List.getElem?_cons_succ] at hu hx
   exact ptrsV_den l i u x hu hx
theorem snd_callf {c : Call} {t : Nat} {y : Nat × List Nat} {xs : List Operand} (ho : o.op = .call c) (h1 : c.callee = .value (.tmp t)) (h2 : c.args.toList = xs) (hl : look K t = .c (.one (.d (.fn y)))) (h : vcCall P y.1 (xs.map (opv K) ++ adrV y.2) ids K B k) : Snd P N ids o K B k:=by
 have mem : ∀ z ∈ xs,z ∈ o.op.operands:=fun z hz=>by
   rw [ho]
   simp only [Op.operands,Call.operands,Array.mem_append]
   exact .inr (Array.mem_toList_iff.1 (by rw [h2]; exact hz))
 have mt : Operand.tmp t ∈ o.op.operands:=by
   rw [ho]
   simp only [Op.operands,Call.operands,Array.mem_append,h1]
   exact .inl (by simp)
 refine snd_call_gen mem (fun K' ρ I a w g1 hS=>?_) h
 have hv:=hS (t)
 have hk : look K' t = look K t:=g1 (.tmp t) mt
 rw [hk,hl] at hv
 have e : a.tmps.getD t undef = .func (.func y.1) #[] (List.toArray (ptrsV y.2)):=hv
 refine ⟨xs.map a.eval ++ ptrsV y.2,fun hcall=>exec_callv hcall ho h1 h2 e,by simp [ptrsV_len],fun i v x hv hx=>?_⟩
 by_cases hi : i < xs.length
 · rw [List.getElem?_append_left (by simpa using hi)] at hv hx
   exact args_den mem g1 hS i v x hv hx
 · rw [List.getElem?_append_right (by simp; omega)] at hv hx
   simp only [List.length_map] at hv hx
   exact ptrsV_den _ _ v x hv hx
theorem snd_len (hP : TblOK P tt) {T : TypeId} {x : Operand} {c : Call} (ho : o.op = .call c) (hc1 : c.callee = .builtin .len) (hc2 : c.args.toList = [x]) (hc3 : c.argTypes.toList = [T]) (h : match lenV tt T B (opv K x) with
   | some (n,rc)=>k (.c (.one (.d (.int .i64 (n : Int))))) ⟨rc,[],[]⟩
   | none=>False) : Snd P N ids o K B k:=by
 have hargs : c.args = #[x]:=Array.toList_inj.1 hc2
 have hts : c.argTypes = #[T]:=Array.toList_inj.1 hc3
 obtain ⟨cal,args,ts⟩:=c
 simp only at hc1 hargs hts
 subst hc1 hargs hts
 have m1 : x ∈ o.op.operands:=by rw [ho]; simp [Op.operands,Call.operands]
 have run : ∀ {ev : Operand → Value} {w : World} {A : Option Addr} {n cap : Nat} {e : Nat},ev x = .slice A n cap → P.underlying T = some (.slice e) → (execOp ev o).run P w = .ok (.value (.int .i64 (n : Int))) w:=fun {ev w A n cap e} h1 ht=>by
   simp [execOp,ho,h1,resolve,invoke,builtin,Builtin.len_,run_underlying ht,goInt]
 split at h
 · rename_i n rc hn
   refine Snd.of h ?_
   unfold lenV at hn
   split at hn
   · rename_i s hx
     split at hn
     · rename_i hT
       injection hn with hn
       injection hn with e1 e2
       subst e1 e2
       refine OpOK.one hx m1 fun K' ρ I a w hS e=>⟨_,?_,rfl⟩
       simp [execOp,ho,hS.str e,resolve,invoke,builtin,Builtin.len_,run_underlying (isStr_ok hP hT),goInt,size_mk]
     · cases hn
   · rename_i u xs hx
     split at hn
     · rename_i p he
       obtain ⟨hu,_⟩:=elem_ok hP (e:=p.1) (te:=p.2) he
       injection hn with hn
       injection hn with e1 e2
       subst e1 e2
       refine OpOK.one hx m1 fun K' ρ I a w hS e=>?_
       obtain ⟨A,cap,e3,_⟩:=hS.lst e
       injection e3 with e3
       exact ⟨_,run e3 hu,rfl⟩
     · cases hn
   · rename_i hx
     split at hn
     · rename_i p he
       obtain ⟨hu,_⟩:=elem_ok hP (e:=p.1) (te:=p.2) he
       injection hn with hn
       injection hn with e1 e2
       subst e1 e2
       exact OpOK.one hx m1 fun K' ρ I a w hS e=>⟨_,run (hS.nils e) hu,rfl⟩
     · cases hn
   · rename_i cc hx
     split at hn
     · rename_i p he
       obtain ⟨hu,_⟩:=elem_ok hP (e:=p.1) (te:=p.2) he
       split at hn
       · rename_i e' u xs hl
         injection hn with hn
         injection hn with e1 e2
         subst e1 e2
         refine OpOK.val fun K' B' g1 g2 C ρ F a w hM hS=>?_
         obtain ⟨hF,hblk,cs,hown,_⟩:=hM.holds cc _ ((g2 cc (by simp)).trans hl)
         have hx':=hS.own ((g1 x m1).trans hx)
         obtain ⟨_,A,cap,hv,_⟩:=Sl.of_own hown
         exact ⟨_,run (hx'.trans hv) hu,rfl⟩
       · cases hn
     · cases hn
   · rename_i cc hx
     split at hn
     · rename_i p hT
       split at hn
       · rename_i ku vu es hl
         injection hn with hn
         injection hn with e1 e2
         subst e1 e2
         refine OpOK.val fun K' B' g1 g2 C ρ F a w hM hS=>?_
         obtain ⟨hF,ents,clock,hb,hm,hB⟩:=hM.holds cc _ ((g2 cc (by simp)).trans hl)
         have hx':=hS.mp ((g1 x m1).trans hx)
         refine ⟨.int .i64 (es.length : Int),?_,rfl⟩
         rw [← mapU_length hm]
         simp [execOp,ho,hx',resolve,invoke,builtin,Builtin.len_,run_underlying (mapTy_ok hP (kt:=p.1) (et:=p.2) hT),goInt,MapKept.run_getObj_map hb]
       · cases hn
     · cases hn
   · cases hn
 · exact h.elim
theorem snd_min {x y : Operand} {c : Call} {bi : Builtin} (hbi : bi = .min ∨ bi = .max) (ho : o.op = .call c) (hc1 : c.callee = .builtin bi) (hc2 : c.args.toList = [x,y]) (h : match opv K x,opv K y with
   | .c (.one (.d (.int .i64 a))),.c (.one (.d (.int .i64 b)))=>k (.c (.one (.d (.int .i64 (if bi = .min then min a b else max a b))))) e0
   | _,_=>False) : Snd P N ids o K B k:=by
 have hargs : c.args = #[x,y]:=Array.toList_inj.1 hc2
 obtain ⟨cal,args,ts⟩:=c
 simp only at hc1 hargs
 subst hc1 hargs
 have m1 : x ∈ o.op.operands:=by rw [ho]; simp [Op.operands,Call.operands]
 have m2 : y ∈ o.op.operands:=by rw [ho]; simp [Op.operands,Call.operands]
 split at h
 · rename_i a b hx hy
   refine Snd.of h <| OpOK.two hx hy m1 m2 fun K' ρ I ac w hS e1 e2=>⟨_,?_,rfl⟩
   rcases hbi with rfl | rfl
   · have e : (if b < a then b else a) = min a b:=by rw [Int.min_def]; split <;> split <;> omega
     simp [execOp,ho,hS.int e1,hS.int e2,resolve,invoke,builtin,run_min_int2,e]
   · have e : (if b > a then b else a) = max a b:=by rw [Int.max_def]; split <;> split <;> omega
     simp only [gt_iff_lt] at e
     simp [execOp,ho,hS.int e1,hS.int e2,resolve,invoke,builtin,run_max_int2,e]
 · exact h.elim
theorem TIok.bool {P : Program} {T : Nat} {ti : TI} {i : TypeInfo} {d : TypeDesc} (h : TIok P T ti i d) (hk : ti.kd = .bool) : P.underlying T = some .bool:=by
 have:=h.kd
 rw [hk] at this
 rw [h.und]
 cases d <;> simp [kdOK] at this ⊢
theorem isBool_ok (hP : TblOK P tt) {T : Nat} (h : isBool tt T = true) : P.underlying T = some .bool:=by
 unfold isBool at h
 split at h
 · rename_i ti hti
   split at h
   · rename_i hk
     obtain ⟨_,_,hok⟩:=hP.at_ hti
     exact hok.bool hk
   · cases h
 · cases h
theorem isPtr_ok (hP : TblOK P tt) {T : Nat} (h : isPtr tt T = true) : ∃ e,P.underlying T = some (.pointer e):=by
 unfold isPtr at h
 split at h
 · rename_i ti hti
   split at h
   · rename_i e hk
     obtain ⟨_,_,hok⟩:=hP.at_ hti
     exact ⟨e,hok.ptr hk⟩
   · cases h
 · cases h
theorem isPtrE_ok (hP : TblOK P tt) {T : Nat} (h : isPtrE tt T = true) : ∃ e i,P.underlying T = some (.pointer e) ∧ P.info? e = some i ∧ i.size ≠ 0:=by
 unfold isPtrE at h
 split at h
 · rename_i ti hti
   split at h
   · rename_i e hk
     split at h
     · rename_i te hte
       obtain ⟨_,_,hok⟩:=hP.at_ hti
       obtain ⟨i,_,ok2⟩:=hP.at_ hte
       exact ⟨e,i,hok.ptr hk,ok2.info,by rw [ok2.size]; exact ok2.pos⟩
     · cases h
   · cases h
 · cases h
theorem snd_any (h : vcAny P ids o K B k) : Snd P N ids o K B k:=by
 obtain ⟨v,e,h1,h2,h3⟩:=h
 rw [forceV_eq] at h3
 exact ⟨v,e,h3,h1 N,allFresh_get h2⟩
set_option maxHeartbeats 1000000 in
/-- ALL OPERATIONS. -/
theorem vcOp0_sound (hP : TblOK P tt) (h : vcOp0 P tt ids o K B k) : Snd P N ids o K B k:=by
 unfold vcOp0 at h
 split at h
 · exact snd_move (.inl ‹_›) h
 · exact snd_move (.inr ‹_›) h
 · exact snd_pick ‹_› h
 · rename_i op T x y T2 ho
   have fin : (∃ v,k v e0 ∧ OpOK P N ids o K B v e0) → Snd P N ids o K B k:=fun ⟨v,h1,h2⟩=>Snd.of h1 h2
   split at h
   · rename_i hT; exact fin (vcPtr_sound ho (fun T=>isPtrE_ok hP) (isPtr_ok hP hT) h)
   · rename_i hT; exact fin (vcPtr_sound ho (fun T=>isPtrE_ok hP) (isPtr_ok hP hT) h)
   · split at h
     · exact h.elim
     · exact h.elim
     · rename_i hx
       split at h
       · rename_i hb; exact fin (vcBB_sound ho (isBool_ok hP hb) (.inl hx) h)
       · exact h.elim
     · rename_i hx
       split at h
       · rename_i hb; exact fin (vcBB_sound ho (isBool_ok hP hb) (.inr hx) h)
       · exact h.elim
     · rename_i h1 h2 _ _
       exact fin (vcBin_sound ho (.inr fun c d=>⟨h1 c d,h2 _⟩) h)
   · exact h.elim
 · exact snd_not ‹_› h
 · exact snd_extract ‹_› h
 · exact snd_nilCheck ‹_› h
 · exact snd_field hP ‹_› h
 · exact snd_load hP ‹_› h
 · exact snd_store hP ‹_› h
 · exact snd_alloc hP ‹_› h
 · exact snd_box hP ‹_› h
 · exact snd_build hP ‹_› h
 · rename_i T ps ho
   split at h
   · rename_i hps
     exact snd_slice0 hP ho h hps
   · exact h.elim
 · rename_i T n ps hn ho
   exact snd_sliceN hP ho hn h
 · exact snd_indexAddr hP ‹_› h
 · exact snd_index hP ‹_› h
 · rename_i ho
   split at h
   · rename_i hx
     exact snd_sliceOwn hP ho hx h
   · rename_i c o hx
     split at h
     · rename_i ho0
       have:=Nat.eq_of_beq_eq_true ho0
       subst this
       exact snd_sliceArr hP ho hx h
     · exact h.elim
   · exact snd_slice hP ho h
 · exact snd_toArr hP ‹_› h
 · exact snd_conv hP ‹_› h
 · exact snd_lookup hP ‹_› h
 · exact snd_update hP ‹_› h
 · exact snd_makeMap hP ‹_› h
 · exact snd_func ‹_› h
 · exact snd_make hP ‹_› h
 · rename_i c ho
   split at h
   · rename_i f h1
     exact snd_call ho h1 rfl h
   · rename_i t h1
     split at h
     · rename_i f l hl
       exact snd_callv ho h1 rfl hl h
     · rename_i x hl
       exact snd_callf ho h1 rfl hl h
     · exact h.elim
   · rename_i x h1 h2
     split at h
     · rename_i T hT
       exact snd_len hP ho h1 h2 hT h
     · exact h.elim
   · rename_i x y h1 h2
     split at h
     · rename_i T T' hT
       exact snd_delete hP ho h1 h2 hT h
     · exact h.elim
   · rename_i x y h1 h2
     refine snd_min (bi:=.min) (.inl rfl) ho h1 h2 ?_
     simp only [if_pos rfl]
     exact h
   · rename_i x y h1 h2
     refine snd_min (bi:=.max) (.inr rfl) ho h1 h2 ?_
     simp only [reduceCtorEq,if_false]
     exact h
   · rename_i x y h1 h2
     split at h
     · rename_i T T' hT
       exact snd_copy hP ho h1 h2 hT h
     · exact h.elim
   · rename_i x y h1 h2
     split at h
     · rename_i T T' hT
       split at h
       · rename_i he
         have:=Nat.eq_of_beq_eq_true he
         subst this
         exact snd_append hP ho h1 h2 hT h
       · exact snd_appendS hP ho h1 h2 hT h
     · exact h.elim
   · exact snd_any h
 · exact snd_any h
theorem vcOp_sound (hP : TblOK P tt) (h : vcOp P tt ids o K B k) : Snd P N ids o K B k:=by
 unfold vcOp at h
 split at h
 · exact snd_any h
 · exact vcOp0_sound hP h
end
end Go.Proofs.YteoamepgonpdlaaGreat
