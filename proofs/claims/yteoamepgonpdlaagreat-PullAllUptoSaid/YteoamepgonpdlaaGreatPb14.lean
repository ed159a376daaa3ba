/-
Part 14 of the proof that stands in YteoamepgonpdlaaGreatPbRow, with what it needs from the parts ahead; the parts of this text: Rx, Qf, Lz, Qg, Rr, Qh, Qr.
-/
import Derived.Test.YteoamepgonpdlaaGreatPb13
/-!
  Rows of extents: a field of one in a row of one's own is written; span: add, end, Of; chains: Row.
-/
namespace Go.Proofs.YteoamepgonpdlaaGreat
set_option linter.unusedVariables false
set_option linter.unusedSimpArgs false
set_option maxRecDepth 10000
open Go.RowKit Go.Proofs
section
variable {P : Program} {ids : List Nat} {K : KL} {B : BL}
/-- One cell of one of a row's things is written. -/
theorem opOK_rowSet {o : Oper} {T : TypeId} {x v : Operand} {c i off : Nat} {e : TypeId} {u : U} {xs : List (El u)} {y y' : El u} {dv : D} {inf : TypeInfo} (ho : o.op = .store T x v) (hi : P.info? T = some inf) (hz : inf.size = 1) (hx : opv K x = .c (.one (.rp c (sz u) i off)))
   (hv : opv K v = .c (.one (.d dv))) (hB : lookB B c = some (.row e u xs)) (hy : lget xs i = some y) (hoff : off < sz u) (hwf : WfU u y') (hc : ∀ j,j < sz u → cellU u y' j = if j = off then dv else cellU u y j)
   (h1 : ∀ {I : Nat → Prop} {w : World} {z : Value},Den I w dv z → z.cells = List.toArray [z] ∧ z.oneCell' = true) (N : Nat) :
   OpOK P N ids o K B .undef ⟨[c],[],[(c,some (.row e u (xs.set i y')))]⟩:=by
 have m1 : x ∈ o.op.operands:=by rw [ho]; simp [Op.operands]
 have m2 : v ∈ o.op.operands:=by rw [ho]; simp [Op.operands]
 have hil : i < xs.length:=lget_lt hy
 refine OpOK.turn hB fun K' B' g1 C ρ F a w hM hS hl'=>?_
 obtain ⟨hF,hblk,cs,hown,hrec⟩:=hM.holds c _ hl'
 have hxp:=hS.rp ((g1 x m1).trans hx)
 have e2 : Den (Imm C B' F w) w dv (a.eval v):=hS.ev ((g1 v m2).trans hv)
 obtain ⟨d1,d2⟩:=h1 e2
 obtain ⟨hl1,hown⟩:=hown
 rcases hown with ⟨_,h0⟩ | ⟨g,cap,cur,hv',_,hg,hcap,hm,hsz,ht⟩
 · omega
 · have hbg : g = (ρ c).blk:=hblk g (by rw [hv']; rfl)
   subst hbg
   have hmul : i * sz u + off < xs.length * sz u:=by
     have:=Nat.mul_le_mul_right (sz u) hil
     rw [Nat.succ_mul] at this
     omega
   have hmul2 : xs.length * sz u ≤ cap * sz u:=Nat.mul_le_mul_right _ hcap
   have hgt : w.heap[(ρ c).blk]? = some (.cells (List.toArray cur.toList) e (0,0)):=by simpa using hg
   have hfit : i * sz u + off + [a.eval v].length ≤ cur.toList.length:=by simp; omega
   have hex:=exec_store (P:=P) (ev:=a.eval) (w:=w) ho hxp d1 hi hz hgt hfit (by simpa using d2)
   refine ⟨_,hex,setRow_fr ((hF _).2 (by rw [hv']; rfl)),fun I he=>?_⟩
   have hnew:=setRow_heap w (ρ c).blk cur (List.take (i * sz u + off) cur.toList ++ [a.eval v] ++ List.drop (i * sz u + off + [a.eval v].length) cur.toList).toArray e (0,0) hg
   have hset : (List.take (i * sz u + off) cur.toList ++ [a.eval v] ++ List.drop (i * sz u + off + [a.eval v].length) cur.toList) = cur.toList.set (i * sz u + off) (a.eval v):=by
     rw [List.set_eq_take_append_cons_drop,if_pos (by simp; omega)]
     simp
   rw [hset] at hnew
   refine ⟨hF,hblk,cs.set (i * sz u + off) (a.eval v),⟨by simp [hl1],.inr ⟨(ρ c).blk,cap,_,by rw [hv']; simp,Nat.zero_le _,by rw [hset]; exact hnew,by simpa using hcap,hm,by simp [hsz],?_⟩⟩,fun j z hz=>?_⟩
   · rw [← ht]
     simp [List.take_set]
   · by_cases hji : i = j
     · subst hji
       rw [List.getElem?_set_self hil] at hz
       injection hz with hz
       subst hz
       have hd:=hrec i y hy
       refine DenU.mk u y' _ hwf fun q hq=>?_
       rw [hc q hq]
       by_cases hqo : q = off
       · rw [if_pos hqo]
         subst hqo
         exact ⟨a.eval v,by rw [List.getElem?_set_self (by omega)],Den.mono he _ _ e2⟩
       · rw [if_neg hqo]
         obtain ⟨x,hx,hx2⟩:=DenU.cell u y _ q hd hq
         exact ⟨x,by rw [List.getElem?_set_ne (by omega)]; exact hx,Den.mono he _ _ hx2⟩
     · rw [List.getElem?_set_ne hji] at hz
       have hd:=hrec j z hz
       refine DenU.mk u z _ (DenU.wf u z _ hd) fun q hq=>?_
       obtain ⟨x,hx,hx2⟩:=DenU.cell u z _ q hd hq
       refine ⟨x,?_,Den.mono he _ _ hx2⟩
       rw [List.getElem?_set_ne ?_]
       · exact hx
       · intro e
         have h1 : (i * sz u + off) / sz u = i:=by rw [Nat.mul_comm,Nat.mul_add_div (by omega),Nat.div_eq_of_lt hoff,Nat.add_zero]
         have h2 : (j * sz u + q) / sz u = j:=by rw [Nat.mul_comm,Nat.mul_add_div (by omega),Nat.div_eq_of_lt hq,Nat.add_zero]
         rw [e,h2] at h1
         exact hji h1.symm
end
theorem intCell {I : Nat → Prop} {w : World} {n : Int} {z : Value} (h : Den I w (.int .i64 n) z) : z.cells = List.toArray [z] ∧ z.oneCell' = true:=by
 have h : z = .int .i64 n:=h
 subst h
 exact ⟨rfl,rfl⟩
theorem intI : (Tryz.prog.info? 3).map (·.size) = some 1:=by kernel_rfl
/-! ### extents -/
@[reducible] def uEx : U:=.pr uI (.pr uI uI)
abbrev Xt:=Int × Int × Int
def exEnd (l : List Xt) : Int:=match l.getLast? with
 | none=>0
 | some x=>x.1 + x.2.1
/-- One place of a kind more. -/
def exAdd (l : List Xt) (n k : Int) : List Xt:=if n < 1 then l else match l.getLast? with
 | some x=>if x.2.2 = k then l.set (l.length - 1) (x.1,x.2.1 + n,x.2.2) else l ++ [(exEnd l,n,k)]
 | none=>l ++ [(exEnd l,n,k)]
theorem last_get {α : Type} {l : List α} {x : α} (h : l.getLast? = some x) : 0 < l.length ∧ lget l (l.length - 1) = some x:=by
 rw [List.getLast?_eq_getElem?] at h
 exact ⟨by have:=(List.getElem?_eq_some_iff.1 h).1; omega,h⟩
theorem last_none {α : Type} {l : List α} (h : l.getLast? = none) : l = []:=by simpa using h
theorem send_fn (l : List Xt) (hb : ∀ x,l.getLast? = some x → -4611686018427387904 ≤ x.1 ∧ x.1 ≤ 4611686018427387903 ∧ -4611686018427387904 ≤ x.2.1 ∧ x.2.1 ≤ 4611686018427387903) (hl : l.length ≤ 4294967296) :
   Fn Tryz.prog 131 [vOwn 1001] [(1001,.row 114 uEx l)] [] (vI (exEnd l)) [(1001,.row 114 uEx l)]:=by
 refine Fn.of tblOK [] _ _ _ _ _ Tryz.func131 rfl rfl (by kernel_rfl) (by kernel_rfl) rfl (drawOK tblOK) rfl ?_
 refine ⟨fun h=>?_,fun h=>?_⟩
 · have h : ((l.length : Nat) : Int) = 0:=of_decide_eq_true h
   have h0 : l = []:=List.length_eq_zero_iff.1 (by omega)
   subst h0
   exact ⟨_,_,_,Le.refl _ _,rfl,rfl,⟨rfl,trivial⟩,rfl⟩
 · have h : ¬ ((l.length : Nat) : Int) = 0:=of_decide_eq_false h
   cases hx : l.getLast? with
   | none=>rw [last_none hx] at h; exact absurd rfl h
   | some x =>
     have hb:=hb x hx
     obtain ⟨h0,hg⟩:=last_get hx
     have e : (((l.length : Nat) : Int) - 1).toNat = l.length - 1:=by omega
     have m : (-9223372036854775808 : Int) ≤ ((l.length : Nat) : Int) - 1 ∧ ((l.length : Nat) : Int) - 1 ≤ 9223372036854775807:=by omega
     have m2 : (0 : Int) ≤ ((l.length : Nat) : Int) - 1 ∧ (((l.length : Nat) : Int) - 1).toNat < l.length:=by omega
     have m3 : (-9223372036854775808 : Int) ≤ x.1 + x.2.1 ∧ x.1 + x.2.1 ≤ 9223372036854775807:=by omega
     have hg' : lget l (((l.length : Nat) : Int) - 1).toNat = some x:=by rw [e]; exact hg
     refine ⟨m,⟨m2.1,by omega⟩,x,hg',m,⟨m2.1,by omega⟩,x,hg',m3,rfl,?_⟩
     exact ⟨_,_,_,Le.refl _ _,rfl,(show x.1 + x.2.1 = exEnd l by unfold exEnd; rw [hx]),⟨rfl,trivial⟩,rfl⟩
theorem sadd_fn (l : List Xt) (n k : Int) (hb : ∀ x,l.getLast? = some x → -4611686018427387904 ≤ x.1 ∧ x.1 ≤ 4611686018427387903 ∧ -4611686018427387904 ≤ x.2.1 ∧ x.2.1 ≤ 4611686018427387903) (hn : n ≤ 4611686018427387903) (hl : l.length ≤ 1000000000) :
   Fn Tryz.prog 106 [vOwn 1001,vI n,vI k] [(1001,.row 114 uEx l)] [1002] (vOwn 1002) [(1002,.row 114 uEx (exAdd l n k))]:=by
 obtain ⟨ii,ii1,ii2⟩:=inf_of intI
 have hend:=send_fn l hb (by omega)
 refine Fn.of tblOK [] _ _ _ _ _ Tryz.func106 rfl rfl (by kernel_rfl) (by kernel_rfl) rfl (drawOK tblOK) rfl ?_
 refine ⟨fun h=>?_,fun h=>?_⟩
 · have h : n < 1:=of_decide_eq_true h
   have e : exAdd l n k = l:=if_pos h
   exact ⟨_,_,_,Le.ren 1001 1002 rfl,rfl,rfl,⟨congrArg (fun z : List Xt=>some (Ch.row 114 uEx z)) e.symm,trivial⟩,rfl⟩
 have h : ¬ n < 1:=of_decide_eq_false h
 have m : (-9223372036854775808 : Int) ≤ ((l.length : Nat) : Int) - 1 ∧ ((l.length : Nat) : Int) - 1 ≤ 9223372036854775807:=by omega
 refine ⟨m,?_⟩
 cases hx : l.getLast? with
 | none =>
   have h0:=last_none hx
   subst h0
   refine ⟨fun h2=>absurd h2 (by decide),fun _=>?_⟩
   refine ⟨_,_,_,_,hend,⟨rfl,trivial⟩,rfl,?_⟩
   refine ⟨(show (0 + 1 : Nat) ≤ 4294967296 from by decide),rfl,?_⟩
   have e : exAdd [] n k = [(exEnd [],n,k)]:=by unfold exAdd; rw [if_neg h]; rfl
   exact ⟨_,_,_,Le.ren 42 1002 rfl,rfl,rfl,⟨congrArg (fun z : List Xt=>some (Ch.row 114 uEx z)) e.symm,trivial⟩,rfl⟩
 | some x =>
   have hb:=hb x hx
   obtain ⟨h0,hg⟩:=last_get hx
   have e : (((l.length : Nat) : Int) - 1).toNat = l.length - 1:=by omega
   have hg' : lget l (((l.length : Nat) : Int) - 1).toNat = some x:=by rw [e]; exact hg
   have m2 : (0 : Int) ≤ ((l.length : Nat) : Int) - 1 ∧ ((l.length : Nat) : Int) - 1 < l.length:=by omega
   refine ⟨fun _=>?_,fun h2=>?_⟩
   · refine ⟨m2,x,hg',?_⟩
     refine ⟨fun hk=>?_,fun hk=>?_⟩
     · have hk : x.2.2 = k:=of_decide_eq_true hk
       have m3 : (-9223372036854775808 : Int) ≤ x.2.1 + n ∧ x.2.1 + n ≤ 9223372036854775807:=by omega
       refine ⟨m2,x,hg',m3,m2,?_⟩
       refine ⟨_,_,fun N=>opOK_rowSet (u:=uEx) (y:=x) (y':=((x.1,x.2.1 + n,x.2.2) : Xt)) (off:=1) rfl ii1 ii2 rfl rfl rfl hg' (by decide) ⟨trivial,trivial,trivial⟩ (fun j hj=>?_) intCell N,rfl,?_⟩
       · match j,hj with
         | 0,_=>rfl
         | 1,_=>rfl
         | 2,_=>rfl
       have e2 : exAdd l n k = l.set (((l.length : Nat) : Int) - 1).toNat (x.1,x.2.1 + n,x.2.2):=by
         unfold exAdd
         rw [if_neg h,hx,e]
         show (if x.2.2 = k then _ else _) = _
         rw [if_pos hk]
       exact ⟨_,_,_,Le.ren 1001 1002 rfl,rfl,rfl,⟨congrArg (fun z : List Xt=>some (Ch.row 114 uEx z)) e2.symm,trivial⟩,rfl⟩
     · have hk : ¬ x.2.2 = k:=of_decide_eq_false hk
       refine ⟨_,_,_,_,hend,⟨rfl,trivial⟩,rfl,?_⟩
       have m4 : List.length (α:=Xt) l + 1 ≤ 4294967296:=by omega
       refine ⟨m4,rfl,?_⟩
       have e2 : exAdd l n k = l ++ [(exEnd l,n,k)]:=by
         unfold exAdd
         rw [if_neg h,hx]
         show (if x.2.2 = k then _ else _) = _
         rw [if_neg hk]
       exact ⟨_,_,_,Le.ren 42 1002 rfl,rfl,rfl,⟨congrArg (fun z : List Xt=>some (Ch.row 114 uEx z)) e2.symm,trivial⟩,rfl⟩
   · have h2 : ¬ ((l.length : Nat) : Int) - 1 ≥ 0:=of_decide_eq_false h2
     omega
/-! ### Of -/
def exOf (ks : List Int) : List Xt:=ks.foldl (fun l k=>exAdd l 1 k) []
/-- What a row tells of kinds. -/
structure ExOK (ks : List Int) (l : List Xt) : Prop where
 end_ : exEnd l = (ks.length : Int)
 each : ∀ x,x ∈ l → 0 ≤ x.1 ∧ 1 ≤ x.2.1 ∧ x.1 + x.2.1 ≤ (ks.length : Int) ∧ ∀ k : Nat,x.1 ≤ (k : Int) → (k : Int) < x.1 + x.2.1 → ks[k]? = some x.2.2
 len : l.length ≤ ks.length
theorem exEnd_snoc (l : List Xt) (x : Xt) : exEnd (l ++ [x]) = x.1 + x.2.1:=by
 unfold exEnd
 rw [List.getLast?_concat]
theorem ExOK.add {ks : List Int} {l : List Xt} (h : ExOK ks l) (k : Int) : ExOK (ks ++ [k]) (exAdd l 1 k):=by
 have hold : ∀ x,x ∈ l → 0 ≤ x.1 ∧ 1 ≤ x.2.1 ∧ x.1 + x.2.1 ≤ ((ks ++ [k]).length : Int) ∧ ∀ j : Nat,x.1 ≤ (j : Int) → (j : Int) < x.1 + x.2.1 → (ks ++ [k])[j]? = some x.2.2:=fun x hx=>by
   obtain ⟨h1,h2,h3,h4⟩:=h.each x hx
   refine ⟨h1,h2,by rw [List.length_append]; simp; omega,fun j hj1 hj2=>?_⟩
   rw [List.getElem?_append_left (by omega)]
   exact h4 j hj1 hj2
 have hnew : ExOK (ks ++ [k]) (l ++ [(exEnd l,1,k)]):=by
   refine ⟨?_,fun x hx=>?_,by simp; exact h.len⟩
   · rw [exEnd_snoc,h.end_,List.length_append]
     simp
   · rcases List.mem_append.1 hx with hx | hx
     · exact hold x hx
     · rw [List.mem_singleton] at hx
       subst hx
       refine ⟨by show 0 ≤ exEnd l; rw [h.end_]; omega,(show (1 : Int) ≤ 1 from by decide),by show exEnd l + 1 ≤ _; rw [h.end_,List.length_append]; simp,fun j hj1 hj2=>?_⟩
       have hj1 : exEnd l ≤ (j : Int):=hj1
       have hj2 : (j : Int) < exEnd l + 1:=hj2
       rw [h.end_] at hj1 hj2
       have : j = ks.length:=by omega
       subst this
       rw [List.getElem?_append_right (Nat.le_refl _)]
       simp
 unfold exAdd
 rw [if_neg (by decide)]
 cases hx : l.getLast? with
 | none=>exact hnew
 | some x =>
   simp only
   split
   · rename_i hk
     obtain ⟨h0,hg⟩:=last_get hx
     have hxm : x ∈ l:=List.mem_of_getElem? hg
     have hend : x.1 + x.2.1 = (ks.length : Int):=by have:=h.end_; unfold exEnd at this; rw [hx] at this; exact this
     obtain ⟨h1,h2,h3,h4⟩:=h.each x hxm
     refine ⟨?_,fun y hy=>?_,by rw [List.length_set,List.length_append]; have:=h.len; omega⟩
     · unfold exEnd
       rw [List.getLast?_eq_getElem?,List.length_set,List.getElem?_set_self (by omega)]
       show x.1 + (x.2.1 + 1) = _
       rw [List.length_append]
       simp
       omega
     · rcases List.mem_or_eq_of_mem_set hy with hy | rfl
       · exact hold y hy
       · refine ⟨h1,by show 1 ≤ x.2.1 + 1; omega,by show x.1 + (x.2.1 + 1) ≤ _; rw [List.length_append]; simp; omega,fun j hj1 hj2=>?_⟩
         have hj1 : x.1 ≤ (j : Int):=hj1
         have hj2 : (j : Int) < x.1 + (x.2.1 + 1):=hj2
         show (ks ++ [k])[j]? = some x.2.2
         by_cases hj : (j : Int) < x.1 + x.2.1
         · rw [List.getElem?_append_left (by omega)]
           exact h4 j hj1 hj
         · have : j = ks.length:=by omega
           subst this
           rw [List.getElem?_append_right (Nat.le_refl _),hk]
           simp
   · exact hnew
theorem exOf_snoc (ks : List Int) (k : Int) : exOf (ks ++ [k]) = exAdd (exOf ks) 1 k:=by
 unfold exOf
 rw [List.foldl_append]
 rfl
theorem exOf_ok (ks : List Int) : ExOK ks (exOf ks):=by
 have key : ∀ n,n ≤ ks.length → ExOK (ks.take n) (exOf (ks.take n)):=fun n=>by
   induction n with
   | zero=>intro _; exact ⟨rfl,(fun _ h=>by cases h),Nat.le_refl _⟩
   | succ n ih =>
     intro hn
     rw [List.take_add_one,List.getElem?_eq_getElem (by omega)]
     show ExOK (ks.take n ++ [ks[n]]) (exOf (ks.take n ++ [ks[n]]))
     rw [exOf_snoc]
     exact (ih (by omega)).add _
 have:=key ks.length (Nat.le_refl _)
 rwa [List.take_length] at this
@[reducible] def soK (ks : List Int) (j : Nat) : KL:=[(3,vOwn 5002),(9,vL uI ks),(10,vI (ks.length : Nat)),(11,vI (j : Nat))]
theorem sof_fn (ks : List Int) (hk : ks.length ≤ 65536) : Fn Tryz.prog 71 [vL uI ks] [] [] (vL uEx (exOf ks)) []:=by
 refine Fn.of tblOK [] _ _ _ _ _ Tryz.func71 rfl rfl (by kernel_rfl) (by kernel_rfl) rfl (drawOK tblOK) rfl ?_
 refine ⟨fun h=>?_,fun _=>?_⟩
 · exfalso
   have h : (65536 : Int) < ((ks.length : Nat) : Int):=of_decide_eq_true h
   omega
 show TrQ _ _ _ _ _ _ _
 refine TrQ.loop tblOK (drawOK tblOK) [] (by kernel_rfl) (X:=Nat) (soK ks) (fun j=>[(5002,.row 114 uEx (exOf (ks.take j)))]) (fun j=>j ≤ ks.length) (fun j=>ks.length - j) 0 (Nat.zero_le _) ?_ ?_
 · exact (Le.nil 3 5002 114 uEx rfl rfl).trans (Le.sub ⟨rfl,rfl,rfl,rfl,trivial⟩ ⟨rfl,trivial⟩)
 intro j hj
 refine ⟨fun hc=>?_,fun hc=>?_⟩
 · have hc : decide ((j : Int) < ((ks.length : Nat) : Int)) = true:=hc
   have hj1 : j < ks.length:=by have:=of_decide_eq_true hc; omega
   have hok:=exOf_ok (ks.take j)
   have hlt : (ks.take j).length = j:=by rw [List.length_take]; omega
   have hnx : exOf (ks.take (j + 1)) = exAdd (exOf (ks.take j)) 1 ks[j]:=by
     rw [List.take_add_one,List.getElem?_eq_getElem hj1]
     exact exOf_snoc _ _
   refine ⟨by omega,ks[j],lgAt (n:=j) hj1,?_⟩
   refine ⟨_,_,_,_,Fn.ren [(1001,5002)] (sadd_fn (exOf (ks.take j)) 1 ks[j] (fun x hx=>?_) (by decide) (by have:=hok.len; omega)),⟨rfl,trivial⟩,rfl,?_⟩
   · have:=hok.each x (List.mem_of_getElem? (last_get hx).2)
     omega
   exact ⟨by omega,j + 1,hj1,by omega,Le.trans (Le.sub (K':=[(3,vOwn 1002),(9,vL uI ks),(10,vI (ks.length : Nat)),(11,vI ((j + 1 : Nat) : Int))]) (B':=[(1002,.row 114 uEx (exOf (ks.take (j + 1))))]) ⟨rfl,rfl,rfl,rfl,trivial⟩ ⟨congrArg (fun z : List Xt=>some (Ch.row 114 uEx z)) hnx.symm,trivial⟩) ((Le.ren 1002 5002 rfl).trans (Le.sub ⟨rfl,rfl,rfl,rfl,trivial⟩ ⟨rfl,trivial⟩))⟩
 · have hc : decide ((j : Int) < ((ks.length : Nat) : Int)) = false:=hc
   have hj2 : j = ks.length:=by have:=of_decide_eq_false hc; omega
   subst hj2
   exact ⟨_,_,_,Le.frz 5002 rfl,rfl,(show exOf (ks.take ks.length) = exOf ks by rw [List.take_length]),trivial,rfl⟩
section
variable {bits room : Nat} {L : List Dsk}
def rwC (bits : Nat) (L : List Dsk) (nm : List UInt8) : List Xt × Int:=match dk L nm with
 | none=>([],140)
 | some d=>(exOf (awyL bits L nm d.im.t.length),0)
@[reducible] def rwK (nm : List UInt8) (n j : Nat) : KL:=[(0,vP 1001),(1,vS nm),(7,vOwn 5002),(23,vI (n : Int)),(24,vI (j : Int))]
@[reducible] def rwB (bits room : Int) (L : List Dsk) (x : List Int) : BL:=chB bits room L ++ [(5002,.row 3 uI x)]
@[reducible] def rwK2 (nm : List UInt8) (n j : Nat) : KL:=[(0,vP 1001),(1,vS nm),(7,vOwn 37),(23,vI (n : Int)),(24,vI (j : Int))]
@[reducible] def rwB2 (bits room : Int) (L : List Dsk) (x : List Int) : BL:=chB bits room L ++ [(37,.row 3 uI x)]
theorem chrow_fn (h : CS bits room L) (nm : List UInt8) : Fn Tryz.prog 14 [vP 1001,vS nm] (chB bits room L) [] (.tup [.one (.d (.lst uEx (rwC bits L nm).1)),vErr (rwC bits L nm).2]) (chB bits room L):=by
 unfold rwC
 cases h0 : dk L nm with
 | none =>
   have hx : (mget (ku:=.str) (vu:=.adr) (chE L) nm).getD (dflt .adr) = none:=by rw [cget,h0]; rfl
   simp only
   refine Fn.of tblOK [] _ _ _ _ _ Tryz.func14 rfl rfl (by kernel_rfl) (by kernel_rfl) rfl (drawOK tblOK) rfl ?_
   refine ⟨fun b' hb=>absurd (show (mget (ku:=.str) (vu:=.adr) (chE L) nm).getD (dflt .adr) = some b' from hb) (by rw [hx]; intro h; cases h),fun _=>?_⟩
   exact ⟨_,_,_,Le.refl _ _,rfl,⟨rfl,rfl,trivial⟩,⟨rfl,rfl,rfl,rfl,trivial⟩,rfl⟩
 | some d0 =>
   obtain ⟨ia,ia1,ia2⟩:=inf_of infAdr
   obtain ⟨o1,o2,o3⟩:=h.ims d0 (dk_get h0).1
   have htl:=o1.tl
   have hd:=h.dep nm
   have hLd:=h.toChN.D (dk_get h0).1
   have hLm:=h.toChN.M (dk_get h0).1
   have hx : (mget (ku:=.str) (vu:=.adr) (chE L) nm).getD (dflt .adr) = some d0.ad:=by rw [cget,h0]; rfl
   have hof:=sof_fn (awyL bits L nm d0.im.t.length) (by rw [awyL_len]; omega)
   simp only
   refine Fn.of tblOK [] _ _ _ _ _ Tryz.func14 rfl rfl (by kernel_rfl) (by kernel_rfl) rfl (drawOK tblOK) rfl ?_
   refine ⟨fun b' hb=>?_,fun hb=>absurd (show (mget (ku:=.str) (vu:=.adr) (chE L) nm).getD (dflt .adr) = none from hb) (by rw [hx]; intro h; cases h)⟩
   refine ⟨_,_,fun N=>opOK_nilAdr (b:=d0.ad) rfl (by exact adrV_eq hx) N,rfl,?_⟩
   refine ⟨_,_,fun N=>opOK_fieldAdr rfl Tryz.underlying130 rfl rfl ia1 (by rw [ia2]; decide) rfl N,rfl,?_⟩
   refine ⟨_,_,fun N=>opOK_loadRaw (q:=1003) rfl Tryz.underlying49 rfl rfl rfl hLd rfl N,rfl,?_⟩
   refine ⟨_,_,_,_,imFn (isize_fn d0.im) hLm rfl rfl rfl rfl,⟨rfl,trivial⟩,rfl,?_⟩
   show TrQ _ _ _ _ _ _ _
   refine TrQ.loop tblOK (drawOK tblOK) [] (by kernel_rfl) (X:=Nat) (rwK nm d0.im.t.length) (fun j=>rwB bits room L (awyL bits L nm j)) (fun j=>j ≤ d0.im.t.length) (fun j=>d0.im.t.length - j) 0 (Nat.zero_le _) ?_ ?_
   · exact (Le.nil 7 5002 3 uI rfl rfl).trans (Le.sub ⟨rfl,rfl,rfl,rfl,rfl,trivial⟩ ⟨rfl,rfl,rfl,rfl,rfl,trivial⟩)
   intro j hj
   refine ⟨fun hc=>?_,fun hc=>?_⟩
   · have hc : decide ((j : Int) < ((d0.im.t.length : Nat) : Int)) = true:=hc
     have hj1 : j < d0.im.t.length:=by have:=of_decide_eq_true hc; omega
     refine ⟨_,_,_,_,seen_fn bits room L h.toChOK nm d0 h0 (dpt L nm) hd.1 (by omega) j (by omega),⟨rfl,rfl,rfl,rfl,trivial⟩,rfl,?_⟩
     have m : List.length (α:=Int) (awyL bits L nm j) + 1 ≤ 4294967296:=by rw [awyL_len]; omega
     refine ⟨m,rfl,?_⟩
     refine ⟨by omega,j + 1,hj1,by omega,?_⟩
     have e:=awyL_succ bits L nm j
     refine Le.trans (Le.sub (K':=rwK2 nm d0.im.t.length (j + 1)) (B':=rwB2 bits room L (awyL bits L nm (j + 1))) ⟨rfl,rfl,rfl,rfl,rfl,trivial⟩ ⟨rfl,rfl,rfl,rfl,congrArg (fun z : List Int=>some (Ch.row 3 uI z)) e.symm,trivial⟩) ?_
     exact (Le.ren 37 5002 rfl).trans (Le.sub ⟨rfl,rfl,rfl,rfl,rfl,trivial⟩ ⟨rfl,rfl,rfl,rfl,rfl,trivial⟩)
   · have hc : decide ((j : Int) < ((d0.im.t.length : Nat) : Int)) = false:=hc
     have hj2 : j = d0.im.t.length:=by have:=of_decide_eq_false hc; omega
     subst hj2
     refine ⟨_,_,_,_,(Fn.own (d:=5002) (e:=3) (u:=uI) (xs:=awyL bits L nm d0.im.t.length) (args:=[vOwn 5002]) hof rfl),⟨rfl,trivial⟩,rfl,?_⟩
     exact ⟨_,_,_,Le.refl _ _,rfl,⟨rfl,rfl,trivial⟩,⟨rfl,rfl,rfl,rfl,trivial⟩,rfl⟩
end
end Go.Proofs.YteoamepgonpdlaaGreat
/-!
  The document's rows of kinds; its chain (layer 14): Away, Cluster, All, Row.
-/
namespace Go.Proofs.YteoamepgonpdlaaGreat
set_option linter.unusedVariables false
set_option linter.unusedSimpArgs false
set_option maxRecDepth 10000
open Go.RowKit Go.Proofs
/-! ### Of -/
theorem exAdd_snoc (l : List Xt) (x : Xt) (k : Int) : exAdd (l ++ [x]) 1 k = if x.2.2 = k then l ++ [(x.1,x.2.1 + 1,x.2.2)] else l ++ [x] ++ [(x.1 + x.2.1,1,k)]:=by
 unfold exAdd
 rw [if_neg (by decide),List.getLast?_concat]
 simp only
 split
 · rw [List.length_append,List.length_singleton,Nat.add_sub_cancel,List.set_append_right _ _ (Nat.le_refl _),Nat.sub_self]
   rfl
 · rw [exEnd_snoc]
@[reducible] def mkX9 (f n k : Int) : Xt:=(f,n,k)
/-- Of: what is out,and where the next one begins,ahead of the k-th kind. -/
structure OfI (ks : List Int) (k : Nat) (out : List Xt) (f : Nat) : Prop where
 lt : f < k
 le : k ≤ ks.length
 ol : out.length ≤ f
 eq : exOf (ks.take k) = out ++ [mkX9 (f : Nat) ((k : Int) - (f : Int)) (ks.getD f 0)]
@[reducible] def qofK (ks : List Int) (o f k : Nat) : KL:=[(0,vL uI ks),(3,vOwn o),(4,vI (f : Nat)),(5,vI (k : Nat))]
@[reducible] def qofB (o : Nat) (x : List Xt) : BL:=[(o,.row 114 uEx x)]
theorem rof_fn (ks : List Int) (hk : ks.length ≤ 65536) : Fn Tryz.prog 78 [vL uI ks] [] [] (vL uEx (exOf ks)) []:=by
 refine Fn.of tblOK [9] _ _ _ _ _ Tryz.func78 rfl rfl (by kernel_rfl) (by kernel_rfl) rfl (drawOK tblOK) rfl ?_
 show TrQ _ _ _ _ _ _ _
 refine TrQ.loop tblOK (drawOK tblOK) [9] (by kernel_rfl) (X:=Nat × List Xt × Nat) (fun x=>qofK ks 2003 x.2.2 x.1) (fun x=>qofB 2003 x.2.1) (fun x=>(x.1 = 1 ∧ x.2.1 = [] ∧ x.2.2 = 0 ∧ ks = []) ∨ (OfI ks x.1 x.2.1 x.2.2) ∨ (x.1 = ks.length + 1 ∧ x.2.1 = exOf ks)) (fun x=>ks.length + 1 - x.1) (1,[],0) ?_ ?_ ?_
 · cases ks with
   | nil=>exact .inl ⟨rfl,rfl,rfl,rfl⟩
   | cons a ks=>exact .inr (.inl ⟨Nat.zero_lt_one,Nat.succ_le_succ (Nat.zero_le _),Nat.le_refl _,rfl⟩)
 · exact Le.trans (Le.nil 3 2003 114 uEx rfl rfl) (Le.sub ⟨rfl,rfl,rfl,rfl,trivial⟩ ⟨rfl,trivial⟩)
 rintro ⟨k,out,f⟩ hI
 have fin : (k = 1 ∧ out = [] ∧ ks = []) ∨ (k = ks.length + 1 ∧ out = exOf ks) → out = exOf ks:=fun h=>by
   rcases h with ⟨_,h,e⟩ | ⟨_,h⟩
   · rw [h,e]; rfl
   · exact h
 refine ⟨fun h1=>?_,fun h1=>?_⟩
 · have h1 : ((k : Nat) : Int) ≤ ((ks.length : Nat) : Int):=of_decide_eq_true h1
   rcases hI with ⟨e1,e2,e3,e4⟩ | hI | ⟨e1,e2⟩
   · exfalso
     have e1 : k = 1:=e1
     subst e1 e4
     exact absurd h1 (by decide)
   · have hI : OfI ks k out f:=hI
     obtain ⟨g1,g2,g3,g4⟩:=hI
     have hf : f < ks.length:=by omega
     have hgf : ks.getD f 0 = ks[f]:=by rw [List.getD_eq_getElem?_getD,List.getElem?_eq_getElem hf]; rfl
     rw [hgf] at g4
     refine ⟨fun _=>?_,fun h2=>absurd (show decide (((ks.length : Nat) : Int) ≤ 65536) = false from h2) (by rw [decide_eq_true (by omega)]; decide)⟩
     have b1 : (-9223372036854775808 : Int) ≤ ((k : Nat) : Int) - ((f : Nat) : Int) ∧ ((k : Nat) : Int) - ((f : Nat) : Int) ≤ 9223372036854775807:=by omega
     have b2 : List.length (α:=Xt) out + 1 ≤ 4294967296:=by
       have : List.length (α:=Xt) out ≤ f:=g3
       omega
     have tail : ∀ (f' : Nat) (out' : List Xt),((OfI ks (k + 1) out' f') ∨ (k + 1 = ks.length + 1 ∧ out' = exOf ks)) → (k + 1 = 1 ∧ out' = [] ∧ f' = 0 ∧ ks = []) ∨ (OfI ks (k + 1) out' f') ∨ (k + 1 = ks.length + 1 ∧ out' = exOf ks):=fun f' out' h=>.inr h
     refine ⟨fun h2=>?_,fun h2=>?_⟩
     · have h2 : ((k : Nat) : Int) = ((ks.length : Nat) : Int):=of_decide_eq_true h2
       have h2 : k = ks.length:=by omega
       refine ⟨rfl,?_⟩
       refine ⟨b1,?_⟩
       refine ⟨by omega,ks[f],lgAt (n:=f) hf,?_⟩
       refine ⟨b2,rfl,?_⟩
       have e5 : exOf ks = out ++ [mkX9 (f : Nat) ((k : Int) - (f : Int)) ks[f]]:=by rw [← g4,h2,List.take_length]
       refine ⟨by omega,(k + 1,exOf ks,k),.inr (.inr ⟨by show k + 1 = ks.length + 1; omega,rfl⟩),by show ks.length + 1 - (k + 1) < ks.length + 1 - k; omega,Le.trans (Le.sub (K':=qofK ks 43 k (k + 1)) (B':=qofB 43 (exOf ks)) ⟨rfl,rfl,rfl,rfl,trivial⟩ ⟨?_,trivial⟩) (Le.ren 43 2003 rfl)⟩
       rw [e5]
       rfl
     · have h2 : ¬ ((k : Nat) : Int) = ((ks.length : Nat) : Int):=of_decide_eq_false h2
       have hk1 : k < ks.length:=by omega
       have hgk : ks.getD k 0 = ks[k]:=by rw [List.getD_eq_getElem?_getD,List.getElem?_eq_getElem hk1]; rfl
       have hs : exOf (ks.take (k + 1)) = exAdd (out ++ [mkX9 (f : Nat) ((k : Int) - (f : Int)) ks[f]]) 1 ks[k]:=by
         rw [List.take_succ_eq_append_getElem hk1,exOf_snoc,g4]
       rw [exAdd_snoc] at hs
       refine ⟨by omega,ks[k],lgAt (n:=k) hk1,?_⟩
       refine ⟨by omega,ks[f],lgAt (n:=f) hf,?_⟩
       refine ⟨rfl,fun h3=>?_,fun h3=>?_⟩
       · have h3 : (!decide (ks[k] = ks[f])) = true:=h3
         have h3 : ¬ ks[k] = ks[f]:=by simpa using h3
         rw [if_neg (fun e=>h3 e.symm)] at hs
         refine ⟨b1,?_⟩
         refine ⟨by omega,ks[f],lgAt (n:=f) hf,?_⟩
         refine ⟨b2,rfl,?_⟩
         have hI2 : OfI ks (k + 1) (out ++ [mkX9 (f : Nat) ((k : Int) - (f : Int)) ks[f]]) k:=by
           refine ⟨Nat.lt_succ_self _,hk1,?_,?_⟩
           · rw [List.length_append]
             show List.length (α:=Xt) out + 1 ≤ k
             have : List.length (α:=Xt) out ≤ f:=g3
             omega
           · rw [hs,hgk]
             have a1 : ((f : Nat) : Int) + (((k : Nat) : Int) - ((f : Nat) : Int)) = ((k : Nat) : Int):=by omega
             have a2 : (((k + 1 : Nat) : Nat) : Int) - ((k : Nat) : Int) = 1:=by omega
             show _ ++ [((((f : Nat) : Int) + (((k : Nat) : Int) - ((f : Nat) : Int)),1,ks[k]) : Xt)] = _
             rw [a1,a2]
         exact ⟨by omega,(k + 1,out ++ [mkX9 (f : Nat) ((k : Int) - (f : Int)) ks[f]],k),.inr (.inl hI2),by show ks.length + 1 - (k + 1) < ks.length + 1 - k; omega,Le.trans (Le.sub (K':=qofK ks 43 k (k + 1)) (B':=qofB 43 (out ++ [mkX9 (f : Nat) ((k : Int) - (f : Int)) ks[f]])) ⟨rfl,rfl,rfl,rfl,trivial⟩ ⟨rfl,trivial⟩) (Le.ren 43 2003 rfl)⟩
       · have h3 : (!decide (ks[k] = ks[f])) = false:=h3
         have h3 : ks[k] = ks[f]:=by simpa using h3
         rw [if_pos h3.symm] at hs
         have hI2 : OfI ks (k + 1) out f:=by
           refine ⟨by omega,hk1,g3,?_⟩
           rw [hs,hgf]
           have a2 : (((k + 1 : Nat) : Nat) : Int) - ((f : Nat) : Int) = ((k : Nat) : Int) - ((f : Nat) : Int) + 1:=by omega
           rw [a2]
         exact ⟨by omega,(k + 1,out,f),.inr (.inl hI2),by show ks.length + 1 - (k + 1) < ks.length + 1 - k; omega,Le.sub ⟨rfl,rfl,rfl,rfl,trivial⟩ ⟨rfl,trivial⟩⟩
   · exfalso
     have e1 : k = ks.length + 1:=e1
     omega
 · have h1 : ¬ ((k : Nat) : Int) ≤ ((ks.length : Nat) : Int):=of_decide_eq_false h1
   have e : out = exOf ks:=by
     rcases hI with ⟨e1,e2,e3,e4⟩ | hI | ⟨e1,e2⟩
     · exact fin (.inl ⟨e1,e2,e4⟩)
     · exfalso
       have:=hI.le
       have : k ≤ ks.length:=this
       omega
     · exact e2
   subst e
   show TrQ _ _ _ _ _ _ _
   refine TrQ.go tblOK (drawOK tblOK) [] (by kernel_rfl) (Le.frz 2003 rfl) ?_
   exact ⟨_,_,_,Le.refl _ _,rfl,rfl,trivial,rfl⟩
/-! ### Away -/
def enR (l : List Rdk) : Nat → List UInt8 → Prop
 | 0,n=>gtR l n = none
 | f + 1,n=>match gtR l n with
   | none=>True
   | some d=>enR l f (dB d)
/-- How many images one is away that has no Hole for a cluster,and 1; and which it is. -/
def awF (l : List Rdk) (k : Nat) : Nat → List UInt8 → Option (Nat × List UInt8)
 | 0,_=>none
 | f + 1,n=>match gtR l n with
   | none=>none
   | some d=>if k < (mC (dIm d)).length ∧ kdM (dIm d) k ≠ 0 then some (1,n) else match awF l k f (dB d) with
     | some (m,x)=>some (m + 1,x)
     | none=>none
theorem awF_le (l : List Rdk) (k : Nat) : ∀ f n m x,awF l k f n = some (m,x) → m ≤ f ∧ ∃ d,gtR l x = some d ∧ k < (mC (dIm d)).length ∧ kdM (dIm d) k ≠ 0
 | 0,n,m,x,h=>by cases h
 | f + 1,n,m,x,h=>by
   unfold awF at h
   split at h
   · cases h
   · rename_i d hd
     split at h
     · rename_i h1
       injection h with h
       injection h with h2 h3
       subst h2 h3
       exact ⟨Nat.succ_le_succ (Nat.zero_le _),d,hd,h1⟩
     · split at h
       · rename_i m' x' h2
         injection h with h
         injection h with h3 h4
         subst h3 h4
         obtain ⟨g1,g2⟩:=awF_le l k f _ _ _ h2
         exact ⟨Nat.succ_le_succ g1,g2⟩
       · cases h
def awN (l : List Rdk) (k : Nat) (n : List UInt8) : Int:=match awF l k 20 n with
 | some (m,_)=>(m : Nat)
 | none=>0
def awI (l : List Rdk) (k : Nat) (n : List UInt8) : Int:=match awF l k 20 n with
 | some (_,x)=>fdI l x
 | none=>-1
@[reducible] def awK (l : List Rdk) (k j : Nat) (n : List UInt8) : KL:=[(2,vI (k : Int)),(3,vP 3),(8,vI (fdI l n)),(9,vI ((j : Nat) + 1 : Int))]
set_option maxHeartbeats 1000000 in
theorem caway_fn (bits room : Int) (l : List Rdk) (n : List UInt8) (k : Nat) (hl : l.length ≤ 1073741824) (he : enR l 19 n) : Fn Tryz.prog 77 [rcV bits room l,vS n,vI (k : Int)] [] [] (.tup [.one (.d (.int .i64 (awN l k n))),.one (.d (.int .i64 (awI l k n)))]) []:=by
 refine Fn.of tblOK [] _ _ _ _ _ Tryz.func77 rfl rfl (by kernel_rfl) (by kernel_rfl) rfl (drawOK tblOK) rfl ?_
 refine ⟨rfl,?_⟩
 refine ⟨_,_,_,_,cfind_fn bits room l n hl,trivial,rfl,?_⟩
 show TrQ _ _ _ _ _ _ _
 refine TrQ.loop tblOK (drawOK tblOK) [] (by kernel_rfl) (X:=Nat × List UInt8) (fun x=>awK l k x.1 x.2) (fun _=>[(3,.cells (rcL bits room l))]) (fun x=>x.1 ≤ 19 ∧ enR l (19 - x.1) x.2 ∧ awF l k 20 n = match awF l k (20 - x.1) x.2 with | some (m,y)=>some (m + x.1,y) | none=>none) (fun x=>20 - x.1) (0,n) ⟨Nat.zero_le _,he,?_⟩ ?_ ?_
 · show awF l k 20 n = match awF l k 20 n with | some (m,y)=>some (m + 0,y) | none=>none
   cases awF l k 20 n with
   | none=>rfl
   | some p=>rfl
 · exact Le.sub ⟨rfl,rfl,rfl,rfl,trivial⟩ ⟨rfl,trivial⟩
 rintro ⟨j,nm⟩ ⟨hj,hen,heq⟩
 have hj : j ≤ 19:=hj
 have hen : enR l (19 - j) nm:=hen
 have heq : awF l k 20 n = match awF l k (20 - j) nm with | some (m,y)=>some (m + j,y) | none=>none:=heq
 have hf : 20 - j = (19 - j) + 1:=by omega
 have eA : awF l k (20 - j) nm = match gtR l nm with
   | none=>none
   | some d=>if k < (mC (dIm d)).length ∧ kdM (dIm d) k ≠ 0 then some (1,nm) else match awF l k (19 - j) (dB d) with
     | some (m,x)=>some (m + 1,x)
     | none=>none:=by rw [hf]; rfl
 refine ⟨fun h1=>?_,fun h1=>?_⟩
 · have h1 : 0 ≤ fdI l nm:=of_decide_eq_true h1
   obtain ⟨i,hi,e1,e2,e3⟩:=fdI_pos (l:=l) (n:=nm) (by omega)
   have hget : lget l (fdI l nm).toNat = some l[i]:=by rw [show (fdI l nm).toNat = i by omega]; exact lgAt (n:=i) hi
   have hin : (0 : Int) ≤ fdI l nm ∧ fdI l nm < ((l.length : Nat) : Int):=by omega
   rw [e2] at eA
   simp only at eA
   rw [eA] at heq
   have next : ¬ (k < (mC (dIm l[i])).length ∧ kdM (dIm l[i]) k ≠ 0) → (19 - j = (19 - (j + 1)) + 1 ∧ enR l (19 - (j + 1)) (dB l[i]) ∨ gtR l (dB l[i]) = none ∧ j = 19) ∧ (awF l k 20 n = match awF l k (20 - (j + 1)) (dB l[i]) with | some (m,y)=>some (m + (j + 1),y) | none=>none):=fun hno=>by
     rw [if_neg hno] at heq
     refine ⟨?_,?_⟩
     · rcases Nat.lt_or_ge j 19 with h | h
       · left
         have h19 : 19 - j = (19 - (j + 1)) + 1:=by omega
         refine ⟨h19,?_⟩
         rw [h19,enR,e2] at hen
         exact hen
       · right
         have hj19 : j = 19:=by omega
         subst hj19
         exfalso
         have hen : gtR l nm = none:=hen
         rw [hen] at e2
         cases e2
     · rw [show 20 - (j + 1) = 19 - j by omega,heq]
       cases awF l k (19 - j) (dB l[i]) with
       | none=>rfl
       | some p=>show some (p.1 + 1 + j,p.2) = some (p.1 + (j + 1),p.2); rw [Nat.add_assoc,Nat.add_comm 1 j]
   refine ⟨hin.1,l[i],hget,?_⟩
   have go : ¬ (k < (mC (dIm l[i])).length ∧ kdM (dIm l[i]) k ≠ 0) → j + 1 ≤ 19 ∧ enR l (19 - (j + 1)) (dB l[i]) ∧ (awF l k 20 n = match awF l k (20 - (j + 1)) (dB l[i]) with | some (m,y)=>some (m + (j + 1),y) | none=>none):=fun hno=>by
     obtain ⟨g1,g2⟩:=next hno
     rcases g1 with ⟨g1,g3⟩ | ⟨g1,g3⟩
     · exact ⟨by omega,g3,g2⟩
     · exfalso
       subst g3
       have hen : gtR l nm = none:=hen
       rw [hen] at e2
       cases e2
   refine ⟨fun h2=>?_,fun h2=>?_⟩
   · have h2 : ((k : Nat) : Int) < (((mC (dIm l[i])).length : Nat) : Int):=of_decide_eq_true h2
     have h2 : k < (mC (dIm l[i])).length:=by omega
     have hkd:=kdM_at h2
     refine ⟨hin.1,l[i],hget,?_⟩
     refine ⟨by omega,(mC (dIm l[i]))[k],lgAt (n:=k) h2,?_⟩
     refine ⟨fun h3=>?_,fun h3=>?_⟩
     · have h3 : (!decide (ceK (mC (dIm l[i]))[k] = 0)) = true:=h3
       have h3 : ¬ ceK (mC (dIm l[i]))[k] = 0:=by simpa using h3
       rw [if_pos ⟨h2,by rw [hkd]; exact h3⟩] at heq
       have heq : awF l k 20 n = some (1 + j,nm):=heq
       refine ⟨_,_,_,Le.refl _ _,rfl,⟨?_,?_,trivial⟩,trivial,rfl⟩
       · show ((j : Nat) : Int) + 1 = awN l k n
         unfold awN
         rw [heq]
         show ((j : Nat) : Int) + 1 = ((1 + j : Nat) : Int)
         omega
       · show fdI l nm = awI l k n
         unfold awI
         rw [heq]
     · have h3 : (!decide (ceK (mC (dIm l[i]))[k] = 0)) = false:=h3
       have h3 : ceK (mC (dIm l[i]))[k] = 0:=by simpa using h3
       obtain ⟨w1,w2,w3⟩:=go (fun q=>q.2 (by rw [hkd]; exact h3))
       refine ⟨hin.1,l[i],hget,?_⟩
       refine ⟨_,_,_,_,cfind_fn bits room l (dB l[i]) hl,trivial,rfl,?_⟩
       refine ⟨rfl,?_⟩
       exact ⟨by omega,(j + 1,dB l[i]),⟨w1,w2,w3⟩,by show 20 - (j + 1) < 20 - j; omega,Le.sub ⟨rfl,rfl,rfl,rfl,trivial⟩ ⟨rfl,trivial⟩⟩
   · have h2 : ¬ ((k : Nat) : Int) < (((mC (dIm l[i])).length : Nat) : Int):=of_decide_eq_false h2
     obtain ⟨w1,w2,w3⟩:=go (fun q=>by have:=q.1; omega)
     refine ⟨hin.1,l[i],hget,?_⟩
     refine ⟨_,_,_,_,cfind_fn bits room l (dB l[i]) hl,trivial,rfl,?_⟩
     refine ⟨rfl,?_⟩
     exact ⟨by omega,(j + 1,dB l[i]),⟨w1,w2,w3⟩,by show 20 - (j + 1) < 20 - j; omega,Le.sub ⟨rfl,rfl,rfl,rfl,trivial⟩ ⟨rfl,trivial⟩⟩
 · have h1 : ¬ 0 ≤ fdI l nm:=of_decide_eq_false h1
   have e:=fdI_neg (l:=l) (n:=nm) (by omega)
   rw [e] at eA
   rw [eA] at heq
   have heq : awF l k 20 n = none:=heq
   refine ⟨_,_,_,Le.refl _ _,rfl,⟨?_,?_,trivial⟩,trivial,rfl⟩
   · show (0 : Int) = awN l k n
     unfold awN
     rw [heq]
   · show (-1 : Int) = awI l k n
     unfold awI
     rw [heq]
/-! ### Cluster,All,Row -/
/-- A chain of the document. -/
structure COK (n : Nat) (l : List Rdk) : Prop where
 len : l.length ≤ 16
 ok : ∀ d,d ∈ l → MOK n (dIm d)
 en : ∀ x,enR l 19 x
theorem gtR_mem {l : List Rdk} {x : List UInt8} {d : Rdk} (h : gtR l x = some d) : d ∈ l:=by
 obtain ⟨i,hi,_,e,_⟩:=fdI_some h
 rw [← e]
 exact List.getElem_mem hi
def clR (n : Nat) (l : List Rdk) (x : List UInt8) (k : Nat) : List UInt8:=match awF l k 20 x with
 | some (_,y)=>(match gtR l y with
   | some d=>(readM n (dIm d) ((k * n : Nat) : Int) (n : Nat)).1
   | none=>[])
 | none=>List.replicate (16 * n) 0
theorem readM_len {n : Nat} {m : Rim} (h : MOK n m) {k : Nat} (hk : k < (mC m).length) : insE n (mC m).length ((k * n : Nat) : Int) (n : Nat) = 0 ∧ (readM n m ((k * n : Nat) : Int) (n : Nat)).1 = rdTo n m (k * n) n ∧ (rdTo n m (k * n) n).length = 16 * n:=by
 have hm : (k + 1) * n ≤ (mC m).length * n:=Nat.mul_le_mul_right n hk
 rw [Nat.succ_mul,Nat.mul_comm (mC m).length n] at hm
 have he : insE n (mC m).length ((k * n : Nat) : Int) (n : Nat) = 0:=by
   unfold insE
   generalize hN : n * (mC m).length = N at *
   generalize hQ : k * n = Q at *
   rw [if_neg (by omega),if_neg (by omega),if_neg (by omega),if_neg (by omega)]
 refine ⟨he,?_,rdTo_len h n hm⟩
 unfold readM
 rw [if_pos he]
 simp only [Int.toNat_natCast]
theorem clR_len {n : Nat} {l : List Rdk} (h : COK n l) (x : List UInt8) (k : Nat) : (clR n l x k).length = 16 * n:=by
 unfold clR
 split
 · rename_i m y e
   obtain ⟨_,d,e1,e2,_⟩:=awF_le l k 20 x m y e
   rw [e1]
   simp only
   obtain ⟨_,g2,g3⟩:=readM_len (h.ok d (gtR_mem e1)) e2
   rw [g2,g3]
 · exact List.length_replicate
set_option maxHeartbeats 1000000 in
theorem ccluster_fn {n : Nat} {l : List Rdk} (h : COK n l) (bits room : Int) (x : List UInt8) (k : Nat) {d : Rdk} (hd : gtR l x = some d) (hk : k < (mC (dIm d)).length) : Fn Tryz.prog 74 [rcV bits room l,vS x,vI (k : Int)] [] [] (vS (clR n l x k)) []:=by
 have hl:=h.len
 obtain ⟨i,hi,e1,e2,e3⟩:=fdI_some hd
 have hget : lget l (fdI l x).toNat = some d:=by rw [show (fdI l x).toNat = i by omega,← e2]; exact lgAt (n:=i) hi
 have hin : (0 : Int) ≤ fdI l x ∧ fdI l x < ((l.length : Nat) : Int):=by omega
 have hM:=h.ok d (gtR_mem hd)
 have hnm:=hM.nm
 have hn8:=hM.n8
 have hcl:=hM.cl
 have q16 : -9223372036854775808 ≤ 16 * mN (dIm d) ∧ 16 * mN (dIm d) ≤ 9223372036854775807:=by omega
 have e16 : (16 * mN (dIm d)).toNat = 16 * n:=by omega
 have m16 : 0 ≤ 16 * mN (dIm d) ∧ 16 * mN (dIm d) ≤ 4294967296:=by omega
 unfold clR
 refine Fn.of tblOK [] _ _ _ _ _ Tryz.func74 rfl rfl (by kernel_rfl) (by kernel_rfl) rfl (drawOK tblOK) rfl ?_
 refine ⟨rfl,?_⟩
 refine ⟨_,_,_,_,cfind_fn bits room l x (by omega),trivial,rfl,?_⟩
 refine ⟨fun h1=>absurd (show decide (fdI l x < 0) = true from h1) (by rw [decide_eq_false (by omega)]; decide),fun _=>?_⟩
 refine ⟨fun h1=>absurd (show decide ((k : Int) < 0) = true from h1) (by rw [decide_eq_false (by omega)]; decide),fun _=>?_⟩
 refine ⟨hin.1,d,hget,?_⟩
 refine ⟨fun h1=>absurd (show decide ((((mC (dIm d)).length : Nat) : Int) ≤ (k : Int)) = true from h1) (by rw [decide_eq_false (by omega)]; decide),fun _=>?_⟩
 refine ⟨hin.1,d,hget,?_⟩
 refine ⟨_,_,_,_,caway_fn bits room l x k (by omega) (h.en x),trivial,rfl,?_⟩
 unfold awI
 cases ea : awF l k 20 x with
 | none =>
   refine ⟨fun _=>?_,fun h1=>absurd (show decide ((-1 : Int) < 0) = false from h1) (by decide)⟩
   refine ⟨q16,?_⟩
   refine ⟨⟨rfl,m16⟩,rfl,?_⟩
   rw [← e16]
   exact ⟨_,_,_,Le.refl _ _,rfl,rfl,trivial,rfl⟩
 | some p =>
   obtain ⟨m,y⟩:=p
   obtain ⟨_,d2,f1,f2,_⟩:=awF_le l k 20 x m y ea
   obtain ⟨i2,hi2,f3,f4,f5⟩:=fdI_some f1
   have hM2:=h.ok d2 (gtR_mem f1)
   simp only
   rw [f1]
   simp only
   refine ⟨fun h1=>absurd (show decide (fdI l y < 0) = true from h1) (by rw [decide_eq_false (by omega)]; decide),fun _=>?_⟩
   refine ⟨by omega,d2,(by rw [show (fdI l y).toNat = i2 by omega,← f4]; exact lgAt (n:=i2) hi2),?_⟩
   have ek : (k : Int) * mN (dIm d) = ((k * n : Nat) : Int):=by rw [hnm,Int.natCast_mul]
   have hkn : k * n ≤ 256 * 8:=Nat.mul_le_mul (by omega) hn8
   have qk : -9223372036854775808 ≤ (k : Int) * mN (dIm d) ∧ (k : Int) * mN (dIm d) ≤ 9223372036854775807:=by rw [ek]; omega
   refine ⟨qk,?_⟩
   refine ⟨_,_,_,_,Fn.arg (args:=[imV (dIm d2),vI ((k : Int) * mN (dIm d)),vI (mN (dIm d))]) (mread_fn hM2 ((k * n : Nat) : Int) (n : Nat)) ⟨⟨rfl,rfl,rfl,rfl,rfl,trivial⟩,ek,hnm,trivial⟩,trivial,rfl,?_⟩
   exact ⟨_,_,_,Le.refl _ _,rfl,rfl,trivial,rfl⟩
def alTo (n : Nat) (l : List Rdk) (x : List UInt8) : Nat → List UInt8
 | 0=>[]
 | k + 1=>alTo n l x k ++ clR n l x k
theorem alTo_len {n : Nat} {l : List Rdk} (h : COK n l) (x : List UInt8) : ∀ k,(alTo n l x k).length = 16 * n * k
 | 0=>rfl
 | k + 1=>by rw [alTo,List.length_append,alTo_len h x k,clR_len h,Nat.mul_succ]
@[reducible] def alK (x : List UInt8) (i : Int) (a : List UInt8) (k : Nat) : KL:=[(1,vS x),(2,vP 2),(5,vS a),(6,vI i),(7,vI (k : Nat))]
theorem call_fn {n : Nat} {l : List Rdk} (h : COK n l) (bits room : Int) (x : List UInt8) {d : Rdk} (hd : gtR l x = some d) : Fn Tryz.prog 29 [rcV bits room l,vS x] [] [] (vS (alTo n l x (mC (dIm d)).length)) []:=by
 have hl:=h.len
 obtain ⟨i,hi,e1,e2,e3⟩:=fdI_some hd
 have hget : lget l (fdI l x).toNat = some d:=by rw [show (fdI l x).toNat = i by omega,← e2]; exact lgAt (n:=i) hi
 have hin : (0 : Int) ≤ fdI l x ∧ fdI l x < ((l.length : Nat) : Int):=by omega
 have hM:=h.ok d (gtR_mem hd)
 have hn8:=hM.n8
 have hcl:=hM.cl
 refine Fn.of tblOK [] _ _ _ _ _ Tryz.func29 rfl rfl (by kernel_rfl) (by kernel_rfl) rfl (drawOK tblOK) rfl ?_
 refine ⟨rfl,?_⟩
 refine ⟨_,_,_,_,cfind_fn bits room l x (by omega),trivial,rfl,?_⟩
 show TrQ _ _ _ _ _ _ _
 refine TrQ.loop tblOK (drawOK tblOK) [] (by kernel_rfl) (X:=Nat) (fun k=>alK x (fdI l x) (alTo n l x k) k) (fun _=>[(2,.cells (rcL bits room l))]) (fun k=>k ≤ (mC (dIm d)).length) (fun k=>(mC (dIm d)).length - k) 0 (Nat.zero_le _) ?_ ?_
 · exact Le.sub ⟨rfl,rfl,rfl,rfl,rfl,trivial⟩ ⟨rfl,trivial⟩
 intro k hk
 refine ⟨fun _=>?_,fun h1=>absurd (show decide (0 ≤ fdI l x) = false from h1) (by rw [decide_eq_true (by omega)]; decide)⟩
 refine ⟨hin.1,d,hget,?_⟩
 refine ⟨fun h1=>?_,fun h1=>?_⟩
 · have h1 : ((k : Nat) : Int) < (((mC (dIm d)).length : Nat) : Int):=of_decide_eq_true h1
   refine ⟨_,_,_,_,ccluster_fn h bits room x k hd (by omega),trivial,rfl,?_⟩
   have g1:=alTo_len h x k
   have g2:=clR_len h x k
   have g3 : 16 * n * k ≤ 16 * 8 * 256:=Nat.mul_le_mul (Nat.mul_le_mul_left 16 hn8) (by omega)
   have g4 : (alTo n l x k).length + (clR n l x k).length ≤ 4294967296:=by omega
   refine ⟨g4,?_⟩
   exact ⟨by omega,k + 1,by omega,by omega,Le.sub ⟨rfl,rfl,rfl,rfl,rfl,trivial⟩ ⟨rfl,trivial⟩⟩
 · have h1 : ¬ ((k : Nat) : Int) < (((mC (dIm d)).length : Nat) : Int):=of_decide_eq_false h1
   have hk1 : k = (mC (dIm d)).length:=by omega
   subst hk1
   exact ⟨_,_,_,Le.refl _ _,rfl,rfl,trivial,rfl⟩
def kdTo (l : List Rdk) (x : List UInt8) (k : Nat) : List Int:=(List.range k).map fun c=>awN l c x
theorem kdTo_succ (l : List Rdk) (x : List UInt8) (k : Nat) : kdTo l x (k + 1) = kdTo l x k ++ [awN l k x]:=by
 unfold kdTo
 rw [List.range_succ,List.map_append]
 rfl
theorem kdTo_len (l : List Rdk) (x : List UInt8) (k : Nat) : (kdTo l x k).length = k:=by unfold kdTo; rw [List.length_map,List.length_range]
@[reducible] def kwK (x : List UInt8) (i : Int) (o k : Nat) : KL:=[(1,vS x),(2,vP 2),(5,vOwn o),(6,vI i),(7,vI (k : Nat))]
@[reducible] def kwB (bits room : Int) (l : List Rdk) (o : Nat) (y : List Int) : BL:=[(2,.cells (rcL bits room l)),(o,.row 3 uI y)]
theorem crow_fn {n : Nat} {l : List Rdk} (h : COK n l) (bits room : Int) (x : List UInt8) {d : Rdk} (hd : gtR l x = some d) : Fn Tryz.prog 31 [rcV bits room l,vS x] [] [] (vL uEx (exOf (kdTo l x (mC (dIm d)).length))) []:=by
 have hl:=h.len
 obtain ⟨i,hi,e1,e2,e3⟩:=fdI_some hd
 have hget : lget l (fdI l x).toNat = some d:=by rw [show (fdI l x).toNat = i by omega,← e2]; exact lgAt (n:=i) hi
 have hin : (0 : Int) ≤ fdI l x ∧ fdI l x < ((l.length : Nat) : Int):=by omega
 have hM:=h.ok d (gtR_mem hd)
 have hcl:=hM.cl
 refine Fn.of tblOK [8] _ _ _ _ _ Tryz.func31 rfl rfl (by kernel_rfl) (by kernel_rfl) rfl (drawOK tblOK) rfl ?_
 refine ⟨rfl,?_⟩
 refine ⟨_,_,_,_,cfind_fn bits room l x (by omega),trivial,rfl,?_⟩
 show TrQ _ _ _ _ _ _ _
 refine TrQ.loop tblOK (drawOK tblOK) [8] (by kernel_rfl) (X:=Nat) (fun k=>kwK x (fdI l x) 2003 k) (fun k=>kwB bits room l 2003 (kdTo l x k)) (fun k=>k ≤ (mC (dIm d)).length) (fun k=>(mC (dIm d)).length - k) 0 (Nat.zero_le _) ?_ ?_
 · exact Le.trans (Le.nil 5 2003 3 uI rfl rfl) (Le.sub ⟨rfl,rfl,rfl,rfl,rfl,trivial⟩ ⟨rfl,rfl,trivial⟩)
 intro k hk
 refine ⟨fun _=>?_,fun h1=>absurd (show decide (0 ≤ fdI l x) = false from h1) (by rw [decide_eq_true (by omega)]; decide)⟩
 refine ⟨hin.1,d,hget,?_⟩
 refine ⟨fun h1=>?_,fun h1=>?_⟩
 · have h1 : ((k : Nat) : Int) < (((mC (dIm d)).length : Nat) : Int):=of_decide_eq_true h1
   refine ⟨_,_,_,_,caway_fn bits room l x k (by omega) (h.en x),trivial,rfl,?_⟩
   have b1 : List.length (α:=Int) (kdTo l x k) + 1 ≤ 4294967296:=by
     have : List.length (α:=Int) (kdTo l x k) = k:=kdTo_len l x k
     omega
   refine ⟨b1,rfl,?_⟩
   refine ⟨by omega,k + 1,by omega,by omega,Le.trans (Le.sub (K':=kwK x (fdI l x) 39 (k + 1)) (B':=kwB bits room l 39 (kdTo l x (k + 1))) ⟨rfl,rfl,rfl,rfl,rfl,trivial⟩ ⟨rfl,?_,trivial⟩) (Le.ren 39 2003 rfl)⟩
   rw [kdTo_succ]
   rfl
 · have h1 : ¬ ((k : Nat) : Int) < (((mC (dIm d)).length : Nat) : Int):=of_decide_eq_false h1
   have hk1 : k = (mC (dIm d)).length:=by omega
   subst hk1
   show TrQ _ _ _ _ _ _ _
   refine TrQ.go tblOK (drawOK tblOK) [] (by kernel_rfl) (Le.frz 2003 rfl) ?_
   refine ⟨_,_,_,_,rof_fn (kdTo l x (mC (dIm d)).length) (by have : List.length (α:=Int) (kdTo l x (mC (dIm d)).length) = (mC (dIm d)).length:=kdTo_len l x _; omega),trivial,rfl,?_⟩
   exact ⟨_,_,_,Le.refl _ _,rfl,rfl,trivial,rfl⟩
end Go.Proofs.YteoamepgonpdlaaGreat
/-!
  Chains: scripts of calls: few, does.
-/
namespace Go.Proofs.YteoamepgonpdlaaGreat
set_option linter.unusedVariables false
set_option linter.unusedSimpArgs false
set_option maxRecDepth 10000
open Go.RowKit Go.Proofs
@[reducible] def uQ : U:=.pr uI (.pr uI (.pr uI (.pr (.sl .u8) .str)))
@[reducible] def uC : U:=.pr uI (.pr uI (.pr .str (.pr .str uQ)))
abbrev Cq:=Int × Int × Int × List UInt8 × List UInt8
abbrev Cop:=Int × Int × List UInt8 × List UInt8 × Cq
@[reducible] def cK (o : Cop) : Int:=o.1
@[reducible] def cSz (o : Cop) : Int:=o.2.1
@[reducible] def cNm (o : Cop) : List UInt8:=o.2.2.1
@[reducible] def cOt (o : Cop) : List UInt8:=o.2.2.2.1
@[reducible] def cQ (o : Cop) : Cq:=o.2.2.2.2
@[reducible] def qK (q : Cq) : Int:=q.1
@[reducible] def qA (q : Cq) : Int:=q.2.1
@[reducible] def qL (q : Cq) : Int:=q.2.2.1
@[reducible] def qB (q : Cq) : List UInt8:=q.2.2.2.1
@[reducible] def qN (q : Cq) : List UInt8:=q.2.2.2.2
@[reducible] def cqL (q : Cq) : List S1:=[.d (.int .i64 (qK q)),.d (.int .i64 (qA q)),.d (.int .i64 (qL q)),.d (.lst .u8 (qB q)),.d (.str (qN q))]
@[reducible] def copL (o : Cop) : List S1:=[.d (.int .i64 (cK o)),.d (.int .i64 (cSz o)),.d (.str (cNm o)),.d (.str (cOt o)),.d (.int .i64 (qK (cQ o))),.d (.int .i64 (qA (cQ o))),.d (.int .i64 (qL (cQ o))),.d (.lst .u8 (qB (cQ o))),.d (.str (qN (cQ o)))]
@[reducible] def copV (o : Cop) : SV:=.c (.agg (copL o))
/-! ### few -/
def cTot (o : Cop) : Nat:=(qB (cQ o)).length + (cNm o).length + (cOt o).length
def cBad (o : Cop) : Bool:=decide (12 < cSz o) && decide (cSz o ≤ 256)
def cTo (l : List Cop) (k : Nat) : Nat:=((l.take k).map cTot).sum
theorem csum_le : ∀ (l : List Nat) (k : Nat),(l.take k).sum ≤ l.sum
 | [],k=>by simp
 | x :: l,0=>by simp
 | x :: l,k + 1=>by
   have:=csum_le l k
   simp
   omega
theorem cTo_le (l : List Cop) (k : Nat) : cTo l k ≤ (l.map cTot).sum:=by
 unfold cTo
 rw [List.map_take]
 exact csum_le _ _
theorem cTo_succ (l : List Cop) {k : Nat} (h : k < l.length) : cTo l (k + 1) = cTo l k + cTot l[k]:=by
 unfold cTo
 rw [List.take_add_one,List.getElem?_eq_getElem h,List.map_append,List.sum_append]
 rfl
theorem cTot_le {l : List Cop} {o : Cop} (h : o ∈ l) : cTot o ≤ (l.map cTot).sum:=by
 induction l with
 | nil=>cases h
 | cons x l ih =>
   rw [List.map_cons,List.sum_cons]
   rcases List.mem_cons.1 h with rfl | h
   · omega
   · have:=ih h
     omega
/-- .. up to the k-th none is bad. -/
def cGood (l : List Cop) (k : Nat) : Prop:=∀ (i : Nat) (o : Cop),i < k → l[i]? = some o → cBad o = false
theorem cGood.succ {l : List Cop} {k : Nat} (h : cGood l k) (hk : k < l.length) (hb : cBad l[k] = false) : cGood l (k + 1):=fun i o hi ho=>by
 by_cases e : i = k
 · subst e
   rw [List.getElem?_eq_getElem hk] at ho
   injection ho with ho
   rw [← ho]
   exact hb
 · exact h i o (by omega) ho
/-! ### does -/
structure DR where
 x : List UInt8
 e : Int
 L : List Dsk
def CR.dr (r : CR) : DR:=⟨[],r.e,r.L⟩
def doQ (bits : Nat) (L : List Dsk) (nm : List UInt8) (q : Cq) : DR :=
 if qK q = 0 then ⟨(rdC bits L nm (qA q) (qL q)).1,(rdC bits L nm (qA q) (qL q)).2,L⟩ else if qK q = 1 then (wrC bits L nm (qA q) (qB q)).dr
 else if qK q = 2 then (zrC bits L nm (qA q) (qL q)).dr else if qK q = 3 then (dsC L nm (qA q) (qL q)).dr else ⟨[],0,L⟩
def doC (bits room : Nat) (L : List Dsk) (o : Cop) (p : Nat × Nat) : DR :=
 if cK o = 0 then (adC bits room L (cNm o) (cSz o) (cOt o) p).dr else if cK o = 1 then (rmC L (cNm o)).dr else if cK o = 2 then (rbC L (cNm o) (cOt o)).dr
 else if cK o = 3 then doQ bits L (cNm o) (cQ o) else ⟨[],0,L⟩
theorem doQ_cs {bits room : Nat} {L : List Dsk} (h : CS bits room L) (nm : List UInt8) (q : Cq) : CS bits room (doQ bits L nm q).L:=by
 unfold doQ
 split
 · exact h
 · split
   · exact wrC_cs h _ _ _
   · split
     · exact zrC_cs h _ _ _
     · split
       · exact dsC_cs h _ _ _
       · exact h
/-! Chains: what the bulk of a script bounds. -/
theorem bulkc_u8 : ∀ s : List UInt8,bulkU (.sl .u8) s = 1 + s.length
 | []=>rfl
 | b :: s=>by
   have ih:=bulkc_u8 s
   have e2 : bulkU (.sl .u8) s = 1 + (List.map (bulkU .u8) s).sum:=rfl
   show 1 + (1 + (List.map (bulkU .u8) s).sum) = 1 + (s.length + 1)
   omega
theorem bulkc_op (o : Cop) : bulkU uC o = 9 + cTot o + (qN (cQ o)).length:=by
 have h1:=bulkc_u8 (qB (cQ o))
 have e : bulkU uC o = 1 + (1 + ((1 + (cNm o).length) + ((1 + (cOt o).length) + (1 + (1 + (1 + (bulkU (.sl .u8) (qB (cQ o)) + (1 + (qN (cQ o)).length)))))))):=rfl
 rw [e,h1]
 unfold cTot
 omega
theorem bulkc_ops : ∀ l : List Cop,1 + l.length + (l.map cTot).sum ≤ bulkU (.sl uC) l
 | []=>Nat.le_refl _
 | o :: l=>by
   have h1:=bulkc_ops l
   have e2 : bulkU (.sl uC) l = 1 + (List.map (bulkU uC) l).sum:=rfl
   have e3:=bulkc_op o
   show 1 + (l.length + 1) + (cTot o + (l.map cTot).sum) ≤ 1 + (bulkU uC o + (List.map (bulkU uC) l).sum)
   omega
end Go.Proofs.YteoamepgonpdlaaGreat
/-!
  The document's image (layer 12): New, Do.
-/
namespace Go.Proofs.YteoamepgonpdlaaGreat
set_option linter.unusedVariables false
set_option linter.unusedSimpArgs false
set_option maxRecDepth 10000
open Go.RowKit Go.Proofs
section
variable {P : Program} {ids : List Nat} {K : KL} {B : BL}
/-- Cells,all Holes. -/
theorem opOK_makeCells {o : Oper} {T e d : Nat} {x y : Operand} {inf : TypeInfo} {n : Int} (ho : o.op = .makeSlice T x y) (hT : P.underlying T = some (.slice e)) (hi : P.info? e = some inf) (hz : inf.zero = some (.agg #[.int .i64 0,.int .i64 0])) (hs : inf.size = 2) (hb : inf.bytes = 16)
   (hx : opv K x = .c (.one (.d (.int .i64 n)))) (hy : opv K y = .c (.one (.d (.int .i64 n)))) (h0 : 0 ≤ n) (h1 : n ≤ 1000000) (N : Nat) : OpOK P N ids o K B (.c (.one (.own d))) ⟨[],[d],[(d,some (.row e uCe (List.replicate n.toNat (mkCe 0 0))))]⟩:=by
 have m1 : x ∈ o.op.operands:=by rw [ho]; simp [Op.operands]
 have m2 : y ∈ o.op.operands:=by rw [ho]; simp [Op.operands]
 refine OpOK.make (fun d h=>has_own h) fun K' B' g1 g2 C ρ F a w hM hS hn=>?_
 have hx':=hS.int ((g1 x m1).trans hx)
 have hy':=hS.int ((g1 y m2).trans hy)
 have hrun:=run_make (P:=P) w T e inf _ hT hi hz .i64 .i64 n n h0 (Int.le_refl _) (by rw [hb]; omega) (by omega)
 have hcells : madeCells (Value.agg #[.int .i64 0,.int .i64 0]).cells (n.toNat * inf.size) = (List.replicate (n.toNat * 2) (Value.int .i64 0)).toArray:=by
   rw [hs]
   simp [madeCells,Value.cells]
   apply Array.ext
   · simp
   · intro i h1 h2
     have : i % 2 = 0 ∨ i % 2 = 1:=by omega
     rcases this with h | h <;> simp [h]
 rw [hcells] at hrun
 refine ⟨.slice (some ⟨w.heap.size,0,none⟩) n.toNat n.toNat,w.alloc (.cells (List.replicate (n.toNat * 2) (.int .i64 0)).toArray e),⟨w.heap.size,some ⟨w.heap.size,0,none⟩,n.toNat,n.toNat⟩,fun b=>b = w.heap.size,?_,alloc_below w _,fun b hb=>?_,fun I hE hI=>⟨⟨?_,?_,List.replicate (n.toNat * 2) (.int .i64 0),?_,?_⟩,?_⟩⟩
 · simp only [execOp,ho,Sem.run_bind,hx',hy',hrun,Result.andThen_ok,Sem.run_pure]
 · subst hb; simp
 · intro b
   simp [Pl.hdr,Value.ownBlock,eq_comm]
 · intro b hb
   simp [Pl.hdr,Value.ownBlock] at hb
   exact hb.symm
 · have:=ownsRow_new w e 2 n.toNat (List.replicate (n.toNat * 2) (.int .i64 0)) (by simp) (by simp only [maxLen]; omega)
   have e1 : List.length (α:=El uCe) (List.replicate n.toNat (mkCe 0 0)) = n.toNat:=List.length_replicate
   rw [e1]
   exact this
 · intro i z hz
   obtain ⟨hi,hz'⟩:=List.getElem?_eq_some_iff.1 hz
   have hz2 : z = mkCe 0 0:=by rw [← hz']; exact List.getElem_replicate ..
   subst hz2
   have hi : i < n.toNat:=by
     have h1 : i < List.length (α:=Cell) (List.replicate n.toNat (mkCe 0 0)):=hi
     rw [List.length_replicate] at h1
     exact h1
   have g : ∀ j,j < 2 → (List.replicate (n.toNat * 2) (Value.int .i64 0))[i * 2 + j]? = some (.int .i64 0):=fun j hj=>by
     rw [List.getElem?_replicate,if_pos (by omega)]
   exact ⟨g 0 (by decide),g 1 (by decide)⟩
 · simp only [DenV,DenC,DenS,upd_same]
   rfl
end
theorem infCz : (Tryz.prog.info? 148).map (fun i=>(i.zero,i.bytes,i.size)) = some (some (.agg #[.int .i64 0,.int .i64 0]),16,2):=by kernel_rfl
theorem infCz_get : ∃ i,Tryz.prog.info? 148 = some i ∧ i.zero = some (.agg #[.int .i64 0,.int .i64 0]) ∧ i.bytes = 16 ∧ i.size = 2:=by
 cases e : Tryz.prog.info? 148 with
 | none=>have h:=infCz; rw [e] at h; cases h
 | some i =>
   have h:=infCz
   rw [e] at h
   simp only [Option.map_some,Option.some.injEq,Prod.mk.injEq] at h
   exact ⟨i,rfl,h.1,h.2.1,h.2.2⟩
@[reducible] def qnwK (b s r : Int) (k : Nat) : KL:=[(0,vI b),(1,vI s),(2,vI r),(6,vP 6),(8,vI ((2 ^ k : Nat) : Int)),(9,vI (k : Nat))]
@[reducible] def qnwB : BL:=[(6,.cells tbl.t104.zero)]
theorem mnew_own {bits size room : Int} (h : newMay bits size room = true) : Fn Tryz.prog 48 [vI bits,vI size,vI room] [] [2001] (.tup [.agg [.d (.int .i64 ((2 ^ bits.toNat : Nat) : Int)),.d (.int .i64 room),.own 2001,.d (.lst uSn []),.d (.lst .str [])],.one (.d (.bool true))])
   ([] ++ [(2001,.row 148 uCe (List.replicate size.toNat (mkCe 0 0)))]):=by
 obtain ⟨⟨a1,a2⟩,⟨a3,a4⟩,a5,a6⟩:=newMay_get h
 refine Fn.of tblOK [] _ _ _ _ _ Tryz.func48 rfl rfl (by kernel_rfl) (by kernel_rfl) rfl (drawOK tblOK) rfl ?_
 refine ⟨rfl,?_⟩
 refine ⟨fun c=>absurd (of_decide_eq_true c) (by omega),fun _=>?_⟩
 refine ⟨fun c=>absurd (of_decide_eq_true c) (by omega),fun _=>?_⟩
 refine ⟨fun c=>absurd (of_decide_eq_true c) (by omega),fun _=>?_⟩
 refine ⟨fun c=>absurd (of_decide_eq_true c) (by omega),fun _=>?_⟩
 refine ⟨fun c=>absurd (of_decide_eq_true c) (by omega),fun _=>?_⟩
 refine ⟨fun c=>absurd (of_decide_eq_true c) (by omega),fun _=>?_⟩
 show TrQ _ _ _ _ _ _ _
 refine TrQ.loop tblOK (drawOK tblOK) [] (by kernel_rfl) (X:=Nat) (qnwK bits size room) (fun _=>qnwB) (fun k=>(k : Int) ≤ bits) (fun k=>bits.toNat - k) 0 a5 ?_ ?_
 · exact Le.sub ⟨rfl,rfl,rfl,rfl,rfl,rfl,trivial⟩ ⟨rfl,trivial⟩
 intro k hk
 have h8 : 2 ^ k ≤ 2 ^ 3:=Nat.pow_le_pow_right (by omega) (by omega)
 refine ⟨fun h1=>?_,fun h1=>?_⟩
 · have h1 : ((k : Nat) : Int) < bits:=of_decide_eq_true h1
   have e : ((2 ^ k : Nat) : Int) + ((2 ^ k : Nat) : Int) = ((2 ^ (k + 1) : Nat) : Int):=by rw [Nat.pow_succ]; generalize 2 ^ k = P at *; omega
   have b1 : (-9223372036854775808 : Int) ≤ ((2 ^ k : Nat) : Int) + ((2 ^ k : Nat) : Int) ∧ ((2 ^ k : Nat) : Int) + ((2 ^ k : Nat) : Int) ≤ 9223372036854775807:=by generalize 2 ^ k = P at *; omega
   refine ⟨b1,?_⟩
   exact ⟨by omega,k + 1,by omega,by omega,Le.sub ⟨rfl,rfl,rfl,rfl,e,rfl,trivial⟩ ⟨rfl,trivial⟩⟩
 · have h1 : ¬ ((k : Nat) : Int) < bits:=of_decide_eq_false h1
   have hk1 : k = bits.toNat:=by omega
   subst hk1
   obtain ⟨ii,i1,i2,i3,i4⟩:=infCz_get
   refine ⟨_,_,fun N=>opOK_makeCells (d:=44) rfl Tryz.underlying100 i1 i2 i4 i3 rfl rfl a1 (by omega) N,rfl,?_⟩
   exact ⟨_,_,_,Le.ren 44 2001 rfl,rfl,⟨⟨rfl,rfl,rfl,rfl,rfl,trivial⟩,rfl,trivial⟩,⟨rfl,trivial⟩,rfl⟩
theorem mnew_fn (bits size room : Int) : Fn Tryz.prog 48 [vI bits,vI size,vI room] [] [] (.tup [.agg (imL (newM bits size room)),.one (.d (.bool (newMay bits size room)))]) []:=by
 cases h : newMay bits size room with
 | true =>
   have e : newM bits size room = mkM ((2 ^ bits.toNat : Nat) : Int) room (List.replicate size.toNat (mkCe 0 0)) [] []:=by unfold newM; rw [h]
   rw [e]
   exact Fn.frzR (d:=2001) (mnew_own h) rfl rfl rfl
 | false =>
   have e : newM bits size room = mkM 0 0 [] [] []:=by unfold newM; rw [h]
   rw [e]
   have no : ¬ ((0 ≤ size ∧ size ≤ 256) ∧ (0 ≤ room ∧ room ≤ 512) ∧ 0 ≤ bits ∧ bits ≤ 3):=fun ⟨⟨a1,a2⟩,⟨a3,a4⟩,a5,a6⟩=>by
     unfold newMay at h
     rw [decide_eq_true a1,decide_eq_true a2,decide_eq_true a3,decide_eq_true a4,decide_eq_true a5,decide_eq_true a6] at h
     exact absurd h (by decide)
   refine Fn.of tblOK [] _ _ _ _ _ Tryz.func48 rfl rfl (by kernel_rfl) (by kernel_rfl) rfl (drawOK tblOK) rfl ?_
   refine ⟨rfl,?_⟩
   refine ⟨fun c1=>?_,fun c1=>?_⟩
   · exact ⟨_,_,_,Le.refl _ _,rfl,⟨⟨rfl,rfl,rfl,rfl,rfl,trivial⟩,rfl,trivial⟩,trivial,rfl⟩
   have c1:=of_decide_eq_false c1
   refine ⟨fun c2=>?_,fun c2=>?_⟩
   · exact ⟨_,_,_,Le.refl _ _,rfl,⟨⟨rfl,rfl,rfl,rfl,rfl,trivial⟩,rfl,trivial⟩,trivial,rfl⟩
   have c2:=of_decide_eq_false c2
   refine ⟨fun c3=>?_,fun c3=>?_⟩
   · exact ⟨_,_,_,Le.refl _ _,rfl,⟨⟨rfl,rfl,rfl,rfl,rfl,trivial⟩,rfl,trivial⟩,trivial,rfl⟩
   have c3:=of_decide_eq_false c3
   refine ⟨fun c4=>?_,fun c4=>?_⟩
   · exact ⟨_,_,_,Le.refl _ _,rfl,⟨⟨rfl,rfl,rfl,rfl,rfl,trivial⟩,rfl,trivial⟩,trivial,rfl⟩
   have c4:=of_decide_eq_false c4
   refine ⟨fun c5=>?_,fun c5=>?_⟩
   · exact ⟨_,_,_,Le.refl _ _,rfl,⟨⟨rfl,rfl,rfl,rfl,rfl,trivial⟩,rfl,trivial⟩,trivial,rfl⟩
   have c5:=of_decide_eq_false c5
   refine ⟨fun c6=>?_,fun c6=>?_⟩
   · exact ⟨_,_,_,Le.refl _ _,rfl,⟨⟨rfl,rfl,rfl,rfl,rfl,trivial⟩,rfl,trivial⟩,trivial,rfl⟩
   have c6:=of_decide_eq_false c6
   exact absurd ⟨⟨by omega,by omega⟩,⟨by omega,by omega⟩,by omega,by omega⟩ no
/-! ### Do -/
@[reducible] def cqV (q : Cq) : SV:=.c (.agg (cqL q))
def doM (n : Nat) (m : Rim) (q : Cq) (bel : List (List UInt8)) : Rim × Int :=
 if qK q = 1 then writeM n m (qA q) (qB q) bel false
 else if qK q = 2 then (if insE n (mC m).length (qA q) (qL q) = 0 then writeM n m (qA q) (List.replicate (16 * qL q).toNat 0) bel true else (m,insE n (mC m).length (qA q) (qL q)))
 else discM n m (qA q) (qL q)
set_option maxHeartbeats 2000000 in
theorem mdo_fn {n : Nat} {m : Rim} (h : MOK n m) (q : Cq) (bel : List (List UInt8)) (hq : qK q = 1 ∨ qK q = 2 ∨ qK q = 3) (hb : (qB q).length ≤ 1000000) (hbl : bel.length ≤ 1000000) (hd : (mD m).length + 256 ≤ 100000) :
   Fn Tryz.prog 98 [imV m,cqV q,vL .str bel] [] [] (.tup [.agg (imL (doM n m q bel).1),.one (.d (.str [])),vErr (doM n m q bel).2]) []:=by
 have hn:=h.n8
 have hc:=h.cl
 have hnc : n * (mC m).length ≤ 8 * 256:=Nat.mul_le_mul hn hc
 unfold doM
 refine Fn.of tblOK [] _ _ _ _ _ Tryz.func98 rfl rfl (by kernel_rfl) (by kernel_rfl) rfl (drawOK tblOK) rfl ?_
 refine ⟨rfl,?_⟩
 refine ⟨rfl,?_⟩
 refine ⟨rfl,?_⟩
 refine ⟨fun c=>absurd (of_decide_eq_true c) (by omega),fun _=>?_⟩
 refine ⟨fun c1=>?_,fun c1=>?_⟩
 · have c1 : qK q = 1:=of_decide_eq_true c1
   rw [if_pos c1]
   refine ⟨_,_,_,_,Fn.arg (mwrite_fn h (qA q) (qB q) bel false hb hbl hd) ⟨⟨rfl,rfl,rfl,rfl,rfl,trivial⟩,rfl,rfl,rfl,rfl,trivial⟩,trivial,rfl,?_⟩
   exact ⟨_,_,_,Le.refl _ _,rfl,⟨⟨rfl,rfl,rfl,rfl,rfl,trivial⟩,rfl,rfl,trivial⟩,trivial,rfl⟩
 have c1 : ¬ qK q = 1:=of_decide_eq_false c1
 rw [if_neg c1]
 refine ⟨fun c2=>?_,fun c2=>?_⟩
 · have c2 : qK q = 2:=of_decide_eq_true c2
   rw [if_pos c2]
   refine ⟨_,_,_,_,minside_fn h (qA q) (qL q),trivial,rfl,?_⟩
   refine ⟨fun c3=>?_,fun c3=>?_⟩
   · have c3 : insE n (mC m).length (qA q) (qL q) = 0:=of_decide_eq_true c3
     rw [if_pos c3]
     obtain ⟨b1,b2,b3⟩:=insE_zero c3
     have q16 : -9223372036854775808 ≤ 16 * qL q ∧ 16 * qL q ≤ 9223372036854775807:=by omega
     refine ⟨q16,?_⟩
     refine ⟨by omega,rfl,?_⟩
     refine ⟨_,_,_,_,Fn.arg (mwrite_fn h (qA q) (List.replicate (16 * qL q).toNat 0) bel true (by rw [List.length_replicate]; omega) hbl hd) ⟨⟨rfl,rfl,rfl,rfl,rfl,trivial⟩,rfl,rfl,rfl,rfl,trivial⟩,trivial,rfl,?_⟩
     refine ⟨rfl,?_⟩
     exact ⟨_,_,_,Le.refl _ _,rfl,⟨⟨rfl,rfl,rfl,rfl,rfl,trivial⟩,rfl,rfl,trivial⟩,trivial,rfl⟩
   · have c3 : ¬ insE n (mC m).length (qA q) (qL q) = 0:=of_decide_eq_false c3
     rw [if_neg c3]
     exact ⟨_,_,_,Le.refl _ _,rfl,⟨⟨rfl,rfl,rfl,rfl,rfl,trivial⟩,rfl,rfl,trivial⟩,trivial,rfl⟩
 have c2 : ¬ qK q = 2:=of_decide_eq_false c2
 rw [if_neg c2]
 refine ⟨fun _=>?_,fun c3=>absurd (of_decide_eq_false c3) (by omega)⟩
 refine ⟨_,_,_,_,mdisc_fn h (qA q) (qL q),trivial,rfl,?_⟩
 exact ⟨_,_,_,Le.refl _ _,rfl,⟨⟨rfl,rfl,rfl,rfl,rfl,trivial⟩,rfl,rfl,trivial⟩,trivial,rfl⟩
end Go.Proofs.YteoamepgonpdlaaGreat
/-!
  The document's Right (layer 4).
-/
namespace Go.Proofs.YteoamepgonpdlaaGreat
set_option linter.unusedVariables false
set_option linter.unusedSimpArgs false
set_option maxRecDepth 10000
open Go.RowKit Go.Proofs
def signs : List UInt8:=[97,98,99,100,101,102,103,104,105,106,107,108,109,110,111,112,113,114,115,116,117,118,119,120,121,122,48,49,50,51,52,53,54,55,56,57,46,45]
theorem signs_any (c : UInt8) : signs.any (fun x=>decide (x = c)) = signB c:=by
 have h : ∀ n : Fin 256,signs.any (fun x=>decide (x = UInt8.ofNat n.val)) = signB (UInt8.ofNat n.val):=by decide
 have:=h ⟨c.toNat,c.toNat_lt⟩
 simpa using this
theorem refRight_spec (s : List UInt8) (hs : s.length ≤ 4294967296) : Fn Tryz.prog 94 [vS s] [] [] (vB (nameOK s)) []:=by
 refine Fn.of tblOK [] _ _ _ _ _ Tryz.func94 rfl rfl (by kernel_rfl) (by kernel_rfl) rfl (drawOK tblOK) rfl ?_
 show TrQ _ _ _ _ _ _ _
 refine TrQ.loop tblOK (drawOK tblOK) [] (by kernel_rfl) (X:=Nat) (fun k=>[(0,vS s),(3,vS signs),(4,vI (k : Nat))]) (fun _=>[]) (fun k=>k ≤ s.length ∧ ∀ (i : Nat) c,i < k → s[i]? = some c → signB c = true) (fun k=>s.length - k) 0 ⟨Nat.zero_le _,fun i c h=>absurd h (Nat.not_lt_zero _)⟩ ?_ ?_
 · exact Le.sub ⟨rfl,rfl,rfl,trivial⟩ trivial
 intro k ⟨hk,hp⟩
 refine ⟨fun h=>?_,fun h=>?_⟩
 · have hk1 : k < s.length:=by
     have h : decide ((k : Int) < (s.length : Int)) = true:=h
     simpa using h
   show TrQ _ _ _ _ _ _ _
   refine TrQ.loop tblOK (drawOK tblOK) [] (by kernel_rfl) (X:=Nat × Bool) (fun x=>[(0,vS s),(3,vS signs),(4,vI (k : Nat)),(5,vB x.2),(6,vI (x.1 : Nat))]) (fun _=>[]) (fun x=>x.1 ≤ signs.length ∧ x.2 = (signs.take x.1).any fun y=>decide (y = s[k])) (fun x=>signs.length - x.1) (0,false) ⟨Nat.zero_le _,rfl⟩ ?_ ?_
   · exact Le.sub ⟨rfl,rfl,rfl,rfl,rfl,trivial⟩ trivial
   rintro ⟨j,fd⟩ ⟨hj,hfd⟩
   simp only at hj hfd
   refine ⟨fun h2=>?_,fun h2=>?_⟩
   · have hj1 : j < signs.length:=by
       have h2 : decide ((j : Int) < (signs.length : Int)) = true:=h2
       simpa using h2
     have hsl : signs.length = 38:=rfl
     have ht : signs.take (j + 1) = signs.take j ++ [signs[j]]:=by simp
     refine ⟨by omega,signs[j],lgetAt (n:=j) hj1,?_⟩
     refine ⟨by omega,s[k],lgetAt (n:=k) hk1,?_⟩
     refine ⟨rfl,fun h3=>?_,fun h3=>?_⟩
     · refine ⟨by omega,(j + 1,true),⟨by omega,?_⟩,by omega,Le.sub ⟨rfl,rfl,rfl,rfl,rfl,trivial⟩ trivial⟩
       have h3 : decide ((UInt8.toNat signs[j] : Int) = (UInt8.toNat s[k] : Int)) = true:=h3
       have h4 : signs[j] = s[k]:=UInt8.toNat_inj.1 (by have:=of_decide_eq_true h3; omega)
       show true = _
       rw [ht,List.any_append]
       simp [h4]
     · refine ⟨by omega,(j + 1,fd),⟨by omega,?_⟩,by omega,Le.sub ⟨rfl,rfl,rfl,rfl,rfl,trivial⟩ trivial⟩
       have h3 : decide ((UInt8.toNat signs[j] : Int) = (UInt8.toNat s[k] : Int)) = false:=h3
       have h4 : signs[j] ≠ s[k]:=fun e=>by rw [e] at h3; simp at h3
       show fd = _
       rw [ht,List.any_append,hfd]
       simp [h4]
   · have hj1 : j = signs.length:=by
       have h2 : decide ((j : Int) < (signs.length : Int)) = false:=h2
       simp at h2; omega
     rw [hj1,List.take_length,signs_any] at hfd
     subst hfd
     refine ⟨fun h3=>?_,fun h3=>?_⟩
     · have h3 : (!signB s[k]) = true:=h3
       refine ⟨_,_,_,Le.refl _ _,rfl,(show false = nameOK s from ?_),trivial,rfl⟩
       have : s.all signB = false:=by
         rw [Bool.eq_false_iff]
         intro h4
         have:=List.all_eq_true.1 h4 s[k] (List.getElem_mem _)
         rw [this] at h3
         cases h3
       simp [nameOK,this]
     · have h3 : (!signB s[k]) = false:=h3
       refine ⟨by omega,k + 1,⟨by omega,fun i c hi hc=>?_⟩,by omega,Le.sub ⟨rfl,rfl,rfl,trivial⟩ trivial⟩
       rcases Nat.lt_or_ge i k with h4 | h4
       · exact hp i c h4 hc
       · have : i = k:=by omega
         subst this
         rw [List.getElem?_eq_getElem hk1] at hc
         injection hc with hc
         subst hc
         simpa using h3
 · have hk2 : k = s.length:=by
     have h : decide ((k : Int) < (s.length : Int)) = false:=h
     simp at h; omega
   have hall : s.all signB = true:=List.all_eq_true.2 fun c hc=>by
     obtain ⟨i,hi,rfl⟩:=List.getElem_of_mem hc
     exact hp i _ (by omega) (List.getElem?_eq_getElem hi)
   refine ⟨fun h1=>?_,fun h1=>?_⟩
   · have h1 : decide ((0 : Int) < (s.length : Int)) = true:=h1
     refine ⟨_,_,_,Le.refl _ _,rfl,(show decide ((s.length : Int) < 16) = nameOK s from ?_),trivial,rfl⟩
     simp at h1
     have q1 : decide (1 ≤ s.length) = true:=by simp; omega
     have q2 : decide ((s.length : Int) < 16) = decide (s.length ≤ 15):=by
       by_cases h9 : s.length ≤ 15
       · rw [decide_eq_true h9,decide_eq_true (by omega)]
       · rw [decide_eq_false h9,decide_eq_false (by omega)]
     rw [nameOK,hall,q1,q2]
     simp
   · have h1 : decide ((0 : Int) < (s.length : Int)) = false:=h1
     refine ⟨_,_,_,Le.refl _ _,rfl,(show false = nameOK s from ?_),trivial,rfl⟩
     simp at h1
     simp [nameOK,h1]
end Go.Proofs.YteoamepgonpdlaaGreat
/-!
  The document's chain (layer 14): New, add, rebase, sectors, Do.
-/
namespace Go.Proofs.YteoamepgonpdlaaGreat
set_option linter.unusedVariables false
set_option linter.unusedSimpArgs false
set_option maxRecDepth 10000
open Go.RowKit Go.Proofs
theorem cnew_fn (bits room : Int) : Fn Tryz.prog 7 [vI bits,vI room] [] [] (.tup [.agg (rcL bits room []),.one (.d (.bool (newMay bits 0 room)))]) []:=by
 refine Fn.of tblOK [] _ _ _ _ _ Tryz.func7 rfl rfl (by kernel_rfl) (by kernel_rfl) rfl (drawOK tblOK) rfl ?_
 refine ⟨rfl,?_⟩
 refine ⟨_,_,_,_,mnew_fn bits 0 room,trivial,rfl,?_⟩
 refine ⟨rfl,?_⟩
 exact ⟨_,_,_,Le.refl _ _,rfl,⟨⟨rfl,rfl,rfl,trivial⟩,rfl,trivial⟩,trivial,rfl⟩
/-! ### add -/
def adR (bits room : Int) (l : List Rdk) (nm : List UInt8) (size : Int) (ot : List UInt8) : List Rdk × Int :=
 if newMay bits size room = false then (l,1)
 else if nameOK nm = false then (l,1)
 else if 0 ≤ fdI l nm then (l,143)
 else if 16 ≤ l.length then (l,143)
 else if ot ≠ [] ∧ fdI l ot < 0 then (l,140)
 else if ot ≠ [] ∧ 8 ≤ dqR l ot then (l,142)
 else (ptR l (mkDk nm ot (newM bits size room)),0)
set_option maxHeartbeats 1000000 in
theorem cadd_fn (bits room : Int) (l : List Rdk) (o : Cop) (hl : l.length ≤ 1073741824) (hn : (cNm o).length ≤ 4294967296) : Fn Tryz.prog 54 [rcV bits room l,copV o] [] [] (.tup [.agg (rcL bits room (adR bits room l (cNm o) (cSz o) (cOt o)).1),vErr (adR bits room l (cNm o) (cSz o) (cOt o)).2]) []:=by
 unfold adR
 refine Fn.of tblOK [] _ _ _ _ _ Tryz.func54 rfl rfl (by kernel_rfl) (by kernel_rfl) rfl (drawOK tblOK) rfl ?_
 refine ⟨rfl,?_⟩
 refine ⟨rfl,?_⟩
 refine ⟨rfl,?_⟩
 refine ⟨_,_,_,_,mnew_fn bits (cSz o) room,trivial,rfl,?_⟩
 refine ⟨rfl,?_⟩
 refine ⟨fun c1=>?_,fun c1=>?_⟩
 · have c1 : (!newMay bits (cSz o) room) = true:=c1
   have c1 : newMay bits (cSz o) room = false:=by simpa using c1
   rw [if_pos c1]
   exact ⟨_,_,_,Le.refl _ _,rfl,⟨⟨rfl,rfl,rfl,trivial⟩,rfl,trivial⟩,trivial,rfl⟩
 have c1 : (!newMay bits (cSz o) room) = false:=c1
 have c1 : newMay bits (cSz o) room = true:=by simpa using c1
 rw [if_neg (by rw [c1]; decide)]
 refine ⟨_,_,_,_,refRight_spec (cNm o) hn,trivial,rfl,?_⟩
 refine ⟨fun c2=>?_,fun c2=>?_⟩
 · have c2 : (!nameOK (cNm o)) = true:=c2
   have c2 : nameOK (cNm o) = false:=by simpa using c2
   rw [if_pos c2]
   exact ⟨_,_,_,Le.refl _ _,rfl,⟨⟨rfl,rfl,rfl,trivial⟩,rfl,trivial⟩,trivial,rfl⟩
 have c2 : (!nameOK (cNm o)) = false:=c2
 have c2 : nameOK (cNm o) = true:=by simpa using c2
 rw [if_neg (by rw [c2]; decide)]
 refine ⟨_,_,_,_,cfind_fn bits room l (cNm o) hl,trivial,rfl,?_⟩
 refine ⟨fun c3=>?_,fun c3=>?_⟩
 · have c3 : 0 ≤ fdI l (cNm o):=of_decide_eq_true c3
   rw [if_pos c3]
   exact ⟨_,_,_,Le.refl _ _,rfl,⟨⟨rfl,rfl,rfl,trivial⟩,rfl,trivial⟩,trivial,rfl⟩
 have c3 : ¬ 0 ≤ fdI l (cNm o):=of_decide_eq_false c3
 rw [if_neg c3]
 refine ⟨fun c4=>?_,fun c4=>?_⟩
 · have c4 : (16 : Int) ≤ ((l.length : Nat) : Int):=of_decide_eq_true c4
   rw [if_pos (by omega)]
   exact ⟨_,_,_,Le.refl _ _,rfl,⟨⟨rfl,rfl,rfl,trivial⟩,rfl,trivial⟩,trivial,rfl⟩
 have c4 : ¬ (16 : Int) ≤ ((l.length : Nat) : Int):=of_decide_eq_false c4
 rw [if_neg (by omega)]
 refine ⟨fun c5=>?_,fun c5=>?_⟩
 · have c5 : (!decide (cOt o = [])) = true:=c5
   have c5 : cOt o ≠ []:=by simpa using c5
   refine ⟨_,_,_,_,cfind_fn bits room l (cOt o) hl,trivial,rfl,?_⟩
   refine ⟨fun c6=>?_,fun c6=>?_⟩
   · have c6 : fdI l (cOt o) < 0:=of_decide_eq_true c6
     rw [if_pos ⟨c5,c6⟩]
     exact ⟨_,_,_,Le.refl _ _,rfl,⟨⟨rfl,rfl,rfl,trivial⟩,rfl,trivial⟩,trivial,rfl⟩
   have c6 : ¬ fdI l (cOt o) < 0:=of_decide_eq_false c6
   rw [if_neg (fun q=>c6 q.2)]
   refine ⟨fun _=>?_,fun c7=>absurd (show (!decide (cOt o = [])) = false from c7) (by rw [decide_eq_false c5]; decide)⟩
   refine ⟨_,_,_,_,cdepth_fn bits room l (cOt o) hl,trivial,rfl,?_⟩
   refine ⟨fun c8=>?_,fun c8=>?_⟩
   · have c8 : (8 : Int) ≤ ((dqR l (cOt o) : Nat) : Int):=of_decide_eq_true c8
     rw [if_pos ⟨c5,by omega⟩]
     exact ⟨_,_,_,Le.refl _ _,rfl,⟨⟨rfl,rfl,rfl,trivial⟩,rfl,trivial⟩,trivial,rfl⟩
   have c8 : ¬ (8 : Int) ≤ ((dqR l (cOt o) : Nat) : Int):=of_decide_eq_false c8
   rw [if_neg (fun q=>c8 (by have:=q.2; omega))]
   refine ⟨_,_,_,_,cput_fn l (mkDk (cNm o) (cOt o) (newM bits (cSz o) room)) hl,trivial,rfl,?_⟩
   exact ⟨_,_,_,Le.refl _ _,rfl,⟨⟨rfl,rfl,rfl,trivial⟩,rfl,trivial⟩,trivial,rfl⟩
 · have c5 : (!decide (cOt o = [])) = false:=c5
   have c5 : cOt o = []:=by simpa using c5
   rw [if_neg (fun q=>q.1 c5),if_neg (fun q=>q.1 c5)]
   refine ⟨fun c7=>absurd (show (!decide (cOt o = [])) = true from c7) (by rw [decide_eq_true c5]; decide),fun _=>?_⟩
   refine ⟨_,_,_,_,cput_fn l (mkDk (cNm o) (cOt o) (newM bits (cSz o) room)) hl,trivial,rfl,?_⟩
   exact ⟨_,_,_,Le.refl _ _,rfl,⟨⟨rfl,rfl,rfl,trivial⟩,rfl,trivial⟩,trivial,rfl⟩
/-! ### rebase -/
def stR (l : List Rdk) (nm : List UInt8) (d : Rdk) : List Rdk:=l.set (fdI l nm).toNat d
def rbR (l : List Rdk) (nm ot : List UInt8) : List Rdk × Int:=match gtR l nm with
 | none=>(l,140)
 | some d=>if ot ≠ [] ∧ fdI l ot < 0 then (l,140)
   else if dqR (stR l nm (mkDk (dN d) ot (dIm d))) nm = 99 then (l,141)
   else if (stR l nm (mkDk (dN d) ot (dIm d))).all (fun x=>decide (dqR (stR l nm (mkDk (dN d) ot (dIm d))) (dN x) ≤ 8)) then (stR l nm (mkDk (dN d) ot (dIm d)),0)
   else (l,142)
@[reducible] def rbK14 (k : Nat) : KL:=[(2,vP 2),(3,vP 3),(4,vP 4),(8,vP 8),(9,vI (k : Nat))]
@[reducible] def rbB14 (bits room : Int) (l : List Rdk) (o : Cop) (N : List Rdk) : BL:=[(2,.cells (rcL bits room l)),(3,.cells (copL o)),(4,.cells tbl.t29.zero),(8,.cells (rcL bits room N))]
set_option maxHeartbeats 1000000 in
theorem crebase_fn (bits room : Int) (l : List Rdk) (o : Cop) (hl : l.length ≤ 1073741824) : Fn Tryz.prog 57 [rcV bits room l,copV o] [] [] (.tup [.agg (rcL bits room (rbR l (cNm o) (cOt o)).1),vErr (rbR l (cNm o) (cOt o)).2]) []:=by
 unfold rbR
 refine Fn.of tblOK [] _ _ _ _ _ Tryz.func57 rfl rfl (by kernel_rfl) (by kernel_rfl) rfl (drawOK tblOK) rfl ?_
 refine ⟨rfl,?_⟩
 refine ⟨rfl,?_⟩
 refine ⟨rfl,?_⟩
 refine ⟨_,_,_,_,cfind_fn bits room l (cNm o) hl,trivial,rfl,?_⟩
 refine ⟨fun c1=>?_,fun c1=>?_⟩
 · have c1 : fdI l (cNm o) < 0:=of_decide_eq_true c1
   rw [fdI_neg c1]
   exact ⟨_,_,_,Le.refl _ _,rfl,⟨⟨rfl,rfl,rfl,trivial⟩,rfl,trivial⟩,trivial,rfl⟩
 have c1 : ¬ fdI l (cNm o) < 0:=of_decide_eq_false c1
 obtain ⟨i,hi,e1,e2,e3⟩:=fdI_pos c1
 rw [e2]
 simp only
 have hget : lget l (fdI l (cNm o)).toNat = some l[i]:=by rw [show (fdI l (cNm o)).toNat = i by omega]; exact lgAt (n:=i) hi
 have hst : ∀ d,stR l (cNm o) d = l.set i d:=fun d=>by unfold stR; rw [show (fdI l (cNm o)).toNat = i by omega]
 have hin : (0 : Int) ≤ fdI l (cNm o) ∧ fdI l (cNm o) < ((l.length : Nat) : Int):=by omega
 rw [hst]
 refine ⟨fun c2=>?_,fun c2=>?_⟩
 focus
   have c2 : (!decide (cOt o = [])) = true:=c2
   have c2 : cOt o ≠ []:=by simpa using c2
   refine ⟨_,_,_,_,cfind_fn bits room l (cOt o) hl,trivial,rfl,?_⟩
   refine ⟨fun c3=>?_,fun c3=>?_⟩
   · have c3 : fdI l (cOt o) < 0:=of_decide_eq_true c3
     rw [if_pos ⟨c2,c3⟩]
     exact ⟨_,_,_,Le.refl _ _,rfl,⟨⟨rfl,rfl,rfl,trivial⟩,rfl,trivial⟩,trivial,rfl⟩
   have c3 : ¬ fdI l (cOt o) < 0:=of_decide_eq_false c3
   rw [if_neg (fun q=>c3 q.2)]
 rotate_left
 focus
   have c2 : (!decide (cOt o = [])) = false:=c2
   have c2 : cOt o = []:=by simpa using c2
   rw [if_neg (fun q=>q.1 c2)]
 all_goals
   refine ⟨hin.1,l[i],hget,?_⟩
   refine ⟨rfl,?_⟩
   refine ⟨_,_,_,_,Fn.arg (cwith_fn bits room l (k:=i) hl hi (mkDk (dN l[i]) (cOt o) (dIm l[i]))) ⟨⟨rfl,rfl,rfl,trivial⟩,e1,⟨rfl,rfl,rfl,rfl,rfl,rfl,rfl,trivial⟩,trivial⟩,trivial,rfl,?_⟩
   refine ⟨rfl,?_⟩
   generalize hN : l.set i (mkDk (dN l[i]) (cOt o) (dIm l[i])) = N at *
   have hNl : N.length = l.length:=by rw [← hN,List.length_set]
   refine ⟨_,_,_,_,cdepth_fn bits room N (cNm o) (by omega),trivial,rfl,?_⟩
   refine ⟨fun c4=>?_,fun c4=>?_⟩
   · have c4 : ((dqR N (cNm o) : Nat) : Int) = 99:=of_decide_eq_true c4
     rw [if_pos (by omega)]
     exact ⟨_,_,_,Le.refl _ _,rfl,⟨⟨rfl,rfl,rfl,trivial⟩,rfl,trivial⟩,trivial,rfl⟩
   have c4 : ¬ ((dqR N (cNm o) : Nat) : Int) = 99:=of_decide_eq_false c4
   rw [if_neg (by omega)]
   show TrQ _ _ _ _ _ _ _
   refine TrQ.loop tblOK (drawOK tblOK) [] (by kernel_rfl) (X:=Nat) rbK14 (fun _=>rbB14 bits room l o N) (fun k=>k ≤ N.length ∧ ∀ (j : Nat) x,j < k → N[j]? = some x → dqR N (dN x) ≤ 8) (fun k=>N.length - k) 0 ⟨Nat.zero_le _,fun j x h=>absurd h (Nat.not_lt_zero _)⟩ ?_ ?_
   · exact Le.sub ⟨rfl,rfl,rfl,rfl,rfl,trivial⟩ ⟨rfl,rfl,rfl,rfl,trivial⟩
   rintro k ⟨hk,hp⟩
   refine ⟨fun h1=>?_,fun h1=>?_⟩
   · have h1 : ((k : Nat) : Int) < ((N.length : Nat) : Int):=of_decide_eq_true h1
     have hk1 : k < N.length:=by omega
     refine ⟨by omega,N[k],lgAt (n:=k) hk1,?_⟩
     refine ⟨_,_,_,_,cdepth_fn bits room N (dN N[k]) (by omega),trivial,rfl,?_⟩
     refine ⟨rfl,fun h2=>?_,fun h2=>?_⟩
     · have h2 : (8 : Int) < ((dqR N (dN N[k]) : Nat) : Int):=of_decide_eq_true h2
       rw [if_neg (fun q=>by
         have:=of_decide_eq_true (List.all_eq_true.1 q _ (List.getElem_mem hk1))
         omega)]
       exact ⟨_,_,_,Le.refl _ _,rfl,⟨⟨rfl,rfl,rfl,trivial⟩,rfl,trivial⟩,trivial,rfl⟩
     · have h2 : ¬ (8 : Int) < ((dqR N (dN N[k]) : Nat) : Int):=of_decide_eq_false h2
       refine ⟨by omega,k + 1,⟨by omega,fun j x hj hx=>?_⟩,by omega,Le.sub ⟨rfl,rfl,rfl,rfl,rfl,trivial⟩ ⟨rfl,rfl,rfl,rfl,trivial⟩⟩
       rcases Nat.lt_or_ge j k with h4 | h4
       · exact hp j x h4 hx
       · have : j = k:=by omega
         subst this
         rw [List.getElem?_eq_getElem hk1] at hx
         injection hx with hx
         rw [← hx]
         omega
   · have h1 : ¬ ((k : Nat) : Int) < ((N.length : Nat) : Int):=of_decide_eq_false h1
     have hk1 : k = N.length:=by omega
     rw [if_pos (List.all_eq_true.2 fun x hx=>by
       obtain ⟨j,hj,rfl⟩:=List.getElem_of_mem hx
       exact decide_eq_true (hp j _ (by omega) (List.getElem?_eq_getElem hj)))]
     exact ⟨_,_,_,Le.refl _ _,rfl,⟨⟨rfl,rfl,rfl,trivial⟩,rfl,trivial⟩,trivial,rfl⟩
/-! ### sectors -/
def beR (n : Nat) (l : List Rdk) (x : List UInt8) (k : Nat) : List (List UInt8):=(List.range k).map (clR n l x)
theorem beR_succ (n : Nat) (l : List Rdk) (x : List UInt8) (k : Nat) : beR n l x (k + 1) = beR n l x k ++ [clR n l x k]:=by
 unfold beR
 rw [List.range_succ,List.map_append]
 rfl
theorem beR_len (n : Nat) (l : List Rdk) (x : List UInt8) (k : Nat) : (beR n l x k).length = k:=by unfold beR; rw [List.length_map,List.length_range]
structure SR where
 l : List Rdk
 x : List UInt8
 e : Int
def scR (n : Nat) (l : List Rdk) (nm : List UInt8) (q : Cq) : SR:=match gtR l nm with
 | none=>⟨l,[],140⟩
 | some d=>if qK q = 0 then (if insE n (mC (dIm d)).length (qA q) (qL q) = 0 then ⟨l,((alTo n l nm (mC (dIm d)).length).take (16 * (qA q + qL q)).toNat).drop (16 * qA q).toNat,0⟩ else ⟨l,[],insE n (mC (dIm d)).length (qA q) (qL q)⟩)
   else ⟨stR l nm (mkDk (dN d) (dB d) (doM n (dIm d) q (beR n l nm (mC (dIm d)).length)).1),[],(doM n (dIm d) q (beR n l nm (mC (dIm d)).length)).2⟩
@[reducible] def qscK (i : Int) (b k : Nat) : KL:=[(2,vP 2),(3,vP 3),(4,vP 4),(7,vI i),(8,vP 8),(10,vOwn b),(11,vI (k : Nat))]
@[reducible] def qscB (bits room : Int) (l : List Rdk) (o : Cop) (d : Rdk) (b : Nat) (x : List (List UInt8)) : BL:=[(2,.cells (rcL bits room l)),(3,.cells (copL o)),(4,.cells tbl.t29.zero),(8,.cells (dkL d)),(b,.row 9 .str x)]
set_option maxHeartbeats 2000000 in
theorem csectors_fn {n : Nat} {l : List Rdk} (h : COK n l) (bits room : Int) (o : Cop) (hq : qK (cQ o) = 0 ∨ qK (cQ o) = 1 ∨ qK (cQ o) = 2 ∨ qK (cQ o) = 3) (hb : (qB (cQ o)).length ≤ 1000000) (hd : ∀ d,d ∈ l → (mD (dIm d)).length + 256 ≤ 100000) :
   Fn Tryz.prog 58 [rcV bits room l,copV o] [] [] (.tup [.agg (rcL bits room (scR n l (cNm o) (cQ o)).l),.one (.d (.str (scR n l (cNm o) (cQ o)).x)),vErr (scR n l (cNm o) (cQ o)).e]) []:=by
 have hl:=h.len
 unfold scR
 refine Fn.of tblOK [15] _ _ _ _ _ Tryz.func58 rfl rfl (by kernel_rfl) (by kernel_rfl) rfl (drawOK tblOK) rfl ?_
 refine ⟨rfl,?_⟩
 refine ⟨rfl,?_⟩
 refine ⟨rfl,?_⟩
 refine ⟨_,_,_,_,cfind_fn bits room l (cNm o) (by omega),trivial,rfl,?_⟩
 refine ⟨fun c1=>?_,fun c1=>?_⟩
 · have c1 : fdI l (cNm o) < 0:=of_decide_eq_true c1
   rw [fdI_neg c1]
   exact ⟨_,_,_,Le.refl _ _,rfl,⟨⟨rfl,rfl,rfl,trivial⟩,rfl,rfl,trivial⟩,trivial,rfl⟩
 have c1 : ¬ fdI l (cNm o) < 0:=of_decide_eq_false c1
 obtain ⟨i,hi,e1,e2,e3⟩:=fdI_pos c1
 rw [e2]
 simp only
 have hget : lget l (fdI l (cNm o)).toNat = some l[i]:=by rw [show (fdI l (cNm o)).toNat = i by omega]; exact lgAt (n:=i) hi
 have hst : ∀ d,stR l (cNm o) d = l.set i d:=fun d=>by unfold stR; rw [show (fdI l (cNm o)).toNat = i by omega]
 have hin : (0 : Int) ≤ fdI l (cNm o) ∧ fdI l (cNm o) < ((l.length : Nat) : Int):=by omega
 have hM:=h.ok _ (List.getElem_mem hi)
 have hdd:=hd _ (List.getElem_mem hi)
 rw [hst]
 generalize hx : l[i] = d at *
 have hcl:=hM.cl
 have hn8:=hM.n8
 have hnc : n * (mC (dIm d)).length ≤ 8 * 256:=Nat.mul_le_mul hn8 hcl
 refine ⟨hin.1,d,hget,?_⟩
 refine ⟨rfl,?_⟩
 refine ⟨fun c2=>?_,fun c2=>?_⟩
 · have c2 : qK (cQ o) = 0:=of_decide_eq_true c2
   rw [if_pos c2]
   refine ⟨_,_,_,_,minside_fn hM (qA (cQ o)) (qL (cQ o)),trivial,rfl,?_⟩
   refine ⟨fun c3=>?_,fun c3=>?_⟩
   · have c3 : (!decide (insE n (mC (dIm d)).length (qA (cQ o)) (qL (cQ o)) = 0)) = true:=c3
     have c3 : ¬ insE n (mC (dIm d)).length (qA (cQ o)) (qL (cQ o)) = 0:=by simpa using c3
     rw [if_neg c3]
     exact ⟨_,_,_,Le.refl _ _,rfl,⟨⟨rfl,rfl,rfl,trivial⟩,rfl,rfl,trivial⟩,trivial,rfl⟩
   have c3 : (!decide (insE n (mC (dIm d)).length (qA (cQ o)) (qL (cQ o)) = 0)) = false:=c3
   have c3 : insE n (mC (dIm d)).length (qA (cQ o)) (qL (cQ o)) = 0:=by simpa using c3
   rw [if_pos c3]
   obtain ⟨b1,b2,b3⟩:=insE_zero c3
   refine ⟨_,_,_,_,call_fn h bits room (cNm o) e2,trivial,rfl,?_⟩
   have al:=alTo_len h (cNm o) (mC (dIm d)).length
   have q1 : -9223372036854775808 ≤ 16 * qA (cQ o) ∧ 16 * qA (cQ o) ≤ 9223372036854775807:=by omega
   have q2 : -9223372036854775808 ≤ qA (cQ o) + qL (cQ o) ∧ qA (cQ o) + qL (cQ o) ≤ 9223372036854775807:=by omega
   have q3 : -9223372036854775808 ≤ 16 * (qA (cQ o) + qL (cQ o)) ∧ 16 * (qA (cQ o) + qL (cQ o)) ≤ 9223372036854775807:=by omega
   have q4 : 0 ≤ 16 * qA (cQ o) ∧ 16 * qA (cQ o) ≤ 16 * (qA (cQ o) + qL (cQ o)) ∧ 16 * (qA (cQ o) + qL (cQ o)) ≤ ((alTo n l (cNm o) (mC (dIm d)).length).length : Nat):=by
     rw [al,Nat.mul_assoc]
     generalize n * (mC (dIm d)).length = N at *
     omega
   refine ⟨q1,q2,q3,q4,?_⟩
   refine ⟨rfl,?_⟩
   exact ⟨_,_,_,Le.refl _ _,rfl,⟨⟨rfl,rfl,rfl,trivial⟩,rfl,rfl,trivial⟩,trivial,rfl⟩
 have c2 : ¬ qK (cQ o) = 0:=of_decide_eq_false c2
 rw [if_neg c2]
 show TrQ _ _ _ _ _ _ _
 refine TrQ.loop tblOK (drawOK tblOK) [15] (by kernel_rfl) (X:=Nat) (fun k=>qscK (fdI l (cNm o)) 2003 k) (fun k=>qscB bits room l o d 2003 (beR n l (cNm o) k)) (fun k=>k ≤ (mC (dIm d)).length) (fun k=>(mC (dIm d)).length - k) 0 (Nat.zero_le _) ?_ ?_
 · exact Le.trans (Le.nil 10 2003 9 .str rfl rfl) (Le.sub ⟨rfl,rfl,rfl,rfl,rfl,rfl,rfl,trivial⟩ ⟨rfl,rfl,rfl,rfl,rfl,trivial⟩)
 intro k hk
 refine ⟨fun h1=>?_,fun h1=>?_⟩
 · have h1 : ((k : Nat) : Int) < (((mC (dIm d)).length : Nat) : Int):=of_decide_eq_true h1
   refine ⟨_,_,_,_,ccluster_fn h bits room (cNm o) k e2 (by omega),trivial,rfl,?_⟩
   have b1 : (beR n l (cNm o) k).length + 1 ≤ 4294967296:=by rw [beR_len]; omega
   refine ⟨b1,rfl,?_⟩
   refine ⟨by omega,k + 1,by omega,by omega,Le.trans (Le.sub (K':=qscK (fdI l (cNm o)) 77 (k + 1)) (B':=qscB bits room l o d 77 (beR n l (cNm o) (k + 1))) ⟨rfl,rfl,rfl,rfl,rfl,rfl,rfl,trivial⟩ ⟨rfl,rfl,rfl,rfl,?_,trivial⟩) (Le.ren 77 2003 rfl)⟩
   rw [beR_succ]
   rfl
 · have h1 : ¬ ((k : Nat) : Int) < (((mC (dIm d)).length : Nat) : Int):=of_decide_eq_false h1
   have hk1 : k = (mC (dIm d)).length:=by omega
   subst hk1
   show TrQ _ _ _ _ _ _ _
   refine TrQ.go tblOK (drawOK tblOK) [] (by kernel_rfl) (Le.frz 2003 rfl) ?_
   refine ⟨_,_,_,_,mdo_fn hM (cQ o) (beR n l (cNm o) (mC (dIm d)).length) (by omega) hb (by rw [beR_len]; omega) hdd,trivial,rfl,?_⟩
   refine ⟨rfl,?_⟩
   refine ⟨_,_,_,_,Fn.arg (cwith_fn bits room l (k:=i) (by omega) hi (mkDk (dN d) (dB d) (doM n (dIm d) (cQ o) (beR n l (cNm o) (mC (dIm d)).length)).1)) ⟨⟨rfl,rfl,rfl,trivial⟩,e1,⟨rfl,rfl,rfl,rfl,rfl,rfl,rfl,trivial⟩,trivial⟩,trivial,rfl,?_⟩
   exact ⟨_,_,_,Le.refl _ _,rfl,⟨⟨rfl,rfl,rfl,trivial⟩,rfl,rfl,trivial⟩,trivial,rfl⟩
/-! ### Do -/
def rmR (l : List Rdk) (nm : List UInt8) : SR:=match gtR l nm with
 | none=>⟨l,[],140⟩
 | some _=>if 0 < (usR l nm).length then ⟨l,[],143⟩ else ⟨l.take (fdI l nm).toNat ++ l.drop ((fdI l nm).toNat + 1),[],0⟩
def doR14 (n : Nat) (bits room : Int) (l : List Rdk) (o : Cop) : SR :=
 if cK o = 0 then ⟨(adR bits room l (cNm o) (cSz o) (cOt o)).1,[],(adR bits room l (cNm o) (cSz o) (cOt o)).2⟩
 else if cK o = 1 then rmR l (cNm o)
 else if cK o = 2 then ⟨(rbR l (cNm o) (cOt o)).1,[],(rbR l (cNm o) (cOt o)).2⟩
 else if cK o = 3 ∧ 0 ≤ qK (cQ o) ∧ qK (cQ o) ≤ 3 then scR n l (cNm o) (cQ o)
 else ⟨l,[],0⟩
set_option maxHeartbeats 2000000 in
theorem cdo_fn {n : Nat} {l : List Rdk} (h : COK n l) (bits room : Int) (o : Cop) (hn : (cNm o).length ≤ 4294967296) (hb : (qB (cQ o)).length ≤ 1000000) (hd : ∀ d,d ∈ l → (mD (dIm d)).length + 256 ≤ 100000) :
   Fn Tryz.prog 10 [rcV bits room l,copV o] [] [] (.tup [.agg (rcL bits room (doR14 n bits room l o).l),.one (.d (.str (doR14 n bits room l o).x)),vErr (doR14 n bits room l o).e]) []:=by
 have hl:=h.len
 unfold doR14
 refine Fn.of tblOK [17] _ _ _ _ _ Tryz.func10 rfl rfl (by kernel_rfl) (by kernel_rfl) rfl (drawOK tblOK) rfl ?_
 refine ⟨rfl,?_⟩
 refine ⟨rfl,?_⟩
 refine ⟨rfl,?_⟩
 refine ⟨fun c0=>?_,fun c0=>?_⟩
 · have c0 : cK o = 0:=of_decide_eq_true c0
   rw [if_pos c0]
   refine ⟨_,_,_,_,cadd_fn bits room l o (by omega) hn,trivial,rfl,?_⟩
   show TrQ _ _ _ _ _ _ _
   refine TrQ.go tblOK (drawOK tblOK) [] (by kernel_rfl) (Le.refl _ _) ?_
   exact ⟨_,_,_,Le.refl _ _,rfl,⟨⟨rfl,rfl,rfl,trivial⟩,rfl,rfl,trivial⟩,trivial,rfl⟩
 have c0 : ¬ cK o = 0:=of_decide_eq_false c0
 rw [if_neg c0]
 refine ⟨fun c1=>?_,fun c1=>?_⟩
 · have c1 : cK o = 1:=of_decide_eq_true c1
   rw [if_pos c1]
   unfold rmR
   refine ⟨_,_,_,_,cfind_fn bits room l (cNm o) (by omega),trivial,rfl,?_⟩
   refine ⟨fun c2=>?_,fun c2=>?_⟩
   · have c2 : fdI l (cNm o) < 0:=of_decide_eq_true c2
     rw [fdI_neg c2]
     exact ⟨_,_,_,Le.refl _ _,rfl,⟨⟨rfl,rfl,rfl,trivial⟩,rfl,rfl,trivial⟩,trivial,rfl⟩
   have c2 : ¬ fdI l (cNm o) < 0:=of_decide_eq_false c2
   obtain ⟨i,hi,e1,e2,e3⟩:=fdI_pos c2
   rw [e2]
   simp only
   refine ⟨_,_,_,_,cusers_fn bits room l (cNm o) (by omega),trivial,rfl,?_⟩
   refine ⟨fun c3=>?_,fun c3=>?_⟩
   · have c3 : (0 : Int) < (((usR l (cNm o)).length : Nat) : Int):=of_decide_eq_true c3
     rw [if_pos (by omega)]
     exact ⟨_,_,_,Le.refl _ _,rfl,⟨⟨rfl,rfl,rfl,trivial⟩,rfl,rfl,trivial⟩,trivial,rfl⟩
   have c3 : ¬ (0 : Int) < (((usR l (cNm o)).length : Nat) : Int):=of_decide_eq_false c3
   rw [if_neg (by omega)]
   have q1 : 0 ≤ fdI l (cNm o) ∧ fdI l (cNm o) ≤ ((l.length : Nat) : Int):=by omega
   refine ⟨rfl,q1,?_⟩
   have b1 : (0 : Nat) + (l.take (fdI l (cNm o)).toNat).length ≤ 4294967296:=by rw [List.length_take]; omega
   refine ⟨b1,rfl,?_⟩
   have q2 : -9223372036854775808 ≤ fdI l (cNm o) + 1 ∧ fdI l (cNm o) + 1 ≤ 9223372036854775807:=by omega
   refine ⟨q2,?_⟩
   have q3 : 0 ≤ fdI l (cNm o) + 1 ∧ fdI l (cNm o) + 1 ≤ ((l.length : Nat) : Int):=by omega
   refine ⟨q3,?_⟩
   have b2 : (l.take (fdI l (cNm o)).toNat).length + ((l.take l.length).drop (fdI l (cNm o) + 1).toNat).length ≤ 4294967296:=by rw [List.length_take,List.length_drop,List.length_take]; omega
   refine ⟨b2,rfl,rfl,?_⟩
   show TrQ _ _ _ _ _ _ _
   refine TrQ.go tblOK (drawOK tblOK) [] (by kernel_rfl) (Le.frz 46 rfl) ?_
   have e5 : (fdI l (cNm o) + 1).toNat = (fdI l (cNm o)).toNat + 1:=by omega
   have e6 : (l.take l.length).drop (fdI l (cNm o) + 1).toNat = l.drop ((fdI l (cNm o)).toNat + 1):=by rw [List.take_length,e5]
   exact ⟨_,_,_,Le.refl _ _,rfl,⟨⟨rfl,rfl,congrArg (fun z : List Rdk=>l.take (fdI l (cNm o)).toNat ++ z) e6,trivial⟩,rfl,rfl,trivial⟩,trivial,rfl⟩
 have c1 : ¬ cK o = 1:=of_decide_eq_false c1
 rw [if_neg c1]
 refine ⟨fun c2=>?_,fun c2=>?_⟩
 · have c2 : cK o = 2:=of_decide_eq_true c2
   rw [if_pos c2]
   refine ⟨_,_,_,_,crebase_fn bits room l o (by omega),trivial,rfl,?_⟩
   show TrQ _ _ _ _ _ _ _
   refine TrQ.go tblOK (drawOK tblOK) [] (by kernel_rfl) (Le.refl _ _) ?_
   exact ⟨_,_,_,Le.refl _ _,rfl,⟨⟨rfl,rfl,rfl,trivial⟩,rfl,rfl,trivial⟩,trivial,rfl⟩
 have c2 : ¬ cK o = 2:=of_decide_eq_false c2
 rw [if_neg c2]
 refine ⟨fun c3=>?_,fun c3=>?_⟩
 · have c3 : cK o = 3:=of_decide_eq_true c3
   refine ⟨fun c4=>?_,fun c4=>?_⟩
   · have c4 : 0 ≤ qK (cQ o):=of_decide_eq_true c4
     refine ⟨fun c5=>?_,fun c5=>?_⟩
     · have c5 : qK (cQ o) ≤ 3:=of_decide_eq_true c5
       rw [if_pos ⟨c3,c4,c5⟩]
       refine ⟨_,_,_,_,csectors_fn h bits room o (by omega) hb hd,trivial,rfl,?_⟩
       exact ⟨_,_,_,Le.refl _ _,rfl,⟨⟨rfl,rfl,rfl,trivial⟩,rfl,rfl,trivial⟩,trivial,rfl⟩
     · have c5 : ¬ qK (cQ o) ≤ 3:=of_decide_eq_false c5
       rw [if_neg (fun q=>c5 q.2.2)]
       show TrQ _ _ _ _ _ _ _
       refine TrQ.go tblOK (drawOK tblOK) [] (by kernel_rfl) (Le.refl _ _) ?_
       exact ⟨_,_,_,Le.refl _ _,rfl,⟨⟨rfl,rfl,rfl,trivial⟩,rfl,rfl,trivial⟩,trivial,rfl⟩
   · have c4 : ¬ 0 ≤ qK (cQ o):=of_decide_eq_false c4
     rw [if_neg (fun q=>c4 q.2.1)]
     show TrQ _ _ _ _ _ _ _
     refine TrQ.go tblOK (drawOK tblOK) [] (by kernel_rfl) (Le.refl _ _) ?_
     exact ⟨_,_,_,Le.refl _ _,rfl,⟨⟨rfl,rfl,rfl,trivial⟩,rfl,rfl,trivial⟩,trivial,rfl⟩
 · have c3 : ¬ cK o = 3:=of_decide_eq_false c3
   rw [if_neg (fun q=>c3 q.1)]
   show TrQ _ _ _ _ _ _ _
   refine TrQ.go tblOK (drawOK tblOK) [] (by kernel_rfl) (Le.refl _ _) ?_
   exact ⟨_,_,_,Le.refl _ _,rfl,⟨⟨rfl,rfl,rfl,trivial⟩,rfl,rfl,trivial⟩,trivial,rfl⟩
end Go.Proofs.YteoamepgonpdlaaGreat
/-!
  The document's pull (layer 16): Away, Begin, Next, Step.
-/
namespace Go.Proofs.YteoamepgonpdlaaGreat
set_option linter.unusedVariables false
set_option linter.unusedSimpArgs false
set_option maxRecDepth 10000
open Go.RowKit Go.Proofs
@[reducible] def rjL (top base : List UInt8) (over : Bool) : List S1:=[.d (.str top),.d (.str base),.d (.bool over)]
@[reducible] def rjV (top base : List UInt8) (over : Bool) : SV:=.c (.agg (rjL top base over))
def awG (l : List Rdk) (base : List UInt8) : Nat → List UInt8 → Nat
 | 0,_=>0
 | f + 1,n=>match onR l n with
   | none=>0
   | some b=>if b = base then 1 else match awG l base f b with
     | 0=>0
     | m + 1=>m + 2
def awB (l : List Rdk) (top base : List UInt8) : Nat:=if base = [] then dqR l top + 1 else awG l base 20 top
theorem enR_next {l : List Rdk} {j : Nat} {nm : List UInt8} {d : Rdk} (hj : j ≤ 19) (h : enR l (19 - j) nm) (hg : gtR l nm = some d) : j + 1 ≤ 19 ∧ enR l (19 - (j + 1)) (dB d):=by
 rcases Nat.lt_or_ge j 19 with h1 | h1
 · rw [show 19 - j = (19 - (j + 1)) + 1 by omega,enR,hg] at h
   exact ⟨by omega,h⟩
 · exfalso
   rw [show 19 - j = 0 by omega] at h
   have h : gtR l nm = none:=h
   rw [hg] at h
   cases h
@[reducible] def agK (l : List Rdk) (base : List UInt8) (j : Nat) (n : List UInt8) : KL:=[(2,vS base),(3,vP 3),(7,vI (j : Nat)),(8,vI (fdI l n))]
set_option maxHeartbeats 1000000 in
theorem paway_fn (bits room : Int) (l : List Rdk) (top base : List UInt8) (hl : l.length ≤ 1073741824) (he : enR l 19 top) : Fn Tryz.prog 73 [rcV bits room l,vS top,vS base] [] [] (vI (awB l top base : Nat)) []:=by
 unfold awB
 refine Fn.of tblOK [] _ _ _ _ _ Tryz.func73 rfl rfl (by kernel_rfl) (by kernel_rfl) rfl (drawOK tblOK) rfl ?_
 refine ⟨rfl,?_⟩
 refine ⟨fun hb=>?_,fun hb=>?_⟩
 · have hb : base = []:=of_decide_eq_true hb
   rw [if_pos hb]
   have:=qdpF_le l 99 top
   have hq : dqR l top ≤ 99:=this
   refine ⟨_,_,_,_,cdepth_fn bits room l top hl,trivial,rfl,?_⟩
   refine ⟨by omega,?_⟩
   exact ⟨_,_,_,Le.refl _ _,rfl,(by show ((dqR l top : Nat) : Int) + 1 = ((dqR l top + 1 : Nat) : Int); omega),trivial,rfl⟩
 have hb : base ≠ []:=of_decide_eq_false hb
 rw [if_neg hb]
 refine ⟨_,_,_,_,cfind_fn bits room l top hl,trivial,rfl,?_⟩
 show TrQ _ _ _ _ _ _ _
 refine TrQ.loop tblOK (drawOK tblOK) [] (by kernel_rfl) (X:=Nat × List UInt8) (fun x=>agK l base x.1 x.2) (fun _=>[(3,.cells (rcL bits room l))]) (fun x=>x.1 ≤ 19 ∧ enR l (19 - x.1) x.2 ∧ awG l base 20 top = match awG l base (20 - x.1) x.2 with | 0=>0 | m + 1=>m + 1 + x.1) (fun x=>20 - x.1) (0,top) ⟨Nat.zero_le _,he,?_⟩ ?_ ?_
 · show awG l base 20 top = match awG l base 20 top with | 0=>0 | m + 1=>m + 1 + 0
   cases awG l base 20 top with
   | zero=>rfl
   | succ m=>rfl
 · exact Le.sub ⟨rfl,rfl,rfl,rfl,trivial⟩ ⟨rfl,trivial⟩
 rintro ⟨j,nm⟩ ⟨hj,hen,heq⟩
 have hj : j ≤ 19:=hj
 have hen : enR l (19 - j) nm:=hen
 have heq : awG l base 20 top = match awG l base (20 - j) nm with | 0=>0 | m + 1=>m + 1 + j:=heq
 have eA : awG l base (20 - j) nm = match onR l nm with
   | none=>0
   | some b=>if b = base then 1 else match awG l base (19 - j) b with
     | 0=>0
     | m + 1=>m + 2:=by rw [show 20 - j = (19 - j) + 1 by omega]; rfl
 have stop : onR l nm = none → (0 : Int) = ((awG l base 20 top : Nat) : Int):=fun h=>by
   rw [h] at eA
   rw [eA] at heq
   have heq : awG l base 20 top = 0:=heq
   omega
 refine ⟨fun h1=>?_,fun h1=>?_⟩
 · have h1 : 0 ≤ fdI l nm:=of_decide_eq_true h1
   obtain ⟨i,hi,e1,e2,e3⟩:=fdI_pos (l:=l) (n:=nm) (by omega)
   have hget : lget l (fdI l nm).toNat = some l[i]:=by rw [show (fdI l nm).toNat = i by omega]; exact lgAt (n:=i) hi
   have hin : (0 : Int) ≤ fdI l nm:=h1
   generalize l[i] = d at *
   refine ⟨hin,d,hget,?_⟩
   refine ⟨fun h2=>?_,fun h2=>?_⟩
   · have h2 : (!decide (dB d = [])) = true:=h2
     have h2 : ¬ dB d = []:=by simpa using h2
     have ho : onR l nm = some (dB d):=by unfold onR; rw [e2]; exact if_neg h2
     rw [ho] at eA
     simp only at eA
     refine ⟨by omega,?_⟩
     refine ⟨hin,d,hget,?_⟩
     refine ⟨fun h3=>?_,fun h3=>?_⟩
     · have h3 : dB d = base:=of_decide_eq_true h3
       rw [if_pos h3] at eA
       rw [eA] at heq
       have heq : awG l base 20 top = 0 + 1 + j:=heq
       exact ⟨_,_,_,Le.refl _ _,rfl,(by show ((j : Nat) : Int) + 1 = ((awG l base 20 top : Nat) : Int); omega),trivial,rfl⟩
     · have h3 : ¬ dB d = base:=of_decide_eq_false h3
       rw [if_neg h3] at eA
       obtain ⟨w1,w2⟩:=enR_next hj hen e2
       have w3 : awG l base 20 top = match awG l base (20 - (j + 1)) (dB d) with | 0=>0 | m + 1=>m + 1 + (j + 1):=by
         rw [show 20 - (j + 1) = 19 - j by omega,heq,eA]
         cases awG l base (19 - j) (dB d) with
         | zero=>rfl
         | succ m=>show m + 1 + 1 + j = m + 1 + (j + 1); omega
       refine ⟨hin,d,hget,?_⟩
       refine ⟨_,_,_,_,cfind_fn bits room l (dB d) hl,trivial,rfl,?_⟩
       refine ⟨rfl,?_⟩
       exact ⟨(j + 1,dB d),⟨w1,w2,w3⟩,by show 20 - (j + 1) < 20 - j; omega,Le.sub ⟨rfl,rfl,rfl,rfl,trivial⟩ ⟨rfl,trivial⟩⟩
   · have h2 : (!decide (dB d = [])) = false:=h2
     have h2 : dB d = []:=by simpa using h2
     have ho : onR l nm = none:=by unfold onR; rw [e2]; exact if_pos h2
     exact ⟨_,_,_,Le.refl _ _,rfl,stop ho,trivial,rfl⟩
 · have h1 : ¬ 0 ≤ fdI l nm:=of_decide_eq_false h1
   have e:=fdI_neg (l:=l) (n:=nm) (by omega)
   have ho : onR l nm = none:=by unfold onR; rw [e]
   exact ⟨_,_,_,Le.refl _ _,rfl,stop ho,trivial,rfl⟩
/-! ### Begin -/
def rbE16 (l : List Rdk) (top base : List UInt8) : Int:=if fdI l top < 0 then 140 else if awB l top base < 2 then 1 else 0
theorem qbegin_fn (bits room : Int) (l : List Rdk) (top base : List UInt8) (hl : l.length ≤ 1073741824) (he : enR l 19 top) : Fn Tryz.prog 21 [rcV bits room l,vS top,vS base] [] [] (.tup [.agg (rjL (if rbE16 l top base = 0 then top else []) (if rbE16 l top base = 0 then base else []) false),vErr (rbE16 l top base)]) []:=by
 unfold rbE16
 refine Fn.of tblOK [] _ _ _ _ _ Tryz.func21 rfl rfl (by kernel_rfl) (by kernel_rfl) rfl (drawOK tblOK) rfl ?_
 refine ⟨rfl,?_⟩
 refine ⟨rfl,?_⟩
 refine ⟨_,_,_,_,cfind_fn bits room l top hl,trivial,rfl,?_⟩
 refine ⟨fun h1=>?_,fun h1=>?_⟩
 · have h1 : fdI l top < 0:=of_decide_eq_true h1
   rw [if_pos h1]
   exact ⟨_,_,_,Le.refl _ _,rfl,⟨⟨rfl,rfl,rfl,trivial⟩,rfl,trivial⟩,trivial,rfl⟩
 have h1 : ¬ fdI l top < 0:=of_decide_eq_false h1
 rw [if_neg h1]
 refine ⟨_,_,_,_,paway_fn bits room l top base hl he,trivial,rfl,?_⟩
 refine ⟨fun h2=>?_,fun h2=>?_⟩
 · have h2 : ((awB l top base : Nat) : Int) < 2:=of_decide_eq_true h2
   rw [if_pos (show awB l top base < 2 by omega)]
   exact ⟨_,_,_,Le.refl _ _,rfl,⟨⟨rfl,rfl,rfl,trivial⟩,rfl,trivial⟩,trivial,rfl⟩
 have h2 : ¬ ((awB l top base : Nat) : Int) < 2:=of_decide_eq_false h2
 rw [if_neg (show ¬ awB l top base < 2 by omega)]
 exact ⟨_,_,_,Le.refl _ _,rfl,⟨⟨rfl,rfl,rfl,trivial⟩,rfl,trivial⟩,trivial,rfl⟩
/-! ### Next -/
def qnP (l : List Rdk) (top base : List UInt8) (k : Nat) : Bool:=decide (1 < awN l k top) && decide (awN l k top ≤ (awB l top base : Nat))
def qnN (l : List Rdk) (top base : List UInt8) : Option Nat:=match gtR l top with
 | none=>none
 | some d=>(List.range (mC (dIm d)).length).find? (qnP l top base)
def qnC (l : List Rdk) (top base : List UInt8) (over : Bool) : Int × Bool:=if over = true then (0,false) else match qnN l top base with
 | some k=>((k : Int),true)
 | none=>(0,false)
@[reducible] def qnK (l : List Rdk) (top : List UInt8) (k : Nat) : KL:=[(2,vP 2),(3,vP 3),(6,vI (fdI l top)),(7,vI (k : Nat))]
@[reducible] def qnB (bits room : Int) (l : List Rdk) (top base : List UInt8) (over : Bool) : BL:=[(2,.cells (rcL bits room l)),(3,.cells (rjL top base over))]
set_option maxHeartbeats 1000000 in
theorem qnext_fn (bits room : Int) (l : List Rdk) (top base : List UInt8) (over : Bool) (hl : l.length ≤ 1073741824) (he : enR l 19 top) {d : Rdk} (hd : gtR l top = some d) (hm : (mC (dIm d)).length ≤ 256) : Fn Tryz.prog 26 [rcV bits room l,rjV top base over] [] [] (.tup [.one (.d (.int .i64 (qnC l top base over).1)),.one (.d (.bool (qnC l top base over).2))]) []:=by
 have hC0 : over = true → qnC l top base over = (0,false):=fun e=>if_pos e
 have hC2 : over = false → ∀ k,k < (mC (dIm d)).length → qnP l top base k = true → (∀ j,j < k → qnP l top base j = false) → qnC l top base over = ((k : Int),true):=fun e1 k hk hp hn=>by
   unfold qnC qnN
   rw [e1,if_neg (by decide),hd]
   simp only
   rw [List.find?_range_eq_some.2 ⟨hp,List.mem_range.2 hk,fun j hj=>by simp [hn j hj]⟩]
 have hC3 : over = false → (∀ k,k < (mC (dIm d)).length → qnP l top base k = false) → qnC l top base over = (0,false):=fun e1 hn=>by
   unfold qnC qnN
   rw [e1,if_neg (by decide),hd]
   simp only
   rw [List.find?_eq_none.2 fun x hx=>by rw [hn x (List.mem_range.1 hx)]; decide]
 have hP : ∀ k,qnP l top base k = (decide (1 < awN l k top) && decide (awN l k top ≤ (awB l top base : Nat))):=fun k=>rfl
 obtain ⟨i,hi,e1,e2,e3⟩:=fdI_some hd
 have hget : lget l (fdI l top).toNat = some d:=by rw [show (fdI l top).toNat = i by omega,← e2]; exact lgAt (n:=i) hi
 have hin : (0 : Int) ≤ fdI l top:=by omega
 generalize qnC l top base over = rr at *
 refine Fn.of tblOK [] _ _ _ _ _ Tryz.func26 rfl rfl (by kernel_rfl) (by kernel_rfl) rfl (drawOK tblOK) rfl ?_
 refine ⟨rfl,?_⟩
 refine ⟨rfl,?_⟩
 refine ⟨_,_,_,_,cfind_fn bits room l top hl,trivial,rfl,?_⟩
 show TrQ _ _ _ _ _ _ _
 refine TrQ.loop tblOK (drawOK tblOK) [] (by kernel_rfl) (X:=Nat) (fun k=>qnK l top k) (fun _=>qnB bits room l top base over) (fun k=>k ≤ (mC (dIm d)).length ∧ ∀ j,j < k → qnP l top base j = false) (fun k=>(mC (dIm d)).length - k) 0 ⟨Nat.zero_le _,fun j hj=>absurd hj (Nat.not_lt_zero j)⟩ ?_ ?_
 · exact Le.sub ⟨rfl,rfl,rfl,rfl,trivial⟩ ⟨rfl,rfl,trivial⟩
 rintro k ⟨hk,hno⟩
 have hk : k ≤ (mC (dIm d)).length:=hk
 refine ⟨fun _=>?_,fun h1=>absurd hin (of_decide_eq_false h1)⟩
 refine ⟨fun ho=>?_,fun ho=>?_⟩
 · have ho : over = false:=by
     have ho : (!over) = true:=ho
     simpa using ho
   refine ⟨hin,d,hget,?_⟩
   refine ⟨fun hc=>?_,fun hc=>?_⟩
   · have hc : ((k : Nat) : Int) < (((mC (dIm d)).length : Nat) : Int):=of_decide_eq_true hc
     have hk1 : k < (mC (dIm d)).length:=by omega
     refine ⟨_,_,_,_,caway_fn bits room l top k hl he,trivial,rfl,?_⟩
     have nxt : qnP l top base k = false → ∀ j,j < k + 1 → qnP l top base j = false:=fun hf j hj=>by
       rcases Nat.lt_or_ge j k with hh | hh
       · exact hno j hh
       · rw [show j = k by omega]
         exact hf
     refine ⟨fun g1=>?_,fun g1=>?_⟩
     · have g1 : decide (1 < awN l k top) = true:=g1
       refine ⟨_,_,_,_,paway_fn bits room l top base hl he,trivial,rfl,?_⟩
       refine ⟨fun g2=>?_,fun g2=>?_⟩
       · have g2 : decide (awN l k top ≤ (awB l top base : Nat)) = true:=g2
         have e:=hC2 ho k hk1 (by rw [hP,g1,g2]; rfl) hno
         exact ⟨_,_,_,Le.refl _ _,rfl,⟨congrArg Prod.fst e.symm,congrArg Prod.snd e.symm,trivial⟩,trivial,rfl⟩
       · have g2 : decide (awN l k top ≤ (awB l top base : Nat)) = false:=g2
         exact ⟨by omega,k + 1,⟨hk1,nxt (by rw [hP,g1,g2]; rfl)⟩,by show (mC (dIm d)).length - (k + 1) < (mC (dIm d)).length - k; omega,Le.sub ⟨rfl,rfl,rfl,rfl,trivial⟩ ⟨rfl,rfl,trivial⟩⟩
     · have g1 : decide (1 < awN l k top) = false:=g1
       exact ⟨by omega,k + 1,⟨hk1,nxt (by rw [hP,g1]; rfl)⟩,by show (mC (dIm d)).length - (k + 1) < (mC (dIm d)).length - k; omega,Le.sub ⟨rfl,rfl,rfl,rfl,trivial⟩ ⟨rfl,rfl,trivial⟩⟩
   · have hc : ¬ ((k : Nat) : Int) < (((mC (dIm d)).length : Nat) : Int):=of_decide_eq_false hc
     have e:=hC3 ho fun j hj=>hno j (by omega)
     exact ⟨_,_,_,Le.refl _ _,rfl,⟨congrArg Prod.fst e.symm,congrArg Prod.snd e.symm,trivial⟩,trivial,rfl⟩
 · have ho : over = true:=by
     have ho : (!over) = false:=ho
     simpa using ho
   have e:=hC0 ho
   exact ⟨_,_,_,Le.refl _ _,rfl,⟨congrArg Prod.fst e.symm,congrArg Prod.snd e.symm,trivial⟩,trivial,rfl⟩
/-! ### Step -/
structure QSt where
 l : List Rdk
 over : Bool
 is : Bool
 e : Int
@[reducible] def mkQ (k a g : Int) (b n : List UInt8) : Cq:=(k,a,g,b,n)
@[reducible] def mkC (k s : Int) (n o : List UInt8) (q : Cq) : Cop:=(k,s,n,o,q)
def qOpW (n : Nat) (l : List Rdk) (top : List UInt8) (k : Nat) : Cop:=mkC 3 0 top [] (mkQ 1 ((k : Int) * (n : Nat)) 0 (clR n l top k) [])
def qOpR (top base : List UInt8) : Cop:=mkC 2 0 top base (mkQ 0 0 0 [] [])
def qstep (n : Nat) (bits room : Int) (l : List Rdk) (top base : List UInt8) (over : Bool) : QSt :=
 if over = true then ⟨l,true,false,160⟩ else match qnN l top base with
   | some k=>⟨(doR14 n bits room l (qOpW n l top k)).l,false,false,(doR14 n bits room l (qOpW n l top k)).e⟩
   | none=>⟨(doR14 n bits room l (qOpR top base)).l,decide ((doR14 n bits room l (qOpR top base)).e = 0),decide ((doR14 n bits room l (qOpR top base)).e = 0),(doR14 n bits room l (qOpR top base)).e⟩
set_option maxHeartbeats 2000000 in
theorem qstep_fn {n : Nat} {l : List Rdk} (h : COK n l) (bits room : Int) (top base : List UInt8) (over : Bool) {d : Rdk} (hd : gtR l top = some d) (hD : ∀ d,d ∈ l → (mD (dIm d)).length + 256 ≤ 100000) (htn : top.length ≤ 4294967296) :
   Fn Tryz.prog 22 [rcV bits room l,rjV top base over] [] [] (.tup [.agg (rcL bits room (qstep n bits room l top base over).l),.agg (rjL top base (qstep n bits room l top base over).over),.one (.d (.bool (qstep n bits room l top base over).is)),vErr (qstep n bits room l top base over).e]) []:=by
 have hl : l.length ≤ 16:=h.len
 have hM:=h.ok d (gtR_mem hd)
 have hm:=hM.cl
 have he:=h.en top
 obtain ⟨i,hi,e1,e2,e3⟩:=fdI_some hd
 have hget : lget l (fdI l top).toNat = some d:=by rw [show (fdI l top).toNat = i by omega,← e2]; exact lgAt (n:=i) hi
 have hin : (0 : Int) ≤ fdI l top:=by omega
 have hnx:=qnext_fn bits room l top base over (by omega) he hd hm
 unfold qstep
 refine Fn.of tblOK [8] _ _ _ _ _ Tryz.func22 rfl rfl (by kernel_rfl) (by kernel_rfl) rfl (drawOK tblOK) rfl ?_
 refine ⟨rfl,?_⟩
 refine ⟨rfl,?_⟩
 refine ⟨rfl,?_⟩
 refine ⟨rfl,?_⟩
 refine ⟨_,_,_,_,cfind_fn bits room l top (by omega),trivial,rfl,?_⟩
 refine ⟨fun ho=>?_,fun ho=>?_⟩
 · have ho : over = true:=ho
   subst ho
   refine ⟨rfl,?_⟩
   exact ⟨_,_,_,Le.refl _ _,rfl,⟨⟨rfl,rfl,rfl,trivial⟩,⟨rfl,rfl,rfl,trivial⟩,rfl,rfl,trivial⟩,trivial,rfl⟩
 have ho : over = false:=ho
 subst ho
 refine ⟨fun h1=>absurd (of_decide_eq_true h1) (by omega),fun _=>?_⟩
 refine ⟨_,_,_,_,hnx,trivial,rfl,?_⟩
 have hN : ∀ k,qnN l top base = some k → k < (mC (dIm d)).length:=fun k hk=>by
   unfold qnN at hk
   rw [hd] at hk
   exact List.mem_range.1 (List.mem_of_find?_eq_some hk)
 unfold qnC
 rw [if_neg (by decide),if_neg (by decide)]
 cases hq : qnN l top base with
 | some k =>
   have hk:=hN k hq
   have hcl:=ccluster_fn h bits room top k hd hk
   have hn8:=hM.n8
   have hbl : (clR n l top k).length = 16 * n:=clR_len h top k
   have hdo:=cdo_fn h bits room (qOpW n l top k) (by show top.length ≤ 4294967296; exact htn) (by show (clR n l top k).length ≤ 1000000; omega) hD
   have hmul : ((k : Nat) : Int) * ((n : Nat) : Int) = ((k * n : Nat) : Int):=by rw [Int.natCast_mul]
   have hle : k * n ≤ 256 * 8:=Nat.mul_le_mul (by omega) hn8
   have m1 : (-9223372036854775808 : Int) ≤ ((k : Nat) : Int) * mN (dIm d) ∧ ((k : Nat) : Int) * mN (dIm d) ≤ 9223372036854775807:=by rw [hM.nm,hmul]; omega
   have hB:=congrArg (fun z=>some (Ch.cells (copL (mkC 3 0 top [] (mkQ 1 ((k : Int) * z) 0 (clR n l top k) []))))) hM.nm
   refine ⟨fun _=>?_,fun h=>by cases h⟩
   refine ⟨rfl,?_⟩
   refine ⟨hin,d,hget,?_⟩
   refine ⟨m1,?_⟩
   refine ⟨_,_,_,_,hcl,trivial,rfl,?_⟩
   refine ⟨by rw [hbl]; omega,?_⟩
   refine ⟨rfl,?_⟩
   show TrQ _ _ _ _ _ _ _
   refine TrQ.go tblOK (drawOK tblOK) [] (by kernel_rfl) (Le.sub (K':=[(2,vP 2),(3,vP 3),(4,vP 4),(5,vP 5),(11,vP 11)]) (B':=[(2,.cells (rcL bits room l)),(3,.cells (rjL top base false)),(4,.cells tbl.t29.zero),(5,.cells tbl.t62.zero),(11,.cells (copL (qOpW n l top k)))]) ⟨rfl,rfl,rfl,rfl,rfl,trivial⟩ ⟨rfl,rfl,rfl,rfl,hB,trivial⟩) ?_
   refine ⟨_,_,_,_,hdo,trivial,rfl,?_⟩
   refine ⟨rfl,?_⟩
   refine ⟨rfl,?_⟩
   exact ⟨_,_,_,Le.refl _ _,rfl,⟨⟨rfl,rfl,rfl,trivial⟩,⟨rfl,rfl,rfl,trivial⟩,rfl,rfl,trivial⟩,trivial,rfl⟩
 | none =>
   have hdo:=cdo_fn h bits room (qOpR top base) (by show top.length ≤ 4294967296; exact htn) (Nat.zero_le _) hD
   refine ⟨fun h=>(by cases h),fun _=>?_⟩
   refine ⟨_,_,_,_,Fn.arg hdo ⟨⟨rfl,rfl,rfl,trivial⟩,⟨rfl,rfl,rfl,rfl,rfl,rfl,rfl,rfl,rfl,trivial⟩,trivial⟩,trivial,rfl,?_⟩
   refine ⟨rfl,?_⟩
   refine ⟨rfl,?_⟩
   exact ⟨_,_,_,Le.refl _ _,rfl,⟨⟨rfl,rfl,rfl,trivial⟩,⟨rfl,rfl,rfl,trivial⟩,rfl,rfl,trivial⟩,trivial,rfl⟩
end Go.Proofs.YteoamepgonpdlaaGreat
