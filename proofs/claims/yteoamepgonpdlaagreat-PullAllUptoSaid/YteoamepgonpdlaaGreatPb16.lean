/-
Part 16 of the proof that stands in YteoamepgonpdlaaGreatPbRow, with what it needs from the parts ahead; the parts of this text: Pq, Ib, Pj, Lt, Qs, Iu, Qo, Lv16, Lu16, Qt.
-/
import Derived.Laws.StructEq
import Derived.Test.YteoamepgonpdlaaGreatPb15
/-!
  Pulls, in plain words: a job goes on, and ends.
-/
namespace Go.Proofs.YteoamepgonpdlaaGreat
set_option linter.unusedVariables false
set_option linter.unusedSimpArgs false
set_option maxRecDepth 10000
open Go.RowKit Go.Proofs
section
variable {bits room : Nat} {L : List Dsk} {top base : List UInt8}
theorem dn_up {kb kt : Nat} (hD : Dn L base kb) (hT : Dn L top kt) (hlt : base = [] ∨ kb < kt) (h1 : top ≠ base) (h2 : top ∉ bl L kb base) {n : List UInt8} {j : Nat} (h : Dn L n j) : ∃ i,i ≤ j ∧ Dn (lset L top base) n i:=by
 have hoff : Dn (lset L top base) base kb:=dn_lset_off hD (Ne.symm h1) h2
 have hself : ∀ d,dk L top = some d → ∀ {j},Dn L top j → ∃ i,i ≤ j ∧ Dn (lset L top base) top i:=fun d hd j hj=>by
   have e : dk (lset L top base) top = some (rbD top base d):=by rw [dk_lset,hd]; rfl
   have eb:=rbD_back (back:=base) (dk_get hd).2
   have ej:=dn_det hj hT
   by_cases hb : base = []
   · exact ⟨0,Nat.zero_le _,.base e (by rw [eb]; exact hb)⟩
   · exact ⟨kb + 1,by have:=hlt.resolve_left hb; omega,.step e (by rw [eb]; exact hb) (by rw [eb]; exact hoff)⟩
 induction h with
 | gone h=>exact ⟨0,Nat.zero_le _,.gone (by rw [dk_lset,h]; rfl)⟩
 | @base n d g1 g2 =>
   have e:=(dk_get g1).2
   by_cases c : n = top
   · subst c
     exact hself d g1 (.base g1 g2)
   · exact ⟨0,Nat.zero_le _,.base (d:=d) (by rw [dk_lset,g1]; show some (rbD top base d) = _; rw [rbD_back_ne (by rw [e]; exact c)]) g2⟩
 | @step n d j g1 g2 g3 ih =>
   have e:=(dk_get g1).2
   by_cases c : n = top
   · subst c
     exact hself d g1 (.step g1 g2 g3)
   · obtain ⟨i,hi,hd⟩:=ih
     exact ⟨i + 1,by omega,.step (d:=d) (by rw [dk_lset,g1]; show some (rbD top base d) = _; rw [rbD_back_ne (by rw [e]; exact c)]) g2 hd⟩
theorem nil_none (h : CS bits room L) : dk L [] = none:=by
 cases x : dk L [] with
 | none=>rfl
 | some y=>exact absurd rfl (known_ne h ⟨y,x⟩)
/-- Who stands on the base,however deep,can stand on it. -/
theorem rb_ok (h : CS bits room L) {d : Dsk} (hd : dk L top = some d) (hi : btI L top base = true) : rbC L top base = ⟨0,lset L top base⟩:=by
 obtain ⟨g1,g2,g3⟩:=bt_split h hd hi
 have hT:=(h.dep top).1
 have hD:=(h.dep base).1
 have hlt : base = [] ∨ dpt L base < dpt L top:=by
   by_cases e : base = []
   · exact .inl e
   · rw [if_neg e] at g3
     exact .inr (by omega)
 have h1 : top ≠ base:=fun e=>by
   rcases hlt with hb | hb
   · exact known_ne h ⟨d,hd⟩ (e.trans hb)
   · rw [e] at hb
     omega
 have h2 : top ∉ bl L (dpt L base) base:=fun hm=>by
   rcases hlt with hb | hb
   · rw [hb,show dpt L [] = 0 from dpt_of (.gone (nil_none h)) (by omega)] at hm
     cases hm
   · obtain ⟨j,hj,h3⟩:=bl_mem hD top hm
     have:=dn_det h3 hT
     omega
 unfold rbC
 rw [if_neg,if_neg,if_pos]
 · intro n hn
   obtain ⟨i,hi,hdn⟩:=dn_up hD hT hlt h1 h2 (h.dep n).1
   have:=(h.dep n).2
   rw [dpt_of hdn (by omega)]
   omega
 · exact fun x=>x.elim h1 h2
 · rintro (x | x)
   · rw [hd] at x; cases x
   · rw [Bool.or_eq_false_iff] at x
     rcases g2 with e | ⟨e,he⟩
     · exact (of_decide_eq_false x.1) e
     · rw [he] at x; cases x.2
theorem pnx_some {k : Nat} (h : pnx L top base = some k) : btI L top base = true ∧ k < szOf L top ∧ pnxP L top base k = true ∧ ∀ j,j < k → pnxP L top base j = false:=by
 unfold pnx at h
 split at h
 · rename_i hb
   obtain ⟨g1,g2,g3⟩:=List.find?_range_eq_some.1 h
   exact ⟨hb,List.mem_range.1 g2,g1,fun j hj=>by simpa using g3 j hj⟩
 · cases h
theorem pnx_none_of (h : ∀ k,k < szOf L top → pnxP L top base k = false) : pnx L top base = none:=by
 unfold pnx
 split
 · exact List.find?_range_eq_none.2 fun k hk=>by simp [h k hk]
 · rfl
end
end Go.Proofs.YteoamepgonpdlaaGreat
/-!
  Images: Bits.
-/
namespace Go.Proofs.YteoamepgonpdlaaGreat
set_option linter.unusedVariables false
set_option linter.unusedSimpArgs false
set_option maxRecDepth 10000
open Go.RowKit Go.Proofs
/-- Less is said of a block's cells. -/
theorem Le.cellsTo {ids : List Nat} {K : KL} {B : BL} (c : Nat) {l l' : List S1} (hc : lookB B c = some (.cells l)) (hl : leL l l') : Le ids K B K ((c,.cells l') :: B):=by
 rintro N C a w ⟨hn,hd,ρ,F,hM,hS⟩
 obtain ⟨hM',hE⟩:=hM.turn (w':=w) (ch:=.cells l') hc (Fr.refl _ _) fun I hI=>by
   obtain ⟨h1,vs,T,h2,h3⟩:=hM.holds c _ hc
   exact ⟨h1,vs,T,h2,leL_den hl (DenL.mono hI _ _ (fun _ _=>rfl) h3)⟩
 exact ⟨hn,hd,ρ,F,hM',hS.mono hE fun _ _ _=>rfl⟩
theorem ibits_fn (s : ImS) : Fn Tryz.prog 65 [vP 1001] (imB s) [] (vI (s.bits : Nat)) (imB s):=by
 refine Fn.of tblOK [] _ _ _ _ _ Tryz.func65 rfl rfl (by kernel_rfl) (by kernel_rfl) rfl (drawOK tblOK) rfl ?_
 exact ⟨_,_,_,Le.refl _ _,rfl,rfl,⟨rfl,rfl,rfl,rfl,trivial⟩,rfl⟩
end Go.Proofs.YteoamepgonpdlaaGreat
/-!
  Pulls: between, Begin, Next, Step, Over, Cancel.
-/
namespace Go.Proofs.YteoamepgonpdlaaGreat
set_option linter.unusedVariables false
set_option linter.unusedSimpArgs false
set_option maxRecDepth 10000
open Go.RowKit Go.Proofs
section
variable {bits room : Nat} {L : List Dsk} {top base : List UInt8}
theorem bt_at {j : Nat} (h : CS bits room L) {d : Dsk} (hd : dk L top = some d) (hj : j ≤ dpt L top) (hno : ∀ i,i < j → downTo L (i + 1) top ≠ base) (hend : j = dpt L top ∨ downTo L (j + 1) top = base) : (bl L (dpt L top) top).take j = btL L top base:=by
 have hD:=(h.dep top).1
 have hl:=bl_len hD
 unfold btL
 refine (takeWhile_at _ _ j (by omega) (fun i x hi hx=>?_) ?_).symm
 · rw [bl_get hD (by omega)] at hx
   injection hx with hx
   subst hx
   have:=hno i hi
   simp [this]
 · rcases hend with hend | hend
   · exact .inl (by omega)
   · by_cases c : j = dpt L top
     · exact .inl (by omega)
     · exact .inr ⟨_,bl_get hD (by omega),by rw [hend]; simp⟩
theorem bt_yes {j : Nat} (h : CS bits room L) {d : Dsk} (hd : dk L top = some d) (hj : j ≤ dpt L top) (hend : downTo L (j + 1) top = base) : btI L top base = true:=by
 have hD:=(h.dep top).1
 unfold btI
 rw [hd,Option.isSome_some,Bool.true_and,Bool.or_eq_true]
 by_cases c : j = dpt L top
 · rw [c,down_end h hD ⟨d,hd⟩] at hend
   exact .inl (decide_eq_true hend.symm)
 · refine .inr (decide_eq_true ?_)
   have:=bl_get hD (i:=j) (by omega)
   rw [hend] at this
   exact List.mem_of_getElem? this
theorem bt_not (h : CS bits room L) {d : Dsk} (hd : dk L top = some d) (hno : ∀ i,i ≤ dpt L top → downTo L (i + 1) top ≠ base) : btI L top base = false:=by
 have hD:=(h.dep top).1
 unfold btI
 rw [hd,Option.isSome_some,Bool.true_and,Bool.or_eq_false_iff]
 constructor
 · refine decide_eq_false fun e=>hno _ (Nat.le_refl _) ?_
   rw [down_end h hD ⟨d,hd⟩,e]
 · refine decide_eq_false fun e=>?_
   obtain ⟨i,hi,hx⟩:=List.getElem_of_mem e
   have hl:=bl_len hD
   have:=bl_get hD (i:=i) (by omega)
   rw [List.getElem?_eq_getElem hi,hx] at this
   injection this with this
   exact hno i (by omega) this.symm
@[reducible] def btK (base : List UInt8) (a : List UInt8) (c : Nat) : KL:=[(0,vP 1001),(2,vS base),(8,vOwn c),(9,vS a),(10,vI 0)]
@[reducible] def btB (bits room : Int) (L : List Dsk) (c : Nat) (x : List (List UInt8)) : BL:=chB bits room L ++ [(c,.row 9 .str x)]
set_option maxHeartbeats 1000000 in
theorem between_fn (h : CS bits room L) {d : Dsk} (hd : dk L top = some d) (base : List UInt8) : Fn Tryz.prog 72 [vP 1001,vS top,vS base] (chB bits room L) [] (.tup [.one (.d (.lst .str (btL L top base))),.one (.d (.bool (btI L top base)))]) (chB bits room L):=by
 have hD:=(h.dep top).1
 have h8:=(h.dep top).2
 have hbl:=bl_len hD
 have hkn:=fun j hj=>down_known h hD ⟨d,hd⟩ j hj
 have hend:=down_end h hD ⟨d,hd⟩
 have hb0 : bkC L top = (downTo L 1 top,0):=by
   unfold bkC
   rw [show downTo L 1 top = d.back by rw [downTo_succ]; show (match dk L top with | none=>top | some d=>d.back) = _; rw [hd],hd]
 have hbk : ∀ j,j < dpt L top → bkC L (downTo L (j + 1) top) = (downTo L (j + 1 + 1) top,0) ∧ downTo L (j + 1) top ≠ []:=fun j hj=>by
   obtain ⟨e,he⟩:=hkn (j + 1) hj
   refine ⟨?_,known_ne h ⟨e,he⟩⟩
   unfold bkC
   rw [downTo_succ L (j + 1),he]
 have htk : ∀ j,j < dpt L top → (bl L (dpt L top) top).take (j + 1) = (bl L (dpt L top) top).take j ++ [downTo L (j + 1) top]:=fun j hj=>bl_take hD j hj
 have hat:=fun j hj hno he=>bt_at (j:=j) (base:=base) h hd hj hno he
 have hye:=fun j hj he=>bt_yes (j:=j) (base:=base) h hd hj he
 have hnt:=fun hno=>bt_not (base:=base) h hd hno
 have hcb:=chback_fn h top
 rw [hb0] at hcb
 generalize btL L top base = rl at *
 generalize btI L top base = ri at *
 generalize bl L (dpt L top) top = bb at *
 generalize dpt L top = dd at *
 refine Fn.of tblOK [3,5,7] _ _ _ _ _ Tryz.func72 rfl rfl (by kernel_rfl) (by kernel_rfl) rfl (drawOK tblOK) rfl ?_
 refine ⟨_,_,_,_,hcb,⟨rfl,rfl,rfl,rfl,trivial⟩,rfl,?_⟩
 show TrQ _ _ _ _ _ _ _
 refine TrQ.loop tblOK (drawOK tblOK) [5,7] (by kernel_rfl) (X:=Nat) (fun j=>btK base (downTo L (j + 1) top) 5002) (fun j=>btB bits room L 5002 (bb.take j)) (fun j=>j ≤ dd ∧ ∀ i,i < j → downTo L (i + 1) top ≠ base) (fun j=>dd - j) 0 ⟨Nat.zero_le _,fun i hi=>absurd hi (Nat.not_lt_zero i)⟩ ?_ ?_
 · exact (Le.nil 8 5002 9 .str rfl rfl).trans (Le.sub ⟨rfl,rfl,rfl,rfl,rfl,trivial⟩ ⟨rfl,rfl,rfl,rfl,rfl,trivial⟩)
 rintro j ⟨hj,hno⟩
 refine ⟨fun _=>?_,fun h=>absurd h (by decide)⟩
 refine ⟨fun h1=>?_,fun h1=>?_⟩
 · have h1 : (!decide (downTo L (j + 1) top = base)) = true:=h1
   have h1 : ¬ downTo L (j + 1) top = base:=by simpa using h1
   refine ⟨fun h2=>?_,fun h2=>?_⟩
   · have h2 : downTo L (j + 1) top = []:=of_decide_eq_true h2
     have hjd : j = dd:=by
       rcases Nat.lt_or_ge j dd with hh | hh
       · exact absurd h2 (hbk j hh).2
       · omega
     have er : bb.take j = rl:=hat j hj hno (.inl hjd)
     have ei : ri = false:=hnt fun i hi=>by
       rcases Nat.lt_or_ge i j with hh | hh
       · exact hno i hh
       · rw [show i = j by omega]
         exact h1
     show TrQ _ _ _ _ _ _ _
     refine TrQ.go tblOK (drawOK tblOK) [] (by kernel_rfl) (Le.refl _ _) ?_
     refine ⟨fun _=>?_,fun h=>absurd h (by decide)⟩
     exact ⟨_,_,_,Le.frz 5002 rfl,rfl,⟨er,(show decide (downTo L (j + 1) top = base) = ri by rw [decide_eq_false h1,ei]),trivial⟩,⟨rfl,rfl,rfl,rfl,trivial⟩,rfl⟩
   · have h2 : ¬ downTo L (j + 1) top = []:=of_decide_eq_false h2
     have hjd : j < dd:=by
       rcases Nat.lt_or_ge j dd with hh | hh
       · exact hh
       · exact absurd (by rw [show j = dd by omega]; exact hend) h2
     have hcb2:=chback_fn h (downTo L (j + 1) top)
     rw [(hbk j hjd).1] at hcb2
     have m : List.length (α:=List UInt8) (bb.take j) + 1 ≤ 4294967296:=by rw [List.length_take]; omega
     have e:=htk j hjd
     show TrQ _ _ _ _ _ _ _
     refine TrQ.go tblOK (drawOK tblOK) [7] (by kernel_rfl) (Le.refl _ _) ?_
     refine ⟨m,rfl,?_⟩
     refine ⟨_,_,_,_,hcb2,⟨rfl,rfl,rfl,rfl,trivial⟩,rfl,?_⟩
     refine ⟨j + 1,⟨hjd,fun i hi=>?_⟩,by omega,?_⟩
     · rcases Nat.lt_or_ge i j with hh | hh
       · exact hno i hh
       · rw [show i = j by omega]
         exact h1
     refine Le.trans (Le.sub (K':=btK base (downTo L (j + 1 + 1) top) 29) (B':=btB bits room L 29 (bb.take (j + 1))) ⟨rfl,rfl,rfl,rfl,rfl,trivial⟩ ⟨rfl,rfl,rfl,rfl,congrArg (fun z : List (List UInt8)=>some (Ch.row 9 .str z)) e.symm,trivial⟩) ?_
     exact (Le.ren 29 5002 rfl).trans (Le.sub ⟨rfl,rfl,rfl,rfl,rfl,trivial⟩ ⟨rfl,rfl,rfl,rfl,rfl,trivial⟩)
 · have h1 : (!decide (downTo L (j + 1) top = base)) = false:=h1
   have h1 : downTo L (j + 1) top = base:=by simpa using h1
   have er : bb.take j = rl:=hat j hj hno (.inr h1)
   have ei : ri = true:=hye j hj h1
   show TrQ _ _ _ _ _ _ _
   refine TrQ.go tblOK (drawOK tblOK) [] (by kernel_rfl) (Le.refl _ _) ?_
   refine ⟨fun _=>?_,fun h=>absurd h (by decide)⟩
   exact ⟨_,_,_,Le.frz 5002 rfl,rfl,⟨er,(show decide (downTo L (j + 1) top = base) = ri by rw [decide_eq_true h1,ei]),trivial⟩,⟨rfl,rfl,rfl,rfl,trivial⟩,rfl⟩
/-! ### Begin -/
@[reducible] def pjC (top base : List UInt8) (over : Bool) : List S1:=[.ptr 1001 0,.d (.str top),.d (.str base),.d (.bool over)]
@[reducible] def pjB1 (bits room : Int) (L : List Dsk) (top base : List UInt8) (over : Bool) : BL:=chB bits room L ++ [(2001,.cells (pjC top base over))]
def pbE (L : List Dsk) (top base : List UInt8) : Int:=if (dk L top).isSome = false then 140 else if btI L top base = false ∨ btL L top base = [] then 1 else 0
theorem pbegin_no (h : CS bits room L) (top base : List UInt8) (he : pbE L top base ≠ 0) : Fn Tryz.prog 20 [vP 1001,vS top,vS base] (chB bits room L) [] (.tup [vNilP,vErr (pbE L top base)]) (chB bits room L):=by
 unfold pbE at he ⊢
 cases hd : dk L top with
 | none =>
   rw [if_pos (show (none : Option Dsk).isSome = false from rfl)]
   refine Fn.of tblOK [] _ _ _ _ _ Tryz.func20 rfl rfl (by kernel_rfl) (by kernel_rfl) rfl (drawOK tblOK) rfl ?_
   refine ⟨_,_,_,_,image_no _ _ L top hd,⟨rfl,rfl,rfl,rfl,trivial⟩,rfl,?_⟩
   exact ⟨_,_,_,Le.refl _ _,rfl,⟨rfl,rfl,trivial⟩,⟨rfl,rfl,rfl,rfl,trivial⟩,rfl⟩
 | some d =>
   have e0 : ¬ (some d).isSome = false:=by simp
   rw [hd,if_neg e0] at he
   rw [if_neg e0]
   have hb : btI L top base = false ∨ btL L top base = []:=Decidable.byContradiction fun x=>he (if_neg x)
   rw [if_pos hb]
   have hbt:=between_fn h hd base
   generalize btI L top base = ri at *
   generalize btL L top base = rl at *
   refine Fn.of tblOK [] _ _ _ _ _ Tryz.func20 rfl rfl (by kernel_rfl) (by kernel_rfl) rfl (drawOK tblOK) rfl ?_
   refine ⟨_,_,_,_,image_fn _ _ L h.toChN top d hd,⟨rfl,rfl,rfl,rfl,trivial⟩,rfl,?_⟩
   refine ⟨fun _ _=>?_,fun h=>by cases h⟩
   refine ⟨_,_,_,_,hbt,⟨rfl,rfl,rfl,rfl,trivial⟩,rfl,?_⟩
   refine ⟨fun _=>?_,fun h1=>?_⟩
   · exact ⟨_,_,_,Le.refl _ _,rfl,⟨rfl,rfl,trivial⟩,⟨rfl,rfl,rfl,rfl,trivial⟩,rfl⟩
   · refine ⟨fun _=>?_,fun h2=>?_⟩
     · exact ⟨_,_,_,Le.refl _ _,rfl,⟨rfl,rfl,trivial⟩,⟨rfl,rfl,rfl,rfl,trivial⟩,rfl⟩
     · exfalso
       have h1 : (!ri) = false:=h1
       have h2 : decide (((rl.length : Nat) : Int) = 0) = false:=h2
       have h2:=of_decide_eq_false h2
       rcases hb with hb | hb
       · rw [hb] at h1; cases h1
       · rw [hb] at h2; exact h2 rfl
theorem pbE_ok (he : pbE L top base = 0) : (∃ d,dk L top = some d) ∧ btI L top base = true ∧ btL L top base ≠ []:=by
 unfold pbE at he
 split at he
 · exact absurd he (by decide)
 · rename_i h1
   split at he
   · exact absurd he (by decide)
   · rename_i h2
     refine ⟨Option.isSome_iff_exists.1 (by rw [Bool.not_eq_false] at h1; exact h1),?_,fun e=>h2 (.inr e)⟩
     cases e : btI L top base with
     | true=>rfl
     | false=>exact absurd (.inl e) h2
theorem pbegin_ok (h : CS bits room L) (top base : List UInt8) (he : pbE L top base = 0) : Fn Tryz.prog 20 [vP 1001,vS top,vS base] (chB bits room L) [2001] (.tup [.one (.ptr 2001 0),vErr 0]) (pjB1 bits room L top base false):=by
 obtain ⟨⟨d,hd⟩,h1,h2⟩:=pbE_ok he
 have hbt:=between_fn h hd base
 rw [h1] at hbt
 generalize btL L top base = rl at *
 refine Fn.of tblOK [] _ _ _ _ _ Tryz.func20 rfl rfl (by kernel_rfl) (by kernel_rfl) rfl (drawOK tblOK) rfl ?_
 refine ⟨_,_,_,_,image_fn _ _ L h.toChN top d hd,⟨rfl,rfl,rfl,rfl,trivial⟩,rfl,?_⟩
 refine ⟨fun _ _=>?_,fun h=>by cases h⟩
 refine ⟨_,_,_,_,hbt,⟨rfl,rfl,rfl,rfl,trivial⟩,rfl,?_⟩
 refine ⟨fun h=>absurd h (by decide),fun _=>?_⟩
 refine ⟨fun h3=>?_,fun _=>?_⟩
 · exfalso
   have h3 : decide (((rl.length : Nat) : Int) = 0) = true:=h3
   have h3:=of_decide_eq_true h3
   exact h2 (List.length_eq_zero_iff.1 (by omega))
 refine ⟨rfl,?_⟩
 exact ⟨_,_,_,(Le.ren 32 2001 rfl).trans (Le.cellsTo 2001 (l':=pjC top base false) rfl ⟨rfl,rfl,rfl,rfl,trivial⟩),rfl,⟨rfl,rfl,trivial⟩,⟨rfl,rfl,rfl,rfl,rfl,trivial⟩,rfl⟩
theorem pover_fn (bits room : Int) (L : List Dsk) (top base : List UInt8) (over : Bool) : Fn Tryz.prog 27 [vP 2001] (pjB1 bits room L top base over) [] (vB over) (pjB1 bits room L top base over):=by
 refine Fn.of tblOK [] _ _ _ _ _ Tryz.func27 rfl rfl (by kernel_rfl) (by kernel_rfl) rfl (drawOK tblOK) rfl ?_
 exact ⟨_,_,_,Le.refl _ _,rfl,rfl,⟨rfl,rfl,rfl,rfl,rfl,trivial⟩,rfl⟩
theorem pcancel_fn (bits room : Int) (L : List Dsk) (top base : List UInt8) (over : Bool) : Fn Tryz.prog 24 [vP 2001] (pjB1 bits room L top base over) [] vU (pjB1 bits room L top base true):=by
 refine Fn.of tblOK [] _ _ _ _ _ Tryz.func24 rfl rfl (by kernel_rfl) (by kernel_rfl) rfl (drawOK tblOK) rfl ?_
 exact ⟨_,_,_,Le.cellsTo 2001 (l':=pjC top base true) rfl ⟨rfl,rfl,rfl,rfl,trivial⟩,rfl,trivial,⟨rfl,rfl,rfl,rfl,rfl,trivial⟩,rfl⟩
/-! ### Next -/
theorem hole_fn (h : CS bits room L) (top base : List UInt8) (over : Bool) (n : List UInt8) (k : Nat) {e : Dsk} (he : dk L n = some e) : Fn Tryz.prog 75 [vS n,vI (k : Int),vP 3001] (pjB1 bits room L top base over ++ [(3001,.cells [.ptr 2001 0])]) [] (vB (hol L n k)) (pjB1 bits room L top base over ++ [(3001,.cells [.ptr 2001 0])]):=by
 have htl:=(h.ims e (dk_get he).1).1.tl
 have hLm:=h.toChN.M (dk_get he).1
 have eh : hol L n k = (decide (e.im.t.length ≤ k) || decide ((e.im.t.getD k s0).1 = 0)):=by unfold hol; rw [he]
 rw [eh]
 refine Fn.of tblOK [] _ _ _ _ _ Tryz.func75 rfl rfl (by kernel_rfl) (by kernel_rfl) rfl (drawOK tblOK) rfl ?_
 refine ⟨_,_,_,_,image_fn _ _ L h.toChN n e he,⟨rfl,rfl,rfl,rfl,trivial⟩,rfl,?_⟩
 refine ⟨_,_,_,_,imFn (isize_fn e.im) hLm rfl rfl rfl rfl,⟨rfl,trivial⟩,rfl,?_⟩
 refine ⟨fun h1=>?_,fun h1=>?_⟩
 · have h1 : ((e.im.t.length : Nat) : Int) ≤ (k : Int):=of_decide_eq_true h1
   exact ⟨_,_,_,Le.refl _ _,rfl,(show true = _ by rw [decide_eq_true (by omega : e.im.t.length ≤ k)]; rfl),⟨rfl,rfl,rfl,rfl,rfl,rfl,trivial⟩,rfl⟩
 · have h1 : ¬ ((e.im.t.length : Nat) : Int) ≤ (k : Int):=of_decide_eq_false h1
   refine ⟨_,_,_,_,imFn (ikindD_fn e.im htl k (by omega)) hLm rfl rfl rfl rfl,⟨rfl,trivial⟩,rfl,?_⟩
   exact ⟨_,_,_,Le.refl _ _,rfl,(show decide ((e.im.t.getD k s0).1 = 0) = _ by rw [decide_eq_false (by omega : ¬ e.im.t.length ≤ k)]; rfl),⟨rfl,rfl,rfl,rfl,rfl,rfl,trivial⟩,rfl⟩
def pnC (L : List Dsk) (top base : List UInt8) (over : Bool) : Int × Bool:=if over = true then (0,false) else match pnx L top base with
 | some k=>((k : Int),true)
 | none=>(0,false)
@[reducible] def pnK (l : List (List UInt8)) (n k : Nat) : KL:=[(1,vP 1),(5,vL .str l),(7,.c (.one (.clo 75 [.p 1 0]))),(50,vI (n : Int)),(51,vI (k : Int))]
@[reducible] def pnK2 (l : List (List UInt8)) (n k i : Nat) : KL:=[(1,vP 1),(5,vL .str l),(7,.c (.one (.clo 75 [.p 1 0]))),(50,vI (n : Int)),(51,vI (k : Int)),(8,vI (k : Int)),(54,vL .str l),(55,vI (l.length : Nat)),(56,vI (i : Int))]
@[reducible] def pnB (bits room : Int) (L : List Dsk) (top base : List UInt8) (over : Bool) : BL:=pjB1 bits room L top base over ++ [(1,.cells [.ptr 2001 0])]
theorem any_take {α : Type} (p : α → Bool) {l : List α} {i : Nat} (h : i < l.length) (h0 : (l.take i).any p = false) (h1 : p l[i] = false) : (l.take (i + 1)).any p = false:=by
 rw [List.take_add_one,List.getElem?_eq_getElem h,List.any_append,h0]
 show (false || (p l[i] || false)) = false
 rw [h1]
 rfl
set_option maxHeartbeats 1000000 in
theorem pnext_fn (h : CS bits room L) (base : List UInt8) (over : Bool) {d : Dsk} (hd : dk L top = some d) : Fn Tryz.prog 25 [vP 2001] (pjB1 bits room L top base over) [] (.tup [.one (.d (.int .i64 (pnC L top base over).1)),.one (.d (.bool (pnC L top base over).2))]) (pjB1 bits room L top base over):=by
 have hbt:=between_fn h hd base
 have htl:=(h.ims d (dk_get hd).1).1.tl
 have hLm:=h.toChN.M (dk_get hd).1
 have hsz : szOf L top = d.im.t.length:=by unfold szOf; rw [hd]
 have hkb : (btL L top base).length ≤ 16:=by
   have h1 : (btL L top base).length ≤ (bl L (dpt L top) top).length:=(List.takeWhile_sublist _).length_le
   rw [bl_len (h.dep top).1] at h1
   have:=(h.dep top).2
   omega
 have hkn : ∀ n,n ∈ btL L top base → ∃ e,dk L n = some e:=fun n hn=>(bt_known h hd n hn).2
 have hP : ∀ k,pnxP L top base k = (hol L top k && (btL L top base).any fun n=>!hol L n k):=fun k=>rfl
 have hC0 : over = true → pnC L top base over = (0,false):=fun e=>if_pos e
 have hC1 : over = false → btI L top base = false → pnC L top base over = (0,false):=fun e1 e2=>by
   unfold pnC pnx
   rw [e1,e2]
   rfl
 have hC2 : over = false → btI L top base = true → ∀ k,k < szOf L top → pnxP L top base k = true → (∀ j,j < k → pnxP L top base j = false) → pnC L top base over = ((k : Int),true):=fun e1 e2 k hk hp hn=>by
   unfold pnC pnx
   rw [e1,if_neg (by decide),if_pos e2,List.find?_range_eq_some.2 ⟨hp,List.mem_range.2 hk,fun j hj=>by simp [hn j hj]⟩]
 have hC3 : over = false → (∀ k,k < szOf L top → pnxP L top base k = false) → pnC L top base over = (0,false):=fun e1 hn=>by
   unfold pnC
   rw [e1,if_neg (by decide),pnx_none_of hn]
 have hht:=fun k=>hole_fn h top base over top k hd
 have hhn:=fun n (hn : n ∈ btL L top base) k=>hole_fn h top base over n k (hkn n hn).choose_spec
 generalize pnC L top base over = rr at *
 generalize btI L top base = ri at *
 generalize btL L top base = rl at *
 generalize szOf L top = n at *
 subst hsz
 refine Fn.of tblOK [5] _ _ _ _ _ Tryz.func25 rfl rfl (by kernel_rfl) (by kernel_rfl) rfl (drawOK tblOK) rfl ?_
 refine ⟨rfl,?_⟩
 refine ⟨_,_,_,_,image_fn _ _ L h.toChN top d hd,⟨rfl,rfl,rfl,rfl,trivial⟩,rfl,?_⟩
 refine ⟨rfl,?_⟩
 refine ⟨_,_,_,_,hbt,⟨rfl,rfl,rfl,rfl,trivial⟩,rfl,?_⟩
 refine ⟨rfl,?_⟩
 refine ⟨fun ho=>?_,fun ho=>?_⟩
 · have e:=hC0 ho
   exact ⟨_,_,_,Le.refl _ _,rfl,⟨congrArg Prod.fst e.symm,congrArg Prod.snd e.symm,trivial⟩,⟨rfl,rfl,rfl,rfl,rfl,trivial⟩,rfl⟩
 have ho : over = false:=ho
 refine ⟨fun _ _=>?_,fun h=>by cases h⟩
 refine ⟨fun hi=>?_,fun hi=>?_⟩
 · have hi : ri = false:=by
     have hi : (!ri) = true:=hi
     simpa using hi
   have e:=hC1 ho hi
   exact ⟨_,_,_,Le.refl _ _,rfl,⟨congrArg Prod.fst e.symm,congrArg Prod.snd e.symm,trivial⟩,⟨rfl,rfl,rfl,rfl,rfl,trivial⟩,rfl⟩
 have hi : ri = true:=by
   have hi : (!ri) = false:=hi
   simpa using hi
 show TrQ _ _ _ _ _ _ _
 refine TrQ.go tblOK (drawOK tblOK) [] (by kernel_rfl) (Le.sub (K':=[(1,vP 1),(4,vAd d.am),(5,vL .str rl)]) (B':=pnB bits room L top base over) ⟨rfl,rfl,rfl,trivial⟩ ⟨rfl,rfl,rfl,rfl,rfl,rfl,trivial⟩) ?_
 refine ⟨_,_,_,_,imFn (isize_fn d.im) hLm rfl rfl rfl rfl,⟨rfl,trivial⟩,rfl,?_⟩
 show TrQ _ _ _ _ _ _ _
 refine TrQ.loop tblOK (drawOK tblOK) [16] (by kernel_rfl) (X:=Nat) (pnK rl d.im.t.length) (fun _=>pnB bits room L top base over) (fun k=>k ≤ d.im.t.length ∧ ∀ j,j < k → pnxP L top base j = false) (fun k=>d.im.t.length - k) 0 ⟨Nat.zero_le _,fun j hj=>absurd hj (Nat.not_lt_zero j)⟩ ?_ ?_
 · exact Le.sub ⟨rfl,rfl,rfl,rfl,rfl,trivial⟩ ⟨rfl,rfl,rfl,rfl,rfl,rfl,trivial⟩
 rintro k ⟨hk,hno⟩
 have hk : k ≤ d.im.t.length:=hk
 refine ⟨fun hc=>?_,fun hc=>?_⟩
 · have hc : decide ((k : Int) < ((d.im.t.length : Nat) : Int)) = true:=hc
   have hk1 : k < d.im.t.length:=by have:=of_decide_eq_true hc; omega
   show TrQ _ _ _ _ _ _ _
   refine TrQ.loop tblOK (drawOK tblOK) [12,16] (by kernel_rfl) (X:=Nat) (pnK2 rl d.im.t.length k) (fun _=>pnB bits room L top base over) (fun i=>i ≤ rl.length ∧ (hol L top k && (rl.take i).any fun n=>!hol L n k) = false) (fun i=>rl.length - i) 0 ⟨Nat.zero_le _,Bool.and_false _⟩ ?_ ?_
   · exact Le.sub ⟨rfl,rfl,rfl,rfl,rfl,rfl,rfl,rfl,rfl,trivial⟩ ⟨rfl,rfl,rfl,rfl,rfl,rfl,trivial⟩
   rintro i ⟨hi1,hi2⟩
   have hi1 : i ≤ rl.length:=hi1
   refine ⟨fun hc=>?_,fun hc=>?_⟩
   · have hc : decide ((i : Int) < ((rl.length : Nat) : Int)) = true:=hc
     have hi3 : i < rl.length:=by have:=of_decide_eq_true hc; omega
     have hh:=hhn _ (List.getElem_mem hi3) k
     have hat:=fun (a : (rl.take i).any (fun n=>!hol L n k) = false) (b : (!hol L rl[i] k) = false)=>any_take (fun n=>!hol L n k) hi3 a b
     have hmem:=List.getElem_mem hi3
     have hget:=lgAt (n:=i) hi3
     generalize rl[i] = nm at *
     refine ⟨by omega,nm,hget,?_⟩
     show TrQ _ _ _ _ _ _ _
     refine TrQ.go tblOK (drawOK tblOK) [16] (by kernel_rfl) (Le.sub (K':=[(1,vP 1),(5,vL .str rl),(7,.c (.one (.clo 75 [.p 1 0]))),(50,vI (d.im.t.length : Nat)),(51,vI (k : Int)),(8,vI (k : Int)),(54,vL .str rl),(55,vI (rl.length : Nat)),(56,vI (i : Int)),(10,vS nm)]) (B':=pnB bits room L top base over) ⟨rfl,rfl,rfl,rfl,rfl,rfl,rfl,rfl,rfl,rfl,trivial⟩ ⟨rfl,rfl,rfl,rfl,rfl,rfl,trivial⟩) ?_
     refine ⟨_,_,_,_,Fn.ren [(3001,1)] (hht k),⟨rfl,rfl,rfl,rfl,rfl,rfl,trivial⟩,rfl,?_⟩
     refine ⟨fun g1=>?_,fun g1=>?_⟩
     · have g1 : hol L top k = true:=g1
       refine ⟨_,_,_,_,Fn.ren [(3001,1)] hh,⟨rfl,rfl,rfl,rfl,rfl,rfl,trivial⟩,rfl,?_⟩
       refine ⟨fun g2=>?_,fun g2=>?_⟩
       · have g2 : (!hol L nm k) = true:=g2
         have hpk : pnxP L top base k = true:=by
           rw [hP,g1,Bool.true_and,List.any_eq_true]
           exact ⟨nm,hmem,g2⟩
         have e:=hC2 ho hi k hk1 hpk hno
         exact ⟨_,_,_,Le.refl _ _,rfl,⟨congrArg Prod.fst e.symm,congrArg Prod.snd e.symm,trivial⟩,⟨rfl,rfl,rfl,rfl,rfl,trivial⟩,rfl⟩
       · have g2 : (!hol L nm k) = false:=g2
         rw [g1,Bool.true_and] at hi2
         exact ⟨by omega,i + 1,⟨hi3,by rw [g1,Bool.true_and]; exact hat hi2 g2⟩,by omega,Le.sub ⟨rfl,rfl,rfl,rfl,rfl,rfl,rfl,rfl,rfl,trivial⟩ ⟨rfl,rfl,rfl,rfl,rfl,rfl,trivial⟩⟩
     · have g1 : hol L top k = false:=g1
       exact ⟨by omega,i + 1,⟨hi3,by rw [g1]; rfl⟩,by omega,Le.sub ⟨rfl,rfl,rfl,rfl,rfl,rfl,rfl,rfl,rfl,trivial⟩ ⟨rfl,rfl,rfl,rfl,rfl,rfl,trivial⟩⟩
   · have hc : decide ((i : Int) < ((rl.length : Nat) : Int)) = false:=hc
     have hi3 : i = rl.length:=by have:=of_decide_eq_false hc; omega
     have hpk : pnxP L top base k = false:=by
       rw [hP,← hi2,hi3,List.take_length]
     exact ⟨by omega,k + 1,⟨hk1,fun j hj=>by
       rcases Nat.lt_or_ge j k with hh | hh
       · exact hno j hh
       · rw [show j = k by omega]
         exact hpk⟩,by omega,Le.sub ⟨rfl,rfl,rfl,rfl,rfl,trivial⟩ ⟨rfl,rfl,rfl,rfl,rfl,rfl,trivial⟩⟩
 · have hc : decide ((k : Int) < ((d.im.t.length : Nat) : Int)) = false:=hc
   have hk2 : k = d.im.t.length:=by have:=of_decide_eq_false hc; omega
   have e:=hC3 ho fun j hj=>hno j (by omega)
   exact ⟨_,_,_,Le.refl _ _,rfl,⟨congrArg Prod.fst e.symm,congrArg Prod.snd e.symm,trivial⟩,⟨rfl,rfl,rfl,rfl,rfl,trivial⟩,rfl⟩
/-! ### Step -/
theorem pstep_fn (h : CS bits room L) (base : List UInt8) (over : Bool) {d : Dsk} (hd : dk L top = some d) : Fn Tryz.prog 23 [vP 2001] (pjB1 bits room L top base over) [] (.tup [.one (.d (.bool (pstep bits L top base over).done)),vErr (pstep bits L top base over).e]) (pjB1 bits room (pstep bits L top base over).L top base (pstep bits L top base over).over):=by
 have hnx:=pnext_fn h base over hd
 have htl:=(h.ims d (dk_get hd).1).1.tl
 have hLm:=h.toChN.M (dk_get hd).1
 have hbt : d.im.bits = bits:=(h.ims d (dk_get hd).1).2.1
 have hb3:=h.b3
 have hp:=pow_le8 h.b3
 cases over with
 | true =>
   have e : pstep bits L top base true = ⟨false,160,L,true⟩:=rfl
   rw [e]
   refine Fn.of tblOK [] _ _ _ _ _ Tryz.func23 rfl rfl (by kernel_rfl) (by kernel_rfl) rfl (drawOK tblOK) rfl ?_
   refine ⟨_,_,_,_,image_fn _ _ L h.toChN top d hd,⟨rfl,rfl,rfl,rfl,trivial⟩,rfl,?_⟩
   refine ⟨rfl,?_⟩
   refine ⟨fun _=>?_,fun h=>absurd h (by decide)⟩
   exact ⟨_,_,_,Le.refl _ _,rfl,⟨rfl,rfl,trivial⟩,⟨rfl,rfl,rfl,rfl,rfl,trivial⟩,rfl⟩
 | false =>
   have e0 : pstep bits L top base false = match pnx L top base with
     | some k=>⟨false,(wrC bits L top ((k * 2 ^ bits : Nat) : Int) (clC bits L top (k : Int))).e,(wrC bits L top ((k * 2 ^ bits : Nat) : Int) (clC bits L top (k : Int))).L,false⟩
     | none=>⟨decide ((rbC L top base).e = 0),(rbC L top base).e,(rbC L top base).L,decide ((rbC L top base).e = 0)⟩:=by
     unfold pstep
     rw [hd]
     rfl
   cases hn : pnx L top base with
   | some k =>
     rw [hn] at e0
     have e0 : pstep bits L top base false = ⟨false,(wrC bits L top ((k * 2 ^ bits : Nat) : Int) (clC bits L top (k : Int))).e,(wrC bits L top ((k * 2 ^ bits : Nat) : Int) (clC bits L top (k : Int))).L,false⟩:=e0
     rw [e0]
     have hc : pnC L top base false = ((k : Int),true):=by
       unfold pnC
       rw [hn]
       rfl
     rw [hc] at hnx
     have hk : k < d.im.t.length:=by
       have:=(pnx_some hn).2.1
       unfold szOf at this
       rw [hd] at this
       exact this
     have esh : (k : Int) * ((2 ^ ((d.im.bits : Nat) : Int).toNat : Nat) : Int) = ((k * 2 ^ bits : Nat) : Int):=by
       rw [hbt]
       show (k : Int) * ((2 ^ bits : Nat) : Int) = _
       rw [Int.natCast_mul]
     have hcl:=chcluster_fn h top (k : Int)
     have hlen : (clC bits L top (k : Int)).length ≤ 1000000000:=by
       have : clC bits L top (k : Int) = cseen bits L top (dpt L top) k:=by
         unfold clC
         rw [hd]
         simp only
         rw [if_pos ⟨by omega,by omega⟩]
         rfl
       rw [this,cseen_len h.toChOK hd (h.dep top).1 k]
       omega
     have hwr:=chwrite_fn h top ((k * 2 ^ bits : Nat) : Int) (clC bits L top (k : Int)) hlen
     rw [← esh] at hwr ⊢
     generalize clC bits L top (k : Int) = x at *
     generalize wrC bits L top ((k : Int) * ((2 ^ ((d.im.bits : Nat) : Int).toNat : Nat) : Int)) x = rw_ at *
     have m1 : (0 : Int) ≤ (k : Int) ∧ (0 : Int) ≤ ((d.im.bits : Nat) : Int) ∧ ((d.im.bits : Nat) : Int) ≤ 64:=by omega
     have mk : k * 2 ^ bits ≤ 256 * 8:=Nat.mul_le_mul (by omega) hp.2
     have m2 : (-9223372036854775808 : Int) ≤ (k : Int) * ((2 ^ ((d.im.bits : Nat) : Int).toNat : Nat) : Int) ∧ (k : Int) * ((2 ^ ((d.im.bits : Nat) : Int).toNat : Nat) : Int) ≤ 9223372036854775807:=by rw [esh]; omega
     refine Fn.of tblOK [6] _ _ _ _ _ Tryz.func23 rfl rfl (by kernel_rfl) (by kernel_rfl) rfl (drawOK tblOK) rfl ?_
     refine ⟨_,_,_,_,image_fn _ _ L h.toChN top d hd,⟨rfl,rfl,rfl,rfl,trivial⟩,rfl,?_⟩
     refine ⟨rfl,?_⟩
     refine ⟨fun h=>absurd h (by decide),fun _=>?_⟩
     refine ⟨fun _ _=>?_,fun h=>by cases h⟩
     refine ⟨_,_,_,_,hnx,⟨rfl,rfl,rfl,rfl,rfl,trivial⟩,rfl,?_⟩
     refine ⟨fun _=>?_,fun h=>absurd (show true = false from h) (by decide)⟩
     show TrQ _ _ _ _ _ _ _
     refine TrQ.go tblOK (drawOK tblOK) [] (by kernel_rfl) (Le.sub (K':=[(0,vP 2001),(4,vAd d.am),(5,vI (k : Int))]) (B':=pjB1 bits room L top base false) ⟨rfl,rfl,rfl,trivial⟩ ⟨rfl,rfl,rfl,rfl,rfl,trivial⟩) ?_
     refine ⟨_,_,_,_,imFn (ibits_fn d.im) hLm rfl rfl rfl rfl,⟨rfl,trivial⟩,rfl,?_⟩
     refine ⟨m1,m2,?_⟩
     refine ⟨_,_,_,_,hcl,⟨rfl,rfl,rfl,rfl,trivial⟩,rfl,?_⟩
     refine ⟨_,_,_,_,hwr,⟨rfl,rfl,rfl,rfl,trivial⟩,rfl,?_⟩
     refine ⟨rfl,?_⟩
     exact ⟨_,_,_,Le.refl _ _,rfl,⟨rfl,rfl,trivial⟩,⟨rfl,rfl,rfl,rfl,rfl,trivial⟩,rfl⟩
   | none =>
     rw [hn] at e0
     have e0 : pstep bits L top base false = ⟨decide ((rbC L top base).e = 0),(rbC L top base).e,(rbC L top base).L,decide ((rbC L top base).e = 0)⟩:=e0
     rw [e0]
     have hc : pnC L top base false = (0,false):=by
       unfold pnC
       rw [hn]
       rfl
     rw [hc] at hnx
     have hrb:=chrebase_fn h top base
     generalize rbC L top base = rb at *
     refine Fn.of tblOK [7] _ _ _ _ _ Tryz.func23 rfl rfl (by kernel_rfl) (by kernel_rfl) rfl (drawOK tblOK) rfl ?_
     refine ⟨_,_,_,_,image_fn _ _ L h.toChN top d hd,⟨rfl,rfl,rfl,rfl,trivial⟩,rfl,?_⟩
     refine ⟨rfl,?_⟩
     refine ⟨fun h=>absurd h (by decide),fun _=>?_⟩
     refine ⟨fun _ _=>?_,fun h=>by cases h⟩
     refine ⟨_,_,_,_,hnx,⟨rfl,rfl,rfl,rfl,rfl,trivial⟩,rfl,?_⟩
     refine ⟨fun h=>absurd h (by decide),fun _=>?_⟩
     show TrQ _ _ _ _ _ _ _
     refine TrQ.go tblOK (drawOK tblOK) [] (by kernel_rfl) (Le.sub (K':=[(0,vP 2001)]) (B':=pjB1 bits room L top base false) ⟨rfl,trivial⟩ ⟨rfl,rfl,rfl,rfl,rfl,trivial⟩) ?_
     refine ⟨_,_,_,_,hrb,⟨rfl,rfl,rfl,rfl,trivial⟩,rfl,?_⟩
     refine ⟨rfl,?_⟩
     exact ⟨_,_,_,Le.refl _ _,rfl,⟨rfl,rfl,trivial⟩,⟨rfl,rfl,rfl,rfl,rfl,trivial⟩,rfl⟩
end
end Go.Proofs.YteoamepgonpdlaaGreat
/-!
  Scripts on chains whose calls tell an error alone: what they make of a chain; small disks.
-/
namespace Go.Proofs.YteoamepgonpdlaaGreat
set_option linter.unusedVariables false
set_option linter.unusedSimpArgs false
set_option maxRecDepth 10000
open Go.RowKit Go.Proofs
def doW (bits : Nat) (L : List Dsk) (nm : List UInt8) (q : Cq) : CR :=
 if qK q = 1 then wrC bits L nm (qA q) (qB q) else if qK q = 2 then zrC bits L nm (qA q) (qL q) else if qK q = 3 then dsC L nm (qA q) (qL q) else ⟨0,L⟩
def doD (bits room : Nat) (L : List Dsk) (o : Cop) (p : Nat × Nat) : CR :=
 if cK o = 0 then adC bits room L (cNm o) (cSz o) (cOt o) p else if cK o = 1 then rmC L (cNm o) else if cK o = 2 then rbC L (cNm o) (cOt o) else if cK o = 3 then doW bits L (cNm o) (cQ o) else ⟨0,L⟩
section
variable {bits room : Nat} {L : List Dsk}
theorem doW_cs (h : CS bits room L) (nm : List UInt8) (q : Cq) : CS bits room (doW bits L nm q).L:=by
 unfold doW
 split
 · exact wrC_cs h _ _ _
 · split
   · exact zrC_cs h _ _ _
   · split
     · exact dsC_cs h _ _ _
     · exact h
theorem doW_lm (h : CS bits room L) (nm : List UInt8) (q : Cq) : Lm L nm (doW bits L nm q).L:=by
 unfold doW
 split
 · exact wrC_lm h _ _ _
 · split
   · exact zrC_lm h _ _ _
   · split
     · exact dsC_lm h _ _ _
     · exact .inl rfl
theorem doD_cs (h : CS bits room L) {o : Cop} (hk : cK o ≠ 0) (p : Nat × Nat) : CS bits room (doD bits room L o p).L:=by
 unfold doD
 rw [if_neg hk]
 split
 · exact rmC_cs h _
 · split
   · exact rbC_cs h _ _
   · split
     · exact doW_cs h _ _
     · exact h
/-- No disk has more than twelve clusters. -/
def Sml (L : List Dsk) : Prop:=∀ d,d ∈ L → d.im.t.length ≤ 12
theorem Sml.nil : Sml []:=fun d h=>by cases h
theorem Sml.sz (h : Sml L) (n : List UInt8) : szOf L n ≤ 12:=by
 unfold szOf
 cases e : dk L n with
 | none=>exact Nat.zero_le _
 | some d=>exact h d (dk_get e).1
theorem Lm.sz {L' : List Dsk} {t : List UInt8} (hl : Lm L t L') (n : List UInt8) : szOf L' n = szOf L n ∧ (dk L' n).isSome = (dk L n).isSome:=by
 rcases hl with rfl | ⟨d,im,h0,hs,rfl⟩
 · exact ⟨rfl,rfl⟩
 · exact szOf_lim L h0 hs
end
/-! ### few,of two lists -/
@[reducible] def uJ : U:=.pr uI uQ
abbrev Jop:=Int × Cq
@[reducible] def jK (o : Jop) : Int:=o.1
@[reducible] def jQ (o : Jop) : Cq:=o.2
@[reducible] def jopL (o : Jop) : List S1:=.d (.int .i64 (jK o)) :: cqL (jQ o)
def jTot (o : Jop) : Nat:=(qB (jQ o)).length
def jTo (l : List Jop) (k : Nat) : Nat:=((l.take k).map jTot).sum
theorem jTo_le (l : List Jop) (k : Nat) : jTo l k ≤ (l.map jTot).sum:=by
 unfold jTo
 rw [List.map_take]
 exact csum_le _ _
theorem jTo_succ (l : List Jop) {k : Nat} (h : k < l.length) : jTo l (k + 1) = jTo l k + jTot l[k]:=by
 unfold jTo
 rw [List.take_add_one,List.getElem?_eq_getElem h,List.map_append,List.sum_append]
 rfl
theorem jTot_le {l : List Jop} {o : Jop} (h : o ∈ l) : jTot o ≤ (l.map jTot).sum:=by
 induction l with
 | nil=>cases h
 | cons x l ih =>
   rw [List.map_cons,List.sum_cons]
   rcases List.mem_cons.1 h with rfl | h
   · omega
   · have:=ih h
     omega
def fewJ (l : List Cop) (m : List Jop) : Bool:=(l.all fun o=>!cBad o) && (decide (l.length + m.length ≤ 60) && decide ((l.map cTot).sum + (m.map jTot).sum ≤ 6000))
theorem fewJ_bad {l : List Cop} {m : List Jop} {k : Nat} (hk : k < l.length) (hb : cBad l[k] = true) : fewJ l m = false:=by
 unfold fewJ
 rw [show (l.all fun o=>!cBad o) = false from Bool.eq_false_iff.2 fun h=>by
   have:=List.all_eq_true.1 h _ (List.getElem_mem hk)
   rw [hb] at this
   cases this]
 rfl
theorem fewJ_get {l : List Cop} {m : List Jop} (h : fewJ l m = true) : l.length + m.length ≤ 60 ∧ (∀ o,o ∈ l → cTot o ≤ 6000 ∧ cBad o = false) ∧ ∀ o,o ∈ m → jTot o ≤ 6000:=by
 unfold fewJ at h
 simp only [Bool.and_eq_true] at h
 have h2:=of_decide_eq_true h.2.2
 refine ⟨of_decide_eq_true h.2.1,fun o ho=>⟨Nat.le_trans (cTot_le ho) (by omega),?_⟩,fun o ho=>Nat.le_trans (jTot_le ho) (by omega)⟩
 have:=List.all_eq_true.1 h.1 o ho
 simpa using this
theorem bulkj_op (o : Jop) : bulkU uJ o = 6 + jTot o + (qN (jQ o)).length:=by
 have h1:=bulkc_u8 (qB (jQ o))
 have e : bulkU uJ o = 1 + (1 + (1 + (1 + (bulkU (.sl .u8) (qB (jQ o)) + (1 + (qN (jQ o)).length))))):=rfl
 rw [e,h1]
 unfold jTot
 omega
theorem bulkj_ops : ∀ l : List Jop,1 + l.length + (l.map jTot).sum ≤ bulkU (.sl uJ) l
 | []=>Nat.le_refl _
 | o :: l=>by
   have h1:=bulkj_ops l
   have e2 : bulkU (.sl uJ) l = 1 + (List.map (bulkU uJ) l).sum:=rfl
   have e3:=bulkj_op o
   show 1 + (l.length + 1) + (jTot o + (l.map jTot).sum) ≤ 1 + (bulkU uJ o + (List.map (bulkU uJ) l).sum)
   omega
end Go.Proofs.YteoamepgonpdlaaGreat
/-!
  Pulls: the document's job and the program's are at one (plain).
-/
namespace Go.Proofs.YteoamepgonpdlaaGreat
set_option linter.unusedVariables false
set_option linter.unusedSimpArgs false
open Go.RowKit Go.Proofs
section
variable {n bits room : Nat} {L : List Dsk} {l : List Rdk}
theorem BK.ag (h : BK L l) (base : List UInt8) {x : List UInt8} {k : Nat} (hD : Dn L x k) : ∀ f,k ≤ f → awG l base f x = if base ∈ bl L k x then ((bl L k x).takeWhile fun n=>!decide (n = base)).length + 1 else 0:=by
 induction hD with
 | @gone nm h0 =>
   intro f _
   have e : onR l nm = none:=by
     rcases h.get nm with ⟨_,e⟩ | ⟨d,e,e1,_⟩
     · unfold onR; rw [e]
     · rw [h0] at e1; cases e1
   rw [if_neg (by unfold bl; exact List.not_mem_nil)]
   cases f with
   | zero=>rfl
   | succ f=>unfold awG; rw [e]
 | @base nm d h0 hb =>
   intro f _
   have e : onR l nm = none:=by
     rcases h.get nm with ⟨e1,_⟩ | ⟨d2,e,e1,e2,e3⟩
     · rw [h0] at e1; cases e1
     · rw [h0] at e1
       injection e1 with e1
       subst e1
       unfold onR
       rw [e2]
       exact if_pos (e3.trans hb)
   rw [if_neg (by unfold bl; exact List.not_mem_nil)]
   cases f with
   | zero=>rfl
   | succ f=>unfold awG; rw [e]
 | @step nm d k h0 hb hD ih =>
   intro f hf
   obtain ⟨g,rfl⟩ : ∃ g,f = g + 1:=⟨f - 1,by omega⟩
   have e : onR l nm = some d.back:=by
     rcases h.get nm with ⟨e1,_⟩ | ⟨d2,e,e1,e2,e3⟩
     · rw [h0] at e1; cases e1
     · rw [h0] at e1
       injection e1 with e1
       subst e1
       unfold onR
       rw [e2]
       simp only
       rw [e3]
       exact if_neg hb
   have hbl : bl L (k + 1) nm = d.back :: bl L k d.back:=by rw [bl,h0]
   unfold awG
   rw [e,hbl]
   simp only
   by_cases hx : d.back = base
   · rw [if_pos hx,if_pos (by rw [hx]; exact List.mem_cons_self ..),List.takeWhile_cons,decide_eq_true hx]
     rfl
   · rw [if_neg hx,ih g (by omega),List.takeWhile_cons,decide_eq_false hx]
     by_cases hm : base ∈ bl L k d.back
     · rw [if_pos hm,if_pos (List.mem_cons_of_mem _ hm)]
       rfl
     · rw [if_neg hm,if_neg (fun w=>by
         rcases List.mem_cons.1 w with w | w
         · exact hx w.symm
         · exact hm w)]
theorem RC.ab (h : RC n bits room L l) (hC : CS bits room L) {top : List UInt8} {d : Dsk} (hd : dk L top = some d) (base : List UInt8) : awB l top base = if btI L top base = true then (btL L top base).length + 1 else 0:=by
 have h1:=hC.dep top
 unfold awB btI
 rw [hd,Option.isSome_some,Bool.true_and]
 by_cases hb : base = []
 · subst hb
   rw [if_pos rfl,decide_eq_true rfl,Bool.true_or,if_pos rfl,h.dp hC]
   have hall : btL L top [] = bl L (dpt L top) top:=by
     unfold btL
     have hp : ∀ x,x ∈ bl L (dpt L top) top → (fun n=>!decide (n = ([] : List UInt8))) x = true:=fun x hx=>by
       obtain ⟨e,he⟩:=bl_known hC.toChOK h1.1 x hx
       have:=hC.ne e (dk_get he).1
       rw [(dk_get he).2] at this
       show (!decide (x = [])) = true
       rw [decide_eq_false this]
       rfl
     have:=List.takeWhile_append_of_pos (l₂:=[]) hp
     simpa using this
   rw [hall,bl_len h1.1]
 · rw [if_neg hb,decide_eq_false hb,Bool.false_or,h.bk.ag base h1.1 20 (by omega)]
   unfold btL
   by_cases hm : base ∈ bl L (dpt L top) top
   · rw [if_pos hm,decide_eq_true hm,if_pos rfl]
   · rw [if_neg hm,decide_eq_false hm,if_neg (by decide)]
/-! ### which cluster is next -/
theorem seen_far (c : Nat) : ∀ (ns : List (List UInt8)) (i : Nat),(seenL bits L c ns i).2 = 0 ∨ i < (seenL bits L c ns i).2
 | [],i=>.inl rfl
 | n :: ns,i=>by
   unfold seenL
   split
   · exact .inl rfl
   · split
     · exact .inr (Nat.lt_succ_self i)
     · rcases seen_far c ns (i + 1) with h | h
       · exact .inl h
       · exact .inr (by omega)
theorem hol_neg {d : Dsk} {x : List UInt8} (hd : dk L x = some d) (c : Nat) : (c < d.im.t.length ∧ (d.im.t.getD c s0).1 ≠ 0) ↔ hol L x c = false:=by
 unfold hol
 rw [hd]
 simp only [Bool.or_eq_false_iff,decide_eq_false_iff_not]
 omega
theorem seen_in (c : Nat) (B : List (List UInt8)) : ∀ (A : List (List UInt8)) (i : Nat),(∀ x,x ∈ A → ∃ d,dk L x = some d) → (A.any fun x=>!hol L x c) = true → i < (seenL bits L c (A ++ B) i).2 ∧ (seenL bits L c (A ++ B) i).2 ≤ i + A.length
 | [],i,_,h=>by cases h
 | x :: A,i,hk,h=>by
   obtain ⟨d,hd⟩:=hk x (List.mem_cons_self ..)
   have hh:=hol_neg hd c
   show i < (seenL bits L c (x :: (A ++ B)) i).2 ∧ (seenL bits L c (x :: (A ++ B)) i).2 ≤ i + (A.length + 1)
   unfold seenL
   rw [hd]
   simp only
   by_cases e : hol L x c = false
   · rw [if_pos (hh.2 e)]
     exact ⟨Nat.lt_succ_self i,by show i + 1 ≤ i + (A.length + 1); omega⟩
   · rw [if_neg (fun w=>e (hh.1 w))]
     rw [List.any_cons] at h
     have e : hol L x c = true:=by cases q : hol L x c with | true=>rfl | false=>exact absurd q e
     rw [e] at h
     obtain ⟨g1,g2⟩:=seen_in c B A (i + 1) (fun y hy=>hk y (List.mem_cons_of_mem _ hy)) h
     omega
theorem seen_off (c : Nat) (B : List (List UInt8)) : ∀ (A : List (List UInt8)) (i : Nat),(∀ x,x ∈ A → ∃ d,dk L x = some d) → (A.any fun x=>!hol L x c) = false → (seenL bits L c (A ++ B) i).2 = (seenL bits L c B (i + A.length)).2
 | [],i,_,h=>rfl
 | x :: A,i,hk,h=>by
   obtain ⟨d,hd⟩:=hk x (List.mem_cons_self ..)
   have hh:=hol_neg hd c
   rw [List.any_cons,Bool.or_eq_false_iff] at h
   show (seenL bits L c (x :: (A ++ B)) i).2 = (seenL bits L c B (i + (A.length + 1))).2
   unfold seenL
   rw [hd]
   simp only
   rw [if_neg (fun w=>by
     have:=hh.1 w
     rw [this] at h
     exact absurd h.1 (by decide)),seen_off c B A (i + 1) (fun y hy=>hk y (List.mem_cons_of_mem _ hy)) h.2,show i + 1 + A.length = i + (A.length + 1) by omega]
   cases B <;> rfl
theorem RC.qn (h : RC n bits room L l) (hC : CS bits room L) {top : List UInt8} {d : Dsk} (hd : dk L top = some d) (base : List UInt8) : qnN l top base = pnx L top base:=by
 obtain ⟨e,g1,g2,g3⟩:=h.get hd
 have hkn:=bl_known hC.toChOK (hC.dep top).1
 have hab:=h.ab hC hd base
 have hP : ∀ k,btI L top base = true → qnP l top base k = pnxP L top base k:=fun k hb=>by
   unfold qnP pnxP
   rw [h.aw hC ⟨d,hd⟩ k,hab,if_pos hb]
   have hsp : bl L (dpt L top) top = btL L top base ++ (bl L (dpt L top) top).dropWhile fun n=>!decide (n = base):=(List.takeWhile_append_dropWhile ..).symm
   generalize (bl L (dpt L top) top).dropWhile (fun n=>!decide (n = base)) = rest at hsp
   have hk2 : ∀ x,x ∈ btL L top base → ∃ d,dk L x = some d:=fun x hx=>hkn x (by rw [hsp]; exact List.mem_append_left _ hx)
   have hh:=hol_neg hd k
   have ha : awy bits L top k = if k < d.im.t.length ∧ (d.im.t.getD k s0).1 ≠ 0 then 0 + 1 else (seenL bits L k (btL L top base ++ rest) (0 + 1)).2:=by
     unfold awy
     rw [hsp]
     show (match dk L top with
       | none=>([],0)
       | some d=>if k < d.im.t.length ∧ (d.im.t.getD k s0).1 ≠ 0 then (clus d.im k none,0 + 1) else seenL bits L k (btL L top base ++ rest) (0 + 1)).2 = _
     rw [hd]
     simp only
     split <;> rfl
   cases q : hol L top k with
   | false =>
     rw [if_pos (hh.2 q)] at ha
     rw [ha,Bool.false_and]
     rfl
   | true =>
     rw [if_neg (fun w=>by have:=hh.1 w; rw [q] at this; cases this)] at ha
     rw [ha,Bool.true_and]
     cases a : (btL L top base).any fun x=>!hol L x k with
     | true =>
       obtain ⟨w1,w2⟩:=seen_in (bits:=bits) k rest (btL L top base) (0 + 1) hk2 a
       rw [Bool.and_eq_true]
       exact ⟨decide_eq_true (by omega),decide_eq_true (by omega)⟩
     | false =>
       have w1:=seen_off (bits:=bits) k rest (btL L top base) (0 + 1) hk2 a
       have w2:=seen_far (bits:=bits) (L:=L) k rest (0 + 1 + (btL L top base).length)
       rw [Bool.and_eq_false_iff]
       rcases w2 with w2 | w2
       · left
         exact decide_eq_false (by omega)
       · right
         exact decide_eq_false (by omega)
 unfold qnN pnx
 rw [g1]
 simp only
 have hsz : szOf L top = (mC (dIm e)).length:=by unfold szOf; rw [hd]; exact g3.len.symm
 cases hb : btI L top base with
 | true =>
   rw [if_pos rfl,hsz,show qnP l top base = pnxP L top base from funext fun k=>hP k hb]
 | false =>
   rw [if_neg (by decide),List.find?_eq_none.2 fun x _=>?_]
   unfold qnP
   rw [hab,hb,if_neg (by decide)]
   simp only [Bool.and_eq_true,decide_eq_true_eq]
   omega
theorem RC.qc (h : RC n bits room L l) (hC : CS bits room L) {top : List UInt8} {d : Dsk} (hd : dk L top = some d) (base : List UInt8) (over : Bool) : qnC l top base over = pnC L top base over:=by
 unfold qnC pnC
 rw [h.qn hC hd]
 rfl
theorem RC.qb (h : RC n bits room L l) (hC : CS bits room L) (top base : List UInt8) : rbE16 l top base = pbE L top base:=by
 unfold rbE16 pbE
 cases hd : dk L top with
 | none=>rw [if_pos (h.ix.2.2 hd)]; rfl
 | some d =>
   have h1 : ¬ fdI l top < 0:=fun w=>by have:=h.ix.2.1 w; rw [hd] at this; cases this
   rw [if_neg h1,h.ab hC hd base,show (if (some d).isSome = false then (140 : Int) else if btI L top base = false ∨ btL L top base = [] then 1 else 0) = (if btI L top base = false ∨ btL L top base = [] then 1 else 0) from if_neg (fun w=>by cases w)]
   cases hb : btI L top base with
   | false=>exact (if_pos (show (if false = true then (btL L top base).length + 1 else 0) < 2 from Nat.zero_lt_succ 1)).trans (if_pos (Or.inl rfl)).symm
   | true =>
     rw [if_pos rfl]
     by_cases hl : btL L top base = []
     · rw [hl,if_pos (by decide),if_pos (.inr rfl)]
     · rw [if_neg (by have:=List.length_pos_iff.2 hl; omega),if_neg (fun w=>by rcases w with w | w; cases w; exact hl w)]
/-! ### a step -/
theorem doC_D (o : Cop) (p : Nat × Nat) : (doC bits room L o p).L = (doD bits room L o p).L ∧ ((cK o = 3 → qK (cQ o) ≠ 0) → (doC bits room L o p).e = (doD bits room L o p).e):=by
 unfold doC doD doQ doW
 by_cases c0 : cK o = 0
 · rw [if_pos c0,if_pos c0]; exact ⟨rfl,fun _=>rfl⟩
 rw [if_neg c0,if_neg c0]
 by_cases c1 : cK o = 1
 · rw [if_pos c1,if_pos c1]; exact ⟨rfl,fun _=>rfl⟩
 rw [if_neg c1,if_neg c1]
 by_cases c2 : cK o = 2
 · rw [if_pos c2,if_pos c2]; exact ⟨rfl,fun _=>rfl⟩
 rw [if_neg c2,if_neg c2]
 by_cases c3 : cK o = 3
 · rw [if_pos c3,if_pos c3]
   by_cases d0 : qK (cQ o) = 0
   · rw [if_pos d0,if_neg (by omega),if_neg (by omega),if_neg (by omega)]
     exact ⟨rfl,fun w=>absurd d0 (w c3)⟩
   rw [if_neg d0]
   by_cases d1 : qK (cQ o) = 1
   · rw [if_pos d1,if_pos d1]; exact ⟨rfl,fun _=>rfl⟩
   rw [if_neg d1,if_neg d1]
   by_cases d2 : qK (cQ o) = 2
   · rw [if_pos d2,if_pos d2]; exact ⟨rfl,fun _=>rfl⟩
   rw [if_neg d2,if_neg d2]
   by_cases d3 : qK (cQ o) = 3
   · rw [if_pos d3,if_pos d3]; exact ⟨rfl,fun _=>rfl⟩
   · rw [if_neg d3,if_neg d3]; exact ⟨rfl,fun _=>rfl⟩
 · rw [if_neg c3,if_neg c3]; exact ⟨rfl,fun _=>rfl⟩
/-- A bound on what the images of the document's chain hold. -/
def Dl (l : List Rdk) (N : Nat) : Prop:=∀ e,e ∈ l → (mD (dIm e)).length ≤ N
theorem RC.go (h : RC n bits room L l) (hC : CS bits room L) (o : Cop) (p : Nat × Nat) (hC' : CS bits room (doD bits room L o p).L) {N : Nat} (hd : Dl l N) (hN : N + 256 ≤ 100000) :
   ((cK o = 3 → qK (cQ o) ≠ 0) → (doR14 n bits room l o).e = (doD bits room L o p).e) ∧ RC n bits room (doD bits room L o p).L (doR14 n bits room l o).l ∧ Dl (doR14 n bits room l o).l (N + 256):=by
 obtain ⟨q1,q2⟩:=doC_D (bits:=bits) (room:=room) (L:=L) o p
 rw [← q1] at hC' ⊢
 obtain ⟨g1,g2,g3,g4⟩:=h.step hC o p hC' fun e he=>by have:=hd e he; omega
 refine ⟨fun w=>g2.trans (q2 w),g3,fun e he=>?_⟩
 obtain ⟨k,w1,w2⟩:=g4 e he
 rcases w2 with w2 | ⟨e0,w2,w3⟩
 · omega
 · have:=hd e0 w2
   omega
theorem RC.ps (h : RC n bits room L l) (hC : CS bits room L) {top : List UInt8} {d : Dsk} (hd : dk L top = some d) (base : List UInt8) (over : Bool) {N : Nat} (hD : Dl l N) (hN : N + 256 ≤ 100000) :
   (qstep n bits room l top base over).is = (pstep bits L top base over).done ∧ (qstep n bits room l top base over).e = (pstep bits L top base over).e ∧ (qstep n bits room l top base over).over = (pstep bits L top base over).over ∧
   RC n bits room (pstep bits L top base over).L (qstep n bits room l top base over).l ∧ Dl (qstep n bits room l top base over).l (N + 256):=by
 unfold qstep pstep
 rw [hd,h.qn hC hd]
 cases over with
 | true=>exact ⟨rfl,rfl,rfl,h,fun e he=>Nat.le_trans (hD e he) (Nat.le_add_right _ _)⟩
 | false =>
   rw [if_neg (by decide),if_neg (fun w=>by cases w)]
   cases hn : pnx L top base with
   | some k =>
     have hk:=(pnx_some hn).2.1
     unfold szOf at hk
     rw [hd] at hk
     have hk : k < d.im.t.length:=hk
     have hcl : clC bits L top (k : Int) = clR n l top k:=by
       unfold clC
       rw [hd]
       simp only
       rw [if_pos ⟨by omega,by omega⟩,h.cl hC ⟨d,hd⟩ k,Int.toNat_natCast]
     have ha : (k : Int) * (n : Nat) = ((k * 2 ^ bits : Nat) : Int):=by rw [h.n2,Int.natCast_mul]
     have hop : doD bits room L (qOpW n l top k) (0,0) = wrC bits L top ((k * 2 ^ bits : Nat) : Int) (clC bits L top (k : Int)):=by
       show wrC bits L top ((k : Int) * (n : Nat)) (clR n l top k) = _
       rw [ha,hcl]
     obtain ⟨g1,g2,g3⟩:=h.go hC (qOpW n l top k) (0,0) (by rw [hop]; exact wrC_cs hC _ _ _) hD hN
     rw [hop] at g1 g2
     exact ⟨rfl,g1 (fun _ w=>absurd (show (1 : Int) = 0 from w) (by decide)),rfl,g2,g3⟩
   | none =>
     have hop : doD bits room L (qOpR top base) (0,0) = rbC L top base:=rfl
     obtain ⟨g1,g2,g3⟩:=h.go hC (qOpR top base) (0,0) (by rw [hop]; exact rbC_cs hC _ _) hD hN
     rw [hop] at g1 g2
     have g1:=g1 (fun w=>absurd (show (2 : Int) = 3 from w) (by decide))
     exact ⟨by show decide _ = decide _; rw [g1],g1,by show decide _ = decide _; rw [g1],g2,g3⟩
end
end Go.Proofs.YteoamepgonpdlaaGreat
/-!
  Independence, with short lists of who comes ahead.
-/
namespace Go.Proofs.YteoamepgonpdlaaGreat
set_option linter.unusedVariables false
set_option linter.unusedSimpArgs false
open Go.RowKit
/-! ### independence,with short lists of who comes ahead -/
def uni : List Nat → List Nat → List Nat
 | [],r=>r
 | x :: l,r=>match r.contains x with
   | true=>uni l r
   | false=>uni l (x :: r)
theorem uni_mem {a : Nat} : ∀ {l r : List Nat},a ∈ uni l r → a ∈ l ∨ a ∈ r
 | [],r,h=>.inr h
 | x :: l,r,h=>by
   unfold uni at h
   split at h
   · rcases uni_mem h with h | h
     · exact .inl (List.mem_cons_of_mem _ h)
     · exact .inr h
   · rcases uni_mem h with h | h
     · exact .inl (List.mem_cons_of_mem _ h)
     · rcases List.mem_cons.1 h with rfl | h
       · exact .inl (List.mem_cons_self ..)
       · exact .inr h
def ancs1 (acc : List (List Nat)) : List Nat → List Nat
 | []=>[]
 | d :: l=>uni (d :: acc.getD d []) (ancs1 acc l)
theorem ancs1_mem {acc : List (List Nat)} {a : Nat} : ∀ {l : List Nat},a ∈ ancs1 acc l → a ∈ l ∨ ∃ d ∈ l,a ∈ acc.getD d []
 | [],h=>by cases h
 | d :: l,h=>by
   rcases uni_mem h with h | h
   · rcases List.mem_cons.1 h with rfl | h
     · exact .inl (List.mem_cons_self ..)
     · exact .inr ⟨d,List.mem_cons_self ..,h⟩
   · rcases ancs1_mem h with h | ⟨e,he,h⟩
     · exact .inl (List.mem_cons_of_mem _ h)
     · exact .inr ⟨e,List.mem_cons_of_mem _ he,h⟩
def ancsU : List Oper → List (List Nat) → List (List Nat)
 | [],acc=>acc
 | o :: l,acc=>ancsU l (acc ++ [ancs1 acc (depsOf o)])
theorem ancsU_sub : ∀ (l : List Oper) (acc acc' : List (List Nat)),acc.length = acc'.length → (∀ j a,a ∈ acc.getD j [] → a ∈ acc'.getD j []) → ∀ j a,a ∈ (ancsU l acc).getD j [] → a ∈ (ancs l acc').getD j []
 | [],acc,acc',_,h=>h
 | o :: l,acc,acc',hl,h=>by
   unfold ancsU ancs
   refine ancsU_sub l _ _ (by simp [hl]) ?_
   intro j a ha
   rw [List.getD_eq_getElem?_getD] at ha ⊢
   rcases Nat.lt_trichotomy j acc.length with hlt | heq | hgt
   · rw [List.getElem?_append_left hlt,← List.getD_eq_getElem?_getD] at ha
     rw [List.getElem?_append_left (hl ▸ hlt),← List.getD_eq_getElem?_getD]
     exact h j a ha
   · subst heq
     rw [List.getElem?_append_right (Nat.le_refl _)] at ha
     rw [List.getElem?_append_right (Nat.le_of_eq hl.symm)]
     simp only [Nat.sub_self,List.getElem?_cons_zero,Option.getD_some] at ha
     simp only [hl,Nat.sub_self,List.getElem?_cons_zero,Option.getD_some,List.mem_append,List.mem_flatMap]
     rcases ancs1_mem ha with ha | ⟨d,hd,ha⟩
     · exact .inl ha
     · exact .inr ⟨d,hd,h d a ha⟩
   · rw [List.getElem?_eq_none (by simp; omega)] at ha
     simp at ha
theorem pairs_sub {all : List Oper} {an an' : List (List Nat)} (h : ∀ j a,a ∈ an.getD j [] → a ∈ an'.getD j []) : ∀ l : List (Oper × Ent × Nat),pairsOK all an l = true → pairsOK all an' l = true
 | [],_=>rfl
 | (o,n,i) :: l,hp=>by
   simp only [pairsOK,Bool.and_eq_true] at hp ⊢
   refine ⟨List.all_eq_true.2 fun x hx=>?_,pairs_sub h l hp.2⟩
   have:=List.all_eq_true.1 hp.1 x hx
   obtain ⟨p,m,j⟩:=x
   simp only [Bool.or_eq_true,Bool.and_eq_true,List.contains_iff_mem] at this ⊢
   exact this.imp (fun g=>⟨h _ _ g.1,g.2⟩) id
def indepU (K : KL) (B : BL) (ops : List Oper) (log : List Ent) : Bool :=
 let es:=log.reverse
 (ops.zipIdx.all fun (o,i)=>(depsOf o).all fun d=>Nat.blt d i) && (es.all fun n=>n.e.nw.all fun c=>noK c K && noB c B) && pairsOK ops (ancsU ops []) ((ops.zip es).zipIdx.map fun ((o,n),i)=>(o,n,i))
theorem indep_of {K : KL} {B : BL} {ops : List Oper} {log : List Ent} (h : indepU K B ops log = true) : indep K B ops log = true:=by
 simp only [indepU,Bool.and_eq_true] at h
 simp only [indep,Bool.and_eq_true]
 exact ⟨h.1,pairs_sub (ancsU_sub ops [] [] rfl fun _ _ h=>h) _ h.2⟩
end Go.Proofs.YteoamepgonpdlaaGreat
/-!
  ChainAll: SameExtents, stands.
-/
namespace Go.Proofs.YteoamepgonpdlaaGreat
set_option linter.unusedVariables false
set_option linter.unusedSimpArgs false
set_option maxRecDepth 10000
open Go.RowKit Go.Proofs
theorem opOK_qneq {P : Program} {ids : List Nat} {K : KL} {B : BL} {o : Oper} {T T2 : TypeId} {x y : Operand} {lx ly : List S1} {m D : Nat} (ho : o.op = .binOp .neq T x y T2) (hg : P.eqGuardType P.depth T = false) (hk : P.keyTypeAt m T = true) (hm : m ≤ 10000)
   (hx : opv K x = .c (.agg lx)) (hy : opv K y = .c (.agg ly)) (hpl : (plainL lx && plainL ly) = true) (fx : (Value.agg (List.toArray (valsL lx))).formed P T = true) (fy : (Value.agg (List.toArray (valsL ly))).formed P T = true)
   (kx : P.keyLits D T (valsL lx) = some (litsL lx)) (ky : P.keyLits D T (valsL ly) = some (litsL ly)) {r : Bool} (hr : r = true ↔ litsL lx = litsL ly) (N : Nat) : OpOK P N ids o K B (.c (.one (.d (.bool (!r))))) ⟨[],[],[]⟩:=by
 have m1 : x ∈ o.op.operands:=by rw [ho]; simp [Op.operands]
 have m2 : y ∈ o.op.operands:=by rw [ho]; simp [Op.operands]
 simp only [Bool.and_eq_true] at hpl
 refine OpOK.val fun K' B' g1 g2 C ρ F a w hM hS=>?_
 obtain ⟨vs,e1,h1⟩:=hS.ev ((g1 x m1).trans hx)
 obtain ⟨us,e2,h2⟩:=hS.ev ((g1 y m2).trans hy)
 have h1:=denL_vals hpl.1 h1
 have h2:=denL_vals hpl.2 h2
 subst h1 h2
 obtain ⟨q,hq,hiff⟩:=run_equalIn_deep (P:=P) (10000 - m) m T hk w D D (.agg (List.toArray (valsL lx))) (.agg (List.toArray (valsL ly))) (litsL lx) (litsL ly) fx fy (by simpa [Value.cells] using kx) (by simpa [Value.cells] using ky)
 rw [show 10000 - m + m = 10000 by omega] at hq
 have hqr : q = r:=by
   cases q <;> cases r
   · rfl
   · exact absurd (hiff.2 (hr.1 rfl)) (by simp)
   · exact absurd (hr.2 (hiff.1 rfl)) (by simp)
   · rfl
 subst hqr
 refine ⟨.bool (!q),?_,rfl⟩
 simp only [execOp,ho,e1,e2,Sem.run_bind,run_eqGuard_agg w .neq T x y _ _ hg,Result.andThen_ok,run_neq_struct,hq,Sem.run_pure]
@[reducible] def qinI (n : Int) : Prop:=-9223372036854775808 ≤ n ∧ n ≤ 9223372036854775807
theorem qkl_i (d : Nat) {n : Int} (h : qinI n) : Tryz.prog.keyLits (d + 1) 3 [.int .i64 n] = some [.int .i64 n]:=by
 unfold Program.keyLits
 simp only [Tryz.underlying3]
 have hw : (Lit.int .i64 n).wf = true:=by
   simp only [Lit.wf,Bool.and_eq_true,decide_eq_true_eq]
   have h1 : IntKind.min .i64 = -9223372036854775808:=by decide
   have h2 : IntKind.max .i64 = 9223372036854775807:=by decide
   rw [h1,h2]
   exact h
 simp [hw]
theorem qkl_ex (d : Nat) {x : Xt} (h1 : qinI x.1) (h2 : qinI x.2.1) (h3 : qinI x.2.2) : Tryz.prog.keyLits (d + 2) 114 (valsL [.d (.int .i64 x.1),.d (.int .i64 x.2.1),.d (.int .i64 x.2.2)]) = some (litsL [.d (.int .i64 x.1),.d (.int .i64 x.2.1),.d (.int .i64 x.2.2)]):=by
 have c1 : Tryz.prog.cellsOf 114 = 3:=by kernel_rfl
 have c2 : Tryz.prog.cellsOf 3 = 1:=by kernel_rfl
 have k1:=qkl_i d h1
 have k2:=qkl_i d h2
 have k3:=qkl_i d h3
 unfold Program.keyLits
 simp only [Tryz.underlying114,c1]
 simp [valsL,valS,c2,k1,k2,k3,litsL,litS]
theorem sameX_fn (l : List Xt) (hl : l.length ≤ 100000) (hin : ∀ x,x ∈ l → qinI x.1 ∧ qinI x.2.1 ∧ qinI x.2.2) : Fn Tryz.prog 30 [vL uEx l,vL uEx l] [] [] (vB true) []:=by
 refine Fn.of tblOK [] _ _ _ _ _ Tryz.func30 rfl rfl (by kernel_rfl) (by kernel_rfl) rfl (drawOK tblOK) rfl ?_
 refine ⟨fun h=>absurd (show (!decide (((l.length : Nat) : Int) = ((l.length : Nat) : Int))) = true from h) (by simp),fun _=>?_⟩
 show TrQ _ _ _ _ _ _ _
 refine TrQ.loop tblOK (drawOK tblOK) [] (by kernel_rfl) (X:=Nat) (fun i=>[(0,vL uEx l),(1,vL uEx l),(5,vI (i : Nat))]) (fun _=>[]) (fun i=>i ≤ l.length) (fun i=>l.length - i) 0 (Nat.zero_le _) ?_ ?_
 · exact Le.sub ⟨rfl,rfl,rfl,trivial⟩ trivial
 intro i hi
 have hi : i ≤ l.length:=hi
 refine ⟨fun h=>?_,fun h=>?_⟩
 · have hi1 : i < l.length:=by
     have h : decide (((i : Nat) : Int) < ((l.length : Nat) : Int)) = true:=h
     have:=of_decide_eq_true h
     omega
   have hg : lget l i = some l[i]:=List.getElem?_eq_getElem hi1
   have hm:=hin _ (List.getElem_mem hi1)
   generalize l[i] = x at *
   have hk:=qkl_ex 3 hm.1 hm.2.1 hm.2.2
   have m1 : (0 : Int) ≤ ((i : Nat) : Int):=by omega
   have m2 : -9223372036854775808 ≤ ((i : Nat) : Int) + 1 ∧ ((i : Nat) : Int) + 1 ≤ 9223372036854775807:=by omega
   refine ⟨m1,x,hg,m1,x,hg,?_⟩
   refine ⟨_,_,fun N=>opOK_qneq (m:=5) (D:=5) (r:=true) (lx:=[.d (.int .i64 x.1),.d (.int .i64 x.2.1),.d (.int .i64 x.2.2)]) (ly:=[.d (.int .i64 x.1),.d (.int .i64 x.2.1),.d (.int .i64 x.2.2)]) rfl (by kernel_rfl) (by kernel_rfl) (by decide) rfl rfl rfl (by rfl) (by rfl) hk hk ⟨fun _=>rfl,fun _=>rfl⟩ N,rfl,?_⟩
   refine ⟨rfl,?_⟩
   refine ⟨fun h=>absurd h (by decide),fun _=>?_⟩
   exact ⟨m2,i + 1,hi1,by show l.length - (i + 1) < l.length - i; omega,Le.sub ⟨rfl,rfl,rfl,trivial⟩ trivial⟩
 · exact ⟨_,_,_,Le.refl _ _,rfl,rfl,trivial,rfl⟩
theorem exOf_in {ks : List Int} (hk : ks.length ≤ 1000) (hb : ∀ k,k ∈ ks → qinI k) : ∀ x,x ∈ exOf ks → qinI x.1 ∧ qinI x.2.1 ∧ qinI x.2.2:=fun x hx=>by
 obtain ⟨h1,h2,h3,h4⟩:=(exOf_ok ks).each x hx
 have h5:=h4 x.1.toNat (by omega) (by omega)
 have h6:=hb _ (List.mem_of_getElem? h5)
 refine ⟨?_,?_,h6⟩
 · unfold qinI; omega
 · unfold qinI; omega
section
variable {n bits room : Nat} {L : List Dsk} {l : List Rdk}
end
end Go.Proofs.YteoamepgonpdlaaGreat
/-!
  Scripts of law 16: few, does, all.
-/
namespace Go.Proofs.YteoamepgonpdlaaGreat
set_option linter.unusedVariables false
set_option linter.unusedSimpArgs false
set_option maxRecDepth 10000
open Go.RowKit Go.Proofs
@[reducible] def fjK16 (l : List Cop) (m : List Jop) (k : Nat) : KL:=[(0,vL uC l),(1,vL uJ m),(5,vI (cTo l k : Nat)),(10,vL uC l),(11,vI (l.length : Nat)),(12,vI (k : Nat))]
@[reducible] def fjK216 (l : List Cop) (m : List Jop) (k : Nat) : KL:=[(0,vL uC l),(1,vL uJ m),(5,vI ((cTo l l.length + jTo m k : Nat) : Int)),(39,vL uJ m),(40,vI (m.length : Nat)),(41,vI (k : Nat))]
theorem few16_fn (l : List Cop) (m : List Jop) (hl : l.length ≤ 1073741824) (ht : (l.map cTot).sum ≤ 1073741824) (hl2 : m.length ≤ 1073741824) (ht2 : (m.map jTot).sum ≤ 1073741824) : Fn Tryz.prog 17 [vL uC l,vL uJ m] [] [] (vB (fewJ l m)) []:=by
 refine Fn.of tblOK [] _ _ _ _ _ Tryz.func17 rfl rfl (by kernel_rfl) (by kernel_rfl) rfl (drawOK tblOK) rfl ?_
 show TrQ _ _ _ _ _ _ _
 refine TrQ.loop tblOK (drawOK tblOK) [] (by kernel_rfl) (X:=Nat) (fjK16 l m) (fun _=>[]) (fun k=>k ≤ l.length ∧ cGood l k) (fun k=>l.length - k) 0 ⟨Nat.zero_le _,fun i o hi=>by omega⟩ ?_ ?_
 · exact Le.sub ⟨rfl,rfl,rfl,rfl,rfl,rfl,trivial⟩ trivial
 rintro k ⟨hk,hg⟩
 have ht1:=cTo_le l k
 refine ⟨fun hc=>?_,fun hc=>?_⟩
 · have hc : decide ((k : Int) < ((l.length : Nat) : Int)) = true:=hc
   have hk1 : k < l.length:=by have:=of_decide_eq_true hc; omega
   have ht3:=cTo_le l (k + 1)
   have hs:=cTo_succ l hk1
   have hbd : cBad l[k] = (decide (12 < cSz l[k]) && decide (cSz l[k] ≤ 256)):=rfl
   have htt : cTot l[k] = (qB (cQ l[k])).length + (cNm l[k]).length + (cOt l[k]).length:=rfl
   have hget:=lgAt (n:=k) hk1
   have hgs:=fun hb=>hg.succ hk1 hb
   have hbad:=fun hb=>fewJ_bad (m:=m) hk1 hb
   generalize hx : l[k] = o at *
   have m1 : (-9223372036854775808 : Int) ≤ (((qB (cQ o)).length : Nat) : Int) + (((cNm o).length : Nat) : Int) ∧ (((qB (cQ o)).length : Nat) : Int) + (((cNm o).length : Nat) : Int) ≤ 9223372036854775807:=by omega
   have m2 : (-9223372036854775808 : Int) ≤ (((qB (cQ o)).length : Nat) : Int) + (((cNm o).length : Nat) : Int) + (((cOt o).length : Nat) : Int) ∧ (((qB (cQ o)).length : Nat) : Int) + (((cNm o).length : Nat) : Int) + (((cOt o).length : Nat) : Int) ≤ 9223372036854775807:=by omega
   have m3 : (-9223372036854775808 : Int) ≤ ((cTo l k : Nat) : Int) + ((((qB (cQ o)).length : Nat) : Int) + (((cNm o).length : Nat) : Int) + (((cOt o).length : Nat) : Int)) ∧ ((cTo l k : Nat) : Int) + ((((qB (cQ o)).length : Nat) : Int) + (((cNm o).length : Nat) : Int) + (((cOt o).length : Nat) : Int)) ≤ 9223372036854775807:=by omega
   have e3 : ((cTo l k : Nat) : Int) + ((((qB (cQ o)).length : Nat) : Int) + (((cNm o).length : Nat) : Int) + (((cOt o).length : Nat) : Int)) = ((cTo l (k + 1) : Nat) : Int):=by omega
   refine ⟨by omega,o,hget,?_⟩
   refine ⟨rfl,m1,m2,m3,?_⟩
   refine ⟨fun cA=>?_,fun cA=>?_⟩
   · have cA : decide (12 < cSz o) = true:=cA
     refine ⟨fun cB=>?_,fun cB=>?_⟩
     · have cB : decide (cSz o ≤ 256) = true:=cB
       exact ⟨_,_,_,Le.refl _ _,rfl,(hbad (by rw [hbd,cA,cB]; rfl)).symm,trivial,rfl⟩
     · have cB : decide (cSz o ≤ 256) = false:=cB
       exact ⟨by omega,k + 1,⟨hk1,hgs (by rw [hbd,cA,cB]; rfl)⟩,by omega,Le.sub ⟨rfl,rfl,e3,rfl,rfl,rfl,trivial⟩ trivial⟩
   · have cA : decide (12 < cSz o) = false:=cA
     exact ⟨by omega,k + 1,⟨hk1,hgs (by rw [hbd,cA]; rfl)⟩,by omega,Le.sub ⟨rfl,rfl,e3,rfl,rfl,rfl,trivial⟩ trivial⟩
 · have hc : decide ((k : Int) < ((l.length : Nat) : Int)) = false:=hc
   have hk2 : k = l.length:=by have:=of_decide_eq_false hc; omega
   subst hk2
   have hall : (l.all fun o=>!cBad o) = true:=List.all_eq_true.2 fun o ho=>by
     obtain ⟨i,hi,rfl⟩:=List.getElem_of_mem ho
     rw [hg i _ hi (List.getElem?_eq_getElem hi)]
     rfl
   have htt : cTo l l.length = (l.map cTot).sum:=by unfold cTo; rw [List.take_length]
   show TrQ _ _ _ _ _ _ _
   refine TrQ.loop tblOK (drawOK tblOK) [] (by kernel_rfl) (X:=Nat) (fjK216 l m) (fun _=>[]) (fun j=>j ≤ m.length) (fun j=>m.length - j) 0 (Nat.zero_le _) ?_ ?_
   · exact Le.sub ⟨rfl,rfl,rfl,rfl,rfl,rfl,trivial⟩ trivial
   intro j hj
   have hj1:=jTo_le m j
   refine ⟨fun hc=>?_,fun hc=>?_⟩
   · have hc : decide ((j : Int) < ((m.length : Nat) : Int)) = true:=hc
     have hjm : j < m.length:=by have:=of_decide_eq_true hc; omega
     have hj2:=jTo_le m (j + 1)
     have hs:=jTo_succ m hjm
     have hj3 : jTot m[j] = (qB (jQ m[j])).length:=rfl
     have hget:=lgAt (n:=j) hjm
     generalize hx : m[j] = o at *
     have m3 : (-9223372036854775808 : Int) ≤ ((cTo l l.length + jTo m j : Nat) : Int) + (((qB (jQ o)).length : Nat) : Int) ∧ ((cTo l l.length + jTo m j : Nat) : Int) + (((qB (jQ o)).length : Nat) : Int) ≤ 9223372036854775807:=by omega
     have e3 : ((cTo l l.length + jTo m j : Nat) : Int) + (((qB (jQ o)).length : Nat) : Int) = ((cTo l l.length + jTo m (j + 1) : Nat) : Int):=by omega
     refine ⟨by omega,o,hget,?_⟩
     refine ⟨rfl,m3,?_⟩
     exact ⟨by omega,j + 1,hjm,by omega,Le.sub ⟨rfl,rfl,e3,rfl,rfl,rfl,trivial⟩ trivial⟩
   · have hc : decide ((j : Int) < ((m.length : Nat) : Int)) = false:=hc
     have hj2 : j = m.length:=by have:=of_decide_eq_false hc; omega
     subst hj2
     have hjt : jTo m m.length = (m.map jTot).sum:=by unfold jTo; rw [List.take_length]
     have m4 : (-9223372036854775808 : Int) ≤ ((l.length : Nat) : Int) + ((m.length : Nat) : Int) ∧ ((l.length : Nat) : Int) + ((m.length : Nat) : Int) ≤ 9223372036854775807:=by omega
     refine ⟨m4,?_⟩
     refine ⟨fun c1=>?_,fun c1=>?_⟩
     · have c1 : decide (((l.length : Nat) : Int) + ((m.length : Nat) : Int) ≤ 60) = true:=c1
       have c1 : decide (l.length + m.length ≤ 60) = true:=decide_eq_true (by have:=of_decide_eq_true c1; omega)
       refine ⟨_,_,_,Le.refl _ _,rfl,(show decide (((cTo l l.length + jTo m m.length : Nat) : Int) ≤ 6000) = fewJ l m from ?_),trivial,rfl⟩
       rw [fewJ,hall,c1,htt,hjt,Bool.eq_iff_iff]
       simp
       omega
     · have c1 : decide (((l.length : Nat) : Int) + ((m.length : Nat) : Int) ≤ 60) = false:=c1
       have c1 : decide (l.length + m.length ≤ 60) = false:=decide_eq_false (by have:=of_decide_eq_false c1; omega)
       refine ⟨_,_,_,Le.refl _ _,rfl,(show false = fewJ l m from ?_),trivial,rfl⟩
       rw [fewJ,hall,c1]
       rfl
theorem does16_fn {bits room : Nat} {L : List Dsk} (h : CS bits room L) (o : Cop) (hb : cTot o ≤ 1000000) :
   FnX Tryz.prog 19 [vP 1001,copV o] (chB bits room L) [] (X:={ p : Nat × Nat // CS bits room (doD bits room L o p).L }) (fun p=>vI (doD bits room L o p.1).e) (fun p=>chB bits room (doD bits room L o p.1).L):=by
 have htt : cTot o = (qB (cQ o)).length + (cNm o).length + (cOt o).length:=rfl
 have hnm : (cNm o).length ≤ 4294967296:=by omega
 refine FnX.of tblOK [3] _ _ _ _ _ Tryz.func19 rfl rfl (by kernel_rfl) (by kernel_rfl) rfl (drawOK tblOK) rfl ?_
 refine ⟨rfl,?_⟩
 refine ⟨fun c0=>?_,fun c0=>?_⟩
 · have c0 : cK o = 0:=of_decide_eq_true c0
   have hE : ∀ p,doD bits room L o p = adC bits room L (cNm o) (cSz o) (cOt o) p:=fun p=>if_pos c0
   show TrQ _ _ _ _ _ _ _
   refine TrQ.regionX tblOK (by kernel_rfl) ?_
   refine ⟨_,_,_,fun g=>_,fun g=>_,chadd_fn h (cNm o) (cSz o) (cOt o) hnm,⟨rfl,rfl,rfl,rfl,trivial⟩,rfl,fun _=>rfl,fun g=>?_⟩
   have hL:=congrArg CR.L (hE g.1)
   exact ⟨⟨g.1,by rw [hE]; exact g.2⟩,_,_,_,Le.refl _ _,rfl,congrArg CR.e (hE g.1).symm,⟨rfl,congrArg (fun l=>some (Ch.map .str .adr (chE l))) hL.symm,congrArg (fun l=>some (Ch.obj (.pool (chD l)))) hL.symm,congrArg (fun l=>some (Ch.obj (.pool (chM l)))) hL.symm,trivial⟩,rfl⟩
 have c0 : cK o ≠ 0:=of_decide_eq_false c0
 have g0 : CS bits room (doD bits room L o (0,0)).L:=doD_cs h c0 (0,0)
 refine ⟨fun c1=>?_,fun c1=>?_⟩
 · have c1 : cK o = 1:=of_decide_eq_true c1
   have hE : doD bits room L o (0,0) = rmC L (cNm o):=(if_neg c0).trans (if_pos c1)
   have hL:=congrArg CR.L hE
   refine ⟨_,_,_,_,chremove_fn h (cNm o),⟨rfl,rfl,rfl,rfl,trivial⟩,rfl,?_⟩
   exact ⟨⟨_,g0⟩,_,_,_,Le.refl _ _,rfl,congrArg CR.e hE.symm,⟨rfl,congrArg (fun l=>some (Ch.map .str .adr (chE l))) hL.symm,congrArg (fun l=>some (Ch.obj (.pool (chD l)))) hL.symm,congrArg (fun l=>some (Ch.obj (.pool (chM l)))) hL.symm,trivial⟩,rfl⟩
 have c1 : cK o ≠ 1:=of_decide_eq_false c1
 refine ⟨fun c2=>?_,fun c2=>?_⟩
 · have c2 : cK o = 2:=of_decide_eq_true c2
   have hE : doD bits room L o (0,0) = rbC L (cNm o) (cOt o):=(if_neg c0).trans ((if_neg c1).trans (if_pos c2))
   have hL:=congrArg CR.L hE
   refine ⟨_,_,_,_,chrebase_fn h (cNm o) (cOt o),⟨rfl,rfl,rfl,rfl,trivial⟩,rfl,?_⟩
   exact ⟨⟨_,g0⟩,_,_,_,Le.refl _ _,rfl,congrArg CR.e hE.symm,⟨rfl,congrArg (fun l=>some (Ch.map .str .adr (chE l))) hL.symm,congrArg (fun l=>some (Ch.obj (.pool (chD l)))) hL.symm,congrArg (fun l=>some (Ch.obj (.pool (chM l)))) hL.symm,trivial⟩,rfl⟩
 have c2 : cK o ≠ 2:=of_decide_eq_false c2
 refine ⟨fun c3=>?_,fun c3=>?_⟩
 · have c3 : cK o = 3:=of_decide_eq_true c3
   have hQ : doD bits room L o (0,0) = doW bits L (cNm o) (cQ o):=(if_neg c0).trans ((if_neg c1).trans ((if_neg c2).trans (if_pos c3)))
   refine ⟨fun d1=>?_,fun d1=>?_⟩
   · have d1 : qK (cQ o) = 1:=of_decide_eq_true d1
     have hE:=hQ.trans (if_pos d1)
     have hL:=congrArg CR.L hE
     refine ⟨_,_,_,_,chwrite_fn h (cNm o) (qA (cQ o)) (qB (cQ o)) (by omega),⟨rfl,rfl,rfl,rfl,trivial⟩,rfl,?_⟩
     exact ⟨⟨_,g0⟩,_,_,_,Le.refl _ _,rfl,congrArg CR.e hE.symm,⟨rfl,congrArg (fun l=>some (Ch.map .str .adr (chE l))) hL.symm,congrArg (fun l=>some (Ch.obj (.pool (chD l)))) hL.symm,congrArg (fun l=>some (Ch.obj (.pool (chM l)))) hL.symm,trivial⟩,rfl⟩
   have d1 : qK (cQ o) ≠ 1:=of_decide_eq_false d1
   refine ⟨fun d2=>?_,fun d2=>?_⟩
   · have d2 : qK (cQ o) = 2:=of_decide_eq_true d2
     have hE:=hQ.trans ((if_neg d1).trans (if_pos d2))
     have hL:=congrArg CR.L hE
     refine ⟨_,_,_,_,chzero_fn h (cNm o) (qA (cQ o)) (qL (cQ o)),⟨rfl,rfl,rfl,rfl,trivial⟩,rfl,?_⟩
     exact ⟨⟨_,g0⟩,_,_,_,Le.refl _ _,rfl,congrArg CR.e hE.symm,⟨rfl,congrArg (fun l=>some (Ch.map .str .adr (chE l))) hL.symm,congrArg (fun l=>some (Ch.obj (.pool (chD l)))) hL.symm,congrArg (fun l=>some (Ch.obj (.pool (chM l)))) hL.symm,trivial⟩,rfl⟩
   have d2 : qK (cQ o) ≠ 2:=of_decide_eq_false d2
   refine ⟨fun d3=>?_,fun d3=>?_⟩
   · have d3 : qK (cQ o) = 3:=of_decide_eq_true d3
     have hE:=hQ.trans ((if_neg d1).trans ((if_neg d2).trans (if_pos d3)))
     have hL:=congrArg CR.L hE
     refine ⟨_,_,_,_,chdisc_fn h (cNm o) (qA (cQ o)) (qL (cQ o)),⟨rfl,rfl,rfl,rfl,trivial⟩,rfl,?_⟩
     exact ⟨⟨_,g0⟩,_,_,_,Le.refl _ _,rfl,congrArg CR.e hE.symm,⟨rfl,congrArg (fun l=>some (Ch.map .str .adr (chE l))) hL.symm,congrArg (fun l=>some (Ch.obj (.pool (chD l)))) hL.symm,congrArg (fun l=>some (Ch.obj (.pool (chM l)))) hL.symm,trivial⟩,rfl⟩
   have d3 : qK (cQ o) ≠ 3:=of_decide_eq_false d3
   have hE:=hQ.trans ((if_neg d1).trans ((if_neg d2).trans (if_neg d3)))
   have hL:=congrArg CR.L hE
   exact ⟨⟨_,g0⟩,_,_,_,Le.refl _ _,rfl,congrArg CR.e hE.symm,⟨rfl,congrArg (fun l=>some (Ch.map .str .adr (chE l))) hL.symm,congrArg (fun l=>some (Ch.obj (.pool (chD l)))) hL.symm,congrArg (fun l=>some (Ch.obj (.pool (chM l)))) hL.symm,trivial⟩,rfl⟩
 have c3 : cK o ≠ 3:=of_decide_eq_false c3
 have hE : doD bits room L o (0,0) = ⟨0,L⟩:=(if_neg c0).trans ((if_neg c1).trans ((if_neg c2).trans (if_neg c3)))
 have hL:=congrArg CR.L hE
 exact ⟨⟨_,g0⟩,_,_,_,Le.refl _ _,rfl,congrArg CR.e hE.symm,⟨rfl,congrArg (fun l=>some (Ch.map .str .adr (chE l))) hL.symm,congrArg (fun l=>some (Ch.obj (.pool (chD l)))) hL.symm,congrArg (fun l=>some (Ch.obj (.pool (chM l)))) hL.symm,trivial⟩,rfl⟩
theorem all16_fn {bits room : Nat} {L : List Dsk} (h : CS bits room L) (nm : List UInt8) : Fn Tryz.prog 28 [vP 1001,vS nm] (chB bits room L) [] (vS (allC bits L nm)) (chB bits room L):=by
 unfold allC
 cases hd : dk L nm with
 | none =>
   simp only
   refine Fn.of tblOK [] _ _ _ _ _ Tryz.func28 rfl rfl (by kernel_rfl) (by kernel_rfl) rfl (drawOK tblOK) rfl ?_
   refine ⟨_,_,_,_,image_no _ _ L nm hd,⟨rfl,rfl,rfl,rfl,trivial⟩,rfl,?_⟩
   exact ⟨_,_,_,Le.refl _ _,rfl,rfl,⟨rfl,rfl,rfl,rfl,trivial⟩,rfl⟩
 | some d =>
   obtain ⟨hO,hbt,_⟩:=h.ims d (dk_get hd).1
   have hLm:=h.toChN.M (dk_get hd).1
   have htl:=hO.tl
   have hb3:=h.b3
   have hp:=pow_le8 h.b3
   have esh : ((d.im.t.length : Nat) : Int) * ((2 ^ ((d.im.bits : Nat) : Int).toNat : Nat) : Int) = ((d.im.t.length * 2 ^ bits : Nat) : Int):=by
     rw [hbt]
     show ((d.im.t.length : Nat) : Int) * ((2 ^ bits : Nat) : Int) = _
     rw [Int.natCast_mul]
   have mk : d.im.t.length * 2 ^ bits ≤ 256 * 8:=Nat.mul_le_mul htl hp.2
   have m1 : (0 : Int) ≤ ((d.im.t.length : Nat) : Int) ∧ (0 : Int) ≤ ((d.im.bits : Nat) : Int) ∧ ((d.im.bits : Nat) : Int) ≤ 64:=by omega
   have m2 : (-9223372036854775808 : Int) ≤ ((d.im.t.length : Nat) : Int) * ((2 ^ ((d.im.bits : Nat) : Int).toNat : Nat) : Int) ∧ ((d.im.t.length : Nat) : Int) * ((2 ^ ((d.im.bits : Nat) : Int).toNat : Nat) : Int) ≤ 9223372036854775807:=by rw [esh]; omega
   have hcr:=chread_fn h nm 0 ((d.im.t.length * 2 ^ bits : Nat) : Int)
   rw [rdC_ok h hd (n:=d.im.t.length * 2 ^ bits) (by rw [iall_one h hd]; exact Nat.le_refl _),← esh] at hcr
   simp only
   generalize crdK bits L nm (dpt L nm) 0 (d.im.t.length * 2 ^ bits) = x at *
   refine Fn.of tblOK [] _ _ _ _ _ Tryz.func28 rfl rfl (by kernel_rfl) (by kernel_rfl) rfl (drawOK tblOK) rfl ?_
   refine ⟨_,_,_,_,image_fn _ _ L h.toChN nm d hd,⟨rfl,rfl,rfl,rfl,trivial⟩,rfl,?_⟩
   refine ⟨fun _ _=>?_,fun h=>by cases h⟩
   refine ⟨_,_,_,_,imFn (isize_fn d.im) hLm rfl rfl rfl rfl,⟨rfl,trivial⟩,rfl,?_⟩
   refine ⟨_,_,_,_,imFn (ibits_fn d.im) hLm rfl rfl rfl rfl,⟨rfl,trivial⟩,rfl,?_⟩
   refine ⟨m1,m2,?_⟩
   refine ⟨_,_,_,_,hcr,⟨rfl,rfl,rfl,rfl,trivial⟩,rfl,?_⟩
   exact ⟨_,_,_,Le.refl _ _,rfl,rfl,⟨rfl,rfl,rfl,rfl,trivial⟩,rfl⟩
end Go.Proofs.YteoamepgonpdlaaGreat
/-!
  Pulls: alive of law 16.
-/
namespace Go.Proofs.YteoamepgonpdlaaGreat
set_option linter.unusedVariables false
set_option linter.unusedSimpArgs false
set_option maxRecDepth 10000
open Go.RowKit Go.Proofs
theorem pstep_some {bits room : Nat} {L : List Dsk} {top base : List UInt8} {d : Dsk} (hd : dk L top = some d) {k : Nat} (hn : pnx L top base = some k) : pstep bits L top base false = ⟨false,(wrC bits L top ((k * 2 ^ bits : Nat) : Int) (clC bits L top (k : Int))).e,(wrC bits L top ((k * 2 ^ bits : Nat) : Int) (clC bits L top (k : Int))).L,false⟩:=by
 unfold pstep
 rw [hd,hn]
 rfl
theorem pstep_none {bits room : Nat} {L : List Dsk} {top base : List UInt8} {d : Dsk} (hd : dk L top = some d) (hn : pnx L top base = none) : pstep bits L top base false = ⟨decide ((rbC L top base).e = 0),(rbC L top base).e,(rbC L top base).L,decide ((rbC L top base).e = 0)⟩:=by
 unfold pstep
 rw [hd,hn]
 rfl
theorem pstep_end {bits room : Nat} {L : List Dsk} {top base : List UInt8} (h : CS bits room L) {d : Dsk} (hd : dk L top = some d) (hi : btI L top base = true) (hn : pnx L top base = none) : pstep bits L top base false = ⟨true,0,lset L top base,true⟩:=by
 rw [pstep_none (room:=room) hd hn,rb_ok h hd hi]
 rfl
def akX : List UInt8:=120 :: List.replicate 15 0
def ak1 (p : Nat × Nat) : List Dsk:=(adC 0 20 [] [97] 4 [] p).L
def ak2 (p q : Nat × Nat) : List Dsk:=(adC 0 20 (ak1 p) [98] 4 [97] q).L
def ak3 (p q r : Nat × Nat) : List Dsk:=(adC 0 20 (ak2 p q) [99] 4 [98] r).L
def ak4 (p q r : Nat × Nat) : List Dsk:=(wrC 0 (ak3 p q r) [98] 1 akX).L
def ak5 (p q r : Nat × Nat) : List Dsk:=(wrC 0 (ak4 p q r) [99] ((1 * 2 ^ 0 : Nat) : Int) (clC 0 (ak4 p q r) [99] ((1 : Nat) : Int))).L
def ak6 (p q r : Nat × Nat) : List Dsk:=lset (ak5 p q r) [99] [97]
theorem ak_pb (p q r : Nat × Nat) : pbE (ak4 p q r) [99] [97] = 0:=by kernel_rfl
theorem ak_k4 (p q r : Nat × Nat) : (dk (ak4 p q r) [99]).isSome = true:=by kernel_rfl
theorem ak_k5 (p q r : Nat × Nat) : (dk (ak5 p q r) [99]).isSome = true:=by kernel_rfl
theorem ak_nx (p q r : Nat × Nat) : pnx (ak4 p q r) [99] [97] = some 1:=by kernel_rfl
theorem ak_e5 (p q r : Nat × Nat) : (wrC 0 (ak4 p q r) [99] ((1 * 2 ^ 0 : Nat) : Int) (clC 0 (ak4 p q r) [99] ((1 : Nat) : Int))).e = 0:=by kernel_rfl
theorem ak_n5 (p q r : Nat × Nat) : pnx (ak5 p q r) [99] [97] = none:=by kernel_rfl
theorem ak_b5 (p q r : Nat × Nat) : btI (ak5 p q r) [99] [97] = true:=by kernel_rfl
theorem ak_k6 (p q r : Nat × Nat) : (dk (ak6 p q r) [99]).isSome = true:=by kernel_rfl
theorem ak_rd (p q r : Nat × Nat) : rdC 0 (ak6 p q r) [99] 1 1 = (akX,0):=by kernel_rfl
theorem ak_bk (p q r : Nat × Nat) : bkC (ak6 p q r) [99] = ([97],0):=by kernel_rfl
@[reducible] def akK : KL:=[(1,vP 1001),(3,vL .u8 akX)]
set_option maxHeartbeats 1000000 in
theorem alive16_fn : Fn Tryz.prog 18 [] [] [] (vB true) []:=by
 have c0 : CS 0 20 []:=CS.nil (by decide) (by decide)
 refine Fn.of tblOK [6,7,8,9,13,19] _ _ _ _ _ Tryz.func18 rfl rfl (by kernel_rfl) (by kernel_rfl) rfl (drawOK tblOK) rfl ?_
 refine ⟨_,_,_,_,chnew_ok 0 20 (by decide) (by decide),trivial,rfl,?_⟩
 refine ⟨fun h=>absurd h (by decide),fun _=>?_⟩
 refine ⟨⟨rfl,by decide,by decide⟩,rfl,?_⟩
 refine ⟨⟨by decide,by decide⟩,⟨⟨by decide,by decide⟩,by decide⟩,?_⟩
 show TrQ _ _ _ _ _ _ _
 refine TrQ.le (Le.frz 28 rfl) ?_
 refine TrQ.le (Le.sub (K':=akK) (B':=chB 0 20 []) ⟨rfl,rfl,trivial⟩ ⟨rfl,rfl,rfl,rfl,trivial⟩) ?_
 refine TrQ.regionX tblOK (by kernel_rfl) ?_
 refine ⟨_,_,_,fun g=>_,fun g=>_,chadd_fn c0 [97] 4 [] (by decide),⟨rfl,rfl,rfl,rfl,trivial⟩,rfl,fun _=>rfl,fun p=>?_⟩
 obtain ⟨p,c1⟩:=p
 have c1 : CS 0 20 (ak1 p):=c1
 show TrQ _ _ _ _ _ _ _
 refine TrQ.le (Le.sub (K':=akK) (B':=chB 0 20 (ak1 p)) ⟨rfl,rfl,trivial⟩ ⟨rfl,rfl,rfl,rfl,trivial⟩) ?_
 refine TrQ.regionX tblOK (by kernel_rfl) ?_
 refine ⟨_,_,_,fun g=>_,fun g=>_,chadd_fn c1 [98] 4 [97] (by decide),⟨rfl,rfl,rfl,rfl,trivial⟩,rfl,fun _=>rfl,fun q=>?_⟩
 obtain ⟨q,c2⟩:=q
 have c2 : CS 0 20 (ak2 p q):=c2
 show TrQ _ _ _ _ _ _ _
 refine TrQ.le (Le.sub (K':=akK) (B':=chB 0 20 (ak2 p q)) ⟨rfl,rfl,trivial⟩ ⟨rfl,rfl,rfl,rfl,trivial⟩) ?_
 refine TrQ.regionX tblOK (by kernel_rfl) ?_
 refine ⟨_,_,_,fun g=>_,fun g=>_,chadd_fn c2 [99] 4 [98] (by decide),⟨rfl,rfl,rfl,rfl,trivial⟩,rfl,fun _=>rfl,fun r=>?_⟩
 obtain ⟨r,c3⟩:=r
 have c3 : CS 0 20 (ak3 p q r):=c3
 have c4 : CS 0 20 (ak4 p q r):=wrC_cs c3 _ _ _
 have c5 : CS 0 20 (ak5 p q r):=wrC_cs c4 _ _ _
 obtain ⟨d4,hd4⟩:=Option.isSome_iff_exists.1 (ak_k4 p q r)
 obtain ⟨d5,hd5⟩:=Option.isSome_iff_exists.1 (ak_k5 p q r)
 obtain ⟨d6,hd6⟩:=Option.isSome_iff_exists.1 (ak_k6 p q r)
 have c6 : CS 0 20 (ak6 p q r):=by
   have:=rbC_cs c5 [99] [97]
   rwa [rb_ok c5 hd5 (ak_b5 p q r)] at this
 have hw:=chwrite_fn c3 [98] 1 akX (by decide)
 have e4 : (wrC 0 (ak3 p q r) [98] 1 akX).L = ak4 p q r:=rfl
 rw [e4] at hw
 generalize (wrC 0 (ak3 p q r) [98] 1 akX).e = w4 at hw
 have hb:=pbegin_ok c4 [99] [97] (ak_pb p q r)
 have hn:=pnext_fn c4 [97] false hd4
 rw [show pnC (ak4 p q r) [99] [97] false = (1,true) by unfold pnC; rw [ak_nx]; rfl] at hn
 have hs1:=pstep_fn c4 [97] false hd4
 have e5 : pstep 0 (ak4 p q r) [99] [97] false = ⟨false,0,ak5 p q r,false⟩:=by
   rw [pstep_some (room:=20) hd4 (ak_nx p q r),ak_e5]
   rfl
 rw [e5] at hs1
 have hs2:=pstep_fn c5 [97] false hd5
 have e6 : pstep 0 (ak5 p q r) [99] [97] false = ⟨true,0,ak6 p q r,true⟩:=pstep_end c5 hd5 (ak_b5 p q r) (ak_n5 p q r)
 rw [e6] at hs2
 have hs3:=pstep_fn c6 [97] true hd6
 rw [show pstep 0 (ak6 p q r) [99] [97] true = ⟨false,160,ak6 p q r,true⟩ from rfl] at hs3
 have hr:=chread_fn c6 [99] 1 1
 rw [ak_rd] at hr
 have hk:=chback_fn c6 [99]
 rw [ak_bk] at hk
 have ho:=pover_fn ((0 : Nat) : Int) ((20 : Nat) : Int) (ak6 p q r) [99] [97] true
 show TrQ _ _ _ _ _ _ _
 refine TrQ.le (Le.sub (K':=akK) (B':=chB 0 20 (ak3 p q r)) ⟨rfl,rfl,trivial⟩ ⟨rfl,rfl,rfl,rfl,trivial⟩) ?_
 clear e4 e5 e6
 generalize ak3 p q r = L3 at *
 generalize ak4 p q r = L4 at *
 generalize ak5 p q r = L5 at *
 generalize ak6 p q r = L6 at *
 refine TrQ.go tblOK (drawOK tblOK) [13,19] (by kernel_rfl) (Le.refl _ _) ?_
 refine ⟨_,_,_,_,hw,⟨rfl,rfl,rfl,rfl,trivial⟩,rfl,?_⟩
 refine ⟨_,_,_,_,hb,⟨rfl,rfl,rfl,rfl,trivial⟩,rfl,?_⟩
 refine ⟨fun h=>absurd h (by decide),fun _=>?_⟩
 show TrQ _ _ _ _ _ _ _
 refine TrQ.go tblOK (drawOK tblOK) [19] (by kernel_rfl) (Le.sub (K':=[(1,vP 1001),(3,vL .u8 akX),(4,vP 2001)]) (B':=pjB1 0 20 L4 [99] [97] false) ⟨rfl,rfl,rfl,trivial⟩ ⟨rfl,rfl,rfl,rfl,rfl,trivial⟩) ?_
 refine ⟨_,_,_,_,hn,⟨rfl,rfl,rfl,rfl,rfl,trivial⟩,rfl,?_⟩
 refine ⟨_,_,_,_,hs1,⟨rfl,rfl,rfl,rfl,rfl,trivial⟩,rfl,?_⟩
 refine ⟨_,_,_,_,hs2,⟨rfl,rfl,rfl,rfl,rfl,trivial⟩,rfl,?_⟩
 refine ⟨_,_,_,_,hs3,⟨rfl,rfl,rfl,rfl,rfl,trivial⟩,rfl,?_⟩
 refine ⟨_,_,_,_,hr,⟨rfl,rfl,rfl,rfl,trivial⟩,rfl,?_⟩
 refine ⟨_,_,_,_,hk,⟨rfl,rfl,rfl,rfl,trivial⟩,rfl,?_⟩
 show TrQ _ _ _ _ _ _ _
 refine TrQ.go tblOK (drawOK tblOK) [] (by kernel_rfl) (Le.sub (K':=[(3,vL .u8 akX),(4,vP 2001),(6,vI 1),(7,vB true),(8,vB false),(9,vI 0),(10,vB true),(11,vI 0),(13,vI 160),(14,vL .u8 akX),(16,vS [97])]) (B':=pjB1 0 20 L6 [99] [97] true) ⟨rfl,rfl,rfl,rfl,rfl,rfl,rfl,rfl,rfl,rfl,rfl,trivial⟩ ⟨rfl,rfl,rfl,rfl,rfl,trivial⟩) ?_
 refine ⟨fun _=>?_,fun h=>absurd h (by decide)⟩
 refine ⟨fun _=>?_,fun h=>absurd h (by decide)⟩
 refine ⟨fun _=>?_,fun h=>absurd h (by decide)⟩
 refine ⟨fun _=>?_,fun h=>absurd h (by decide)⟩
 refine ⟨fun _=>?_,fun h=>absurd h (by decide)⟩
 refine ⟨fun _=>?_,fun h=>absurd h (by decide)⟩
 refine ⟨fun _=>?_,fun h=>absurd h (by decide)⟩
 refine ⟨fun _=>?_,fun h=>absurd h (by decide)⟩
 refine ⟨fun _=>?_,fun h=>absurd h (by decide)⟩
 refine ⟨_,_,_,_,ho,⟨rfl,rfl,rfl,rfl,rfl,trivial⟩,rfl,?_⟩
 exact ⟨_,_,_,Le.refl _ _,rfl,rfl,trivial,rfl⟩
end Go.Proofs.YteoamepgonpdlaaGreat
/-!
  PullAll: any job does, tells and leaves what the document says.
-/
namespace Go.Proofs.YteoamepgonpdlaaGreat
set_option linter.unusedVariables false
set_option linter.unusedSimpArgs false
set_option maxRecDepth 10000
open Go.RowKit Go.Proofs
@[reducible] def uSt : U:=.pr .str .str
@[reducible] def stL (top base : List UInt8) : List S1:=[.d (.str top),.d (.str base)]
@[reducible] def stV (top base : List UInt8) : SV:=.c (.agg (stL top base))
theorem RC.nil (bits room : Nat) : RC (2 ^ bits) bits room [] [] where
 n2:=rfl
 nm:=(List.length_eq_zero_iff.1 (by rw [nmsS_len]; rfl)).symm
 bk:=fun x=>rfl
 ri:=fun x d e h _=>by cases h
theorem pstep_kp {bits room : Nat} {L : List Dsk} {top base : List UInt8} {over : Bool} (h : CS bits room L) {d : Dsk} (hd : dk L top = some d) : CS bits room (pstep bits L top base over).L ∧ ∃ d',dk (pstep bits L top base over).L top = some d':=by
 cases over with
 | true=>exact ⟨h,d,hd⟩
 | false =>
   cases hn : pnx L top base with
   | some k =>
     rw [pstep_some (room:=room) hd hn]
     refine ⟨wrC_cs h _ _ _,Option.isSome_iff_exists.1 ?_⟩
     show (dk (wrC bits L top _ _).L top).isSome = true
     rw [((wrC_lm h top _ _).sz top).2,hd]
     rfl
   | none =>
     rw [pstep_none (room:=room) hd hn]
     refine ⟨rbC_cs h _ _,Option.isSome_iff_exists.1 ?_⟩
     show (dk (rbC L top base).L top).isSome = true
     unfold rbC
     split
     · rw [hd]; rfl
     · split
       · rw [hd]; rfl
       · split
         · show (dk (lset L top base) top).isSome = true
           rw [dk_lset,hd]
           rfl
         · rw [hd]; rfl
theorem RC.all {n bits room : Nat} {L : List Dsk} {l : List Rdk} (h : RC n bits room L l) (hC : CS bits room L) {x : List UInt8} {d : Dsk} (hd : dk L x = some d) : allC bits L x = alTo n l x d.im.t.length:=by
 unfold allC
 rw [hd]
 show crdK bits L x (dpt L x) 0 (d.im.t.length * 2 ^ bits) = _
 rw [Nat.mul_comm,← h.n2]
 exact h.al hC ⟨d,hd⟩ d.im.t.length
@[reducible] def qtK0 (l : List Cop) (m : List Jop) (k : Nat) : KL:=[(2,vL uJ m),(4,vP 4),(7,vP 1001),(9,vP 9),(70,vL uC l),(71,vI (l.length : Nat)),(72,vI (k : Nat))]
@[reducible] def qtB0 (L : List Dsk) (top base : List UInt8) (R : List Rdk) : BL:=chB 1 40 L ++ [(4,.cells (stL top base)),(9,.cells (rcL 1 40 R))]
@[reducible] def qtK (m : List Jop) (j : Nat) : KL:=[(4,vP 4),(7,vP 1001),(9,vP 9),(16,vP 2001),(18,vP 18),(125,vL uJ m),(126,vI (m.length : Nat)),(127,vI (j : Nat))]
@[reducible] def qtK1 (m : List Jop) (j : Nat) (k : Int) : KL:=[(4,vP 4),(7,vP 1001),(9,vP 9),(16,vP 2001),(18,vP 18),(125,vL uJ m),(126,vI (m.length : Nat)),(127,vI (j : Nat)),(21,vP 21),(132,vI k)]
@[reducible] def qtK2 (m : List Jop) (j : Nat) (b : Bool) (e : Int) : KL:=[(4,vP 4),(7,vP 1001),(9,vP 9),(16,vP 2001),(18,vP 18),(125,vL uJ m),(126,vI (m.length : Nat)),(127,vI (j : Nat)),(24,vB b),(25,vI e)]
@[reducible] def qtK3 (m : List Jop) (j : Nat) (e : Int) : KL:=[(4,vP 4),(7,vP 1001),(9,vP 9),(16,vP 2001),(18,vP 18),(125,vL uJ m),(126,vI (m.length : Nat)),(127,vI (j : Nat)),(21,vP 21),(30,vI e)]
@[reducible] def qtK4 (m : List Jop) (j : Nat) (k : Int) (is : Bool) (x : List Xt) : KL:=[(4,vP 4),(7,vP 1001),(9,vP 9),(16,vP 2001),(18,vP 18),(125,vL uJ m),(126,vI (m.length : Nat)),(127,vI (j : Nat)),(31,vI k),(32,vB is),(33,vI k),(34,vB is),(35,vL uEx x)]
@[reducible] def qtB (L : List Dsk) (top base : List UInt8) (over : Bool) (R : List Rdk) (qo : Bool) : BL:=pjB1 1 40 L top base over ++ [(4,.cells (stL top base)),(9,.cells (rcL 1 40 R)),(18,.cells (rjL top base qo))]
@[reducible] def qtB1 (L : List Dsk) (top base : List UInt8) (over : Bool) (R : List Rdk) (qo : Bool) (o : Jop) : BL:=pjB1 1 40 L top base over ++ [(4,.cells (stL top base)),(9,.cells (rcL 1 40 R)),(18,.cells (rjL top base qo)),(21,.cells (jopL o))]
theorem pull_tail {L : List Dsk} {R : List Rdk} {top : List UInt8} (hC : CS 1 40 L) (hR : RC (2 ^ 1) 1 40 L R) (hk : ∃ d,dk L top = some d) (base : List UInt8) (ov : Bool) : ∃ (pn : Int × Bool) (x : List Xt) (y : List UInt8),
   Fn Tryz.prog 25 [vP 2001] (pjB1 1 40 L top base ov) [] (.tup [.one (.d (.int .i64 pn.1)),.one (.d (.bool pn.2))]) (pjB1 1 40 L top base ov) ∧
   Fn Tryz.prog 26 [rcV 1 40 R,rjV top base ov] [] [] (.tup [.one (.d (.int .i64 pn.1)),.one (.d (.bool pn.2))]) [] ∧
   Fn Tryz.prog 14 [vP 1001,vS top] (chB 1 40 L) [] (.tup [.one (.d (.lst uEx x)),vErr 0]) (chB 1 40 L) ∧
   Fn Tryz.prog 31 [rcV 1 40 R,vS top] [] [] (vL uEx x) [] ∧
   Fn Tryz.prog 28 [vP 1001,vS top] (chB 1 40 L) [] (vS y) (chB 1 40 L) ∧
   Fn Tryz.prog 29 [rcV 1 40 R,vS top] [] [] (vS y) [] ∧
   Fn Tryz.prog 27 [vP 2001] (pjB1 1 40 L top base ov) [] (vB ov) (pjB1 1 40 L top base ov) ∧
   Fn Tryz.prog 30 [vL uEx x,vL uEx x] [] [] (vB true) []:=by
 obtain ⟨d3,hd3⟩:=hk
 obtain ⟨e3,g1,g2,g3⟩:=hR.get hd3
 have hok3:=hR.cok hC
 have hl3:=hok3.len
 have hm3:=(hok3.ok e3 (gtR_mem g1)).cl
 have hqn:=qnext_fn 1 40 _ top base ov (by omega) (hok3.en top) g1 hm3
 rw [hR.qc hC hd3 base ov] at hqn
 have hrw:=chrow_fn hC top
 rw [show rwC 1 L top = (exOf (awyL 1 L top d3.im.t.length),0) by unfold rwC; rw [hd3]] at hrw
 have hal:=all16_fn hC top
 rw [hR.all hC hd3] at hal
 have hcl:=call_fn hok3 1 40 top g1
 rw [g3.len] at hcl
 have hcr:=crow_fn hok3 1 40 top g1
 rw [hR.kd hC ⟨d3,hd3⟩,g3.len] at hcr
 have hwl:=awyL_len 1 L top d3.im.t.length
 have htl:=g3.im.tl
 have hin:=exOf_in (ks:=awyL 1 L top d3.im.t.length) (by rw [hwl]; omega) fun k hk=>by
   unfold awyL at hk
   obtain ⟨c,_,rfl⟩:=List.mem_map.1 hk
   have:=awy_le hC hd3 (c:=c)
   have:=(hC.dep top).2
   unfold qinI
   omega
 have hel:=(exOf_ok (awyL 1 L top d3.im.t.length)).len
 have hsx:=sameX_fn (exOf (awyL 1 L top d3.im.t.length)) (by omega) hin
 exact ⟨_,_,_,pnext_fn hC base ov hd3,hqn,hrw,hcr,hal,hcl,pover_fn 1 40 L top base ov,hsx⟩
set_option maxHeartbeats 1000000 in
theorem pullAll_fn (l : List Cop) (top base : List UInt8) (m : List Jop) (hl : l.length ≤ 1073741824) (ht : (l.map cTot).sum ≤ 1073741824) (hl2 : m.length ≤ 1073741824) (ht2 : (m.map jTot).sum ≤ 1073741824) : Fn Tryz.prog 4 [vL uC l,stV top base,vL uJ m] [] [] (vB true) []:=by
 refine Fn.of tblOK [10,14,22,25,32,37,40] _ _ _ _ _ Tryz.func4 rfl rfl (by kernel_rfl) (by kernel_rfl) rfl (drawOK tblOK) rfl ?_
 refine ⟨rfl,?_⟩
 refine ⟨_,_,_,_,chnew_ok 1 40 (by decide) (by decide),trivial,rfl,?_⟩
 refine ⟨_,_,_,_,cnew_fn 1 40,trivial,rfl,?_⟩
 rw [show newMay 1 0 40 = true from rfl]
 refine ⟨rfl,?_⟩
 refine ⟨fun h=>absurd h (by decide),fun _=>?_⟩
 refine ⟨fun h=>absurd h (by decide),fun _=>?_⟩
 refine ⟨_,_,_,_,few16_fn l m hl ht hl2 ht2,trivial,rfl,?_⟩
 refine ⟨fun _=>?_,fun hf=>?_⟩
 · refine ⟨fun _=>?_,fun h=>absurd h (by decide)⟩
   refine ⟨_,_,_,_,alive16_fn,trivial,rfl,?_⟩
   exact ⟨_,_,_,Le.refl _ _,rfl,rfl,trivial,rfl⟩
 have hfew : fewJ l m = true:=by
   have hf : (!fewJ l m) = false:=hf
   simpa using hf
 obtain ⟨hll,hob,hom⟩:=fewJ_get hfew
 show TrQ _ _ _ _ _ _ _
 refine TrQ.loop tblOK (drawOK tblOK) [10,14,22,25,32,37,40] (by kernel_rfl) (X:=Nat × List Dsk × List Rdk) (fun x=>qtK0 l m x.1) (fun x=>qtB0 x.2.1 top base x.2.2) (fun x=>x.1 ≤ l.length ∧ CS 1 40 x.2.1 ∧ RC (2 ^ 1) 1 40 x.2.1 x.2.2 ∧ Dl x.2.2 (256 * x.1)) (fun x=>l.length - x.1) (0,[],[]) ⟨Nat.zero_le _,CS.nil (by decide) (by decide),RC.nil 1 40,fun e he=>by cases he⟩ ?_ ?_
 · exact Le.sub ⟨rfl,rfl,rfl,rfl,rfl,rfl,rfl,trivial⟩ ⟨rfl,rfl,rfl,rfl,rfl,rfl,trivial⟩
 rintro ⟨k,L,R⟩ ⟨hk,hC,hR,hD⟩
 have hk : k ≤ l.length:=hk
 have hC : CS 1 40 L:=hC
 have hR : RC (2 ^ 1) 1 40 L R:=hR
 have hD : Dl R (256 * k):=hD
 refine ⟨fun hc=>?_,fun hc=>?_⟩
 · have hc : decide ((k : Int) < ((l.length : Nat) : Int)) = true:=hc
   have hk1 : k < l.length:=by have:=of_decide_eq_true hc; omega
   have hO:=(hob _ (List.getElem_mem hk1)).1
   have hget:=lgAt (n:=k) hk1
   generalize l[k] = o at *
   have htt : cTot o = (qB (cQ o)).length + (cNm o).length + (cOt o).length:=rfl
   have hdo:=cdo_fn (hR.cok hC) (1 : Int) (40 : Int) o (by omega) (by omega) fun e he=>by have:=hD e he; omega
   have hds:=does16_fn hC o (by omega)
   have hgo:=fun p hC'=>hR.go hC o p hC' hD (by omega)
   refine ⟨by omega,o,hget,?_⟩
   refine ⟨rfl,?_⟩
   refine ⟨_,_,_,_,hdo,trivial,rfl,?_⟩
   refine ⟨rfl,?_⟩
   show TrQ _ _ _ _ _ _ _
   refine TrQ.regionX tblOK (by kernel_rfl) ?_
   refine ⟨_,_,_,fun g=>_,fun g=>_,hds,⟨rfl,rfl,rfl,rfl,trivial⟩,rfl,fun _=>rfl,fun g=>?_⟩
   obtain ⟨-,g2,g3⟩:=hgo g.1 g.2
   exact ⟨by omega,(k + 1,(doD 1 40 L o g.1).L,(doR14 (2 ^ 1) 1 40 R o).l),⟨hk1,g.2,g2,fun e he=>by have:=g3 e he; show _ ≤ 256 * (k + 1); omega⟩,by show l.length - (k + 1) < l.length - k; omega,Le.sub ⟨rfl,rfl,rfl,rfl,rfl,rfl,rfl,trivial⟩ ⟨rfl,rfl,rfl,rfl,rfl,rfl,trivial⟩⟩
 have hcok:=hR.cok hC
 have hqb:=qbegin_fn 1 40 R top base (by have:=hcok.len; omega) (hcok.en top)
 rw [hR.qb hC] at hqb
 by_cases he : pbE L top base = 0
 case neg =>
   have hbn:=pbegin_no hC top base he
   generalize pbE L top base = pe at *
   rw [if_neg he,if_neg he] at hqb
   refine ⟨_,_,_,_,hbn,⟨rfl,rfl,rfl,rfl,trivial⟩,rfl,?_⟩
   refine ⟨_,_,_,_,hqb,trivial,rfl,?_⟩
   refine ⟨rfl,?_⟩
   show TrQ _ _ _ _ _ _ _
   refine TrQ.go tblOK (drawOK tblOK) [] (by kernel_rfl) (Le.sub (K':=[(16,.c vNilP),(17,vI pe),(19,vI pe)]) (B':=[]) ⟨rfl,rfl,rfl,trivial⟩ trivial) ?_
   refine ⟨fun h=>absurd (show (!decide (pe = pe)) = true from h) (by rw [decide_eq_true rfl]; decide),fun _=>?_⟩
   refine ⟨fun _=>?_,fun h=>?_⟩
   · refine ⟨_,_,_,_,alive16_fn,trivial,rfl,?_⟩
     refine ⟨fun _=>?_,fun h=>absurd h (by decide)⟩
     refine ⟨fun _=>?_,fun h=>absurd (show decide (pe = pe) = false from h) (by rw [decide_eq_true rfl]; decide)⟩
     exact ⟨_,_,_,Le.refl _ _,rfl,rfl,trivial,rfl⟩
   · exfalso
     have h : (!decide (pe = 0)) = false:=h
     rw [decide_eq_false he] at h
     cases h
 obtain ⟨⟨d,hd⟩,hbi,hbl⟩:=pbE_ok he
 rw [he,if_pos rfl,if_pos rfl] at hqb
 refine ⟨_,_,_,_,pbegin_ok hC top base he,⟨rfl,rfl,rfl,rfl,trivial⟩,rfl,?_⟩
 refine ⟨_,_,_,_,hqb,trivial,rfl,?_⟩
 refine ⟨rfl,?_⟩
 show TrQ _ _ _ _ _ _ _
 refine TrQ.go tblOK (drawOK tblOK) [22,25,32,37,40] (by kernel_rfl) (Le.sub (K':=[(2,vL uJ m),(4,vP 4),(7,vP 1001),(9,vP 9),(16,vP 2001),(17,vI 0),(18,vP 18),(19,vI 0)]) (B':=qtB L top base false R false) ⟨rfl,rfl,rfl,rfl,rfl,rfl,rfl,rfl,trivial⟩ ⟨rfl,rfl,rfl,rfl,rfl,rfl,rfl,rfl,trivial⟩) ?_
 refine ⟨fun h=>absurd h (by decide),fun _=>?_⟩
 refine ⟨fun h=>absurd h (by decide),fun _=>?_⟩
 have hkl : k ≤ 60:=by omega
 show TrQ _ _ _ _ _ _ _
 refine TrQ.loop tblOK (drawOK tblOK) [22,25,32,37,40] (by kernel_rfl) (X:=Nat × List Dsk × List Rdk × Bool) (fun x=>qtK m x.1) (fun x=>qtB x.2.1 top base x.2.2.2 x.2.2.1 x.2.2.2) (fun x=>x.1 ≤ m.length ∧ CS 1 40 x.2.1 ∧ (∃ d,dk x.2.1 top = some d) ∧ RC (2 ^ 1) 1 40 x.2.1 x.2.2.1 ∧ Dl x.2.2.1 (256 * (60 + x.1))) (fun x=>m.length - x.1) (0,L,R,false) ⟨Nat.zero_le _,hC,⟨d,hd⟩,hR,fun e he=>by have:=hD e he; show _ ≤ 256 * (60 + 0); omega⟩ ?_ ?_
 · exact Le.sub ⟨rfl,rfl,rfl,rfl,rfl,rfl,rfl,rfl,trivial⟩ ⟨rfl,rfl,rfl,rfl,rfl,rfl,rfl,rfl,trivial⟩
 rintro ⟨j,L2,R2,over⟩ ⟨hj,hC2,hk2,hR2,hD2⟩
 have hj : j ≤ m.length:=hj
 have hC2 : CS 1 40 L2:=hC2
 have hk2 : ∃ d,dk L2 top = some d:=hk2
 have hR2 : RC (2 ^ 1) 1 40 L2 R2:=hR2
 have hD2 : Dl R2 (256 * (60 + j)):=hD2
 refine ⟨fun hc=>?_,fun hc=>?_⟩
 · have hc : decide ((j : Int) < ((m.length : Nat) : Int)) = true:=hc
   have hj1 : j < m.length:=by have:=of_decide_eq_true hc; omega
   have hO:=hom _ (List.getElem_mem hj1)
   have hget:=lgAt (n:=j) hj1
   generalize m[j] = o at *
   have hjt : jTot o = (qB (jQ o)).length:=rfl
   have htl : top.length ≤ 15:=by
     obtain ⟨d2,hd2⟩:=hk2
     rw [← (dk_get hd2).2]
     exact (nameOK_len (hC2.nok d2 (dk_get hd2).1)).2
   have hst:=pstep_fn hC2 base over hk2.choose_spec
   have hkp:=pstep_kp (base:=base) (over:=over) hC2 hk2.choose_spec
   obtain ⟨s1,s2,s3,s4,s5⟩:=hR2.ps hC2 hk2.choose_spec base over hD2 (by omega)
   have hqs:=qstep_fn (hR2.cok hC2) 1 40 top base over (hR2.get hk2.choose_spec).choose_spec.1 (fun e he=>by have:=hD2 e he; omega) (by omega)
   rw [show ((1 : Nat) : Int) = 1 from rfl,show ((40 : Nat) : Int) = 40 from rfl] at s1 s2 s3 s4 s5
   rw [s1,s2,s3] at hqs
   generalize pstep 1 L2 top base over = ps at *
   generalize (qstep (2 ^ 1) 1 40 R2 top base over).l = Rs at *
   obtain ⟨pd,pz,La,ova⟩:=ps
   have hbd : ∀ R : List Rdk,Dl R (256 * (60 + j) + 256) → Dl R (256 * (60 + (j + 1))):=fun R h e he=>by have:=h e he; omega
   have hbe : Dl R2 (256 * (60 + (j + 1))):=hbd _ fun e he=>Nat.le_trans (hD2 e he) (Nat.le_add_right _ _)
   have hdo:=cdo_fn (hR2.cok hC2) (1 : Int) (40 : Int) (3,0,top,[],jQ o) (by show top.length ≤ 4294967296; omega) (by show (qB (jQ o)).length ≤ 1000000; omega) fun e he=>by have:=hD2 e he; omega
   have hds:=does16_fn hC2 (3,0,top,[],jQ o) (by show (qB (jQ o)).length + top.length + 0 ≤ 1000000; omega)
   have hgo:=fun p hC'=>hR2.go hC2 (3,0,top,[],jQ o) p hC' hD2 (by omega)
   have hk3 : ∃ d,dk (doW 1 L2 top (jQ o)).L top = some d:=Option.isSome_iff_exists.1 (by rw [((doW_lm hC2 top (jQ o)).sz top).2]; exact Option.isSome_iff_exists.2 hk2)
   refine ⟨by omega,o,hget,?_⟩
   refine ⟨rfl,?_⟩
   show TrQ _ _ _ _ _ _ _
   refine TrQ.go tblOK (drawOK tblOK) [25,32,37,40] (by kernel_rfl) (Le.sub (K':=qtK1 m j (jK o)) (B':=qtB1 L2 top base over R2 over o) ⟨rfl,rfl,rfl,rfl,rfl,rfl,rfl,rfl,rfl,rfl,trivial⟩ ⟨rfl,rfl,rfl,rfl,rfl,rfl,rfl,rfl,rfl,trivial⟩) ?_
   refine ⟨fun c0=>?cA,fun c0=>?cB⟩
   case' cA =>
     refine ⟨_,_,_,_,hqs,trivial,rfl,?_⟩
     refine ⟨rfl,?_⟩
     refine ⟨rfl,?_⟩
     refine ⟨rfl,?_⟩
     show TrQ _ _ _ _ _ _ _
     refine TrQ.go tblOK (drawOK tblOK) [32,37,40] (by kernel_rfl) (Le.sub (K':=qtK2 m j pd pz) (B':=qtB L2 top base over Rs ova) ⟨rfl,rfl,rfl,rfl,rfl,rfl,rfl,rfl,rfl,rfl,trivial⟩ ⟨rfl,rfl,rfl,rfl,rfl,rfl,rfl,rfl,trivial⟩) ?_
     refine ⟨_,_,_,_,hst,⟨rfl,rfl,rfl,rfl,rfl,trivial⟩,rfl,?_⟩
     refine ⟨fun h=>absurd (show (!(pd == pd)) = true from h) (by simp),fun _=>?_⟩
     refine ⟨fun h=>absurd (show (!decide (pz = pz)) = true from h) (by simp),fun _=>?_⟩
     have hC3 : CS 1 40 La:=hkp.1
     have hk3 : ∃ d,dk La top = some d:=hkp.2
     have hR3 : RC (2 ^ 1) 1 40 La Rs:=s4
     have hD3:=hbd _ s5
     have hT:=pull_tail hC3 hR3 hk3 base ova
     show TrQ _ _ _ _ _ _ _
     refine TrQ.le (Le.sub (K':=qtK m j) (B':=qtB La top base ova Rs ova) ⟨rfl,rfl,rfl,rfl,rfl,rfl,rfl,rfl,trivial⟩ ⟨rfl,rfl,rfl,rfl,rfl,rfl,rfl,rfl,trivial⟩) ?_
   case' cB =>
     refine ⟨fun c1=>?cC,fun c1=>?cD⟩
   case' cC =>
     refine ⟨fun c2=>?_,fun c2=>?_⟩
     · exact ⟨by omega,(j + 1,L2,R2,over),⟨hj1,hC2,hk2,hR2,hbe⟩,by show m.length - (j + 1) < m.length - j; omega,Le.sub ⟨rfl,rfl,rfl,rfl,rfl,rfl,rfl,rfl,trivial⟩ ⟨rfl,rfl,rfl,rfl,rfl,rfl,rfl,rfl,trivial⟩⟩
     refine ⟨fun c3=>?_,fun c3=>?_⟩
     · exact ⟨by omega,(j + 1,L2,R2,over),⟨hj1,hC2,hk2,hR2,hbe⟩,by show m.length - (j + 1) < m.length - j; omega,Le.sub ⟨rfl,rfl,rfl,rfl,rfl,rfl,rfl,rfl,trivial⟩ ⟨rfl,rfl,rfl,rfl,rfl,rfl,rfl,rfl,trivial⟩⟩
     have c2 : ¬ qK (jQ o) < 1:=of_decide_eq_false c2
     refine ⟨_,_,_,_,hdo,trivial,rfl,?_⟩
     refine ⟨rfl,?_⟩
     show TrQ _ _ _ _ _ _ _
     refine TrQ.le (Le.sub (K':=qtK3 m j (doR14 (2 ^ 1) 1 40 R2 (3,0,top,[],jQ o)).e) (B':=qtB1 L2 top base over (doR14 (2 ^ 1) 1 40 R2 (3,0,top,[],jQ o)).l over o) ⟨rfl,rfl,rfl,rfl,rfl,rfl,rfl,rfl,rfl,rfl,trivial⟩ ⟨rfl,rfl,rfl,rfl,rfl,rfl,rfl,rfl,rfl,trivial⟩) ?_
     refine TrQ.regionX tblOK (by kernel_rfl) ?_
     refine ⟨_,_,_,fun g=>_,fun g=>_,hds,⟨rfl,rfl,rfl,rfl,trivial⟩,rfl,fun _=>rfl,fun g=>?_⟩
     obtain ⟨w1,hR3,w3⟩:=hgo g.1 g.2
     have w1:=w1 fun _ w=>by have w : qK (jQ o) = 0:=w; omega
     have hC3:=g.2
     have hD3:=hbd _ w3
     have w1 : (doR14 (2 ^ 1) 1 40 R2 (3,0,top,[],jQ o)).e = (doD 1 40 L2 (3,0,top,[],jQ o) g.1).e:=w1
     refine ⟨fun h=>absurd (show (!decide ((doD 1 40 L2 (3,0,top,[],jQ o) g.1).e = (doR14 (2 ^ 1) 1 40 R2 (3,0,top,[],jQ o)).e)) = true from h) (by rw [w1,decide_eq_true rfl]; decide),fun _=>?_⟩
     have hk3 : ∃ d,dk (doD 1 40 L2 (3,0,top,[],jQ o) g.1).L top = some d:=hk3
     show TrQ _ _ _ _ _ _ _
     refine TrQ.le (Le.sub (K':=qtK m j) (B':=qtB (doD 1 40 L2 (3,0,top,[],jQ o) g.1).L top base over (doR14 (2 ^ 1) 1 40 R2 (3,0,top,[],jQ o)).l over) ⟨rfl,rfl,rfl,rfl,rfl,rfl,rfl,rfl,trivial⟩ ⟨rfl,rfl,rfl,rfl,rfl,rfl,rfl,rfl,trivial⟩) ?_
     have hR3 : RC (2 ^ 1) 1 40 (doD 1 40 L2 (3,0,top,[],jQ o) g.1).L (doR14 (2 ^ 1) 1 40 R2 (3,0,top,[],jQ o)).l:=hR3
     have hD3 : Dl (doR14 (2 ^ 1) 1 40 R2 (3,0,top,[],jQ o)).l (256 * (60 + (j + 1))):=hD3
     clear w1 w3 hgo
     generalize (doD 1 40 L2 (3,0,top,[],jQ o) g.1).L = L3 at *
     generalize (doR14 (2 ^ 1) 1 40 R2 (3,0,top,[],jQ o)).l = R3 at *
     have hT:=pull_tail hC3 hR3 hk3 base over
   case' cD =>
     refine ⟨fun c2=>?cE,fun c2=>?cF⟩
   case' cE =>
     refine ⟨_,_,_,_,pcancel_fn 1 40 L2 top base over,⟨rfl,rfl,rfl,rfl,rfl,trivial⟩,rfl,?_⟩
     have hC3:=hC2
     have hk3:=hk2
     have hR3:=hR2
     have hD3:=hbe
     show TrQ _ _ _ _ _ _ _
     obtain ⟨ov3,hov⟩ : ∃ x : Bool,x = true:=⟨_,rfl⟩
     refine TrQ.le (Le.cellsTo 18 (l':=rjL top base true) rfl ⟨rfl,rfl,rfl,trivial⟩) ?_
     refine TrQ.le (Le.sub (K':=qtK m j) (B':=qtB L2 top base ov3 R2 ov3) ⟨rfl,rfl,rfl,rfl,rfl,rfl,rfl,rfl,trivial⟩ ⟨rfl,rfl,rfl,rfl,by rw [hov]; rfl,rfl,rfl,by rw [hov]; rfl,trivial⟩) ?_
     have hT:=pull_tail hC3 hR3 hk3 base ov3
   case' cF =>
     have hC3:=hC2
     have hk3:=hk2
     have hR3:=hR2
     have hD3:=hbe
     show TrQ _ _ _ _ _ _ _
     refine TrQ.le (Le.sub (K':=qtK m j) (B':=qtB L2 top base over R2 over) ⟨rfl,rfl,rfl,rfl,rfl,rfl,rfl,rfl,trivial⟩ ⟨rfl,rfl,rfl,rfl,rfl,rfl,rfl,rfl,trivial⟩) ?_
     have hT:=pull_tail hC3 hR3 hk3 base over
   all_goals
     obtain ⟨pn,x,y,hpn,hqn,hrw,hcr,hal,hcl,hpo,hsx⟩:=hT
     refine TrQ.go tblOK (drawOK tblOK) [40] (by kernel_rfl) (Le.refl _ _) ?_
     refine ⟨_,_,_,_,hpn,⟨rfl,rfl,rfl,rfl,rfl,trivial⟩,rfl,?_⟩
     refine ⟨_,_,_,_,hqn,trivial,rfl,?_⟩
     refine ⟨_,_,_,_,hrw,⟨rfl,rfl,rfl,rfl,trivial⟩,rfl,?_⟩
     show TrQ _ _ _ _ _ _ _
     refine TrQ.le (Le.sub (K':=qtK4 m j pn.1 pn.2 x) (B':=qtB _ top base _ _ _) ⟨rfl,rfl,rfl,rfl,rfl,rfl,rfl,rfl,rfl,rfl,rfl,rfl,rfl,trivial⟩ ⟨rfl,rfl,rfl,rfl,rfl,rfl,rfl,rfl,trivial⟩) ?_
     refine TrQ.ro 27 (by decide) ?_
     refine TrQ.ro 28 (by decide) ?_
     refine TrQ.go tblOK (drawOK tblOK) [] (by kernel_rfl) (Le.refl _ _) ?_
     refine ⟨fun h=>absurd (show (!decide (pn.1 = pn.1)) = true from h) (by simp),fun _=>?_⟩
     refine ⟨fun h=>absurd (show (!(pn.2 == pn.2)) = true from h) (by simp),fun _=>?_⟩
     refine ⟨_,_,fun N=>opOK_callR rfl rfl rfl hpo (by exact ⟨rfl,rfl,rfl,rfl,rfl,trivial⟩) rfl (fun _=>rfl) N,rfl,?_⟩
     refine ⟨fun h=>absurd (show (!(_ == _)) = true from h) (by simp),fun _=>?_⟩
     refine ⟨_,_,fun N=>opOK_callR rfl rfl rfl hal (by exact ⟨rfl,rfl,rfl,rfl,trivial⟩) rfl (fun _=>rfl) N,rfl,?_⟩
     refine ⟨_,_,_,_,hcl,trivial,rfl,?_⟩
     refine ⟨fun h=>absurd (show (!decide (y = y)) = true from h) (by simp),fun _=>?_⟩
     refine ⟨_,_,_,_,hcr,trivial,rfl,?_⟩
     refine ⟨_,_,_,_,hsx,trivial,rfl,?_⟩
     refine ⟨indep_of (by kernel_rfl),fun hx=>absurd hx (by decide),fun _=>?_⟩
     exact ⟨by omega,(j + 1,_,_,_),⟨hj1,hC3,hk3,hR3,hD3⟩,by show m.length - (j + 1) < m.length - j; omega,Le.sub ⟨rfl,rfl,rfl,rfl,rfl,rfl,rfl,rfl,trivial⟩ ⟨rfl,rfl,rfl,rfl,rfl,rfl,rfl,rfl,trivial⟩⟩
 · refine ⟨_,_,_,_,alive16_fn,trivial,rfl,?_⟩
   exact ⟨_,_,_,Le.refl _ _,rfl,rfl,trivial,rfl⟩
end Go.Proofs.YteoamepgonpdlaaGreat
