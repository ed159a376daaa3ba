/-
  Merges: Begin, Left, Over, Cancel, Wrote, bring, Step.
-/
import Derived.Test.YtbcngglcaeehbaaGreatKi
import Derived.Test.YtbcngglcaeehbaaGreatPq
import Derived.Test.YtbcngglcaeehbaaGreatIb
set_option linter.unusedVariables false
set_option linter.unusedSimpArgs false
set_option maxRecDepth 10000
namespace Go.Proofs.YtbcngglcaeehbaaGreat
open Go.RowKit Go.Proofs
/-! ### the job -/
@[reducible] def mjC (top base : List UInt8) (over : Bool) : List S1 := [.ptr 1001 0, .d (.str top), .d (.str base), .mp 2002, .d (.bool over)]
@[reducible] def mjB (bits room : Int) (L : List Dsk) (top base : List UInt8) (l : List Nat) (over : Bool) : BL := chB bits room L ++ [(2001, .cells (mjC top base over)), (2002, .map uI uI (esL l))]
def mbE (L : List Dsk) (top : List UInt8) : Int := if (bkC L top).2 ≠ 0 ∨ (bkC L top).1 = [] then 140 else if 1 < (usrS L (bkC L top).1).length then 143 else if szOf L (bkC L top).1 < szOf L top then 1 else 0
def mbL (L : List Dsk) (top : List UInt8) : List Nat := (List.range (szOf L top)).filter fun k => !hol L top k
def mwr (bits n : Nat) (l : List Nat) (a long : Int) : List Nat := (List.range n).foldl (fun l k => if a < ((k * 2 ^ bits + 2 ^ bits : Nat) : Int) ∧ ((k * 2 ^ bits : Nat) : Int) - long < a then lput l k else l) l
def kdOf (L : List Dsk) (n : List UInt8) (k : Nat) : Int := match dk L n with
  | none => 0
  | some d => (d.im.t.getD k s0).1
def brC (bits : Nat) (L : List Dsk) (top base : List UInt8) (k : Nat) : CR := if kdOf L top k = 1 then wrC bits L base ((k * 2 ^ bits : Nat) : Int) (clC bits L top (k : Int)) else if kdOf L top k = 2 then zrC bits L base ((k * 2 ^ bits : Nat) : Int) ((2 ^ bits : Nat) : Int) else ⟨0, L⟩
structure MR where
  done : Bool
  e : Int
  L : List Dsk
  l : List Nat
  over : Bool
def mstep (bits : Nat) (L : List Dsk) (top base : List UInt8) (l : List Nat) (over : Bool) : MR := if over = true then ⟨false, 150, L, l, true⟩ else if l = [] then ⟨true, 0, (dsC L top 0 ((szOf L top * 2 ^ bits : Nat) : Int)).L, [], true⟩ else
  ⟨false, (brC bits L top base (mnN l)).e, (brC bits L top base (mnN l)).L, if (brC bits L top base (mnN l)).e = 0 then l.erase (mnN l) else l, false⟩
section
variable {bits room : Nat} {L : List Dsk} {top base : List UInt8}
theorem mleft_fn (bits room : Int) (L : List Dsk) (top base : List UInt8) (l : List Nat) (over : Bool) : Fn Tryz.prog 55 [vP 2001] (mjB bits room L top base l over) [] (vI (l.length : Nat)) (mjB bits room L top base l over) := by
  have hlen := esL_len l
  refine Fn.of tblOK [] _ _ _ _ _ Tryz.func55 rfl rfl (by kernel_rfl) (by kernel_rfl) rfl (drawOK tblOK) rfl ?_
  exact ⟨_, _, _, Le.refl _ _, rfl, (show (((esL l).length : Nat) : Int) = ((l.length : Nat) : Int) by rw [hlen]), ⟨rfl, rfl, rfl, rfl, rfl, rfl, trivial⟩, rfl⟩
theorem mend_fn (bits room : Int) (L : List Dsk) (top base : List UInt8) (l : List Nat) (over : Bool) : Fn Tryz.prog 61 [vP 2001] (mjB bits room L top base l over) [] vU (mjB bits room L top base [] true) := by
  refine Fn.of tblOK [] _ _ _ _ _ Tryz.func61 rfl rfl (by kernel_rfl) (by kernel_rfl) rfl (drawOK tblOK) rfl ?_
  refine ⟨_, _, fun N => opOK_clear rfl Tryz.underlying83 rfl rfl N, rfl, ?_⟩
  exact ⟨_, _, _, Le.cellsTo 2001 (l' := mjC top base true) rfl ⟨rfl, rfl, rfl, rfl, rfl, trivial⟩, rfl, trivial, ⟨rfl, rfl, rfl, rfl, rfl, rfl, trivial⟩, rfl⟩
theorem mcancel_fn (bits room : Int) (L : List Dsk) (top base : List UInt8) (l : List Nat) (over : Bool) : Fn Tryz.prog 34 [vP 2001] (mjB bits room L top base l over) [] vU (mjB bits room L top base [] true) := by
  refine Fn.of tblOK [] _ _ _ _ _ Tryz.func34 rfl rfl (by kernel_rfl) (by kernel_rfl) rfl (drawOK tblOK) rfl ?_
  refine ⟨_, _, _, _, mend_fn bits room L top base l over, ⟨rfl, rfl, rfl, rfl, rfl, rfl, trivial⟩, rfl, ?_⟩
  exact ⟨_, _, _, Le.refl _ _, rfl, trivial, ⟨rfl, rfl, rfl, rfl, rfl, rfl, trivial⟩, rfl⟩
/-! ### Begin -/
theorem mbE_ok (he : mbE L top = 0) : (bkC L top).2 = 0 ∧ (bkC L top).1 ≠ [] ∧ (usrS L (bkC L top).1).length ≤ 1 ∧ szOf L top ≤ szOf L (bkC L top).1 := by
  unfold mbE at he
  split at he
  · exact absurd he (by decide)
  · rename_i h1
    split at he
    · exact absurd he (by decide)
    · rename_i h2
      split at he
      · exact absurd he (by decide)
      · rename_i h3
        refine ⟨Decidable.byContradiction fun e => h1 (.inl e), fun e => h1 (.inr e), by omega, by omega⟩
theorem bkC_ok (h : CS bits room L) (h1 : (bkC L top).2 = 0) : ∃ d, dk L top = some d ∧ (bkC L top).1 = d.back ∧ (d.back ≠ [] → ∃ e, dk L d.back = some e) := by
  unfold bkC at h1 ⊢
  cases hd : dk L top with
  | none => rw [hd] at h1; exact absurd h1 (by decide)
  | some d => exact ⟨d, rfl, rfl, h.kn d (dk_get hd).1⟩
theorem mbegin_no (h : CS bits room L) (top : List UInt8) (he : mbE L top ≠ 0) : Fn Tryz.prog 30 [vP 1001, vS top] (chB bits room L) [] (.tup [vNilP, vErr (mbE L top)]) (chB bits room L) := by
  have hbk := chback_fn h top
  have hus := chusers_fn h (bkC L top).1
  have hok := fun h1 => bkC_ok (top := top) h h1
  have hE1 : (bkC L top).2 ≠ 0 ∨ (bkC L top).1 = [] → mbE L top = 140 := fun e => if_pos e
  have hE2 : ¬ ((bkC L top).2 ≠ 0 ∨ (bkC L top).1 = []) → 1 < (usrS L (bkC L top).1).length → mbE L top = 143 := fun e1 e2 => (if_neg e1).trans (if_pos e2)
  have hE3 : ¬ ((bkC L top).2 ≠ 0 ∨ (bkC L top).1 = []) → ¬ 1 < (usrS L (bkC L top).1).length → szOf L (bkC L top).1 < szOf L top → mbE L top = 1 := fun e1 e2 e3 => (if_neg e1).trans ((if_neg e2).trans (if_pos e3))
  have hE4 : ¬ ((bkC L top).2 ≠ 0 ∨ (bkC L top).1 = []) → ¬ 1 < (usrS L (bkC L top).1).length → ¬ szOf L (bkC L top).1 < szOf L top → mbE L top = 0 := fun e1 e2 e3 => (if_neg e1).trans ((if_neg e2).trans (if_neg e3))
  generalize mbE L top = me at *
  generalize bkC L top = bk at *
  obtain ⟨bb, be⟩ := bk
  have hbk : Fn Tryz.prog 58 [vP 1001, vS top] (chB bits room L) [] (.tup [.one (.d (.str bb)), vErr be]) (chB bits room L) := hbk
  generalize usrS L bb = us at *
  refine Fn.of tblOK [4,6] _ _ _ _ _ Tryz.func30 rfl rfl (by kernel_rfl) (by kernel_rfl) rfl (drawOK tblOK) rfl ?_
  refine ⟨_, _, _, _, hbk, ⟨rfl, rfl, rfl, rfl, trivial⟩, rfl, ?_⟩
  refine ⟨fun h1 => ?_, fun h1 => ?_⟩
  · have h1 : (!decide (be = 0)) = true := h1
    have h1 : ¬ be = 0 := by simpa using h1
    exact ⟨_, _, _, Le.refl _ _, rfl, ⟨rfl, (hE1 (.inl h1)).symm, trivial⟩, ⟨rfl, rfl, rfl, rfl, trivial⟩, rfl⟩
  have h1 : (!decide (be = 0)) = false := h1
  have h1 : be = 0 := by simpa using h1
  refine ⟨fun h2 => ?_, fun h2 => ?_⟩
  · have h2 : bb = [] := of_decide_eq_true h2
    exact ⟨_, _, _, Le.refl _ _, rfl, ⟨rfl, (hE1 (.inr h2)).symm, trivial⟩, ⟨rfl, rfl, rfl, rfl, trivial⟩, rfl⟩
  have h2 : ¬ bb = [] := of_decide_eq_false h2
  have hn : ¬ (be ≠ 0 ∨ bb = []) := fun e => e.elim (fun e => e h1) h2
  show TrQ _ _ _ _ _ _ _
  refine TrQ.go tblOK (drawOK tblOK) [6] (by kernel_rfl) (Le.refl _ _) ?_
  refine ⟨_, _, _, _, hus, ⟨rfl, rfl, rfl, rfl, trivial⟩, rfl, ?_⟩
  refine ⟨fun h3 => ?_, fun h3 => ?_⟩
  · have h3 : decide ((1 : Int) < ((us.length : Nat) : Int)) = true := h3
    have h3 : 1 < us.length := by have := of_decide_eq_true h3; omega
    exact ⟨_, _, _, Le.refl _ _, rfl, ⟨rfl, (hE2 hn h3).symm, trivial⟩, ⟨rfl, rfl, rfl, rfl, trivial⟩, rfl⟩
  have h3 : decide ((1 : Int) < ((us.length : Nat) : Int)) = false := h3
  have h3 : ¬ 1 < us.length := by have := of_decide_eq_false h3; omega
  obtain ⟨d, hd, hb, hkn⟩ := hok h1
  have hb : bb = d.back := hb
  obtain ⟨e, hke⟩ := hkn (by rw [← hb]; exact h2)
  rw [← hb] at hke
  have hLd := h.toChN.M (dk_get hd).1
  have hLe := h.toChN.M (dk_get hke).1
  have hs1 : szOf L top = d.im.t.length := by unfold szOf; rw [hd]
  have hs2 : szOf L bb = e.im.t.length := by unfold szOf; rw [hke]
  rw [hs1, hs2] at hE3 hE4
  show TrQ _ _ _ _ _ _ _
  refine TrQ.go tblOK (drawOK tblOK) [] (by kernel_rfl) (Le.sub (K' := [(0, vP 1001), (1, vS top), (6, vS bb)]) (B' := chB bits room L) ⟨rfl, rfl, rfl, trivial⟩ ⟨rfl, rfl, rfl, rfl, trivial⟩) ?_
  refine ⟨_, _, _, _, image_fn _ _ L h.toChN bb e hke, ⟨rfl, rfl, rfl, rfl, trivial⟩, rfl, ?_⟩
  refine ⟨_, _, _, _, imFn (isize_fn e.im) hLe rfl rfl rfl rfl, ⟨rfl, trivial⟩, rfl, ?_⟩
  refine ⟨_, _, _, _, image_fn _ _ L h.toChN top d hd, ⟨rfl, rfl, rfl, rfl, trivial⟩, rfl, ?_⟩
  refine ⟨_, _, _, _, imFn (isize_fn d.im) hLd rfl rfl rfl rfl, ⟨rfl, trivial⟩, rfl, ?_⟩
  refine ⟨fun h4 => ?_, fun h4 => ?_⟩
  · have h4 : decide (((e.im.t.length : Nat) : Int) < ((d.im.t.length : Nat) : Int)) = true := h4
    have h4 : e.im.t.length < d.im.t.length := by have := of_decide_eq_true h4; omega
    exact ⟨_, _, _, Le.refl _ _, rfl, ⟨rfl, (hE3 hn h3 h4).symm, trivial⟩, ⟨rfl, rfl, rfl, rfl, trivial⟩, rfl⟩
  · exfalso
    have h4 : decide (((e.im.t.length : Nat) : Int) < ((d.im.t.length : Nat) : Int)) = false := h4
    have h4 : ¬ e.im.t.length < d.im.t.length := by have := of_decide_eq_false h4; omega
    exact he (hE4 hn h3 h4)
@[reducible] def mbK (top bb : List UInt8) (n k : Nat) : KL := [(0, vP 1001), (1, vS top), (6, vS bb), (8, vP 44), (48, vI (n : Nat)), (49, vI (k : Nat))]
@[reducible] def mbB (bits room : Int) (L : List Dsk) (top base : List UInt8) (l : List Nat) : BL := chB bits room L ++ [(44, .cells [.ptr 1001 0, .d (.str top), .d (.str base), .mp 42, .d (.bool false)]), (42, .map uI uI (esL l))]
theorem range_filter_succ (p : Nat → Bool) (k : Nat) : (List.range (k + 1)).filter p = (List.range k).filter p ++ if p k = true then [k] else [] := by
  rw [List.range_succ, List.filter_append]
  cases h : p k with
  | true => rw [if_pos rfl, List.filter_cons_of_pos h]; rfl
  | false => rw [if_neg (by decide), List.filter_cons_of_neg (by rw [h]; decide)]; rfl
theorem lput_range (p : Nat → Bool) (k : Nat) (h : p k = true) : lput ((List.range k).filter p) k = (List.range (k + 1)).filter p := by
  rw [range_filter_succ, if_pos h]
  unfold lput
  rw [if_neg (fun e => by have := List.mem_range.1 (List.mem_filter.1 e).1; omega)]
set_option maxHeartbeats 1000000 in
theorem mbegin_ok (h : CS bits room L) (top : List UInt8) (he : mbE L top = 0) : Fn Tryz.prog 30 [vP 1001, vS top] (chB bits room L) [2001, 2002] (.tup [.one (.ptr 2001 0), vErr 0]) (mjB bits room L top (bkC L top).1 (mbL L top) false) := by
  obtain ⟨e1, e2, e3, e4⟩ := mbE_ok he
  obtain ⟨d, hd, hb, hkn⟩ := bkC_ok h e1
  obtain ⟨e, hke⟩ := hkn (by rw [← hb]; exact e2)
  rw [← hb] at hke
  have hLd := h.toChN.M (dk_get hd).1
  have hLe := h.toChN.M (dk_get hke).1
  have htl := (h.ims d (dk_get hd).1).1.tl
  have hs1 : szOf L top = d.im.t.length := by unfold szOf; rw [hd]
  have hs2 : szOf L (bkC L top).1 = e.im.t.length := by unfold szOf; rw [hke]
  have hmL : mbL L top = (List.range d.im.t.length).filter fun k => !hol L top k := by unfold mbL; rw [hs1]
  have hhol : ∀ k, k < d.im.t.length → hol L top k = decide ((d.im.t.getD k s0).1 = 0) := fun k hk => by
    unfold hol
    rw [hd]
    show (decide (d.im.t.length ≤ k) || _) = _
    rw [decide_eq_false (by omega)]
    rfl
  rw [hs1, hs2] at e4
  rw [hmL]
  have hbk := chback_fn h top
  have hus := chusers_fn h (bkC L top).1
  have hsucc := lput_range (fun k => !hol L top k)
  have hskip := fun k (hk : hol L top k = true) => range_filter_succ (fun k => !hol L top k) k
  generalize bkC L top = bk at *
  obtain ⟨bb, be⟩ := bk
  have e1 : be = 0 := e1
  have e2 : ¬ bb = [] := e2
  have e3 : (usrS L bb).length ≤ 1 := e3
  subst e1
  have hbk : Fn Tryz.prog 58 [vP 1001, vS top] (chB bits room L) [] (.tup [.one (.d (.str bb)), vErr 0]) (chB bits room L) := hbk
  have hus : Fn Tryz.prog 59 [vP 1001, vS bb] (chB bits room L) [] (vL .str (usrS L bb)) (chB bits room L) := hus
  generalize usrS L bb = us at *
  refine Fn.of tblOK [4,6,8,9] _ _ _ _ _ Tryz.func30 rfl rfl (by kernel_rfl) (by kernel_rfl) rfl (drawOK tblOK) rfl ?_
  refine ⟨_, _, _, _, hbk, ⟨rfl, rfl, rfl, rfl, trivial⟩, rfl, ?_⟩
  refine ⟨fun h => absurd h (by decide), fun _ => ?_⟩
  refine ⟨fun h2 => absurd (of_decide_eq_true h2) e2, fun _ => ?_⟩
  show TrQ _ _ _ _ _ _ _
  refine TrQ.go tblOK (drawOK tblOK) [6,8,9] (by kernel_rfl) (Le.sub (K' := [(0, vP 1001), (1, vS top), (6, vS bb)]) (B' := chB bits room L) ⟨rfl, rfl, rfl, trivial⟩ ⟨rfl, rfl, rfl, rfl, trivial⟩) ?_
  refine ⟨_, _, _, _, hus, ⟨rfl, rfl, rfl, rfl, trivial⟩, rfl, ?_⟩
  refine ⟨fun h3 => ?_, fun _ => ?_⟩
  · exfalso
    have h3 : decide ((1 : Int) < ((us.length : Nat) : Int)) = true := h3
    have := of_decide_eq_true h3
    omega
  show TrQ _ _ _ _ _ _ _
  refine TrQ.go tblOK (drawOK tblOK) [8,9] (by kernel_rfl) (Le.sub (K' := [(0, vP 1001), (1, vS top), (6, vS bb)]) (B' := chB bits room L) ⟨rfl, rfl, rfl, trivial⟩ ⟨rfl, rfl, rfl, rfl, trivial⟩) ?_
  refine ⟨_, _, _, _, image_fn _ _ L h.toChN bb e hke, ⟨rfl, rfl, rfl, rfl, trivial⟩, rfl, ?_⟩
  refine ⟨_, _, _, _, imFn (isize_fn e.im) hLe rfl rfl rfl rfl, ⟨rfl, trivial⟩, rfl, ?_⟩
  refine ⟨_, _, _, _, image_fn _ _ L h.toChN top d hd, ⟨rfl, rfl, rfl, rfl, trivial⟩, rfl, ?_⟩
  refine ⟨_, _, _, _, imFn (isize_fn d.im) hLd rfl rfl rfl rfl, ⟨rfl, trivial⟩, rfl, ?_⟩
  refine ⟨fun h4 => ?_, fun _ => ?_⟩
  · exfalso
    have h4 : decide (((e.im.t.length : Nat) : Int) < ((d.im.t.length : Nat) : Int)) = true := h4
    have := of_decide_eq_true h4
    omega
  show TrQ _ _ _ _ _ _ _
  refine TrQ.go tblOK (drawOK tblOK) [9] (by kernel_rfl) (Le.sub (K' := [(0, vP 1001), (1, vS top), (6, vS bb)]) (B' := chB bits room L) ⟨rfl, rfl, rfl, trivial⟩ ⟨rfl, rfl, rfl, rfl, trivial⟩) ?_
  refine ⟨rfl, rfl, ?_⟩
  show TrQ _ _ _ _ _ _ _
  refine TrQ.go tblOK (drawOK tblOK) [] (by kernel_rfl) (Le.trans (Le.cellsTo 44 (l' := [.ptr 1001 0, .d (.str top), .d (.str bb), .mp 42, .d (.bool false)]) rfl ⟨rfl, rfl, rfl, rfl, rfl, trivial⟩) (Le.sub (K' := [(0, vP 1001), (1, vS top), (6, vS bb), (8, vP 44)]) (B' := mbB bits room L top bb []) ⟨rfl, rfl, rfl, rfl, trivial⟩ ⟨rfl, rfl, rfl, rfl, rfl, rfl, trivial⟩)) ?_
  refine ⟨_, _, _, _, image_fn _ _ L h.toChN top d hd, ⟨rfl, rfl, rfl, rfl, trivial⟩, rfl, ?_⟩
  refine ⟨_, _, _, _, imFn (isize_fn d.im) hLd rfl rfl rfl rfl, ⟨rfl, trivial⟩, rfl, ?_⟩
  show TrQ _ _ _ _ _ _ _
  refine TrQ.loop tblOK (drawOK tblOK) [12,13] (by kernel_rfl) (X := Nat) (fun k => mbK top bb d.im.t.length k) (fun k => mbB bits room L top bb ((List.range k).filter fun k => !hol L top k)) (fun k => k ≤ d.im.t.length) (fun k => d.im.t.length - k) 0 (Nat.zero_le _) ?_ ?_
  · exact Le.sub ⟨rfl, rfl, rfl, rfl, rfl, rfl, trivial⟩ ⟨rfl, rfl, rfl, rfl, rfl, rfl, trivial⟩
  intro k hk
  have hk : k ≤ d.im.t.length := hk
  refine ⟨fun hc => ?_, fun hc => ?_⟩
  · have hc : decide ((k : Int) < ((d.im.t.length : Nat) : Int)) = true := hc
    have hkl : k < d.im.t.length := by have := of_decide_eq_true hc; omega
    have hh := hhol k hkl
    show TrQ _ _ _ _ _ _ _
    refine TrQ.go tblOK (drawOK tblOK) [13] (by kernel_rfl) (Le.refl _ _) ?_
    refine ⟨_, _, _, _, image_fn _ _ L h.toChN top d hd, ⟨rfl, rfl, rfl, rfl, trivial⟩, rfl, ?_⟩
    refine ⟨_, _, _, _, imFn (ikindD_fn d.im htl k hkl) hLd rfl rfl rfl rfl, ⟨rfl, trivial⟩, rfl, ?_⟩
    refine ⟨fun h5 => ?_, fun h5 => ?_⟩
    · have h5 : (!decide ((d.im.t.getD k s0).1 = 0)) = true := h5
      have hput := hsucc k (by show (!hol L top k) = true; rw [hh]; exact h5)
      show TrQ _ _ _ _ _ _ _
      refine TrQ.go tblOK (drawOK tblOK) [] (by kernel_rfl) (Le.sub (K' := [(0, vP 1001), (1, vS top), (6, vS bb), (8, vP 44), (48, vI (d.im.t.length : Nat)), (49, vI (k : Nat)), (9, vI (k : Nat))]) (B' := mbB bits room L top bb ((List.range k).filter fun k => !hol L top k)) ⟨rfl, rfl, rfl, rfl, rfl, rfl, rfl, trivial⟩ ⟨rfl, rfl, rfl, rfl, rfl, rfl, trivial⟩) ?_
      refine ⟨trivial, ?_⟩
      exact ⟨by omega, k + 1, hkl, by omega, Le.sub ⟨rfl, rfl, rfl, rfl, rfl, rfl, trivial⟩ ⟨rfl, rfl, rfl, rfl, rfl, congrArg (fun z => some (Ch.map uI uI z)) ((mput_esL k _).trans (congrArg esL hput)), trivial⟩⟩
    · have h5 : (!decide ((d.im.t.getD k s0).1 = 0)) = false := h5
      have hht : hol L top k = true := by rw [hh]; simpa using h5
      have hs := hskip k hht
      rw [if_neg (by rw [hht]; decide), List.append_nil] at hs
      exact ⟨by omega, k + 1, hkl, by omega, Le.sub ⟨rfl, rfl, rfl, rfl, rfl, rfl, trivial⟩ ⟨rfl, rfl, rfl, rfl, rfl, congrArg (fun z => some (Ch.map uI uI (esL z))) hs.symm, trivial⟩⟩
  · have hc : decide ((k : Int) < ((d.im.t.length : Nat) : Int)) = false := hc
    have hkl : k = d.im.t.length := by have := of_decide_eq_false hc; omega
    subst hkl
    exact ⟨_, _, _, Le.trans (Le.ren 44 2001 rfl) (Le.ren 42 2002 rfl), rfl, ⟨rfl, rfl, trivial⟩, ⟨rfl, rfl, rfl, rfl, rfl, rfl, trivial⟩, rfl⟩
end
/-! Merges: Wrote, bring, Step. -/
section
variable {bits room : Nat} {L : List Dsk} {top base : List UInt8}
theorem mwr_succ (bits n : Nat) (l : List Nat) (a long : Int) : mwr bits (n + 1) l a long = if a < ((n * 2 ^ bits + 2 ^ bits : Nat) : Int) ∧ ((n * 2 ^ bits : Nat) : Int) - long < a then lput (mwr bits n l a long) n else mwr bits n l a long := by
  unfold mwr
  rw [List.range_succ, List.foldl_append]
  rfl
def mwC (bits : Nat) (L : List Dsk) (top : List UInt8) (l : List Nat) (over : Bool) (a long : Int) : List Nat := if over = true ∨ long < 1 then l else mwr bits (szOf L top) l a long
@[reducible] def mwK (am : Nat) (a long : Int) (n k : Nat) : KL := [(0, vP 2001), (1, vI a), (2, vI long), (6, vAd am), (31, vI (n : Nat)), (32, vI (k : Nat))]
set_option maxHeartbeats 1000000 in
theorem mwrote_fn (h : CS bits room L) (base : List UInt8) (l : List Nat) (over : Bool) (a long : Int) (hlr : long ≤ 9223372036854775807) {d : Dsk} (hd : dk L top = some d) : Fn Tryz.prog 63 [vP 2001, vI a, vI long] (mjB bits room L top base l over) [] vU (mjB bits room L top base (mwC bits L top l over a long) over) := by
  have htl := (h.ims d (dk_get hd).1).1.tl
  have hLm := h.toChN.M (dk_get hd).1
  have hbt : d.im.bits = bits := (h.ims d (dk_get hd).1).2.1
  have hp := pow_le8 h.b3
  have hb3 := h.b3
  have hsz : szOf L top = d.im.t.length := by unfold szOf; rw [hd]
  cases over with
  | true =>
    have e : mwC bits L top l true a long = l := if_pos (.inl rfl)
    rw [e]
    refine Fn.of tblOK [] _ _ _ _ _ Tryz.func63 rfl rfl (by kernel_rfl) (by kernel_rfl) rfl (drawOK tblOK) rfl ?_
    refine ⟨_, _, _, _, image_fn _ _ L h.toChN top d hd, ⟨rfl, rfl, rfl, rfl, trivial⟩, rfl, ?_⟩
    refine ⟨rfl, ?_⟩
    refine ⟨fun _ => ?_, fun h => absurd h (by decide)⟩
    exact ⟨_, _, _, Le.refl _ _, rfl, trivial, ⟨rfl, rfl, rfl, rfl, rfl, rfl, trivial⟩, rfl⟩
  | false =>
    have e1 : long < 1 → mwC bits L top l false a long = l := fun e => if_pos (.inr e)
    have e2 : ¬ long < 1 → mwC bits L top l false a long = mwr bits d.im.t.length l a long := fun e => (if_neg (fun c => c.elim (fun c => by cases c) e)).trans (by rw [hsz])
    have hS := fun k => mwr_succ bits k l a long
    have h00 : mwr bits 0 l a long = l := rfl
    generalize mwC bits L top l false a long = rl at *
    have eP : ∀ k : Nat, (k : Int) * ((2 ^ ((d.im.bits : Nat) : Int).toNat : Nat) : Int) = ((k * 2 ^ bits : Nat) : Int) := fun k => by
      rw [hbt]
      show (k : Int) * ((2 ^ bits : Nat) : Int) = _
      rw [Int.natCast_mul]
    have eQ : (1 : Int) * ((2 ^ ((d.im.bits : Nat) : Int).toNat : Nat) : Int) = ((2 ^ bits : Nat) : Int) := by
      have := eP 1
      rw [Nat.one_mul] at this
      exact this
    refine Fn.of tblOK [2] _ _ _ _ _ Tryz.func63 rfl rfl (by kernel_rfl) (by kernel_rfl) rfl (drawOK tblOK) rfl ?_
    refine ⟨_, _, _, _, image_fn _ _ L h.toChN top d hd, ⟨rfl, rfl, rfl, rfl, trivial⟩, rfl, ?_⟩
    refine ⟨rfl, ?_⟩
    refine ⟨fun h => absurd h (by decide), fun _ => ?_⟩
    refine ⟨fun _ _ => ?_, fun h => by cases h⟩
    refine ⟨fun hl => ?_, fun hl => ?_⟩
    · have hl : long < 1 := of_decide_eq_true hl
      exact ⟨_, _, _, Le.refl _ _, rfl, trivial, ⟨rfl, rfl, rfl, rfl, rfl, congrArg (fun z => some (Ch.map uI uI (esL z))) (e1 hl).symm, trivial⟩, rfl⟩
    have hl : ¬ long < 1 := of_decide_eq_false hl
    have e2 := e2 hl
    show TrQ _ _ _ _ _ _ _
    refine TrQ.go tblOK (drawOK tblOK) [] (by kernel_rfl) (Le.sub (K' := [(0, vP 2001), (1, vI a), (2, vI long), (6, vAd d.am)]) (B' := mjB bits room L top base l false) ⟨rfl, rfl, rfl, rfl, trivial⟩ ⟨rfl, rfl, rfl, rfl, rfl, rfl, trivial⟩) ?_
    refine ⟨_, _, _, _, imFn (isize_fn d.im) hLm rfl rfl rfl rfl, ⟨rfl, trivial⟩, rfl, ?_⟩
    show TrQ _ _ _ _ _ _ _
    refine TrQ.loop tblOK (drawOK tblOK) [6,7] (by kernel_rfl) (X := Nat) (fun k => mwK d.am a long d.im.t.length k) (fun k => mjB bits room L top base (mwr bits k l a long) false) (fun k => k ≤ d.im.t.length) (fun k => d.im.t.length - k) 0 (Nat.zero_le _) ?_ ?_
    · exact Le.sub ⟨rfl, rfl, rfl, rfl, rfl, rfl, trivial⟩ ⟨rfl, rfl, rfl, rfl, rfl, rfl, trivial⟩
    intro k hk
    have hk : k ≤ d.im.t.length := hk
    refine ⟨fun hc => ?_, fun hc => ?_⟩
    · have hc : decide ((k : Int) < ((d.im.t.length : Nat) : Int)) = true := hc
      have hkl : k < d.im.t.length := by have := of_decide_eq_true hc; omega
      have ePk := eP k
      have hSk := hS k
      have mk : k * 2 ^ bits ≤ 256 * 8 := Nat.mul_le_mul (by omega) hp.2
      have m1 : (0 : Int) ≤ (k : Int) ∧ (0 : Int) ≤ ((d.im.bits : Nat) : Int) ∧ ((d.im.bits : Nat) : Int) ≤ 64 := by omega
      have m2 : (-9223372036854775808 : Int) ≤ (k : Int) * ((2 ^ ((d.im.bits : Nat) : Int).toNat : Nat) : Int) ∧ (k : Int) * ((2 ^ ((d.im.bits : Nat) : Int).toNat : Nat) : Int) ≤ 9223372036854775807 := by rw [ePk]; omega
      have n1 : (0 : Int) ≤ (1 : Int) ∧ (0 : Int) ≤ ((d.im.bits : Nat) : Int) ∧ ((d.im.bits : Nat) : Int) ≤ 64 := by omega
      have n2 : (-9223372036854775808 : Int) ≤ (1 : Int) * ((2 ^ ((d.im.bits : Nat) : Int).toNat : Nat) : Int) ∧ (1 : Int) * ((2 ^ ((d.im.bits : Nat) : Int).toNat : Nat) : Int) ≤ 9223372036854775807 := by rw [eQ]; omega
      have n3 : (-9223372036854775808 : Int) ≤ ((k * 2 ^ bits : Nat) : Int) + (1 : Int) * ((2 ^ ((d.im.bits : Nat) : Int).toNat : Nat) : Int) ∧ ((k * 2 ^ bits : Nat) : Int) + (1 : Int) * ((2 ^ ((d.im.bits : Nat) : Int).toNat : Nat) : Int) ≤ 9223372036854775807 := by rw [eQ]; omega
      have n4 : (-9223372036854775808 : Int) ≤ ((k * 2 ^ bits : Nat) : Int) - long ∧ ((k * 2 ^ bits : Nat) : Int) - long ≤ 9223372036854775807 := by omega
      have eS : ((k * 2 ^ bits : Nat) : Int) + (1 : Int) * ((2 ^ ((d.im.bits : Nat) : Int).toNat : Nat) : Int) = ((k * 2 ^ bits + 2 ^ bits : Nat) : Int) := by rw [eQ]; omega
      refine ⟨_, _, _, _, imFn (ibits_fn d.im) hLm rfl rfl rfl rfl, ⟨rfl, trivial⟩, rfl, ?_⟩
      refine ⟨m1, m2, ?_⟩
      show TrQ _ _ _ _ _ _ _
      refine TrQ.go tblOK (drawOK tblOK) [7] (by kernel_rfl) (Le.sub (K' := [(0, vP 2001), (1, vI a), (2, vI long), (6, vAd d.am), (31, vI (d.im.t.length : Nat)), (32, vI (k : Nat)), (7, vI (k : Nat)), (8, vI ((k * 2 ^ bits : Nat) : Int))]) (B' := mjB bits room L top base (mwr bits k l a long) false) ⟨rfl, rfl, rfl, rfl, rfl, rfl, rfl, ePk, trivial⟩ ⟨rfl, rfl, rfl, rfl, rfl, rfl, trivial⟩) ?_
      refine ⟨_, _, _, _, imFn (ibits_fn d.im) hLm rfl rfl rfl rfl, ⟨rfl, trivial⟩, rfl, ?_⟩
      refine ⟨n1, n2, n3, ?_⟩
      have stepN : (¬ (a < ((k * 2 ^ bits + 2 ^ bits : Nat) : Int) ∧ ((k * 2 ^ bits : Nat) : Int) - long < a)) → mwr bits k l a long = mwr bits (k + 1) l a long := fun e => by rw [hSk, if_neg e]
      refine ⟨fun c1 => ?_, fun c1 => ?_⟩
      · have c1 : decide (a < ((k * 2 ^ bits : Nat) : Int) + (1 : Int) * ((2 ^ ((d.im.bits : Nat) : Int).toNat : Nat) : Int)) = true := c1
        have c1 := of_decide_eq_true c1
        rw [eS] at c1
        refine ⟨n4, ?_⟩
        refine ⟨fun c2 => ?_, fun c2 => ?_⟩
        · have c2 : decide (((k * 2 ^ bits : Nat) : Int) - long < a) = true := c2
          have c2 := of_decide_eq_true c2
          have hq : lput (mwr bits k l a long) k = mwr bits (k + 1) l a long := by rw [hSk, if_pos ⟨c1, c2⟩]
          show TrQ _ _ _ _ _ _ _
          refine TrQ.go tblOK (drawOK tblOK) [] (by kernel_rfl) (Le.sub (K' := [(0, vP 2001), (1, vI a), (2, vI long), (6, vAd d.am), (31, vI (d.im.t.length : Nat)), (32, vI (k : Nat)), (7, vI (k : Nat))]) (B' := mjB bits room L top base (mwr bits k l a long) false) ⟨rfl, rfl, rfl, rfl, rfl, rfl, rfl, trivial⟩ ⟨rfl, rfl, rfl, rfl, rfl, rfl, trivial⟩) ?_
          refine ⟨trivial, ?_⟩
          exact ⟨by omega, k + 1, hkl, by omega, Le.sub ⟨rfl, rfl, rfl, rfl, rfl, rfl, trivial⟩ ⟨rfl, rfl, rfl, rfl, rfl, congrArg (fun z => some (Ch.map uI uI z)) ((mput_esL k _).trans (congrArg esL hq)), trivial⟩⟩
        · have c2 : decide (((k * 2 ^ bits : Nat) : Int) - long < a) = false := c2
          have c2 := of_decide_eq_false c2
          exact ⟨by omega, k + 1, hkl, by omega, Le.sub ⟨rfl, rfl, rfl, rfl, rfl, rfl, trivial⟩ ⟨rfl, rfl, rfl, rfl, rfl, congrArg (fun z => some (Ch.map uI uI (esL z))) (stepN fun e => c2 e.2), trivial⟩⟩
      · have c1 : decide (a < ((k * 2 ^ bits : Nat) : Int) + (1 : Int) * ((2 ^ ((d.im.bits : Nat) : Int).toNat : Nat) : Int)) = false := c1
        have c1 := of_decide_eq_false c1
        rw [eS] at c1
        exact ⟨by omega, k + 1, hkl, by omega, Le.sub ⟨rfl, rfl, rfl, rfl, rfl, rfl, trivial⟩ ⟨rfl, rfl, rfl, rfl, rfl, congrArg (fun z => some (Ch.map uI uI (esL z))) (stepN fun e => c1 e.1), trivial⟩⟩
    · have hc : decide ((k : Int) < ((d.im.t.length : Nat) : Int)) = false := hc
      have hkl : k = d.im.t.length := by have := of_decide_eq_false hc; omega
      subst hkl
      exact ⟨_, _, _, Le.refl _ _, rfl, trivial, ⟨rfl, rfl, rfl, rfl, rfl, congrArg (fun z => some (Ch.map uI uI (esL z))) e2.symm, trivial⟩, rfl⟩
/-! ### bring -/
@[reducible] def brB (bits room : Int) (L : List Dsk) (top base : List UInt8) (l : List Nat) (x y : Int) : BL := mjB bits room L top base l false ++ [(3001, .cells [.ptr 2001 0]), (3002, .cells [.d (.int .i64 x)]), (3003, .cells [.d (.int .i64 y)])]
theorem bring1_fn (h : CS bits room L) (base : List UInt8) (l : List Nat) (a : Int) (k : Nat) {d : Dsk} (hd : dk L top = some d) (hk : k < d.im.t.length) : Fn Tryz.prog 95 [vP 3001, vP 3002, vP 3003] (brB bits room L top base l a (k : Int)) [] (vI (wrC bits L base a (clC bits L top (k : Int))).e) (brB bits room (wrC bits L base a (clC bits L top (k : Int))).L top base l a (k : Int)) := by
  have hcl := chcluster_fn h top (k : Int)
  have hp := pow_le8 h.b3
  have hlen : (clC bits L top (k : Int)).length ≤ 1000000000 := by
    have : clC bits L top (k : Int) = cseen bits L top (dpt L top) k := by
      unfold clC
      rw [hd]
      simp only
      rw [if_pos ⟨by omega, by omega⟩]
      rfl
    rw [this, cseen_len h.toChOK hd (h.dep top).1 k]
    omega
  have hwr := chwrite_fn h base a (clC bits L top (k : Int)) hlen
  generalize clC bits L top (k : Int) = x at *
  generalize wrC bits L base a x = r at *
  refine Fn.of tblOK [] _ _ _ _ _ Tryz.func95 rfl rfl (by kernel_rfl) (by kernel_rfl) rfl (drawOK tblOK) rfl ?_
  refine ⟨_, _, _, _, hcl, ⟨rfl, rfl, rfl, rfl, trivial⟩, rfl, ?_⟩
  refine ⟨_, _, _, _, hwr, ⟨rfl, rfl, rfl, rfl, trivial⟩, rfl, ?_⟩
  refine ⟨rfl, ?_⟩
  exact ⟨_, _, _, Le.refl _ _, rfl, rfl, ⟨rfl, rfl, rfl, rfl, rfl, rfl, rfl, rfl, rfl, trivial⟩, rfl⟩
theorem bring2_fn (h : CS bits room L) (top base : List UInt8) (l : List Nat) (a long : Int) : Fn Tryz.prog 96 [vP 3001, vP 3002, vP 3003] (brB bits room L top base l a long) [] (vI (zrC bits L base a long).e) (brB bits room (zrC bits L base a long).L top base l a long) := by
  have hzr := chzero_fn h base a long
  generalize zrC bits L base a long = r at *
  refine Fn.of tblOK [] _ _ _ _ _ Tryz.func96 rfl rfl (by kernel_rfl) (by kernel_rfl) rfl (drawOK tblOK) rfl ?_
  refine ⟨_, _, _, _, hzr, ⟨rfl, rfl, rfl, rfl, trivial⟩, rfl, ?_⟩
  refine ⟨rfl, ?_⟩
  exact ⟨_, _, _, Le.refl _ _, rfl, rfl, ⟨rfl, rfl, rfl, rfl, rfl, rfl, rfl, rfl, rfl, trivial⟩, rfl⟩
@[reducible] def bnB (bits room : Int) (L : List Dsk) (top base : List UInt8) (l : List Nat) (k a long : Int) (b4 b5 b6 b7 : Nat) (es : List (El uI × El .fn)) : BL := mjB bits room L top base l false ++ [(4, .cells [.ptr 2001 0]), (5, .cells [.d (.int .i64 k)]), (6, .cells [.d (.int .i64 a)]), (7, .cells [.d (.int .i64 long)]), (9004, .dep 4 (isAt b4)), (9005, .dep 5 (isAt b5)), (9006, .dep 6 (isAt b6)), (9007, .dep 7 (isAt b7)), (12, .obj (wayO es))]
def wys (b4 b5 b6 b7 : Nat) : List (El uI × El .fn) := mput (ku := uI) (vu := .fn) (mput (ku := uI) (vu := .fn) [] (1 : Int) (95, [b4, b6, b5])) (2 : Int) (96, [b4, b6, b7])
theorem wys_1 (b4 b5 b6 b7 : Nat) : mget (ku := uI) (vu := .fn) (wys b4 b5 b6 b7) (1 : Int) = some (95, [b4, b6, b5]) := rfl
theorem wys_2 (b4 b5 b6 b7 : Nat) : mget (ku := uI) (vu := .fn) (wys b4 b5 b6 b7) (2 : Int) = some (96, [b4, b6, b7]) := rfl
theorem wys_no (b4 b5 b6 b7 : Nat) {x : Int} (h1 : x ≠ 1) (h2 : x ≠ 2) : mget (ku := uI) (vu := .fn) (wys b4 b5 b6 b7) x = none := by
  have e1 : eqKey uI x (1 : Int) = false := decide_eq_false h1
  have e2 : eqKey uI x (2 : Int) = false := decide_eq_false h2
  have e : wys b4 b5 b6 b7 = [(@Prod.mk (El uI) (El .fn) (1 : Int) (95, [b4, b6, b5])), (@Prod.mk (El uI) (El .fn) (2 : Int) (96, [b4, b6, b7]))] := rfl
  rw [e]
  simp only [mget, e1, e2]
set_option maxHeartbeats 1000000 in
theorem bring_fn (h : CS bits room L) (base : List UInt8) (l : List Nat) (k : Nat) (a long : Int) (ha : a = ((k * 2 ^ bits : Nat) : Int)) (hg : long = ((2 ^ bits : Nat) : Int)) {d : Dsk} (hd : dk L top = some d) (hk : k < d.im.t.length) : Fn Tryz.prog 62 [vP 2001, vI (k : Int), vI a, vI long] (mjB bits room L top base l false) [] (vI (brC bits L top base k).e) (mjB bits room (brC bits L top base k).L top base l false) := by
  have htl := (h.ims d (dk_get hd).1).1.tl
  have hLm := h.toChN.M (dk_get hd).1
  have hkd : kdOf L top k = (d.im.t.getD k s0).1 := by unfold kdOf; rw [hd]
  have hik := ikindD_fn d.im htl k hk
  rw [← hkd] at hik
  have hb1 := bring1_fn h base l a k hd hk
  have hb2 := bring2_fn h top base l a long
  by_cases c1 : kdOf L top k = 1
  · have e : brC bits L top base k = wrC bits L base a (clC bits L top (k : Int)) := by rw [ha]; exact if_pos c1
    rw [e]
    rw [c1] at hik
    generalize wrC bits L base a (clC bits L top (k : Int)) = r at *
    refine Fn.of tblOK [1,2,3,5] _ _ _ _ _ Tryz.func62 rfl rfl (by kernel_rfl) (by kernel_rfl) rfl (drawOK tblOK) rfl ?_
    refine ⟨rfl, rfl, rfl, rfl, ?_⟩
    show TrQ _ _ _ _ _ _ _
    refine TrQ.leX (LeX.mark 4 9004 rfl (by decide)) fun b4 => ?_
    refine TrQ.leX (LeX.mark 5 9005 rfl (by decide)) fun b5 => ?_
    refine TrQ.leX (LeX.mark 6 9006 rfl (by decide)) fun b6 => ?_
    refine TrQ.leX (LeX.mark 7 9007 rfl (by decide)) fun b7 => ?_
    refine TrQ.go tblOK (drawOK tblOK) [2,3,5] (by kernel_rfl) (Le.refl _ _) ?_
    refine ⟨rfl, ?_⟩
    refine ⟨_, _, fun N => opOK_insFn (m1 := 9004) (m2 := 9006) (m3 := 9005) (b1 := b4) (b2 := b6) (b3 := b5) (ch' := .map uI .fn (mput (ku := uI) (vu := .fn) [] (1 : Int) (95, [b4, b6, b5]))) rfl Tryz.underlying167 Tryz.underlying3 rfl rfl rfl rfl rfl rfl rfl (.inl rfl) (.inl rfl) N, rfl, ?_⟩
    refine ⟨_, _, fun N => opOK_insFn (m1 := 9004) (m2 := 9006) (m3 := 9007) (b1 := b4) (b2 := b6) (b3 := b7) (ch' := .obj (wayO (wys b4 b5 b6 b7))) rfl Tryz.underlying167 Tryz.underlying3 rfl rfl rfl rfl rfl rfl rfl (.inl rfl) (.inr rfl) N, rfl, ?_⟩
    show TrQ _ _ _ _ _ _ _
    refine TrQ.go tblOK (drawOK tblOK) [3,5] (by kernel_rfl) (Le.sub (K' := [(4, vP 4), (5, vP 5), (6, vP 6), (7, vP 7), (9, .c (.one (.mp 12)))]) (B' := bnB bits room L top base l k a long b4 b5 b6 b7 (wys b4 b5 b6 b7)) ⟨rfl, rfl, rfl, rfl, rfl, trivial⟩ ⟨rfl, rfl, rfl, rfl, rfl, rfl, rfl, rfl, rfl, rfl, rfl, rfl, rfl, rfl, rfl, trivial⟩) ?_
    refine ⟨_, _, _, _, image_fn _ _ L h.toChN top d hd, ⟨rfl, rfl, rfl, rfl, trivial⟩, rfl, ?_⟩
    refine ⟨_, _, _, _, imFn hik hLm rfl rfl rfl rfl, ⟨rfl, trivial⟩, rfl, ?_⟩
    refine ⟨_, _, fun N => opOK_getFn tblOK (ti := _) rfl Tryz.underlying167 Tryz.underlying3 rfl rfl rfl rfl (wys_1 b4 b5 b6 b7) N, rfl, ?_⟩
    refine ⟨rfl, ?_⟩
    show TrQ _ _ _ _ _ _ _
    refine TrQ.go tblOK (drawOK tblOK) [5] (by kernel_rfl) (Le.sub (K' := [(10, .c (.one (.d (.fn (95, [b4, b6, b5]))))), (11, vLit true)]) (B' := bnB bits room L top base l k a long b4 b5 b6 b7 (wys b4 b5 b6 b7)) ⟨rfl, rfl, trivial⟩ ⟨rfl, rfl, rfl, rfl, rfl, rfl, rfl, rfl, rfl, rfl, rfl, rfl, rfl, rfl, rfl, trivial⟩) ?_
    show TrQ _ _ _ _ _ _ _
    refine TrQ.le (Le.ofFn3 10 95 4 6 5 9004 9006 9005 b4 b6 b5 rfl rfl rfl rfl) ?_
    refine TrQ.go tblOK (drawOK tblOK) [] (by kernel_rfl) (Le.refl _ _) ?_
    refine ⟨_, _, _, _, Fn.ren [(3001, 4), (3002, 6), (3003, 5)] hb1, ⟨rfl, rfl, rfl, rfl, rfl, rfl, rfl, rfl, rfl, trivial⟩, rfl, ?_⟩
    exact ⟨_, _, _, Le.refl _ _, rfl, rfl, ⟨rfl, rfl, rfl, rfl, rfl, rfl, trivial⟩, rfl⟩
  by_cases c2 : kdOf L top k = 2
  · have e : brC bits L top base k = zrC bits L base a long := by rw [ha, hg]; exact (if_neg c1).trans (if_pos c2)
    rw [e]
    rw [c2] at hik
    generalize zrC bits L base a long = r at *
    refine Fn.of tblOK [1,2,3,5] _ _ _ _ _ Tryz.func62 rfl rfl (by kernel_rfl) (by kernel_rfl) rfl (drawOK tblOK) rfl ?_
    refine ⟨rfl, rfl, rfl, rfl, ?_⟩
    show TrQ _ _ _ _ _ _ _
    refine TrQ.leX (LeX.mark 4 9004 rfl (by decide)) fun b4 => ?_
    refine TrQ.leX (LeX.mark 5 9005 rfl (by decide)) fun b5 => ?_
    refine TrQ.leX (LeX.mark 6 9006 rfl (by decide)) fun b6 => ?_
    refine TrQ.leX (LeX.mark 7 9007 rfl (by decide)) fun b7 => ?_
    refine TrQ.go tblOK (drawOK tblOK) [2,3,5] (by kernel_rfl) (Le.refl _ _) ?_
    refine ⟨rfl, ?_⟩
    refine ⟨_, _, fun N => opOK_insFn (m1 := 9004) (m2 := 9006) (m3 := 9005) (b1 := b4) (b2 := b6) (b3 := b5) (ch' := .map uI .fn (mput (ku := uI) (vu := .fn) [] (1 : Int) (95, [b4, b6, b5]))) rfl Tryz.underlying167 Tryz.underlying3 rfl rfl rfl rfl rfl rfl rfl (.inl rfl) (.inl rfl) N, rfl, ?_⟩
    refine ⟨_, _, fun N => opOK_insFn (m1 := 9004) (m2 := 9006) (m3 := 9007) (b1 := b4) (b2 := b6) (b3 := b7) (ch' := .obj (wayO (wys b4 b5 b6 b7))) rfl Tryz.underlying167 Tryz.underlying3 rfl rfl rfl rfl rfl rfl rfl (.inl rfl) (.inr rfl) N, rfl, ?_⟩
    show TrQ _ _ _ _ _ _ _
    refine TrQ.go tblOK (drawOK tblOK) [3,5] (by kernel_rfl) (Le.sub (K' := [(4, vP 4), (5, vP 5), (6, vP 6), (7, vP 7), (9, .c (.one (.mp 12)))]) (B' := bnB bits room L top base l k a long b4 b5 b6 b7 (wys b4 b5 b6 b7)) ⟨rfl, rfl, rfl, rfl, rfl, trivial⟩ ⟨rfl, rfl, rfl, rfl, rfl, rfl, rfl, rfl, rfl, rfl, rfl, rfl, rfl, rfl, rfl, trivial⟩) ?_
    refine ⟨_, _, _, _, image_fn _ _ L h.toChN top d hd, ⟨rfl, rfl, rfl, rfl, trivial⟩, rfl, ?_⟩
    refine ⟨_, _, _, _, imFn hik hLm rfl rfl rfl rfl, ⟨rfl, trivial⟩, rfl, ?_⟩
    refine ⟨_, _, fun N => opOK_getFn tblOK (ti := _) rfl Tryz.underlying167 Tryz.underlying3 rfl rfl rfl rfl (wys_2 b4 b5 b6 b7) N, rfl, ?_⟩
    refine ⟨rfl, ?_⟩
    show TrQ _ _ _ _ _ _ _
    refine TrQ.go tblOK (drawOK tblOK) [5] (by kernel_rfl) (Le.sub (K' := [(10, .c (.one (.d (.fn (96, [b4, b6, b7]))))), (11, vLit true)]) (B' := bnB bits room L top base l k a long b4 b5 b6 b7 (wys b4 b5 b6 b7)) ⟨rfl, rfl, trivial⟩ ⟨rfl, rfl, rfl, rfl, rfl, rfl, rfl, rfl, rfl, rfl, rfl, rfl, rfl, rfl, rfl, trivial⟩) ?_
    show TrQ _ _ _ _ _ _ _
    refine TrQ.le (Le.ofFn3 10 96 4 6 7 9004 9006 9007 b4 b6 b7 rfl rfl rfl rfl) ?_
    refine TrQ.go tblOK (drawOK tblOK) [] (by kernel_rfl) (Le.refl _ _) ?_
    refine ⟨_, _, _, _, Fn.ren [(3001, 4), (3002, 6), (3003, 7)] hb2, ⟨rfl, rfl, rfl, rfl, rfl, rfl, rfl, rfl, rfl, trivial⟩, rfl, ?_⟩
    exact ⟨_, _, _, Le.refl _ _, rfl, rfl, ⟨rfl, rfl, rfl, rfl, rfl, rfl, trivial⟩, rfl⟩
  · have e : brC bits L top base k = ⟨0, L⟩ := (if_neg c1).trans (if_neg c2)
    rw [e]
    have hw := fun b4 b5 b6 b7 => wys_no b4 b5 b6 b7 c1 c2
    generalize kdOf L top k = kk at *
    refine Fn.of tblOK [1,2,3,5] _ _ _ _ _ Tryz.func62 rfl rfl (by kernel_rfl) (by kernel_rfl) rfl (drawOK tblOK) rfl ?_
    refine ⟨rfl, rfl, rfl, rfl, ?_⟩
    show TrQ _ _ _ _ _ _ _
    refine TrQ.leX (LeX.mark 4 9004 rfl (by decide)) fun b4 => ?_
    refine TrQ.leX (LeX.mark 5 9005 rfl (by decide)) fun b5 => ?_
    refine TrQ.leX (LeX.mark 6 9006 rfl (by decide)) fun b6 => ?_
    refine TrQ.leX (LeX.mark 7 9007 rfl (by decide)) fun b7 => ?_
    refine TrQ.go tblOK (drawOK tblOK) [2,3,5] (by kernel_rfl) (Le.refl _ _) ?_
    refine ⟨rfl, ?_⟩
    refine ⟨_, _, fun N => opOK_insFn (m1 := 9004) (m2 := 9006) (m3 := 9005) (b1 := b4) (b2 := b6) (b3 := b5) (ch' := .map uI .fn (mput (ku := uI) (vu := .fn) [] (1 : Int) (95, [b4, b6, b5]))) rfl Tryz.underlying167 Tryz.underlying3 rfl rfl rfl rfl rfl rfl rfl (.inl rfl) (.inl rfl) N, rfl, ?_⟩
    refine ⟨_, _, fun N => opOK_insFn (m1 := 9004) (m2 := 9006) (m3 := 9007) (b1 := b4) (b2 := b6) (b3 := b7) (ch' := .obj (wayO (wys b4 b5 b6 b7))) rfl Tryz.underlying167 Tryz.underlying3 rfl rfl rfl rfl rfl rfl rfl (.inl rfl) (.inr rfl) N, rfl, ?_⟩
    show TrQ _ _ _ _ _ _ _
    refine TrQ.go tblOK (drawOK tblOK) [3,5] (by kernel_rfl) (Le.sub (K' := [(4, vP 4), (5, vP 5), (6, vP 6), (7, vP 7), (9, .c (.one (.mp 12)))]) (B' := bnB bits room L top base l k a long b4 b5 b6 b7 (wys b4 b5 b6 b7)) ⟨rfl, rfl, rfl, rfl, rfl, trivial⟩ ⟨rfl, rfl, rfl, rfl, rfl, rfl, rfl, rfl, rfl, rfl, rfl, rfl, rfl, rfl, rfl, trivial⟩) ?_
    refine ⟨_, _, _, _, image_fn _ _ L h.toChN top d hd, ⟨rfl, rfl, rfl, rfl, trivial⟩, rfl, ?_⟩
    refine ⟨_, _, _, _, imFn hik hLm rfl rfl rfl rfl, ⟨rfl, trivial⟩, rfl, ?_⟩
    refine ⟨_, _, fun N => opOK_getFn tblOK (ti := _) rfl Tryz.underlying167 Tryz.underlying3 rfl rfl rfl rfl (hw b4 b5 b6 b7) N, rfl, ?_⟩
    refine ⟨rfl, ?_⟩
    show TrQ _ _ _ _ _ _ _
    refine TrQ.go tblOK (drawOK tblOK) [5] (by kernel_rfl) (Le.sub (K' := [(11, vLit false)]) (B' := mjB bits room L top base l false) ⟨rfl, trivial⟩ ⟨rfl, rfl, rfl, rfl, rfl, rfl, trivial⟩) ?_
    exact ⟨_, _, _, Le.refl _ _, rfl, rfl, ⟨rfl, rfl, rfl, rfl, rfl, rfl, trivial⟩, rfl⟩
end
/-! Merges: Step. -/
section
variable {bits room : Nat} {L : List Dsk} {top base : List UInt8}
set_option maxHeartbeats 1000000 in
theorem mstep_fn (h : CS bits room L) (base : List UInt8) (l : List Nat) (over : Bool) {d : Dsk} (hd : dk L top = some d) (hl : ∀ k, k ∈ l → k < d.im.t.length) (hn : l.Nodup) : Fn Tryz.prog 32 [vP 2001] (mjB bits room L top base l over) [] (.tup [.one (.d (.bool (mstep bits L top base l over).done)), vErr (mstep bits L top base l over).e]) (mjB bits room (mstep bits L top base l over).L top base (mstep bits L top base l over).l (mstep bits L top base l over).over) := by
  have htl := (h.ims d (dk_get hd).1).1.tl
  have hLm := h.toChN.M (dk_get hd).1
  have hbt : d.im.bits = bits := (h.ims d (dk_get hd).1).2.1
  have hb3 := h.b3
  have hp := pow_le8 h.b3
  cases over with
  | true =>
    have e : mstep bits L top base l true = ⟨false, 150, L, l, true⟩ := if_pos rfl
    rw [e]
    refine Fn.of tblOK [] _ _ _ _ _ Tryz.func32 rfl rfl (by kernel_rfl) (by kernel_rfl) rfl (drawOK tblOK) rfl ?_
    refine ⟨_, _, _, _, image_fn _ _ L h.toChN top d hd, ⟨rfl, rfl, rfl, rfl, trivial⟩, rfl, ?_⟩
    refine ⟨rfl, ?_⟩
    refine ⟨fun _ => ?_, fun h => absurd h (by decide)⟩
    exact ⟨_, _, _, Le.refl _ _, rfl, ⟨rfl, rfl, trivial⟩, ⟨rfl, rfl, rfl, rfl, rfl, rfl, trivial⟩, rfl⟩
  | false =>
    have eQ : (1 : Int) * ((2 ^ ((d.im.bits : Nat) : Int).toNat : Nat) : Int) = ((2 ^ bits : Nat) : Int) := by
      rw [hbt, Int.one_mul]
      rfl
    have n1 : (0 : Int) ≤ (1 : Int) ∧ (0 : Int) ≤ ((d.im.bits : Nat) : Int) ∧ ((d.im.bits : Nat) : Int) ≤ 64 := by omega
    have n2 : (-9223372036854775808 : Int) ≤ (1 : Int) * ((2 ^ ((d.im.bits : Nat) : Int).toNat : Nat) : Int) ∧ (1 : Int) * ((2 ^ ((d.im.bits : Nat) : Int).toNat : Nat) : Int) ≤ 9223372036854775807 := by rw [eQ]; omega
    by_cases hne : l = []
    · have hsz : szOf L top = d.im.t.length := by unfold szOf; rw [hd]
      have e : mstep bits L top base l false = ⟨true, 0, (dsC L top 0 ((d.im.t.length * 2 ^ bits : Nat) : Int)).L, [], true⟩ := by
        unfold mstep
        rw [if_neg (by decide), if_pos hne, hsz]
      rw [e]
      subst hne
      have hds := chdisc_fn h top 0 ((d.im.t.length * 2 ^ bits : Nat) : Int)
      have hdcs := dsC_cs h top 0 ((d.im.t.length * 2 ^ bits : Nat) : Int)
      have mk : d.im.t.length * 2 ^ bits ≤ 256 * 8 := Nat.mul_le_mul htl hp.2
      have em : ((d.im.t.length : Nat) : Int) * ((2 ^ bits : Nat) : Int) = ((d.im.t.length * 2 ^ bits : Nat) : Int) := by rw [Int.natCast_mul]
      have m3 : (-9223372036854775808 : Int) ≤ ((d.im.t.length : Nat) : Int) * ((2 ^ bits : Nat) : Int) ∧ ((d.im.t.length : Nat) : Int) * ((2 ^ bits : Nat) : Int) ≤ 9223372036854775807 := by rw [em]; omega
      rw [← em] at hds ⊢
      generalize dsC L top 0 (((d.im.t.length : Nat) : Int) * ((2 ^ bits : Nat) : Int)) = r at *
      refine Fn.of tblOK [4,6,7] _ _ _ _ _ Tryz.func32 rfl rfl (by kernel_rfl) (by kernel_rfl) rfl (drawOK tblOK) rfl ?_
      refine ⟨_, _, _, _, image_fn _ _ L h.toChN top d hd, ⟨rfl, rfl, rfl, rfl, trivial⟩, rfl, ?_⟩
      refine ⟨rfl, ?_⟩
      refine ⟨fun h => absurd h (by decide), fun _ => ?_⟩
      refine ⟨fun _ _ => ?_, fun h => by cases h⟩
      show TrQ _ _ _ _ _ _ _
      refine TrQ.go tblOK (drawOK tblOK) [6,7] (by kernel_rfl) (Le.sub (K' := [(0, vP 2001), (4, vAd d.am)]) (B' := mjB bits room L top base [] false) ⟨rfl, rfl, trivial⟩ ⟨rfl, rfl, rfl, rfl, rfl, rfl, trivial⟩) ?_
      refine ⟨_, _, _, _, imFn (ibits_fn d.im) hLm rfl rfl rfl rfl, ⟨rfl, trivial⟩, rfl, ?_⟩
      refine ⟨n1, n2, ?_⟩
      refine ⟨fun _ => ?_, fun h => absurd h (by decide)⟩
      show TrQ _ _ _ _ _ _ _
      refine TrQ.go tblOK (drawOK tblOK) [7] (by kernel_rfl) (Le.sub (K' := [(0, vP 2001), (4, vAd d.am), (5, vI ((2 ^ bits : Nat) : Int))]) (B' := mjB bits room L top base [] false) ⟨rfl, rfl, eQ, trivial⟩ ⟨rfl, rfl, rfl, rfl, rfl, rfl, trivial⟩) ?_
      refine ⟨_, _, _, _, imFn (isize_fn d.im) hLm rfl rfl rfl rfl, ⟨rfl, trivial⟩, rfl, ?_⟩
      refine ⟨m3, ?_⟩
      refine ⟨_, _, _, _, hds, ⟨rfl, rfl, rfl, rfl, trivial⟩, rfl, ?_⟩
      refine ⟨rfl, ?_⟩
      show TrQ _ _ _ _ _ _ _
      refine TrQ.go tblOK (drawOK tblOK) [] (by kernel_rfl) (Le.sub (K' := [(0, vP 2001)]) (B' := mjB bits room r.L top base [] false) ⟨rfl, trivial⟩ ⟨rfl, rfl, rfl, rfl, rfl, rfl, trivial⟩) ?_
      refine ⟨_, _, _, _, mend_fn bits room r.L top base [] false, ⟨rfl, rfl, rfl, rfl, rfl, rfl, trivial⟩, rfl, ?_⟩
      exact ⟨_, _, _, Le.refl _ _, rfl, ⟨rfl, rfl, trivial⟩, ⟨rfl, rfl, rfl, rfl, rfl, rfl, trivial⟩, rfl⟩
    · have e : mstep bits L top base l false = ⟨false, (brC bits L top base (mnN l)).e, (brC bits L top base (mnN l)).L, if (brC bits L top base (mnN l)).e = 0 then l.erase (mnN l) else l, false⟩ := by
        unfold mstep
        rw [if_neg (by decide), if_neg hne]
      rw [e]
      obtain ⟨q1, q2, q3⟩ := mnN_spec hne
      have hk := hl _ q2
      have hmin : ∀ g : { ss : List Int // ss.Perm (mkeysI (esL l)) }, mnL g.1 = ((mnN l : Nat) : Int) := fun g => by
        rw [mnL_perm g.2 (by rw [mkeys_esL]; simpa using hne), mkeys_esL]
        exact q1
      have hlg : ∀ g : { ss : List Int // ss.Perm (mkeysI (esL l)) }, g.1.length = l.length := fun g => by
        rw [g.2.length_eq, mkeys_esL, List.length_map]
      have hll : l.length ≤ 256 := by
        have := nodup_lt d.im.t.length l hn hl
        omega
      have hl0 : 0 < l.length := List.length_pos_iff.2 hne
      have hel := esL_len l
      have hco := collectI_fn (esL l) (esL_nodup hn) (esL_wf fun k hk => by have := hl k hk; omega) (by omega)
      have mk : mnN l * 2 ^ bits ≤ 256 * 8 := Nat.mul_le_mul (by omega) hp.2
      have em : ((mnN l : Nat) : Int) * ((2 ^ bits : Nat) : Int) = ((mnN l * 2 ^ bits : Nat) : Int) := by rw [Int.natCast_mul]
      have m3 : (-9223372036854775808 : Int) ≤ ((mnN l : Nat) : Int) * ((2 ^ bits : Nat) : Int) ∧ ((mnN l : Nat) : Int) * ((2 ^ bits : Nat) : Int) ≤ 9223372036854775807 := by rw [em]; omega
      have hbr := bring_fn h base l (mnN l) _ _ em rfl hd hk
      have hdl := mdel_esL (mnN l) l
      generalize mnN l = mn at *
      generalize brC bits L top base mn = r at *
      refine Fn.of tblOK [4,9,10,12] _ _ _ _ _ Tryz.func32 rfl rfl (by kernel_rfl) (by kernel_rfl) rfl (drawOK tblOK) rfl ?_
      refine ⟨_, _, _, _, image_fn _ _ L h.toChN top d hd, ⟨rfl, rfl, rfl, rfl, trivial⟩, rfl, ?_⟩
      refine ⟨rfl, ?_⟩
      refine ⟨fun h => absurd h (by decide), fun _ => ?_⟩
      refine ⟨fun _ _ => ?_, fun h => by cases h⟩
      show TrQ _ _ _ _ _ _ _
      refine TrQ.go tblOK (drawOK tblOK) [9,10,12] (by kernel_rfl) (Le.sub (K' := [(0, vP 2001), (4, vAd d.am)]) (B' := mjB bits room L top base l false) ⟨rfl, rfl, trivial⟩ ⟨rfl, rfl, rfl, rfl, rfl, rfl, trivial⟩) ?_
      refine ⟨_, _, _, _, imFn (ibits_fn d.im) hLm rfl rfl rfl rfl, ⟨rfl, trivial⟩, rfl, ?_⟩
      refine ⟨n1, n2, ?_⟩
      refine ⟨fun hc => ?_, fun _ => ?_⟩
      · exfalso
        have hc : decide ((((esL l).length : Nat) : Int) = 0) = true := hc
        have := of_decide_eq_true hc
        omega
      show TrQ _ _ _ _ _ _ _
      refine TrQ.le (Le.sub (K' := [(0, vP 2001), (5, vI ((2 ^ bits : Nat) : Int))]) (B' := mjB bits room L top base l false) ⟨rfl, eQ, trivial⟩ ⟨rfl, rfl, rfl, rfl, rfl, rfl, trivial⟩) ?_
      refine TrQ.regionX tblOK (by kernel_rfl) ?_
      refine ⟨_, _, _, fun g => _, fun g => _, (Fn.ren [(1001, 2002), (2001, 9001)] (mapsKeysI_fn (esL l))).x, ⟨rfl, trivial⟩, rfl, fun _ => rfl, fun _ => ?_⟩
      refine ⟨_, _, _, fun g => _, fun g => _, FnX.ren [(1001, 2002), (2001, 9001)] hco, ⟨rfl, rfl, trivial⟩, rfl, fun _ => rfl, fun g => ?_⟩
      have hg0 := hlg g
      have hmg := hmin g
      refine ⟨_, _, _, fun g => _, fun g => _, (minI_fn g.1 (by omega) (by omega)).x, trivial, rfl, fun _ => rfl, fun _ => ?_⟩
      show TrQ _ _ _ _ _ _ _
      refine TrQ.go tblOK (drawOK tblOK) [12] (by kernel_rfl) (Le.sub (K' := [(0, vP 2001), (5, vI ((2 ^ bits : Nat) : Int)), (6, vI (mn : Nat))]) (B' := mjB bits room L top base l false) ⟨rfl, rfl, hmg, trivial⟩ ⟨rfl, rfl, rfl, rfl, rfl, rfl, trivial⟩) ?_
      refine ⟨m3, ?_⟩
      refine ⟨_, _, _, _, hbr, ⟨rfl, rfl, rfl, rfl, rfl, rfl, trivial⟩, rfl, ?_⟩
      refine ⟨fun he => ?_, fun he => ?_⟩
      · have he : r.e = 0 := of_decide_eq_true he
        show TrQ _ _ _ _ _ _ _
        refine TrQ.go tblOK (drawOK tblOK) [] (by kernel_rfl) (Le.sub (K' := [(0, vP 2001), (6, vI (mn : Nat)), (7, vI r.e)]) (B' := mjB bits room r.L top base l false) ⟨rfl, rfl, rfl, trivial⟩ ⟨rfl, rfl, rfl, rfl, rfl, rfl, trivial⟩) ?_
        exact ⟨_, _, _, Le.refl _ _, rfl, ⟨rfl, rfl, trivial⟩, ⟨rfl, rfl, rfl, rfl, rfl, congrArg (fun z => some (Ch.map uI uI z)) (hdl.trans (congrArg esL (if_pos he).symm)), trivial⟩, rfl⟩
      · have he : ¬ r.e = 0 := of_decide_eq_false he
        exact ⟨_, _, _, Le.refl _ _, rfl, ⟨rfl, rfl, trivial⟩, ⟨rfl, rfl, rfl, rfl, rfl, congrArg (fun z => some (Ch.map uI uI (esL z))) (if_neg he).symm, trivial⟩, rfl⟩
end
end Go.Proofs.YtbcngglcaeehbaaGreat
