/-
  Pulls: between, Begin, Next, Step, Over, Cancel.
-/
import Derived.Test.YtaciecbbiplgiaaPq
import Derived.Test.YtaciecbbiplgiaaIb
set_option linter.unusedVariables false
set_option linter.unusedSimpArgs false
set_option maxRecDepth 10000
namespace Go.Proofs.Ytaciecbbiplgiaa
open Go.RowKit Go.Proofs
section
variable {bits room : Nat} {L : List Dsk} {top base : List UInt8}
theorem bt_at {j : Nat} (h : CS bits room L) {d : Dsk} (hd : dk L top = some d) (hj : j ≤ dpt L top) (hno : ∀ i, i < j → downTo L (i + 1) top ≠ base) (hend : j = dpt L top ∨ downTo L (j + 1) top = base) : (bl L (dpt L top) top).take j = btL L top base := by
  have hD := (h.dep top).1
  have hl := bl_len hD
  unfold btL
  refine (takeWhile_at _ _ j (by omega) (fun i x hi hx => ?_) ?_).symm
  · rw [bl_get hD (by omega)] at hx
    injection hx with hx
    subst hx
    have := hno i hi
    simp [this]
  · rcases hend with hend | hend
    · exact .inl (by omega)
    · by_cases c : j = dpt L top
      · exact .inl (by omega)
      · exact .inr ⟨_, bl_get hD (by omega), by rw [hend]; simp⟩
theorem bt_yes {j : Nat} (h : CS bits room L) {d : Dsk} (hd : dk L top = some d) (hj : j ≤ dpt L top) (hend : downTo L (j + 1) top = base) : btI L top base = true := by
  have hD := (h.dep top).1
  unfold btI
  rw [hd, Option.isSome_some, Bool.true_and, Bool.or_eq_true]
  by_cases c : j = dpt L top
  · rw [c, down_end h hD ⟨d, hd⟩] at hend
    exact .inl (decide_eq_true hend.symm)
  · refine .inr (decide_eq_true ?_)
    have := bl_get hD (i := j) (by omega)
    rw [hend] at this
    exact List.mem_of_getElem? this
theorem bt_not (h : CS bits room L) {d : Dsk} (hd : dk L top = some d) (hno : ∀ i, i ≤ dpt L top → downTo L (i + 1) top ≠ base) : btI L top base = false := by
  have hD := (h.dep top).1
  unfold btI
  rw [hd, Option.isSome_some, Bool.true_and, Bool.or_eq_false_iff]
  constructor
  · refine decide_eq_false fun e => hno _ (Nat.le_refl _) ?_
    rw [down_end h hD ⟨d, hd⟩, e]
  · refine decide_eq_false fun e => ?_
    obtain ⟨i, hi, hx⟩ := List.getElem_of_mem e
    have hl := bl_len hD
    have := bl_get hD (i := i) (by omega)
    rw [List.getElem?_eq_getElem hi, hx] at this
    injection this with this
    exact hno i (by omega) this.symm
@[reducible] def btK (base : List UInt8) (a : List UInt8) (c : Nat) : KL := [(0, vP 1001), (2, vS base), (8, vOwn c), (9, vS a), (10, vI 0)]
@[reducible] def btB (bits room : Int) (L : List Dsk) (c : Nat) (x : List (List UInt8)) : BL := chB bits room L ++ [(c, .row 9 .str x)]
set_option maxHeartbeats 1000000 in
theorem between_fn (h : CS bits room L) {d : Dsk} (hd : dk L top = some d) (base : List UInt8) : Fn Try.prog 29 [vP 1001, vS top, vS base] (chB bits room L) [] (.tup [.one (.d (.lst .str (btL L top base))), .one (.d (.bool (btI L top base)))]) (chB bits room L) := by
  have hD := (h.dep top).1
  have h8 := (h.dep top).2
  have hbl := bl_len hD
  have hkn := fun j hj => down_known h hD ⟨d, hd⟩ j hj
  have hend := down_end h hD ⟨d, hd⟩
  have hb0 : bkC L top = (downTo L 1 top, 0) := by
    unfold bkC
    rw [show downTo L 1 top = d.back by rw [downTo_succ]; show (match dk L top with | none => top | some d => d.back) = _; rw [hd], hd]
  have hbk : ∀ j, j < dpt L top → bkC L (downTo L (j + 1) top) = (downTo L (j + 1 + 1) top, 0) ∧ downTo L (j + 1) top ≠ [] := fun j hj => by
    obtain ⟨e, he⟩ := hkn (j + 1) hj
    refine ⟨?_, known_ne h ⟨e, he⟩⟩
    unfold bkC
    rw [downTo_succ L (j + 1), he]
  have htk : ∀ j, j < dpt L top → (bl L (dpt L top) top).take (j + 1) = (bl L (dpt L top) top).take j ++ [downTo L (j + 1) top] := fun j hj => bl_take hD j hj
  have hat := fun j hj hno he => bt_at (j := j) (base := base) h hd hj hno he
  have hye := fun j hj he => bt_yes (j := j) (base := base) h hd hj he
  have hnt := fun hno => bt_not (base := base) h hd hno
  have hcb := chback_fn h top
  rw [hb0] at hcb
  generalize btL L top base = rl at *
  generalize btI L top base = ri at *
  generalize bl L (dpt L top) top = bb at *
  generalize dpt L top = dd at *
  refine Fn.of tblOK [3,5,7] _ _ _ _ _ Try.func29 rfl rfl (by kernel_rfl) (by kernel_rfl) rfl (drawOK tblOK) rfl ?_
  refine ⟨_, _, _, _, hcb, ⟨rfl, rfl, rfl, rfl, trivial⟩, rfl, ?_⟩
  show TrQ _ _ _ _ _ _ _
  refine TrQ.loop tblOK (drawOK tblOK) [5,7] (by kernel_rfl) (X := Nat) (fun j => btK base (downTo L (j + 1) top) 5002) (fun j => btB bits room L 5002 (bb.take j)) (fun j => j ≤ dd ∧ ∀ i, i < j → downTo L (i + 1) top ≠ base) (fun j => dd - j) 0 ⟨Nat.zero_le _, fun i hi => absurd hi (Nat.not_lt_zero i)⟩ ?_ ?_
  · exact (Le.nil 8 5002 9 .str rfl rfl).trans (Le.sub ⟨rfl, rfl, rfl, rfl, rfl, trivial⟩ ⟨rfl, rfl, rfl, rfl, rfl, trivial⟩)
  rintro j ⟨hj, hno⟩
  refine ⟨fun _ => ?_, fun h => absurd h (by decide)⟩
  refine ⟨fun h1 => ?_, fun h1 => ?_⟩
  · have h1 : (!decide (downTo L (j + 1) top = base)) = true := h1
    have h1 : ¬ downTo L (j + 1) top = base := by simpa using h1
    refine ⟨fun h2 => ?_, fun h2 => ?_⟩
    · have h2 : downTo L (j + 1) top = [] := of_decide_eq_true h2
      have hjd : j = dd := by
        rcases Nat.lt_or_ge j dd with hh | hh
        · exact absurd h2 (hbk j hh).2
        · omega
      have er : bb.take j = rl := hat j hj hno (.inl hjd)
      have ei : ri = false := hnt fun i hi => by
        rcases Nat.lt_or_ge i j with hh | hh
        · exact hno i hh
        · rw [show i = j by omega]
          exact h1
      show TrQ _ _ _ _ _ _ _
      refine TrQ.go tblOK (drawOK tblOK) [] (by kernel_rfl) (Le.refl _ _) ?_
      refine ⟨fun _ => ?_, fun h => absurd h (by decide)⟩
      exact ⟨_, _, _, Le.frz 5002 rfl, rfl, ⟨er, (show decide (downTo L (j + 1) top = base) = ri by rw [decide_eq_false h1, ei]), trivial⟩, ⟨rfl, rfl, rfl, rfl, trivial⟩, rfl⟩
    · have h2 : ¬ downTo L (j + 1) top = [] := of_decide_eq_false h2
      have hjd : j < dd := by
        rcases Nat.lt_or_ge j dd with hh | hh
        · exact hh
        · exact absurd (by rw [show j = dd by omega]; exact hend) h2
      have hcb2 := chback_fn h (downTo L (j + 1) top)
      rw [(hbk j hjd).1] at hcb2
      have m : List.length (α := List UInt8) (bb.take j) + 1 ≤ 4294967296 := by rw [List.length_take]; omega
      have e := htk j hjd
      show TrQ _ _ _ _ _ _ _
      refine TrQ.go tblOK (drawOK tblOK) [7] (by kernel_rfl) (Le.refl _ _) ?_
      refine ⟨m, rfl, ?_⟩
      refine ⟨_, _, _, _, hcb2, ⟨rfl, rfl, rfl, rfl, trivial⟩, rfl, ?_⟩
      refine ⟨j + 1, ⟨hjd, fun i hi => ?_⟩, by omega, ?_⟩
      · rcases Nat.lt_or_ge i j with hh | hh
        · exact hno i hh
        · rw [show i = j by omega]
          exact h1
      refine Le.trans (Le.sub (K' := btK base (downTo L (j + 1 + 1) top) 29) (B' := btB bits room L 29 (bb.take (j + 1))) ⟨rfl, rfl, rfl, rfl, rfl, trivial⟩ ⟨rfl, rfl, rfl, rfl, congrArg (fun z : List (List UInt8) => some (Ch.row 9 .str z)) e.symm, trivial⟩) ?_
      exact (Le.ren 29 5002 rfl).trans (Le.sub ⟨rfl, rfl, rfl, rfl, rfl, trivial⟩ ⟨rfl, rfl, rfl, rfl, rfl, trivial⟩)
  · have h1 : (!decide (downTo L (j + 1) top = base)) = false := h1
    have h1 : downTo L (j + 1) top = base := by simpa using h1
    have er : bb.take j = rl := hat j hj hno (.inr h1)
    have ei : ri = true := hye j hj h1
    show TrQ _ _ _ _ _ _ _
    refine TrQ.go tblOK (drawOK tblOK) [] (by kernel_rfl) (Le.refl _ _) ?_
    refine ⟨fun _ => ?_, fun h => absurd h (by decide)⟩
    exact ⟨_, _, _, Le.frz 5002 rfl, rfl, ⟨er, (show decide (downTo L (j + 1) top = base) = ri by rw [decide_eq_true h1, ei]), trivial⟩, ⟨rfl, rfl, rfl, rfl, trivial⟩, rfl⟩
/-! ### Begin -/
@[reducible] def pjC (top base : List UInt8) (over : Bool) : List S1 := [.ptr 1001 0, .d (.str top), .d (.str base), .d (.bool over)]
@[reducible] def pjB1 (bits room : Int) (L : List Dsk) (top base : List UInt8) (over : Bool) : BL := chB bits room L ++ [(2001, .cells (pjC top base over))]
def pbE (L : List Dsk) (top base : List UInt8) : Int := if (dk L top).isSome = false then 140 else if btI L top base = false ∨ btL L top base = [] then 1 else 0
theorem pbegin_no (h : CS bits room L) (top base : List UInt8) (he : pbE L top base ≠ 0) : Fn Try.prog 11 [vP 1001, vS top, vS base] (chB bits room L) [] (.tup [vNilP, vErr (pbE L top base)]) (chB bits room L) := by
  unfold pbE at he ⊢
  cases hd : dk L top with
  | none =>
    rw [if_pos (show (none : Option Dsk).isSome = false from rfl)]
    refine Fn.of tblOK [] _ _ _ _ _ Try.func11 rfl rfl (by kernel_rfl) (by kernel_rfl) rfl (drawOK tblOK) rfl ?_
    refine ⟨_, _, _, _, image_no _ _ L top hd, ⟨rfl, rfl, rfl, rfl, trivial⟩, rfl, ?_⟩
    exact ⟨_, _, _, Le.refl _ _, rfl, ⟨rfl, rfl, trivial⟩, ⟨rfl, rfl, rfl, rfl, trivial⟩, rfl⟩
  | some d =>
    have e0 : ¬ (some d).isSome = false := by simp
    rw [hd, if_neg e0] at he
    rw [if_neg e0]
    have hb : btI L top base = false ∨ btL L top base = [] := Decidable.byContradiction fun x => he (if_neg x)
    rw [if_pos hb]
    have hbt := between_fn h hd base
    generalize btI L top base = ri at *
    generalize btL L top base = rl at *
    refine Fn.of tblOK [] _ _ _ _ _ Try.func11 rfl rfl (by kernel_rfl) (by kernel_rfl) rfl (drawOK tblOK) rfl ?_
    refine ⟨_, _, _, _, image_fn _ _ L h.toChN top d hd, ⟨rfl, rfl, rfl, rfl, trivial⟩, rfl, ?_⟩
    refine ⟨fun _ _ => ?_, fun h => by cases h⟩
    refine ⟨_, _, _, _, hbt, ⟨rfl, rfl, rfl, rfl, trivial⟩, rfl, ?_⟩
    refine ⟨fun _ => ?_, fun h1 => ?_⟩
    · exact ⟨_, _, _, Le.refl _ _, rfl, ⟨rfl, rfl, trivial⟩, ⟨rfl, rfl, rfl, rfl, trivial⟩, rfl⟩
    · refine ⟨fun _ => ?_, fun h2 => ?_⟩
      · exact ⟨_, _, _, Le.refl _ _, rfl, ⟨rfl, rfl, trivial⟩, ⟨rfl, rfl, rfl, rfl, trivial⟩, rfl⟩
      · exfalso
        have h1 : (!ri) = false := h1
        have h2 : decide (((rl.length : Nat) : Int) = 0) = false := h2
        have h2 := of_decide_eq_false h2
        rcases hb with hb | hb
        · rw [hb] at h1; cases h1
        · rw [hb] at h2; exact h2 rfl
theorem pbE_ok (he : pbE L top base = 0) : (∃ d, dk L top = some d) ∧ btI L top base = true ∧ btL L top base ≠ [] := by
  unfold pbE at he
  split at he
  · exact absurd he (by decide)
  · rename_i h1
    split at he
    · exact absurd he (by decide)
    · rename_i h2
      refine ⟨Option.isSome_iff_exists.1 (by rw [Bool.not_eq_false] at h1; exact h1), ?_, fun e => h2 (.inr e)⟩
      cases e : btI L top base with
      | true => rfl
      | false => exact absurd (.inl e) h2
theorem pbegin_ok (h : CS bits room L) (top base : List UInt8) (he : pbE L top base = 0) : Fn Try.prog 11 [vP 1001, vS top, vS base] (chB bits room L) [2001] (.tup [.one (.ptr 2001 0), vErr 0]) (pjB1 bits room L top base false) := by
  obtain ⟨⟨d, hd⟩, h1, h2⟩ := pbE_ok he
  have hbt := between_fn h hd base
  rw [h1] at hbt
  generalize btL L top base = rl at *
  refine Fn.of tblOK [] _ _ _ _ _ Try.func11 rfl rfl (by kernel_rfl) (by kernel_rfl) rfl (drawOK tblOK) rfl ?_
  refine ⟨_, _, _, _, image_fn _ _ L h.toChN top d hd, ⟨rfl, rfl, rfl, rfl, trivial⟩, rfl, ?_⟩
  refine ⟨fun _ _ => ?_, fun h => by cases h⟩
  refine ⟨_, _, _, _, hbt, ⟨rfl, rfl, rfl, rfl, trivial⟩, rfl, ?_⟩
  refine ⟨fun h => absurd h (by decide), fun _ => ?_⟩
  refine ⟨fun h3 => ?_, fun _ => ?_⟩
  · exfalso
    have h3 : decide (((rl.length : Nat) : Int) = 0) = true := h3
    have h3 := of_decide_eq_true h3
    exact h2 (List.length_eq_zero_iff.1 (by omega))
  refine ⟨rfl, ?_⟩
  exact ⟨_, _, _, (Le.ren 32 2001 rfl).trans (Le.cellsTo 2001 (l' := pjC top base false) rfl ⟨rfl, rfl, rfl, rfl, trivial⟩), rfl, ⟨rfl, rfl, trivial⟩, ⟨rfl, rfl, rfl, rfl, rfl, trivial⟩, rfl⟩
theorem pover_fn (bits room : Int) (L : List Dsk) (top base : List UInt8) (over : Bool) : Fn Try.prog 18 [vP 2001] (pjB1 bits room L top base over) [] (vB over) (pjB1 bits room L top base over) := by
  refine Fn.of tblOK [] _ _ _ _ _ Try.func18 rfl rfl (by kernel_rfl) (by kernel_rfl) rfl (drawOK tblOK) rfl ?_
  exact ⟨_, _, _, Le.refl _ _, rfl, rfl, ⟨rfl, rfl, rfl, rfl, rfl, trivial⟩, rfl⟩
theorem pcancel_fn (bits room : Int) (L : List Dsk) (top base : List UInt8) (over : Bool) : Fn Try.prog 20 [vP 2001] (pjB1 bits room L top base over) [] vU (pjB1 bits room L top base true) := by
  refine Fn.of tblOK [] _ _ _ _ _ Try.func20 rfl rfl (by kernel_rfl) (by kernel_rfl) rfl (drawOK tblOK) rfl ?_
  exact ⟨_, _, _, Le.cellsTo 2001 (l' := pjC top base true) rfl ⟨rfl, rfl, rfl, rfl, trivial⟩, rfl, trivial, ⟨rfl, rfl, rfl, rfl, rfl, trivial⟩, rfl⟩
/-! ### Next -/
theorem hole_fn (h : CS bits room L) (top base : List UInt8) (over : Bool) (n : List UInt8) (k : Nat) {e : Dsk} (he : dk L n = some e) : Fn Try.prog 32 [vS n, vI (k : Int), vP 3001] (pjB1 bits room L top base over ++ [(3001, .cells [.ptr 2001 0])]) [] (vB (hol L n k)) (pjB1 bits room L top base over ++ [(3001, .cells [.ptr 2001 0])]) := by
  have htl := (h.ims e (dk_get he).1).1.tl
  have hLm := h.toChN.M (dk_get he).1
  have eh : hol L n k = (decide (e.im.t.length ≤ k) || decide ((e.im.t.getD k s0).1 = 0)) := by unfold hol; rw [he]
  rw [eh]
  refine Fn.of tblOK [] _ _ _ _ _ Try.func32 rfl rfl (by kernel_rfl) (by kernel_rfl) rfl (drawOK tblOK) rfl ?_
  refine ⟨_, _, _, _, image_fn _ _ L h.toChN n e he, ⟨rfl, rfl, rfl, rfl, trivial⟩, rfl, ?_⟩
  refine ⟨_, _, _, _, imFn (isize_fn e.im) hLm rfl rfl rfl rfl, ⟨rfl, trivial⟩, rfl, ?_⟩
  refine ⟨fun h1 => ?_, fun h1 => ?_⟩
  · have h1 : ((e.im.t.length : Nat) : Int) ≤ (k : Int) := of_decide_eq_true h1
    exact ⟨_, _, _, Le.refl _ _, rfl, (show true = _ by rw [decide_eq_true (by omega : e.im.t.length ≤ k)]; rfl), ⟨rfl, rfl, rfl, rfl, rfl, rfl, trivial⟩, rfl⟩
  · have h1 : ¬ ((e.im.t.length : Nat) : Int) ≤ (k : Int) := of_decide_eq_false h1
    refine ⟨_, _, _, _, imFn (ikindD_fn e.im htl k (by omega)) hLm rfl rfl rfl rfl, ⟨rfl, trivial⟩, rfl, ?_⟩
    exact ⟨_, _, _, Le.refl _ _, rfl, (show decide ((e.im.t.getD k s0).1 = 0) = _ by rw [decide_eq_false (by omega : ¬ e.im.t.length ≤ k)]; rfl), ⟨rfl, rfl, rfl, rfl, rfl, rfl, trivial⟩, rfl⟩
def pnC (L : List Dsk) (top base : List UInt8) (over : Bool) : Int × Bool := if over = true then (0, false) else match pnx L top base with
  | some k => ((k : Int), true)
  | none => (0, false)
@[reducible] def pnK (l : List (List UInt8)) (n k : Nat) : KL := [(1, vP 1), (5, vL .str l), (7, .c (.one (.clo 32 [.p 1 0]))), (50, vI (n : Int)), (51, vI (k : Int))]
@[reducible] def pnK2 (l : List (List UInt8)) (n k i : Nat) : KL := [(1, vP 1), (5, vL .str l), (7, .c (.one (.clo 32 [.p 1 0]))), (50, vI (n : Int)), (51, vI (k : Int)), (8, vI (k : Int)), (54, vL .str l), (55, vI (l.length : Nat)), (56, vI (i : Int))]
@[reducible] def pnB (bits room : Int) (L : List Dsk) (top base : List UInt8) (over : Bool) : BL := pjB1 bits room L top base over ++ [(1, .cells [.ptr 2001 0])]
theorem any_take {α : Type} (p : α → Bool) {l : List α} {i : Nat} (h : i < l.length) (h0 : (l.take i).any p = false) (h1 : p l[i] = false) : (l.take (i + 1)).any p = false := by
  rw [List.take_add_one, List.getElem?_eq_getElem h, List.any_append, h0]
  show (false || (p l[i] || false)) = false
  rw [h1]
  rfl
set_option maxHeartbeats 1000000 in
theorem pnext_fn (h : CS bits room L) (base : List UInt8) (over : Bool) {d : Dsk} (hd : dk L top = some d) : Fn Try.prog 15 [vP 2001] (pjB1 bits room L top base over) [] (.tup [.one (.d (.int .i64 (pnC L top base over).1)), .one (.d (.bool (pnC L top base over).2))]) (pjB1 bits room L top base over) := by
  have hbt := between_fn h hd base
  have htl := (h.ims d (dk_get hd).1).1.tl
  have hLm := h.toChN.M (dk_get hd).1
  have hsz : szOf L top = d.im.t.length := by unfold szOf; rw [hd]
  have hkb : (btL L top base).length ≤ 16 := by
    have h1 : (btL L top base).length ≤ (bl L (dpt L top) top).length := (List.takeWhile_sublist _).length_le
    rw [bl_len (h.dep top).1] at h1
    have := (h.dep top).2
    omega
  have hkn : ∀ n, n ∈ btL L top base → ∃ e, dk L n = some e := fun n hn => (bt_known h hd n hn).2
  have hP : ∀ k, pnxP L top base k = (hol L top k && (btL L top base).any fun n => !hol L n k) := fun k => rfl
  have hC0 : over = true → pnC L top base over = (0, false) := fun e => if_pos e
  have hC1 : over = false → btI L top base = false → pnC L top base over = (0, false) := fun e1 e2 => by
    unfold pnC pnx
    rw [e1, e2]
    rfl
  have hC2 : over = false → btI L top base = true → ∀ k, k < szOf L top → pnxP L top base k = true → (∀ j, j < k → pnxP L top base j = false) → pnC L top base over = ((k : Int), true) := fun e1 e2 k hk hp hn => by
    unfold pnC pnx
    rw [e1, if_neg (by decide), if_pos e2, List.find?_range_eq_some.2 ⟨hp, List.mem_range.2 hk, fun j hj => by simp [hn j hj]⟩]
  have hC3 : over = false → (∀ k, k < szOf L top → pnxP L top base k = false) → pnC L top base over = (0, false) := fun e1 hn => by
    unfold pnC
    rw [e1, if_neg (by decide), pnx_none_of hn]
  have hht := fun k => hole_fn h top base over top k hd
  have hhn := fun n (hn : n ∈ btL L top base) k => hole_fn h top base over n k (hkn n hn).choose_spec
  generalize pnC L top base over = rr at *
  generalize btI L top base = ri at *
  generalize btL L top base = rl at *
  generalize szOf L top = n at *
  subst hsz
  refine Fn.of tblOK [5] _ _ _ _ _ Try.func15 rfl rfl (by kernel_rfl) (by kernel_rfl) rfl (drawOK tblOK) rfl ?_
  refine ⟨rfl, ?_⟩
  refine ⟨_, _, _, _, image_fn _ _ L h.toChN top d hd, ⟨rfl, rfl, rfl, rfl, trivial⟩, rfl, ?_⟩
  refine ⟨rfl, ?_⟩
  refine ⟨_, _, _, _, hbt, ⟨rfl, rfl, rfl, rfl, trivial⟩, rfl, ?_⟩
  refine ⟨rfl, ?_⟩
  refine ⟨fun ho => ?_, fun ho => ?_⟩
  · have e := hC0 ho
    exact ⟨_, _, _, Le.refl _ _, rfl, ⟨congrArg Prod.fst e.symm, congrArg Prod.snd e.symm, trivial⟩, ⟨rfl, rfl, rfl, rfl, rfl, trivial⟩, rfl⟩
  have ho : over = false := ho
  refine ⟨fun _ _ => ?_, fun h => by cases h⟩
  refine ⟨fun hi => ?_, fun hi => ?_⟩
  · have hi : ri = false := by
      have hi : (!ri) = true := hi
      simpa using hi
    have e := hC1 ho hi
    exact ⟨_, _, _, Le.refl _ _, rfl, ⟨congrArg Prod.fst e.symm, congrArg Prod.snd e.symm, trivial⟩, ⟨rfl, rfl, rfl, rfl, rfl, trivial⟩, rfl⟩
  have hi : ri = true := by
    have hi : (!ri) = false := hi
    simpa using hi
  show TrQ _ _ _ _ _ _ _
  refine TrQ.go tblOK (drawOK tblOK) [] (by kernel_rfl) (Le.sub (K' := [(1, vP 1), (4, vAd d.am), (5, vL .str rl)]) (B' := pnB bits room L top base over) ⟨rfl, rfl, rfl, trivial⟩ ⟨rfl, rfl, rfl, rfl, rfl, rfl, trivial⟩) ?_
  refine ⟨_, _, _, _, imFn (isize_fn d.im) hLm rfl rfl rfl rfl, ⟨rfl, trivial⟩, rfl, ?_⟩
  show TrQ _ _ _ _ _ _ _
  refine TrQ.loop tblOK (drawOK tblOK) [16] (by kernel_rfl) (X := Nat) (pnK rl d.im.t.length) (fun _ => pnB bits room L top base over) (fun k => k ≤ d.im.t.length ∧ ∀ j, j < k → pnxP L top base j = false) (fun k => d.im.t.length - k) 0 ⟨Nat.zero_le _, fun j hj => absurd hj (Nat.not_lt_zero j)⟩ ?_ ?_
  · exact Le.sub ⟨rfl, rfl, rfl, rfl, rfl, trivial⟩ ⟨rfl, rfl, rfl, rfl, rfl, rfl, trivial⟩
  rintro k ⟨hk, hno⟩
  have hk : k ≤ d.im.t.length := hk
  refine ⟨fun hc => ?_, fun hc => ?_⟩
  · have hc : decide ((k : Int) < ((d.im.t.length : Nat) : Int)) = true := hc
    have hk1 : k < d.im.t.length := by have := of_decide_eq_true hc; omega
    show TrQ _ _ _ _ _ _ _
    refine TrQ.loop tblOK (drawOK tblOK) [12,16] (by kernel_rfl) (X := Nat) (pnK2 rl d.im.t.length k) (fun _ => pnB bits room L top base over) (fun i => i ≤ rl.length ∧ (hol L top k && (rl.take i).any fun n => !hol L n k) = false) (fun i => rl.length - i) 0 ⟨Nat.zero_le _, Bool.and_false _⟩ ?_ ?_
    · exact Le.sub ⟨rfl, rfl, rfl, rfl, rfl, rfl, rfl, rfl, rfl, trivial⟩ ⟨rfl, rfl, rfl, rfl, rfl, rfl, trivial⟩
    rintro i ⟨hi1, hi2⟩
    have hi1 : i ≤ rl.length := hi1
    refine ⟨fun hc => ?_, fun hc => ?_⟩
    · have hc : decide ((i : Int) < ((rl.length : Nat) : Int)) = true := hc
      have hi3 : i < rl.length := by have := of_decide_eq_true hc; omega
      have hh := hhn _ (List.getElem_mem hi3) k
      have hat := fun (a : (rl.take i).any (fun n => !hol L n k) = false) (b : (!hol L rl[i] k) = false) => any_take (fun n => !hol L n k) hi3 a b
      have hmem := List.getElem_mem hi3
      have hget := lgAt (n := i) hi3
      generalize rl[i] = nm at *
      refine ⟨by omega, nm, hget, ?_⟩
      show TrQ _ _ _ _ _ _ _
      refine TrQ.go tblOK (drawOK tblOK) [16] (by kernel_rfl) (Le.sub (K' := [(1, vP 1), (5, vL .str rl), (7, .c (.one (.clo 32 [.p 1 0]))), (50, vI (d.im.t.length : Nat)), (51, vI (k : Int)), (8, vI (k : Int)), (54, vL .str rl), (55, vI (rl.length : Nat)), (56, vI (i : Int)), (10, vS nm)]) (B' := pnB bits room L top base over) ⟨rfl, rfl, rfl, rfl, rfl, rfl, rfl, rfl, rfl, rfl, trivial⟩ ⟨rfl, rfl, rfl, rfl, rfl, rfl, trivial⟩) ?_
      refine ⟨_, _, _, _, Fn.ren [(3001, 1)] (hht k), ⟨rfl, rfl, rfl, rfl, rfl, rfl, trivial⟩, rfl, ?_⟩
      refine ⟨fun g1 => ?_, fun g1 => ?_⟩
      · have g1 : hol L top k = true := g1
        refine ⟨_, _, _, _, Fn.ren [(3001, 1)] hh, ⟨rfl, rfl, rfl, rfl, rfl, rfl, trivial⟩, rfl, ?_⟩
        refine ⟨fun g2 => ?_, fun g2 => ?_⟩
        · have g2 : (!hol L nm k) = true := g2
          have hpk : pnxP L top base k = true := by
            rw [hP, g1, Bool.true_and, List.any_eq_true]
            exact ⟨nm, hmem, g2⟩
          have e := hC2 ho hi k hk1 hpk hno
          exact ⟨_, _, _, Le.refl _ _, rfl, ⟨congrArg Prod.fst e.symm, congrArg Prod.snd e.symm, trivial⟩, ⟨rfl, rfl, rfl, rfl, rfl, trivial⟩, rfl⟩
        · have g2 : (!hol L nm k) = false := g2
          rw [g1, Bool.true_and] at hi2
          exact ⟨by omega, i + 1, ⟨hi3, by rw [g1, Bool.true_and]; exact hat hi2 g2⟩, by omega, Le.sub ⟨rfl, rfl, rfl, rfl, rfl, rfl, rfl, rfl, rfl, trivial⟩ ⟨rfl, rfl, rfl, rfl, rfl, rfl, trivial⟩⟩
      · have g1 : hol L top k = false := g1
        exact ⟨by omega, i + 1, ⟨hi3, by rw [g1]; rfl⟩, by omega, Le.sub ⟨rfl, rfl, rfl, rfl, rfl, rfl, rfl, rfl, rfl, trivial⟩ ⟨rfl, rfl, rfl, rfl, rfl, rfl, trivial⟩⟩
    · have hc : decide ((i : Int) < ((rl.length : Nat) : Int)) = false := hc
      have hi3 : i = rl.length := by have := of_decide_eq_false hc; omega
      have hpk : pnxP L top base k = false := by
        rw [hP, ← hi2, hi3, List.take_length]
      exact ⟨by omega, k + 1, ⟨hk1, fun j hj => by
        rcases Nat.lt_or_ge j k with hh | hh
        · exact hno j hh
        · rw [show j = k by omega]
          exact hpk⟩, by omega, Le.sub ⟨rfl, rfl, rfl, rfl, rfl, trivial⟩ ⟨rfl, rfl, rfl, rfl, rfl, rfl, trivial⟩⟩
  · have hc : decide ((k : Int) < ((d.im.t.length : Nat) : Int)) = false := hc
    have hk2 : k = d.im.t.length := by have := of_decide_eq_false hc; omega
    have e := hC3 ho fun j hj => hno j (by omega)
    exact ⟨_, _, _, Le.refl _ _, rfl, ⟨congrArg Prod.fst e.symm, congrArg Prod.snd e.symm, trivial⟩, ⟨rfl, rfl, rfl, rfl, rfl, trivial⟩, rfl⟩
/-! ### Step -/
theorem pstep_fn (h : CS bits room L) (base : List UInt8) (over : Bool) {d : Dsk} (hd : dk L top = some d) : Fn Try.prog 16 [vP 2001] (pjB1 bits room L top base over) [] (.tup [.one (.d (.bool (pstep bits L top base over).done)), vErr (pstep bits L top base over).e]) (pjB1 bits room (pstep bits L top base over).L top base (pstep bits L top base over).over) := by
  have hnx := pnext_fn h base over hd
  have htl := (h.ims d (dk_get hd).1).1.tl
  have hLm := h.toChN.M (dk_get hd).1
  have hbt : d.im.bits = bits := (h.ims d (dk_get hd).1).2.1
  have hb3 := h.b3
  have hp := pow_le8 h.b3
  cases over with
  | true =>
    have e : pstep bits L top base true = ⟨false, 160, L, true⟩ := rfl
    rw [e]
    refine Fn.of tblOK [] _ _ _ _ _ Try.func16 rfl rfl (by kernel_rfl) (by kernel_rfl) rfl (drawOK tblOK) rfl ?_
    refine ⟨_, _, _, _, image_fn _ _ L h.toChN top d hd, ⟨rfl, rfl, rfl, rfl, trivial⟩, rfl, ?_⟩
    refine ⟨rfl, ?_⟩
    refine ⟨fun _ => ?_, fun h => absurd h (by decide)⟩
    exact ⟨_, _, _, Le.refl _ _, rfl, ⟨rfl, rfl, trivial⟩, ⟨rfl, rfl, rfl, rfl, rfl, trivial⟩, rfl⟩
  | false =>
    have e0 : pstep bits L top base false = match pnx L top base with
      | some k => ⟨false, (wrC bits L top ((k * 2 ^ bits : Nat) : Int) (clC bits L top (k : Int))).e, (wrC bits L top ((k * 2 ^ bits : Nat) : Int) (clC bits L top (k : Int))).L, false⟩
      | none => ⟨decide ((rbC L top base).e = 0), (rbC L top base).e, (rbC L top base).L, decide ((rbC L top base).e = 0)⟩ := by
      unfold pstep
      rw [hd]
      rfl
    cases hn : pnx L top base with
    | some k =>
      rw [hn] at e0
      have e0 : pstep bits L top base false = ⟨false, (wrC bits L top ((k * 2 ^ bits : Nat) : Int) (clC bits L top (k : Int))).e, (wrC bits L top ((k * 2 ^ bits : Nat) : Int) (clC bits L top (k : Int))).L, false⟩ := e0
      rw [e0]
      have hc : pnC L top base false = ((k : Int), true) := by
        unfold pnC
        rw [hn]
        rfl
      rw [hc] at hnx
      have hk : k < d.im.t.length := by
        have := (pnx_some hn).2.1
        unfold szOf at this
        rw [hd] at this
        exact this
      have esh : (k : Int) * ((2 ^ ((d.im.bits : Nat) : Int).toNat : Nat) : Int) = ((k * 2 ^ bits : Nat) : Int) := by
        rw [hbt]
        show (k : Int) * ((2 ^ bits : Nat) : Int) = _
        rw [Int.natCast_mul]
      have hcl := chcluster_fn h top (k : Int)
      have hlen : (clC bits L top (k : Int)).length ≤ 1000000000 := by
        have : clC bits L top (k : Int) = cseen bits L top (dpt L top) k := by
          unfold clC
          rw [hd]
          simp only
          rw [if_pos ⟨by omega, by omega⟩]
          rfl
        rw [this, cseen_len h.toChOK hd (h.dep top).1 k]
        omega
      have hwr := chwrite_fn h top ((k * 2 ^ bits : Nat) : Int) (clC bits L top (k : Int)) hlen
      rw [← esh] at hwr ⊢
      generalize clC bits L top (k : Int) = x at *
      generalize wrC bits L top ((k : Int) * ((2 ^ ((d.im.bits : Nat) : Int).toNat : Nat) : Int)) x = rw_ at *
      have m1 : (0 : Int) ≤ (k : Int) ∧ (0 : Int) ≤ ((d.im.bits : Nat) : Int) ∧ ((d.im.bits : Nat) : Int) ≤ 64 := by omega
      have mk : k * 2 ^ bits ≤ 256 * 8 := Nat.mul_le_mul (by omega) hp.2
      have m2 : (-9223372036854775808 : Int) ≤ (k : Int) * ((2 ^ ((d.im.bits : Nat) : Int).toNat : Nat) : Int) ∧ (k : Int) * ((2 ^ ((d.im.bits : Nat) : Int).toNat : Nat) : Int) ≤ 9223372036854775807 := by rw [esh]; omega
      refine Fn.of tblOK [6] _ _ _ _ _ Try.func16 rfl rfl (by kernel_rfl) (by kernel_rfl) rfl (drawOK tblOK) rfl ?_
      refine ⟨_, _, _, _, image_fn _ _ L h.toChN top d hd, ⟨rfl, rfl, rfl, rfl, trivial⟩, rfl, ?_⟩
      refine ⟨rfl, ?_⟩
      refine ⟨fun h => absurd h (by decide), fun _ => ?_⟩
      refine ⟨fun _ _ => ?_, fun h => by cases h⟩
      refine ⟨_, _, _, _, hnx, ⟨rfl, rfl, rfl, rfl, rfl, trivial⟩, rfl, ?_⟩
      refine ⟨fun _ => ?_, fun h => absurd (show true = false from h) (by decide)⟩
      show TrQ _ _ _ _ _ _ _
      refine TrQ.go tblOK (drawOK tblOK) [] (by kernel_rfl) (Le.sub (K' := [(0, vP 2001), (4, vAd d.am), (5, vI (k : Int))]) (B' := pjB1 bits room L top base false) ⟨rfl, rfl, rfl, trivial⟩ ⟨rfl, rfl, rfl, rfl, rfl, trivial⟩) ?_
      refine ⟨_, _, _, _, imFn (ibits_fn d.im) hLm rfl rfl rfl rfl, ⟨rfl, trivial⟩, rfl, ?_⟩
      refine ⟨m1, m2, ?_⟩
      refine ⟨_, _, _, _, hcl, ⟨rfl, rfl, rfl, rfl, trivial⟩, rfl, ?_⟩
      refine ⟨_, _, _, _, hwr, ⟨rfl, rfl, rfl, rfl, trivial⟩, rfl, ?_⟩
      refine ⟨rfl, ?_⟩
      exact ⟨_, _, _, Le.refl _ _, rfl, ⟨rfl, rfl, trivial⟩, ⟨rfl, rfl, rfl, rfl, rfl, trivial⟩, rfl⟩
    | none =>
      rw [hn] at e0
      have e0 : pstep bits L top base false = ⟨decide ((rbC L top base).e = 0), (rbC L top base).e, (rbC L top base).L, decide ((rbC L top base).e = 0)⟩ := e0
      rw [e0]
      have hc : pnC L top base false = (0, false) := by
        unfold pnC
        rw [hn]
        rfl
      rw [hc] at hnx
      have hrb := chrebase_fn h top base
      generalize rbC L top base = rb at *
      refine Fn.of tblOK [7] _ _ _ _ _ Try.func16 rfl rfl (by kernel_rfl) (by kernel_rfl) rfl (drawOK tblOK) rfl ?_
      refine ⟨_, _, _, _, image_fn _ _ L h.toChN top d hd, ⟨rfl, rfl, rfl, rfl, trivial⟩, rfl, ?_⟩
      refine ⟨rfl, ?_⟩
      refine ⟨fun h => absurd h (by decide), fun _ => ?_⟩
      refine ⟨fun _ _ => ?_, fun h => by cases h⟩
      refine ⟨_, _, _, _, hnx, ⟨rfl, rfl, rfl, rfl, rfl, trivial⟩, rfl, ?_⟩
      refine ⟨fun h => absurd h (by decide), fun _ => ?_⟩
      show TrQ _ _ _ _ _ _ _
      refine TrQ.go tblOK (drawOK tblOK) [] (by kernel_rfl) (Le.sub (K' := [(0, vP 2001)]) (B' := pjB1 bits room L top base false) ⟨rfl, trivial⟩ ⟨rfl, rfl, rfl, rfl, rfl, trivial⟩) ?_
      refine ⟨_, _, _, _, hrb, ⟨rfl, rfl, rfl, rfl, trivial⟩, rfl, ?_⟩
      refine ⟨rfl, ?_⟩
      exact ⟨_, _, _, Le.refl _ _, rfl, ⟨rfl, rfl, trivial⟩, ⟨rfl, rfl, rfl, rfl, rfl, trivial⟩, rfl⟩
end
end Go.Proofs.Ytaciecbbiplgiaa
