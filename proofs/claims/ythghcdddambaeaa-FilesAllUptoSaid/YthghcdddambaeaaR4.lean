/-
  The document's store (layer 3): Sector, Used, inside, Read, New.
-/
import Derived.Test.YthghcdddambaeaaSt8
import Derived.Test.YthghcdddambaeaaFi
set_option linter.unusedVariables false
set_option linter.unusedSimpArgs false
set_option maxRecDepth 10000
namespace Go.Proofs.Ythghcdddambaeaa
open Go.RowKit Go.Proofs
@[reducible] def uRW : U := .pr uI .str
@[reducible] def uRS : U := .pr uI (.pr uI (.pr (.sl uRW) uI))
abbrev RW := El uRW
abbrev RSt := El uRS
@[reducible] def wAt (w : RW) : Int := w.1
@[reducible] def wX (w : RW) : List UInt8 := w.2
@[reducible] def mkRW (a : Int) (x : List UInt8) : RW := (a, x)
@[reducible] def rN (r : RSt) : Int := r.1
@[reducible] def rRoom (r : RSt) : Int := r.2.1
@[reducible] def rL (r : RSt) : List RW := r.2.2.1
@[reducible] def rSafe (r : RSt) : Int := r.2.2.2
@[reducible] def mkRS (n room : Int) (l : List RW) (s : Int) : RSt := (n, room, l, s)
@[reducible] def rsL (r : RSt) : List S1 := [.d (.int .i64 (rN r)), .d (.int .i64 (rRoom r)), .d (.lst uRW (rL r)), .d (.int .i64 (rSafe r))]
@[reducible] def rsV (r : RSt) : SV := .c (.agg (rsL r))
def zero16 : List UInt8 := List.replicate 16 0
/-- What was written last of a sector. -/
def lastW : List RW → Int → Option (List UInt8)
  | [], _ => none
  | w :: l, a => match lastW l a with
    | some x => some x
    | none => if wAt w = a then some (wX w) else none
theorem lastW_none {a : Int} : ∀ {l : List RW}, (∀ w ∈ l, wAt w ≠ a) → lastW l a = none
  | [], _ => rfl
  | w :: l, h => by
    unfold lastW
    rw [lastW_none fun v hv => h v (List.mem_cons_of_mem _ hv)]
    exact if_neg (h w (List.mem_cons_self ..))
theorem lastW_append (l m : List RW) (a : Int) : lastW (l ++ m) a = match lastW m a with
    | some x => some x
    | none => lastW l a := by
  induction l with
  | nil => show lastW m a = _; cases lastW m a <;> rfl
  | cons w l ih =>
    rw [List.cons_append, lastW, ih, lastW]
    cases lastW m a <;> rfl
theorem lastW_snoc (l : List RW) (w : RW) (a : Int) : lastW (l ++ [w]) a = if wAt w = a then some (wX w) else lastW l a := by
  rw [lastW_append]
  unfold lastW
  by_cases h : wAt w = a
  · simp [lastW, h]
  · simp [lastW, h]
theorem lastW_at {l : List RW} {a : Int} {i : Nat} (hi : i < l.length) (ha : wAt l[i] = a) (h : ∀ (j : Nat) w, i < j → l[j]? = some w → wAt w ≠ a) : lastW l a = some (wX l[i]) := by
  have e : lastW l a = lastW (l.take (i + 1) ++ l.drop (i + 1)) a := by rw [List.take_append_drop]
  rw [e, lastW_append, lastW_none (l := l.drop (i + 1))]
  · simp only
    rw [List.take_succ_eq_append_getElem hi, lastW_snoc, if_pos ha]
  · intro w hw
    obtain ⟨j, hj, rfl⟩ := List.getElem_of_mem hw
    rw [List.length_drop] at hj
    rw [List.getElem_drop]
    exact h (i + 1 + j) _ (by omega) (List.getElem?_eq_getElem (by omega))
@[reducible] def scK (a : Int) (j : Nat) : KL := [(1, vI a), (2, vP 2), (6, vI ((j : Int) - 1))]
theorem rsector_fn (r : RSt) (a : Int) (hl : (rL r).length ≤ 1073741824) : Fn Try.prog 130 [rsV r, vI a] [] [] (.tup [.one (.d (.str ((lastW (rL r) a).getD zero16))), .one (.d (.bool (lastW (rL r) a).isSome))]) [] := by
  refine Fn.of tblOK [] _ _ _ _ _ Try.func130 rfl rfl (by kernel_rfl) (by kernel_rfl) rfl (drawOK tblOK) rfl ?_
  refine ⟨rfl, ?_⟩
  refine ⟨by omega, ?_⟩
  show TrQ _ _ _ _ _ _ _
  refine TrQ.loop tblOK (drawOK tblOK) [] (by kernel_rfl) (X := Nat) (scK a) (fun _ => [(2, .cells (rsL r))]) (fun j => j ≤ (rL r).length ∧ ∀ (i : Nat) w, j ≤ i → (rL r)[i]? = some w → wAt w ≠ a) (fun j => j) (rL r).length ⟨Nat.le_refl _, fun i w hi hw => (by rw [List.getElem?_eq_none hi] at hw; cases hw)⟩ ?_ ?_
  · exact Le.sub ⟨rfl, rfl, rfl, trivial⟩ ⟨rfl, trivial⟩
  rintro j ⟨hj, hp⟩
  refine ⟨fun h => ?_, fun h => ?_⟩
  · have h : 0 ≤ (j : Int) - 1 := of_decide_eq_true h
    have hj1 : j - 1 < (rL r).length := by omega
    have ej : ((j : Int) - 1).toNat = j - 1 := by omega
    refine ⟨h, (rL r)[j - 1], (by rw [ej]; exact lgAt (n := j - 1) hj1), ?_⟩
    refine ⟨fun h2 => ?_, fun h2 => ?_⟩
    · have h2 : wAt (rL r)[j - 1] = a := of_decide_eq_true h2
      have e := lastW_at hj1 h2 fun i w hi hw => hp i w (by omega) hw
      refine ⟨h, (rL r)[j - 1], (by rw [ej]; exact lgAt (n := j - 1) hj1), ?_⟩
      rw [e]
      exact ⟨_, _, _, Le.refl _ _, rfl, ⟨rfl, rfl, trivial⟩, trivial, rfl⟩
    · have h2 : wAt (rL r)[j - 1] ≠ a := of_decide_eq_false h2
      refine ⟨by omega, j - 1, ⟨by omega, fun i w hi hw => ?_⟩, by omega, Le.sub ⟨rfl, rfl, ?_, trivial⟩ ⟨rfl, trivial⟩⟩
      · rcases Nat.lt_or_ge i j with h4 | h4
        · have : i = j - 1 := by omega
          subst this
          rw [List.getElem?_eq_getElem hj1] at hw
          injection hw with hw
          rw [← hw]; exact h2
        · exact hp i w h4 hw
      · show (j : Int) - 1 - 1 = ((j - 1 : Nat) : Int) - 1
        omega
  · have h : ¬ 0 ≤ (j : Int) - 1 := of_decide_eq_false h
    have e := lastW_none (l := rL r) (a := a) fun w hw => by
      obtain ⟨i, hi, rfl⟩ := List.getElem_of_mem hw
      exact hp i _ (by omega) (List.getElem?_eq_getElem hi)
    refine ⟨⟨rfl, by decide, by decide⟩, rfl, ?_⟩
    rw [e]
    exact ⟨_, _, _, Le.refl _ _, rfl, ⟨rfl, rfl, trivial⟩, trivial, rfl⟩
/-- How many sectors were written. -/
def usedTo (l : List RW) : Nat → Nat
  | 0 => 0
  | k + 1 => match (lastW l (k : Nat)).isSome with
    | true => usedTo l k + 1
    | false => usedTo l k
theorem usedTo_le (l : List RW) : ∀ k, usedTo l k ≤ k
  | 0 => Nat.le_refl _
  | k + 1 => by
    have := usedTo_le l k
    unfold usedTo
    split <;> omega
@[reducible] def uuK (n k : Nat) : KL := [(1, vP 1), (3, vI (n : Nat)), (4, vI (k : Nat))]
theorem rused_fn (r : RSt) (hl : (rL r).length ≤ 1073741824) (h0 : 0 ≤ rN r) (h1 : rN r ≤ 4096) : Fn Try.prog 143 [rsV r] [] [] (vI (usedTo (rL r) (rN r).toNat : Nat)) [] := by
  refine Fn.of tblOK [] _ _ _ _ _ Try.func143 rfl rfl (by kernel_rfl) (by kernel_rfl) rfl (drawOK tblOK) rfl ?_
  refine ⟨rfl, ?_⟩
  show TrQ _ _ _ _ _ _ _
  refine TrQ.loop tblOK (drawOK tblOK) [] (by kernel_rfl) (X := Nat) (fun k => uuK (usedTo (rL r) k) k) (fun _ => [(1, .cells (rsL r))]) (fun k => (k : Int) ≤ rN r) (fun k => (rN r).toNat - k) 0 h0 ?_ ?_
  · exact Le.sub ⟨rfl, rfl, rfl, trivial⟩ ⟨rfl, trivial⟩
  intro k hk
  have hu := usedTo_le (rL r) k
  refine ⟨fun h => ?_, fun h => ?_⟩
  · have h : (k : Int) < rN r := of_decide_eq_true h
    refine ⟨_, _, _, _, rsector_fn r (k : Nat) hl, trivial, rfl, ?_⟩
    have e : usedTo (rL r) (k + 1) = match (lastW (rL r) (k : Nat)).isSome with
        | true => usedTo (rL r) k + 1
        | false => usedTo (rL r) k := rfl
    refine ⟨fun h2 => ?_, fun h2 => ?_⟩
    · rw [h2] at e
      have e : usedTo (rL r) (k + 1) = usedTo (rL r) k + 1 := e
      refine ⟨by omega, ?_⟩
      refine ⟨by omega, k + 1, by omega, by omega, Le.sub ⟨rfl, ?_, rfl, trivial⟩ ⟨rfl, trivial⟩⟩
      show (usedTo (rL r) k : Int) + 1 = _
      rw [e]
      omega
    · rw [h2] at e
      have e : usedTo (rL r) (k + 1) = usedTo (rL r) k := e
      refine ⟨by omega, k + 1, by omega, by omega, Le.sub ⟨rfl, ?_, rfl, trivial⟩ ⟨rfl, trivial⟩⟩
      show (usedTo (rL r) k : Int) = _
      rw [e]
  · have h : k = (rN r).toNat := by have : ¬ (k : Int) < rN r := of_decide_eq_false h; omega
    subst h
    exact ⟨_, _, _, Le.refl _ _, rfl, rfl, trivial, rfl⟩
def insideR (n a long : Int) : Bool := decide (0 ≤ a) && decide (a ≤ n) && decide (long ≤ n - a)
theorem rinside_fn (r : RSt) (a long : Int) (h0 : 0 ≤ rN r) (h1 : rN r ≤ 4096) : Fn Try.prog 129 [rsV r, vI a, vI long] [] [] (vB (insideR (rN r) a long)) [] := by
  refine Fn.of tblOK [] _ _ _ _ _ Try.func129 rfl rfl (by kernel_rfl) (by kernel_rfl) rfl (drawOK tblOK) rfl ?_
  refine ⟨rfl, ?_⟩
  refine ⟨fun h => ?_, fun h => ?_⟩
  · have h : decide (0 ≤ a) = true := h
    refine ⟨fun h3 => ?_, fun h3 => ?_⟩
    · have h3 : decide (a ≤ rN r) = true := h3
      have h4 := of_decide_eq_true h3
      have h5 := of_decide_eq_true h
      refine ⟨by omega, ?_⟩
      exact ⟨_, _, _, Le.refl _ _, rfl, (show decide (long ≤ rN r - a) = insideR (rN r) a long by rw [insideR, h, h3]; rfl), trivial, rfl⟩
    · have h3 : decide (a ≤ rN r) = false := h3
      exact ⟨_, _, _, Le.refl _ _, rfl, (show false = insideR (rN r) a long by rw [insideR, h, h3]; rfl), trivial, rfl⟩
  · have h : decide (0 ≤ a) = false := h
    exact ⟨_, _, _, Le.refl _ _, rfl, (show false = insideR (rN r) a long by rw [insideR, h]; rfl), trivial, rfl⟩
def secR (l : List RW) (a : Int) : List UInt8 := (lastW l a).getD zero16
def readR (l : List RW) (a : Int) (k : Nat) : List UInt8 := (List.range k).flatMap fun i => secR l (a + (i : Nat))
def WfR (l : List RW) : Prop := ∀ w ∈ l, (wX w).length = 16
theorem lastW_mem {l : List RW} {a : Int} {x : List UInt8} : lastW l a = some x → ∃ w ∈ l, wX w = x ∧ wAt w = a := by
  induction l with
  | nil => intro h; cases h
  | cons w l ih =>
    intro h
    unfold lastW at h
    split at h
    · rename_i y e
      injection h with h
      subst h
      obtain ⟨v, hv, e1⟩ := ih e
      exact ⟨v, List.mem_cons_of_mem _ hv, e1⟩
    · split at h
      · rename_i e
        injection h with h
        exact ⟨w, List.mem_cons_self .., h, e⟩
      · cases h
theorem secR_len {l : List RW} (h : WfR l) (a : Int) : (secR l a).length = 16 := by
  unfold secR
  cases e : lastW l a with
  | none => rfl
  | some x =>
    obtain ⟨w, hw, e1, _⟩ := lastW_mem e
    show x.length = 16
    rw [← e1]
    exact h w hw
theorem readR_snoc (l : List RW) (a : Int) (k : Nat) : readR l a (k + 1) = readR l a k ++ secR l (a + (k : Nat)) := by
  unfold readR
  rw [List.range_succ, List.flatMap_append]
  simp
theorem readR_length {l : List RW} (h : WfR l) (a : Int) : ∀ k, (readR l a k).length = 16 * k
  | 0 => rfl
  | k + 1 => by
    rw [readR_snoc, List.length_append, readR_length h a k, secR_len h]
    omega
def readO (r : RSt) (a long : Int) : List UInt8 × Int := if long < 0 then ([], 1) else match insideR (rN r) a long with
  | false => ([], 31)
  | true => (readR (rL r) a long.toNat, 0)
@[reducible] def rrK (a long : Int) (x : List UInt8) (k : Nat) : KL := [(1, vI a), (2, vI long), (3, vP 3), (8, vS x), (9, vI (k : Nat))]
theorem rread_fn (r : RSt) (a long : Int) (hl : (rL r).length ≤ 1073741824) (h0 : 0 ≤ rN r) (h1 : rN r ≤ 4096) (hw : WfR (rL r)) : Fn Try.prog 101 [rsV r, vI a, vI long] [] [] (.tup [.one (.d (.str (readO r a long).1)), vErr (readO r a long).2]) [] := by
  unfold readO
  refine Fn.of tblOK [] _ _ _ _ _ Try.func101 rfl rfl (by kernel_rfl) (by kernel_rfl) rfl (drawOK tblOK) rfl ?_
  refine ⟨rfl, ?_⟩
  refine ⟨fun h => ?_, fun h => ?_⟩
  · have h : long < 0 := of_decide_eq_true h
    rw [if_pos h]
    exact ⟨_, _, _, Le.refl _ _, rfl, ⟨rfl, rfl, trivial⟩, trivial, rfl⟩
  have h : ¬ long < 0 := of_decide_eq_false h
  rw [if_neg h]
  refine ⟨_, _, _, _, rinside_fn r a long h0 h1, trivial, rfl, ?_⟩
  cases hi : insideR (rN r) a long with
  | false =>
    refine ⟨fun _ => ?_, fun h => absurd h (by decide)⟩
    exact ⟨_, _, _, Le.refl _ _, rfl, ⟨rfl, rfl, trivial⟩, trivial, rfl⟩
  | true =>
    refine ⟨fun h => absurd h (by decide), fun _ => ?_⟩
    simp only [insideR, Bool.and_eq_true, decide_eq_true_eq] at hi
    obtain ⟨⟨i1, i2⟩, i3⟩ := hi
    show TrQ _ _ _ _ _ _ _
    refine TrQ.loop tblOK (drawOK tblOK) [] (by kernel_rfl) (X := Nat) (fun k => rrK a long (readR (rL r) a k) k) (fun _ => [(3, .cells (rsL r))]) (fun k => (k : Int) ≤ long) (fun k => long.toNat - k) 0 (by omega) ?_ ?_
    · exact Le.sub ⟨rfl, rfl, rfl, rfl, rfl, trivial⟩ ⟨rfl, trivial⟩
    intro k hk
    refine ⟨fun hc => ?_, fun hc => ?_⟩
    · have hk1 : (k : Int) < long := of_decide_eq_true hc
      have e1 := readR_length hw a k
      have e2 := secR_len hw (a + (k : Nat))
      refine ⟨by omega, ?_⟩
      refine ⟨_, _, _, _, rsector_fn r (a + (k : Nat)) hl, trivial, rfl, ?_⟩
      have e3 : (readR (rL r) a k).length + (secR (rL r) (a + (k : Nat))).length ≤ 4294967296 := by omega
      refine ⟨e3, ?_⟩
      refine ⟨by omega, k + 1, by omega, by omega, Le.sub ⟨rfl, rfl, rfl, ?_, rfl, trivial⟩ ⟨rfl, trivial⟩⟩
      rw [readR_snoc]
      rfl
    · have hk1 : k = long.toNat := by
        have : ¬ (k : Int) < long := of_decide_eq_false hc
        omega
      subst hk1
      exact ⟨_, _, _, Le.refl _ _, rfl, ⟨rfl, rfl, trivial⟩, trivial, rfl⟩
theorem rnew_fn (n room : Int) : Fn Try.prog 125 [vI n, vI room] [] [] (.tup [.agg (rsL (mkRS n room [] 0)), .one (.d (.bool (srightN n && decide (0 ≤ room))))]) [] := by
  refine Fn.of tblOK [] _ _ _ _ _ Try.func125 rfl rfl (by kernel_rfl) (by kernel_rfl) rfl (drawOK tblOK) rfl ?_
  refine ⟨rfl, ?_⟩
  refine ⟨fun h => ?_, fun h => ?_⟩
  · have h : decide (0 ≤ n) = true := h
    refine ⟨fun h2 => ?_, fun h2 => ?_⟩
    · have h2 : decide (n ≤ 4096) = true := h2
      exact ⟨_, _, _, Le.refl _ _, rfl, ⟨⟨rfl, rfl, rfl, rfl, trivial⟩, (show decide (0 ≤ room) = (srightN n && decide (0 ≤ room)) by rw [srightN, h, h2]; rfl), trivial⟩, trivial, rfl⟩
    · have h2 : decide (n ≤ 4096) = false := h2
      exact ⟨_, _, _, Le.refl _ _, rfl, ⟨⟨rfl, rfl, rfl, rfl, trivial⟩, (show false = (srightN n && decide (0 ≤ room)) by rw [srightN, h, h2]; rfl), trivial⟩, trivial, rfl⟩
  · have h : decide (0 ≤ n) = false := h
    exact ⟨_, _, _, Le.refl _ _, rfl, ⟨⟨rfl, rfl, rfl, rfl, trivial⟩, (show false = (srightN n && decide (0 ≤ room)) by rw [srightN, h]; rfl), trivial⟩, trivial, rfl⟩
/-! The document's store (layer 3): Crash, Resize, DoWrite, Do. -/
/-- Is the i-th write kept? -/
def keptR (s : Int) (keep : List Int) (i : Nat) : Bool := decide ((i : Int) < s) || (keep.contains ((i : Int) - s) && decide (s ≤ (i : Int)))
def crR (s : Int) (keep : List Int) : Nat → List RW → List RW
  | _, [] => []
  | i, w :: l => match keptR s keep i with
    | true => w :: crR s keep (i + 1) l
    | false => crR s keep (i + 1) l
theorem crR_snoc (s : Int) (keep : List Int) (w : RW) : ∀ (l : List RW) (i : Nat), crR s keep i (l ++ [w]) = match keptR s keep (i + l.length) with
    | true => crR s keep i l ++ [w]
    | false => crR s keep i l
  | [], i => by
    show crR s keep i [w] = _
    unfold crR
    rw [List.length_nil, Nat.add_zero]
    cases keptR s keep i <;> rfl
  | v :: l, i => by
    rw [List.cons_append, crR, crR_snoc s keep w l (i + 1), crR]
    rw [show i + 1 + l.length = i + (v :: l).length by simp; omega]
    cases keptR s keep (i + (v :: l).length) <;> cases keptR s keep i <;> rfl
theorem crR_len (s : Int) (keep : List Int) : ∀ (l : List RW) (i : Nat), (crR s keep i l).length ≤ l.length
  | [], _ => Nat.le_refl _
  | w :: l, i => by
    have := crR_len s keep l (i + 1)
    unfold crR
    split
    · simp only [List.length_cons]; omega
    · simp only [List.length_cons]; omega
theorem take_contains {l : List Int} {j : Nat} (h : j < l.length) (v : Int) : (l.take (j + 1)).contains v = ((l.take j).contains v || decide (l[j] = v)) := by
  rw [Bool.eq_iff_iff, Bool.or_eq_true, List.contains_iff_mem, List.contains_iff_mem, decide_eq_true_iff, List.take_succ_eq_append_getElem h, List.mem_append, List.mem_singleton]
  exact or_congr Iff.rfl eq_comm
def crashR (r : RSt) (keep : List Int) : RSt := mkRS (rN r) (rRoom r) (crR (rSafe r) keep 0 (rL r)) ((crR (rSafe r) keep 0 (rL r)).length : Nat)
@[reducible] def rcK (keep : List Int) (i d : Nat) : KL := [(1, vL uI keep), (2, vP 2), (4, vP 4), (5, vOwn d), (6, vI (i : Nat))]
@[reducible] def rcE (r : RSt) (d : Nat) (l : List RW) : BL := [(2, .cells (rsL r)), (4, .cells tbl.t166.zero), (d, .row 224 uRW l)]
@[reducible] def rcB (r : RSt) (keep : List Int) (i d : Nat) : BL := [(2, .cells (rsL r)), (4, .cells tbl.t166.zero), (d, .row 224 uRW (crR (rSafe r) keep 0 ((rL r).take i)))]
@[reducible] def rcK2 (keep : List Int) (i d j : Nat) (b : Bool) : KL := [(1, vL uI keep), (2, vP 2), (4, vP 4), (5, vOwn d), (6, vI (i : Nat)), (7, vB b), (8, vI (j : Nat))]
set_option maxHeartbeats 1000000 in
theorem rcrash_fn (r : RSt) (keep : List Int) (hl : (rL r).length ≤ 1073741824) (hk : keep.length ≤ 1073741824) (h0 : 0 ≤ rSafe r) (h1 : rSafe r ≤ 1073741824) : Fn Try.prog 126 [rsV r, vL uI keep] [] [] (.c (.agg (rsL (crashR r keep)))) [] := by
  refine Fn.of tblOK [13] _ _ _ _ _ Try.func126 rfl rfl (by kernel_rfl) (by kernel_rfl) rfl (drawOK tblOK) rfl ?_
  refine ⟨rfl, ?_⟩
  refine ⟨rfl, ?_⟩
  show TrQ _ _ _ _ _ _ _
  refine TrQ.loop tblOK (drawOK tblOK) [13] (by kernel_rfl) (X := Nat) (fun i => rcK keep i 2003) (fun i => rcB r keep i 2003) (fun i => i ≤ (rL r).length) (fun i => (rL r).length - i) 0 (Nat.zero_le _) ?_ ?_
  · exact Le.trans (Le.nil 5 2003 224 uRW rfl rfl) (Le.sub ⟨rfl, rfl, rfl, rfl, rfl, trivial⟩ ⟨rfl, rfl, rfl, trivial⟩)
  intro i hi
  refine ⟨fun h => ?_, fun h => ?_⟩
  · have h : decide ((i : Int) < ((rL r).length : Int)) = true := h
    have hi1 : i < (rL r).length := by simpa using h
    show TrQ _ _ _ _ _ _ _
    refine TrQ.loop tblOK (drawOK tblOK) [] (by kernel_rfl) (X := Nat) (fun j => rcK2 keep i 2003 j (decide ((i : Int) < rSafe r) || ((keep.take j).contains ((i : Int) - rSafe r) && decide (rSafe r ≤ (i : Int))))) (fun j => rcB r keep i 2003) (fun j => j ≤ keep.length) (fun j => keep.length - j) 0 (Nat.zero_le _) ?_ ?_
    · refine Le.sub ⟨rfl, rfl, rfl, rfl, rfl, ?_, rfl, trivial⟩ ⟨rfl, rfl, rfl, trivial⟩
      show decide ((i : Int) < rSafe r) = _
      simp
    intro j hj
    refine ⟨fun h2 => ?_, fun h2 => ?_⟩
    · have h2 : decide ((j : Int) < (keep.length : Int)) = true := h2
      have hj1 : j < keep.length := by simpa using h2
      have et := take_contains hj1 ((i : Int) - rSafe r)
      refine ⟨by omega, keep[j], lgAt (n := j) hj1, ?_⟩
      refine ⟨by omega, ?_⟩
      refine ⟨fun c1 => ?_, fun c1 => ?_⟩
      · have c1 : decide (keep[j] = (i : Int) - rSafe r) = true := c1
        refine ⟨rfl, fun c2 => ?_, fun c2 => ?_⟩
        · have c2 : decide (rSafe r ≤ (i : Int)) = true := c2
          refine ⟨by omega, j + 1, by omega, by omega, Le.sub ⟨rfl, rfl, rfl, rfl, rfl, ?_, rfl, trivial⟩ ⟨rfl, rfl, rfl, trivial⟩⟩
          show true = _
          rw [et, c1, c2]
          simp
        · have c2 : decide (rSafe r ≤ (i : Int)) = false := c2
          refine ⟨by omega, j + 1, by omega, by omega, Le.sub ⟨rfl, rfl, rfl, rfl, rfl, ?_, rfl, trivial⟩ ⟨rfl, rfl, rfl, trivial⟩⟩
          show (_ || _) = (_ || _)
          rw [c2, Bool.and_false, Bool.and_false]
      · have c1 : decide (keep[j] = (i : Int) - rSafe r) = false := c1
        refine ⟨rfl, ?_⟩
        refine ⟨by omega, j + 1, by omega, by omega, Le.sub ⟨rfl, rfl, rfl, rfl, rfl, ?_, rfl, trivial⟩ ⟨rfl, rfl, rfl, trivial⟩⟩
        show (_ || _) = (_ || _)
        rw [et, c1, Bool.or_false]
    · have h2 : decide ((j : Int) < (keep.length : Int)) = false := h2
      have hj1 : j = keep.length := by simp at h2; omega
      subst hj1
      rw [List.take_length]
      have hkp : (decide ((i : Int) < rSafe r) || (keep.contains ((i : Int) - rSafe r) && decide (rSafe r ≤ (i : Int)))) = keptR (rSafe r) keep i := rfl
      rw [hkp]
      have hcl := crR_len (rSafe r) keep ((rL r).take i) 0
      rw [List.length_take] at hcl
      have hsn : crR (rSafe r) keep 0 ((rL r).take (i + 1)) = match keptR (rSafe r) keep i with
          | true => crR (rSafe r) keep 0 ((rL r).take i) ++ [(rL r)[i]]
          | false => crR (rSafe r) keep 0 ((rL r).take i) := by
        rw [List.take_succ_eq_append_getElem hi1, crR_snoc, List.length_take, Nat.min_eq_left (by omega), Nat.zero_add]
      refine ⟨fun c3 => ?_, fun c3 => ?_⟩
      · rw [c3] at hsn
        have hsn : crR (rSafe r) keep 0 ((rL r).take (i + 1)) = crR (rSafe r) keep 0 ((rL r).take i) ++ [(rL r)[i]] := hsn
        refine ⟨by omega, (rL r)[i], lgAt (n := i) hi1, ?_⟩
        have hb : (crR (rSafe r) keep 0 ((rL r).take i)).length + 1 ≤ 4294967296 := by omega
        refine ⟨hb, rfl, ?_⟩
        refine ⟨by omega, i + 1, by omega, by omega, Le.trans (Le.sub (K' := rcK keep (i + 1) 49) (B' := rcB r keep (i + 1) 49) ⟨rfl, rfl, rfl, rfl, rfl, trivial⟩ ⟨rfl, rfl, ?_, trivial⟩) (Le.ren 49 2003 rfl)⟩
        rw [hsn]
        rfl
      · rw [c3] at hsn
        have hsn : crR (rSafe r) keep 0 ((rL r).take (i + 1)) = crR (rSafe r) keep 0 ((rL r).take i) := hsn
        refine ⟨by omega, i + 1, by omega, by omega, Le.sub ⟨rfl, rfl, rfl, rfl, rfl, trivial⟩ ⟨rfl, rfl, ?_, trivial⟩⟩
        rw [hsn]
        rfl
  · have h : decide ((i : Int) < ((rL r).length : Int)) = false := h
    have hi1 : i = (rL r).length := by simp at h; omega
    subst hi1
    show TrQ _ _ _ _ _ _ _
    refine TrQ.go tblOK (drawOK tblOK) [] (by kernel_rfl) (Le.trans (Le.sub (K' := rcK keep (rL r).length 2003) (B' := rcE r 2003 (crR (rSafe r) keep 0 (rL r))) ⟨rfl, rfl, rfl, rfl, rfl, trivial⟩ ⟨rfl, rfl, congrArg (fun l => some (Ch.row 224 uRW (crR (rSafe r) keep 0 l))) List.take_length, trivial⟩) (Le.frz 2003 rfl)) ?_
    exact ⟨_, _, _, Le.refl _ _, rfl, ⟨rfl, rfl, rfl, rfl, trivial⟩, trivial, rfl⟩
def resizeR (r : RSt) (n : Int) : RSt := mkRS n (rRoom r) ((rL r).filter fun w => decide (wAt w < n)) (((rL r).filter fun w => decide (wAt w < n)).length : Nat)
@[reducible] def rzK (n : Int) (i d : Nat) : KL := [(1, vI n), (2, vP 2), (4, vP 4), (6, vOwn d), (7, vI (i : Nat))]
@[reducible] def rzB (r : RSt) (n : Int) (i d : Nat) : BL := [(2, .cells (rsL r)), (4, .cells tbl.t166.zero), (d, .row 224 uRW (((rL r).take i).filter fun w => decide (wAt w < n)))]
theorem rresize_fn (r : RSt) (n : Int) (hl : (rL r).length ≤ 1073741824) : Fn Try.prog 128 [rsV r, vI n] [] [] (.tup [.agg (rsL (match srightN n with | true => resizeR r n | false => r)), vErr (match srightN n with | true => 0 | false => 1)]) [] := by
  refine Fn.of tblOK [9] _ _ _ _ _ Try.func128 rfl rfl (by kernel_rfl) (by kernel_rfl) rfl (drawOK tblOK) rfl ?_
  refine ⟨rfl, ?_⟩
  refine ⟨rfl, ?_⟩
  refine ⟨fun c1 => ?_, fun c1 => ?_⟩
  · have c1 : n < 0 := of_decide_eq_true c1
    have hs : srightN n = false := by simp [srightN]; omega
    rw [hs]
    exact ⟨_, _, _, Le.refl _ _, rfl, ⟨⟨rfl, rfl, rfl, rfl, trivial⟩, rfl, trivial⟩, trivial, rfl⟩
  have c1 : ¬ n < 0 := of_decide_eq_false c1
  refine ⟨fun c2 => ?_, fun c2 => ?_⟩
  · have c2 : 4096 < n := of_decide_eq_true c2
    have hs : srightN n = false := by simp [srightN]; omega
    rw [hs]
    exact ⟨_, _, _, Le.refl _ _, rfl, ⟨⟨rfl, rfl, rfl, rfl, trivial⟩, rfl, trivial⟩, trivial, rfl⟩
  have c2 : ¬ 4096 < n := of_decide_eq_false c2
  have hs : srightN n = true := by simp [srightN]; omega
  rw [hs]
  show TrQ _ _ _ _ _ _ _
  refine TrQ.loop tblOK (drawOK tblOK) [9] (by kernel_rfl) (X := Nat) (fun i => rzK n i 2003) (fun i => rzB r n i 2003) (fun i => i ≤ (rL r).length) (fun i => (rL r).length - i) 0 (Nat.zero_le _) ?_ ?_
  · exact Le.trans (Le.nil 6 2003 224 uRW rfl rfl) (Le.sub ⟨rfl, rfl, rfl, rfl, rfl, trivial⟩ ⟨rfl, rfl, rfl, trivial⟩)
  intro i hi
  refine ⟨fun h => ?_, fun h => ?_⟩
  · have h : decide ((i : Int) < ((rL r).length : Int)) = true := h
    have hi1 : i < (rL r).length := by simpa using h
    have hcl : (((rL r).take i).filter fun w => decide (wAt w < n)).length ≤ i := Nat.le_trans (List.length_filter_le _ _) (by rw [List.length_take]; omega)
    have hsn : (((rL r).take (i + 1)).filter fun w => decide (wAt w < n)) = (((rL r).take i).filter fun w => decide (wAt w < n)) ++ (match decide (wAt (rL r)[i] < n) with | true => [(rL r)[i]] | false => []) := by
      rw [List.take_succ_eq_append_getElem hi1, List.filter_append]
      congr 1
    refine ⟨by omega, (rL r)[i], lgAt (n := i) hi1, ?_⟩
    refine ⟨fun c3 => ?_, fun c3 => ?_⟩
    · have c3 : decide (wAt (rL r)[i] < n) = true := c3
      rw [c3] at hsn
      refine ⟨by omega, (rL r)[i], lgAt (n := i) hi1, ?_⟩
      have hb : (((rL r).take i).filter fun w => decide (wAt w < n)).length + 1 ≤ 4294967296 := by omega
      refine ⟨hb, rfl, ?_⟩
      refine ⟨by omega, i + 1, by omega, by omega, Le.trans (Le.sub (K' := rzK n (i + 1) 37) (B' := rzB r n (i + 1) 37) ⟨rfl, rfl, rfl, rfl, rfl, trivial⟩ ⟨rfl, rfl, ?_, trivial⟩) (Le.ren 37 2003 rfl)⟩
      rw [hsn]
      rfl
    · have c3 : decide (wAt (rL r)[i] < n) = false := c3
      rw [c3, List.append_nil] at hsn
      refine ⟨by omega, i + 1, by omega, by omega, Le.sub ⟨rfl, rfl, rfl, rfl, rfl, trivial⟩ ⟨rfl, rfl, ?_, trivial⟩⟩
      rw [hsn]
      rfl
  · have h : decide ((i : Int) < ((rL r).length : Int)) = false := h
    have hi1 : i = (rL r).length := by simp at h; omega
    subst hi1
    show TrQ _ _ _ _ _ _ _
    refine TrQ.go tblOK (drawOK tblOK) [] (by kernel_rfl) (Le.trans (Le.sub (K' := rzK n (rL r).length 2003) (B' := rcE r 2003 ((rL r).filter fun w => decide (wAt w < n))) ⟨rfl, rfl, rfl, rfl, rfl, trivial⟩ ⟨rfl, rfl, congrArg (fun l => some (Ch.row 224 uRW (List.filter (fun w => decide (wAt w < n)) l))) List.take_length, trivial⟩) (Le.frz 2003 rfl)) ?_
    exact ⟨_, _, _, Le.refl _ _, rfl, ⟨⟨rfl, rfl, rfl, rfl, trivial⟩, rfl, trivial⟩, trivial, rfl⟩
/-- The k-th sector's text. -/
def chunkR (b : List UInt8) (k : Nat) : List UInt8 := (b.take (16 * ((k : Nat) : Int) + 16).toNat).drop (16 * ((k : Nat) : Int)).toNat
theorem chunkR_eq (b : List UInt8) (k : Nat) : chunkR b k = chunkL b k := by
  rw [chunkL_eq]
  unfold chunkR
  rw [show (16 * ((k : Nat) : Int) + 16).toNat = 16 * k + 16 by omega, show (16 * ((k : Nat) : Int)).toNat = 16 * k by omega, List.drop_take]
  congr 1
  omega
def wrR (a : Int) (b : List UInt8) (l : List RW) : Nat → List RW
  | 0 => l
  | k + 1 => wrR a b l k ++ [mkRW (a + (k : Nat)) (chunkR b k)]
theorem wrR_length (a : Int) (b : List UInt8) (l : List RW) : ∀ k, (wrR a b l k).length = l.length + k
  | 0 => rfl
  | k + 1 => by rw [wrR, List.length_append, wrR_length]; simp; omega
def writeR (r : RSt) (a : Int) (b : List UInt8) : RSt × Int := match badLen b with
  | true => (r, 1)
  | false => match insideR (rN r) a (b.length / 16 : Nat) with
    | false => (r, 31)
    | true => match decide (rRoom r < (usedTo (wrR a b (rL r) (b.length / 16)) (rN r).toNat : Nat)) && decide (usedTo (rL r) (rN r).toNat < usedTo (wrR a b (rL r) (b.length / 16)) (rN r).toNat) with
      | true => (r, 30)
      | false => (mkRS (rN r) (rRoom r) (wrR a b (rL r) (b.length / 16)) (rSafe r), 0)
@[reducible] def rwK (r : RSt) (a : Int) (b : List UInt8) (k d : Nat) : KL := [(1, vI a), (2, vL .u8 b), (3, vP 3), (6, vP 6), (8, vI (b.length / 16 : Nat)), (9, vP 9), (10, vOwn d), (11, vI (k : Nat))]
@[reducible] def rwE (r : RSt) (d : Nat) (l : List RW) : BL := [(3, .cells (rsL r)), (6, .cells tbl.t166.zero), (9, .cells (rsL r)), (d, .row 224 uRW l)]
set_option maxHeartbeats 1000000 in
theorem rwrite_fn (r : RSt) (a : Int) (b : List UInt8) (hl : (rL r).length ≤ 536870912) (hb : b.length ≤ 536870912) (h0 : 0 ≤ rN r) (h1 : rN r ≤ 4096) : Fn Try.prog 127 [rsV r, vI a, vL .u8 b] [] [] (.tup [.agg (rsL (writeR r a b).1), vErr (writeR r a b).2]) [] := by
  obtain ⟨a1, a2, a3⟩ := len_div (b := b) (by omega)
  unfold writeR
  refine Fn.of tblOK [12] _ _ _ _ _ Try.func127 rfl rfl (by kernel_rfl) (by kernel_rfl) rfl (drawOK tblOK) rfl ?_
  refine ⟨rfl, ?_⟩
  refine ⟨rfl, ?_⟩
  have hbl := badLen_split b
  refine ⟨fun c1 => ?_, fun c1 => ?_⟩
  · have c1 : decide ((b.length : Int) = 0) = true := c1
    rw [c1, Bool.true_or] at hbl
    rw [hbl]
    exact ⟨_, _, _, Le.refl _ _, rfl, ⟨⟨rfl, rfl, rfl, rfl, trivial⟩, rfl, trivial⟩, trivial, rfl⟩
  have c1 : decide ((b.length : Int) = 0) = false := c1
  refine ⟨a1, a3, ?_⟩
  refine ⟨fun c2 => ?_, fun c2 => ?_⟩
  · have c2 : (!decide ((b.length : Int) % 16 = 0)) = true := c2
    rw [c1, c2] at hbl
    have hbl : badLen b = true := hbl
    rw [hbl]
    exact ⟨_, _, _, Le.refl _ _, rfl, ⟨⟨rfl, rfl, rfl, rfl, trivial⟩, rfl, trivial⟩, trivial, rfl⟩
  have c2 : (!decide ((b.length : Int) % 16 = 0)) = false := c2
  rw [c1, c2] at hbl
  have hbl : badLen b = false := hbl
  rw [hbl]
  refine ⟨a1, a2, ?_⟩
  have e0 : ((b.length : Int) / 16) = ((b.length / 16 : Nat) : Int) := by omega
  refine ⟨_, _, _, _, rinside_fn r a ((b.length : Int) / 16) h0 h1, trivial, rfl, ?_⟩
  rw [e0]
  cases hi : insideR (rN r) a (b.length / 16 : Nat) with
  | false =>
    refine ⟨fun _ => ?_, fun h => absurd h (by decide)⟩
    exact ⟨_, _, _, Le.refl _ _, rfl, ⟨⟨rfl, rfl, rfl, rfl, trivial⟩, rfl, trivial⟩, trivial, rfl⟩
  | true =>
    refine ⟨fun h => absurd h (by decide), fun _ => ?_⟩
    simp only [insideR, Bool.and_eq_true, decide_eq_true_eq] at hi
    obtain ⟨⟨i1, i2⟩, i3⟩ := hi
    refine ⟨rfl, ?_⟩
    refine ⟨rfl, ?_⟩
    have hl4 : (0 : Nat) + (rL r).length ≤ 4294967296 := by omega
    refine ⟨hl4, rfl, ?_⟩
    show TrQ _ _ _ _ _ _ _
    refine TrQ.loop tblOK (drawOK tblOK) [12] (by kernel_rfl) (X := Nat) (fun k => rwK r a b k 2003) (fun k => rwE r 2003 (wrR a b (rL r) k)) (fun k => k ≤ b.length / 16) (fun k => b.length / 16 - k) 0 (Nat.zero_le _) ?_ ?_
    · exact Le.trans (Le.sub (K' := rwK r a b 0 35) (B' := rwE r 35 (wrR a b (rL r) 0)) ⟨rfl, rfl, rfl, rfl, e0, rfl, rfl, rfl, trivial⟩ ⟨rfl, rfl, rfl, rfl, trivial⟩) (Le.ren 35 2003 rfl)
    intro k hk
    have hwl := wrR_length a b (rL r) k
    refine ⟨fun hc => ?_, fun hc => ?_⟩
    · have hk1 : (k : Int) < (b.length / 16 : Nat) := of_decide_eq_true hc
      have q0 : -9223372036854775808 ≤ a + (k : Nat) ∧ a + (k : Nat) ≤ 9223372036854775807 := by omega
      have q1 : -9223372036854775808 ≤ 16 * (k : Int) ∧ 16 * (k : Int) ≤ 9223372036854775807 := by omega
      have q2 : -9223372036854775808 ≤ 16 * (k : Int) + 16 ∧ 16 * (k : Int) + 16 ≤ 9223372036854775807 := by omega
      have q4 : 0 ≤ 16 * (k : Int) ∧ 16 * (k : Int) ≤ 16 * (k : Int) + 16 ∧ 16 * (k : Int) + 16 ≤ (b.length : Nat) := by omega
      refine ⟨q0, q1, q1, q2, q4, ?_⟩
      have q5 : (wrR a b (rL r) k).length + 1 ≤ 4294967296 := by omega
      refine ⟨q5, rfl, ?_⟩
      exact ⟨by omega, k + 1, by omega, by omega, Le.trans (Le.sub (K' := rwK r a b (k + 1) 55) (B' := rwE r 55 (wrR a b (rL r) (k + 1))) ⟨rfl, rfl, rfl, rfl, rfl, rfl, rfl, rfl, trivial⟩ ⟨rfl, rfl, rfl, rfl, trivial⟩) (Le.ren 55 2003 rfl)⟩
    · have hk1 : k = b.length / 16 := by
        have : ¬ (k : Int) < (b.length / 16 : Nat) := of_decide_eq_false hc
        omega
      subst hk1
      show TrQ _ _ _ _ _ _ _
      have hul1 := usedTo_le (wrR a b (rL r) (b.length / 16)) (rN r).toNat
      have hul2 := usedTo_le (rL r) (rN r).toNat
      have hwl' : (wrR a b (rL r) (b.length / 16)).length ≤ 1073741824 := by omega
      refine TrQ.go tblOK (drawOK tblOK) [] (by kernel_rfl) (Le.frz 2003 rfl) ?_
      refine ⟨_, _, _, _, rused_fn (mkRS (rN r) (rRoom r) (wrR a b (rL r) (b.length / 16)) (rSafe r)) hwl' h0 h1, trivial, rfl, ?_⟩
      refine ⟨fun c3 => ?_, fun c3 => ?_⟩
      · have c3 : decide (rRoom r < (usedTo (wrR a b (rL r) (b.length / 16)) (rN r).toNat : Nat)) = true := c3
        refine ⟨_, _, _, _, rused_fn (mkRS (rN r) (rRoom r) (wrR a b (rL r) (b.length / 16)) (rSafe r)) hwl' h0 h1, trivial, rfl, ?_⟩
        refine ⟨_, _, _, _, rused_fn r (by omega) h0 h1, trivial, rfl, ?_⟩
        refine ⟨rfl, fun c4 => ?_, fun c4 => ?_⟩
        · have c4 : decide ((usedTo (rL r) (rN r).toNat : Int) < (usedTo (wrR a b (rL r) (b.length / 16)) (rN r).toNat : Nat)) = true := c4
          have c4 : decide (usedTo (rL r) (rN r).toNat < usedTo (wrR a b (rL r) (b.length / 16)) (rN r).toNat) = true := decide_eq_true (by have := of_decide_eq_true c4; omega)
          rw [c3, c4]
          exact ⟨_, _, _, Le.refl _ _, rfl, ⟨⟨rfl, rfl, rfl, rfl, trivial⟩, rfl, trivial⟩, trivial, rfl⟩
        · have c4 : decide ((usedTo (rL r) (rN r).toNat : Int) < (usedTo (wrR a b (rL r) (b.length / 16)) (rN r).toNat : Nat)) = false := c4
          have c4 : decide (usedTo (rL r) (rN r).toNat < usedTo (wrR a b (rL r) (b.length / 16)) (rN r).toNat) = false := decide_eq_false (by have := of_decide_eq_false c4; omega)
          rw [c3, c4]
          exact ⟨_, _, _, Le.refl _ _, rfl, ⟨⟨rfl, rfl, rfl, rfl, trivial⟩, rfl, trivial⟩, trivial, rfl⟩
      · have c3 : decide (rRoom r < (usedTo (wrR a b (rL r) (b.length / 16)) (rN r).toNat : Nat)) = false := c3
        rw [c3]
        refine ⟨rfl, ?_⟩
        exact ⟨_, _, _, Le.refl _ _, rfl, ⟨⟨rfl, rfl, rfl, rfl, trivial⟩, rfl, trivial⟩, trivial, rfl⟩
end Go.Proofs.Ythghcdddambaeaa
