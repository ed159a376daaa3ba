/-
  The document's extents (reference 20); the same extents (reference 06); law 20's replies.
-/
import Derived.Test.YtolaecebfkdbcaaGreatEq
import Derived.Test.YtolaecebfkdbcaaGreatAr
import Derived.Test.YtolaecebfkdbcaaGreatTb
import Derived.Laws.StructEq
set_option linter.unusedVariables false
set_option linter.unusedSimpArgs false
set_option maxRecDepth 10000
namespace Go.Proofs.YtolaecebfkdbcaaGreat
open Go.RowKit Go.Proofs
theorem xt_rest {y : List UInt8} (h : (x2 (y, 0)).1.2 = 0) : (x2 (y, 0)).1.1 = y.drop 5 := by
  obtain ⟨a1, a2⟩ := rdN_back (w := 1) (st := (x1 (y, 0)).1) h
  obtain ⟨b1, b2⟩ := rdN_back (w := 4) (st := (y, 0)) a1
  have b2 : y = encR (x1 (y, 0)).2 4 ++ (x1 (y, 0)).1.1 := b2
  have a2 : (x1 (y, 0)).1.1 = encR (x2 (y, 0)).2 1 ++ (x2 (y, 0)).1.1 := a2
  rw [a2, ← List.append_assoc] at b2
  conv => rhs; rw [b2]
  rw [List.drop_left' (by rw [List.length_append, encR_length, encR_length])]
@[reducible] def xqB (acc : List (El uXt)) : BL := [(5001, .row 79 uXt acc)]
@[reducible] def xqB2 (acc : List (El uXt)) : BL := [(38, .row 79 uXt acc)]
set_option maxHeartbeats 1000000 in
theorem rexts_ok (s : List UInt8) (l : List Xt3) (hs : s.length ≤ 100000) (hr : xtL (s.length + 1) 0 (s, 0) = some l) : Fn Tryz.prog 16 [vS s] [] [1001] (.tup [.one (.own 1001), .one (.d (.bool true))]) [(1001, .row 79 uXt l)] := by
  refine Fn.of tblOK [] _ _ _ _ _ Tryz.func16 rfl rfl (by kernel_rfl) (by kernel_rfl) rfl (drawOK tblOK) rfl ?_
  show TrQ _ _ _ _ _ _ _
  refine TrQ.loop tblOK (drawOK tblOK) [] (by kernel_rfl) (X := List Xt3 × Int × Nat × Nat) (fun x => [(0, vS s), (4, vOwn 5001), (5, vI x.2.1), (6, vI (x.2.2.1 : Nat))]) (fun x => xqB x.1) (fun x => x.2.2.1 ≤ s.length ∧ s.length - x.2.2.1 < x.2.2.2 ∧ x.1.length ≤ x.2.2.1 ∧ (0 ≤ x.2.1 ∧ x.2.1 ≤ 4294967296 * (x.1.length : Int)) ∧ (xtL x.2.2.2 x.2.1 (s.drop x.2.2.1, 0)).map (x.1 ++ ·) = some l) (fun x => x.2.2.2) ([], 0, 0, s.length + 1) ⟨Nat.zero_le _, (by show s.length - 0 < s.length + 1; omega), Nat.zero_le _, ⟨Int.le_refl 0, Int.le_refl 0⟩, by rw [List.drop_zero, hr]; simp⟩ ?_ ?_
  · exact Le.trans (Le.nil 4 5001 79 uXt rfl rfl) (Le.sub ⟨rfl, rfl, rfl, rfl, trivial⟩ ⟨rfl, trivial⟩)
  rintro ⟨acc, a, i, n⟩ ⟨hi, hn, hlen, ha, hrp⟩
  have hi : i ≤ s.length := hi
  have hn : s.length - i < n := hn
  have hlen : acc.length ≤ i := hlen
  have ha : 0 ≤ a ∧ a ≤ 4294967296 * (acc.length : Int) := ha
  have e1 : (List.take s.length s).drop i = s.drop i := by rw [List.take_length]
  have g1 := Fn.arg (args := [.c (.agg [.d (.str ((List.take s.length s).drop i)), .d (.int .i64 0)]), vI (4 : Nat)]) (readNum_spec (s.drop i, 0) 4 W4) ⟨⟨e1, rfl, trivial⟩, rfl, trivial⟩
  have g2 := readNum_spec (x1 (s.drop i, 0)).1 1 W1
  change Fn _ _ _ _ _ (.tup [vSt (x1 (s.drop i, 0)).1, .one (.d (.int .i64 ((x1 (s.drop i, 0)).2 : Nat)))]) _ at g1
  change Fn _ _ _ _ _ (.tup [vSt (x2 (s.drop i, 0)).1, .one (.d (.int .i64 ((x2 (s.drop i, 0)).2 : Nat)))]) _ at g2
  have hx := x1_lt (s.drop i, 0)
  have hd : (s.drop i).length = s.length - i := List.length_drop
  have hrp : (xtL n a (s.drop i, 0)).map (acc ++ ·) = some l := hrp
  have hA := fun hp => xtL_step (n := n) (st := (s.drop i, 0)) (show (s.drop i).length < n by omega) hp hrp
  have hE := fun hp => xtL_end (st := (s.drop i, 0)) hp hrp
  have hL := @xt_len (s.drop i, 0)
  have hX := @xt_rest (s.drop i)
  rw [List.drop_drop] at hX
  clear hrp
  generalize x1 (s.drop i, 0) = a1 at *
  generalize x2 (s.drop i, 0) = a2 at *
  obtain ⟨⟨s1, e1'⟩, n1⟩ := a1
  obtain ⟨⟨s4, e4⟩, n2⟩ := a2
  simp only at g1 g2 hA hE hL hx hX
  rw [hd] at hL hA hE
  refine ⟨fun h => ?_, fun h => ?_⟩
  · have hp : 0 < s.length - i := by
      have h : decide (((i : Nat) : Int) < ((s.length : Nat) : Int)) = true := h
      have := of_decide_eq_true h
      omega
    have hA := hA hp
    have m1 : 0 ≤ ((i : Nat) : Int) ∧ ((i : Nat) : Int) ≤ ((s.length : Nat) : Int) := by omega
    obtain ⟨rfl, m, rfl, hm, hrp⟩ := hA
    have hL := hL rfl
    have hX := hX rfl
    rw [hX] at hrp
    refine ⟨m1, ?_⟩
    refine ⟨_, _, _, _, g1, trivial, rfl, ?_⟩
    refine ⟨rfl, ?_⟩
    refine ⟨_, _, _, _, g2, trivial, rfl, ?_⟩
    refine ⟨fun h => absurd (show (!decide ((0 : Int) = 0)) = true from h) (by decide), fun _ => ?_⟩
    have hl1 : acc.length + 1 ≤ 4294967296 := by omega
    have hl2 : -9223372036854775808 ≤ a + (n1 : Int) ∧ a + (n1 : Int) ≤ 9223372036854775807 := by omega
    have hl3 : -9223372036854775808 ≤ ((i : Nat) : Int) + 5 ∧ ((i : Nat) : Int) + 5 ≤ 9223372036854775807 := by omega
    refine ⟨hl1, rfl, hl2, ?_⟩
    refine ⟨hl3, ?_⟩
    have q1 : (acc ++ [(a, (n1 : Int), (n2 : Int))]).length = acc.length + 1 := by rw [List.length_append]; rfl
    have q2 : (s.drop (i + 5)).length = s.length - (i + 5) := List.length_drop
    rw [hX] at hL hm
    exact ⟨(acc ++ [(a, (n1 : Int), (n2 : Int))], a + (n1 : Int), i + 5, m), ⟨(by show i + 5 ≤ s.length; omega), (by show s.length - (i + 5) < m; omega), (by show (acc ++ [(a, (n1 : Int), (n2 : Int))]).length ≤ i + 5; omega), (by show 0 ≤ a + (n1 : Int) ∧ a + (n1 : Int) ≤ 4294967296 * ((acc ++ [(a, (n1 : Int), (n2 : Int))]).length : Int); rw [q1]; omega), hrp⟩, Nat.lt_succ_self m, Le.trans (Le.sub (K' := [(0, vS s), (4, vOwn 38), (5, vI (a + (n1 : Int))), (6, vI ((i + 5 : Nat) : Int))]) (B' := xqB2 (acc ++ [(a, (n1 : Int), (n2 : Int))])) ⟨rfl, rfl, rfl, rfl, trivial⟩ ⟨rfl, trivial⟩) (Le.trans (Le.ren 38 5001 rfl) (Le.sub ⟨rfl, rfl, rfl, rfl, trivial⟩ ⟨rfl, trivial⟩))⟩
  · have hp : s.length - i = 0 := by
      have h : decide (((i : Nat) : Int) < ((s.length : Nat) : Int)) = false := h
      have := of_decide_eq_false h
      omega
    have hE := hE hp
    subst hE
    exact ⟨_, _, _, Le.ren 5001 1001 rfl, rfl, ⟨rfl, rfl, trivial⟩, ⟨rfl, trivial⟩, rfl⟩
set_option maxHeartbeats 1000000 in
theorem rexts_no (s : List UInt8) (hs : s.length ≤ 100000) (hr : xtL (s.length + 1) 0 (s, 0) = none) : Fn Tryz.prog 16 [vS s] [] [] (.tup [.one .nils, .one (.d (.bool false))]) [] := by
  refine Fn.of tblOK [] _ _ _ _ _ Tryz.func16 rfl rfl (by kernel_rfl) (by kernel_rfl) rfl (drawOK tblOK) rfl ?_
  show TrQ _ _ _ _ _ _ _
  refine TrQ.loop tblOK (drawOK tblOK) [] (by kernel_rfl) (X := List Xt3 × Int × Nat × Nat) (fun x => [(0, vS s), (4, vOwn 5001), (5, vI x.2.1), (6, vI (x.2.2.1 : Nat))]) (fun x => xqB x.1) (fun x => x.2.2.1 ≤ s.length ∧ s.length - x.2.2.1 < x.2.2.2 ∧ x.1.length ≤ x.2.2.1 ∧ (0 ≤ x.2.1 ∧ x.2.1 ≤ 4294967296 * (x.1.length : Int)) ∧ xtL x.2.2.2 x.2.1 (s.drop x.2.2.1, 0) = none) (fun x => x.2.2.2) ([], 0, 0, s.length + 1) ⟨Nat.zero_le _, (by show s.length - 0 < s.length + 1; omega), Nat.zero_le _, ⟨Int.le_refl 0, Int.le_refl 0⟩, hr⟩ ?_ ?_
  · exact Le.trans (Le.nil 4 5001 79 uXt rfl rfl) (Le.sub ⟨rfl, rfl, rfl, rfl, trivial⟩ ⟨rfl, trivial⟩)
  rintro ⟨acc, a, i, n⟩ ⟨hi, hn, hlen, ha, hrp⟩
  have hi : i ≤ s.length := hi
  have hn : s.length - i < n := hn
  have hlen : acc.length ≤ i := hlen
  have ha : 0 ≤ a ∧ a ≤ 4294967296 * (acc.length : Int) := ha
  have e1 : (List.take s.length s).drop i = s.drop i := by rw [List.take_length]
  have g1 := Fn.arg (args := [.c (.agg [.d (.str ((List.take s.length s).drop i)), .d (.int .i64 0)]), vI (4 : Nat)]) (readNum_spec (s.drop i, 0) 4 W4) ⟨⟨e1, rfl, trivial⟩, rfl, trivial⟩
  have g2 := readNum_spec (x1 (s.drop i, 0)).1 1 W1
  change Fn _ _ _ _ _ (.tup [vSt (x1 (s.drop i, 0)).1, .one (.d (.int .i64 ((x1 (s.drop i, 0)).2 : Nat)))]) _ at g1
  change Fn _ _ _ _ _ (.tup [vSt (x2 (s.drop i, 0)).1, .one (.d (.int .i64 ((x2 (s.drop i, 0)).2 : Nat)))]) _ at g2
  have hx := x1_lt (s.drop i, 0)
  have hd : (s.drop i).length = s.length - i := List.length_drop
  have hrp : xtL n a (s.drop i, 0) = none := hrp
  have hA := fun hp => xtL_no (n := n) (st := (s.drop i, 0)) (show (s.drop i).length < n by omega) hp hrp
  have hE := fun hp => xtL_some (n := n) (a := a) (st := (s.drop i, 0)) hp hrp
  have hL := @xt_len (s.drop i, 0)
  have hX := @xt_rest (s.drop i)
  rw [List.drop_drop] at hX
  clear hrp
  generalize x1 (s.drop i, 0) = a1 at *
  generalize x2 (s.drop i, 0) = a2 at *
  obtain ⟨⟨s1, e1'⟩, n1⟩ := a1
  obtain ⟨⟨s4, e4⟩, n2⟩ := a2
  simp only at g1 g2 hA hE hL hx hX
  rw [hd] at hL hA hE
  refine ⟨fun h => ?_, fun h => ?_⟩
  · have hp : 0 < s.length - i := by
      have h : decide (((i : Nat) : Int) < ((s.length : Nat) : Int)) = true := h
      have := of_decide_eq_true h
      omega
    have hA := hA hp
    have m1 : 0 ≤ ((i : Nat) : Int) ∧ ((i : Nat) : Int) ≤ ((s.length : Nat) : Int) := by omega
    refine ⟨m1, ?_⟩
    refine ⟨_, _, _, _, g1, trivial, rfl, ?_⟩
    refine ⟨rfl, ?_⟩
    refine ⟨_, _, _, _, g2, trivial, rfl, ?_⟩
    refine ⟨fun h => ?_, fun h => ?_⟩
    · exact ⟨_, _, _, Le.refl _ _, rfl, ⟨rfl, rfl, trivial⟩, trivial, rfl⟩
    have h : (!decide (e4 = 0)) = false := h
    have he : e4 = 0 := by simpa using h
    subst he
    obtain ⟨m, rfl, hm, hrp⟩ := hA rfl
    have hL := hL rfl
    have hX := hX rfl
    rw [hX] at hrp
    have hl1 : acc.length + 1 ≤ 4294967296 := by omega
    have hl2 : -9223372036854775808 ≤ a + (n1 : Int) ∧ a + (n1 : Int) ≤ 9223372036854775807 := by omega
    have hl3 : -9223372036854775808 ≤ ((i : Nat) : Int) + 5 ∧ ((i : Nat) : Int) + 5 ≤ 9223372036854775807 := by omega
    refine ⟨hl1, rfl, hl2, ?_⟩
    refine ⟨hl3, ?_⟩
    have q1 : (acc ++ [(a, (n1 : Int), (n2 : Int))]).length = acc.length + 1 := by rw [List.length_append]; rfl
    have q2 : (s.drop (i + 5)).length = s.length - (i + 5) := List.length_drop
    rw [hX] at hL hm
    exact ⟨(acc ++ [(a, (n1 : Int), (n2 : Int))], a + (n1 : Int), i + 5, m), ⟨(by show i + 5 ≤ s.length; omega), (by show s.length - (i + 5) < m; omega), (by show (acc ++ [(a, (n1 : Int), (n2 : Int))]).length ≤ i + 5; omega), (by show 0 ≤ a + (n1 : Int) ∧ a + (n1 : Int) ≤ 4294967296 * ((acc ++ [(a, (n1 : Int), (n2 : Int))]).length : Int); rw [q1]; omega), hrp⟩, Nat.lt_succ_self m, Le.trans (Le.sub (K' := [(0, vS s), (4, vOwn 38), (5, vI (a + (n1 : Int))), (6, vI ((i + 5 : Nat) : Int))]) (B' := xqB2 (acc ++ [(a, (n1 : Int), (n2 : Int))])) ⟨rfl, rfl, rfl, rfl, trivial⟩ ⟨rfl, trivial⟩) (Le.trans (Le.ren 38 5001 rfl) (Le.sub ⟨rfl, rfl, rfl, rfl, trivial⟩ ⟨rfl, trivial⟩))⟩
  · have hp : s.length - i = 0 := by
      have h : decide (((i : Nat) : Int) < ((s.length : Nat) : Int)) = false := h
      have := of_decide_eq_false h
      omega
    exact (hE hp).elim
/-! ### the same extents -/
theorem opOK_neqDeep {P : Program} {ids : List Nat} {K : KL} {B : BL} {o : Oper} {T T2 : TypeId} {x y : Operand} {lx ly : List S1} {m D : Nat} (ho : o.op = .binOp .neq T x y T2) (hg : P.eqGuardType P.depth T = false) (hk : P.keyTypeAt m T = true) (hm : m ≤ 10000)
    (hx : opv K x = .c (.agg lx)) (hy : opv K y = .c (.agg ly)) (hpl : (plainL lx && plainL ly) = true) (fx : (Value.agg (List.toArray (valsL lx))).formed P T = true) (fy : (Value.agg (List.toArray (valsL ly))).formed P T = true)
    (kx : P.keyLits D T (valsL lx) = some (litsL lx)) (ky : P.keyLits D T (valsL ly) = some (litsL ly)) {r : Bool} (hr : r = true ↔ litsL lx = litsL ly) (N : Nat) : OpOK P N ids o K B (.c (.one (.d (.bool (!r))))) ⟨[], [], []⟩ := by
  have m1 : x ∈ o.op.operands := by rw [ho]; simp [Op.operands]
  have m2 : y ∈ o.op.operands := by rw [ho]; simp [Op.operands]
  simp only [Bool.and_eq_true] at hpl
  refine OpOK.val fun K' B' g1 g2 C ρ F a w hM hS => ?_
  obtain ⟨vs, e1, h1⟩ := hS.ev ((g1 x m1).trans hx)
  obtain ⟨us, e2, h2⟩ := hS.ev ((g1 y m2).trans hy)
  have h1 := denL_vals hpl.1 h1
  have h2 := denL_vals hpl.2 h2
  subst h1 h2
  obtain ⟨q, hq, hiff⟩ := run_equalIn_deep (P := P) (10000 - m) m T hk w D D (.agg (List.toArray (valsL lx))) (.agg (List.toArray (valsL ly))) (litsL lx) (litsL ly) fx fy (by simpa [Value.cells] using kx) (by simpa [Value.cells] using ky)
  rw [show 10000 - m + m = 10000 by omega] at hq
  have hqr : q = r := by
    cases q <;> cases r
    · rfl
    · exact absurd (hiff.2 (hr.1 rfl)) (by simp)
    · exact absurd (hr.2 (hiff.1 rfl)) (by simp)
    · rfl
  subst hqr
  refine ⟨.bool (!q), ?_, rfl⟩
  simp only [execOp, ho, e1, e2, Sem.run_bind, run_eqGuard_agg w .neq T x y _ _ hg, Result.andThen_ok, run_neq_struct, hq, Sem.run_pure]
@[reducible] def inI (n : Int) : Prop := -9223372036854775808 ≤ n ∧ n ≤ 9223372036854775807
theorem kl_i64 (d : Nat) {n : Int} (h : inI n) : Tryz.prog.keyLits (d + 1) 3 [.int .i64 n] = some [.int .i64 n] := by
  unfold Program.keyLits
  simp only [Tryz.underlying3]
  have hw : (Lit.int .i64 n).wf = true := by
    simp only [Lit.wf, Bool.and_eq_true, decide_eq_true_eq]
    have h1 : IntKind.min .i64 = -9223372036854775808 := by decide
    have h2 : IntKind.max .i64 = 9223372036854775807 := by decide
    rw [h1, h2]
    exact h
  simp [hw]
theorem kl_rq (d : Nat) {r : Rq} (h1 : inI (rqK r)) (h2 : inI (rqC r)) (h3 : inI (rqH r)) (h4 : inI (rqA r)) (h5 : inI (rqL r)) : Tryz.prog.keyLits (d + 2) 23 (valsL (rqS r)) = some (litsL (rqS r)) := by
  have c1 : Tryz.prog.cellsOf 23 = 5 := by kernel_rfl
  have c2 : Tryz.prog.cellsOf 3 = 1 := by kernel_rfl
  have k1 := kl_i64 d h1
  have k2 := kl_i64 d h2
  have k3 := kl_i64 d h3
  have k4 := kl_i64 d h4
  have k5 := kl_i64 d h5
  unfold Program.keyLits
  simp only [Tryz.underlying23, c1]
  simp [valsL, valS, rqS, c2, k1, k2, k3, k4, k5, litsL, litS]
theorem fit_in {w : Nat} {n : Int} (hw : W w) (h : fit w n = true) : inI n := by
  have h := fit_iff.1 h
  have hp := (pw_of hw).2
  unfold inI
  omega
theorem kl_fit (d : Nat) {r : Rq} (h : rqFit r = true) : Tryz.prog.keyLits (d + 2) 23 (valsL (rqS r)) = some (litsL (rqS r)) := by
  unfold rqFit at h
  simp only [Bool.and_eq_true] at h
  obtain ⟨a, b, c, e, f⟩ := h
  have w1 : W 1 := by unfold W; simp
  have w2 : W 2 := by unfold W; simp
  have w4 : W 4 := by unfold W; simp
  exact kl_rq d (fit_in w1 a) (fit_in w1 b) (fit_in w2 c) (fit_in w4 e) (fit_in w4 f)
theorem rplL_len : ∀ {n : Nat} {st : St} {l : List Rp}, rplL n st = some l → l.length ≤ n
  | 0, st, l, h => by
    unfold rplL at h
    injection h with h
    rw [← h]
    exact Nat.le_refl _
  | n + 1, st, l, h => by
    unfold rplL at h
    split at h
    · injection h with h
      rw [← h]
      exact Nat.zero_le _
    split at h
    · cases hr : rplL n (t4 st).1 with
      | none => rw [hr] at h; cases h
      | some r =>
        rw [hr] at h
        injection h with h
        rw [← h]
        exact Nat.succ_le_succ (rplL_len hr)
    · cases h
theorem kl_ex (d : Nat) {x : Xt3} (h1 : inI x.1) (h2 : inI x.2.1) (h3 : inI x.2.2) : Tryz.prog.keyLits (d + 2) 79 (valsL [.d (.int .i64 x.1), .d (.int .i64 x.2.1), .d (.int .i64 x.2.2)]) = some (litsL [.d (.int .i64 x.1), .d (.int .i64 x.2.1), .d (.int .i64 x.2.2)]) := by
  have c1 : Tryz.prog.cellsOf 79 = 3 := by kernel_rfl
  have c2 : Tryz.prog.cellsOf 3 = 1 := by kernel_rfl
  have k1 := kl_i64 d h1
  have k2 := kl_i64 d h2
  have k3 := kl_i64 d h3
  unfold Program.keyLits
  simp only [Tryz.underlying79, c1]
  simp [valsL, valS, c2, k1, k2, k3, litsL, litS]
theorem xtL_in : ∀ {n : Nat} {a : Int} {st : St} {l : List Xt3}, xtL n a st = some l → 0 ≤ a → a + 4294967296 * (n : Int) ≤ 9223372036854775807 → ∀ x, x ∈ l → inI x.1 ∧ inI x.2.1 ∧ inI x.2.2
  | 0, a, st, l, h, _, _, x, hx => by
    unfold xtL at h
    injection h with h
    rw [← h] at hx
    cases hx
  | n + 1, a, st, l, h, h0, h1, x, hx => by
    unfold xtL at h
    split at h
    · injection h with h
      rw [← h] at hx
      cases hx
    split at h
    · cases hr : xtL n (a + ((x1 st).2 : Int)) (x2 st).1 with
      | none => rw [hr] at h; cases h
      | some r =>
        rw [hr] at h
        injection h with h
        have hl := x1_lt st
        have h2 := rdN_lt 1 (x1 st).1
        have h2 : (x2 st).2 < 256 ^ 1 := h2
        rw [← h] at hx
        rcases List.mem_cons.1 hx with rfl | hx
        · show inI a ∧ inI ((x1 st).2 : Int) ∧ inI ((x2 st).2 : Int)
          unfold inI
          omega
        · exact xtL_in hr (by omega) (by omega) x hx
    · cases h
theorem same_fn (l : List Xt3) (hl : l.length ≤ 100000) (hin : ∀ x, x ∈ l → inI x.1 ∧ inI x.2.1 ∧ inI x.2.2) : Fn Tryz.prog 17 [vL uXt l, vL uXt l] [] [] (vB true) [] := by
  refine Fn.of tblOK [] _ _ _ _ _ Tryz.func17 rfl rfl (by kernel_rfl) (by kernel_rfl) rfl (drawOK tblOK) rfl ?_
  refine ⟨fun h => absurd (show (!decide (((l.length : Nat) : Int) = ((l.length : Nat) : Int))) = true from h) (by simp), fun _ => ?_⟩
  show TrQ _ _ _ _ _ _ _
  refine TrQ.loop tblOK (drawOK tblOK) [] (by kernel_rfl) (X := Nat) (fun i => [(0, vL uXt l), (1, vL uXt l), (5, vI (i : Nat))]) (fun _ => []) (fun i => i ≤ l.length) (fun i => l.length - i) 0 (Nat.zero_le _) ?_ ?_
  · exact Le.sub ⟨rfl, rfl, rfl, trivial⟩ trivial
  intro i hi
  have hi : i ≤ l.length := hi
  refine ⟨fun h => ?_, fun h => ?_⟩
  · have hi1 : i < l.length := by
      have h : decide (((i : Nat) : Int) < ((l.length : Nat) : Int)) = true := h
      have := of_decide_eq_true h
      omega
    have hg : lget l i = some l[i] := List.getElem?_eq_getElem hi1
    have hm := hin _ (List.getElem_mem hi1)
    generalize l[i] = x at *
    have hk := kl_ex 3 hm.1 hm.2.1 hm.2.2
    have m1 : (0 : Int) ≤ ((i : Nat) : Int) := by omega
    have m2 : -9223372036854775808 ≤ ((i : Nat) : Int) + 1 ∧ ((i : Nat) : Int) + 1 ≤ 9223372036854775807 := by omega
    refine ⟨m1, x, hg, m1, x, hg, ?_⟩
    refine ⟨_, _, fun N => opOK_neqDeep (m := 5) (D := 5) (r := true) (lx := [.d (.int .i64 x.1), .d (.int .i64 x.2.1), .d (.int .i64 x.2.2)]) (ly := [.d (.int .i64 x.1), .d (.int .i64 x.2.1), .d (.int .i64 x.2.2)]) rfl (by kernel_rfl) (by kernel_rfl) (by decide) rfl rfl rfl (by rfl) (by rfl) hk hk ⟨fun _ => rfl, fun _ => rfl⟩ N, rfl, ?_⟩
    refine ⟨indep_of (by kernel_rfl), ?_⟩
    refine ⟨fun h => absurd h (by decide), fun _ => ?_⟩
    exact ⟨m2, i + 1, hi1, by show l.length - (i + 1) < l.length - i; omega, Le.sub ⟨rfl, rfl, rfl, trivial⟩ trivial⟩
  · exact ⟨_, _, _, Le.refl _ _, rfl, rfl, trivial, rfl⟩
/-! ### replies -/
set_option maxHeartbeats 2000000 in
theorem replies_fn (s : List UInt8) (hs : s.length ≤ 100000) : Fn Tryz.prog 14 [vL .u8 s] [] [] (vB true) [] := by
  cases hr : rplL (s.length + 1) (s, 0) with
  | none =>
    have h1 := replies_no s hs hr
    have h2 := rreplies_no s hs hr
    have m0 : s.length ≤ 4294967296 := by omega
    refine Fn.of tblOK [] _ _ _ _ _ Tryz.func14 rfl rfl (by kernel_rfl) (by kernel_rfl) rfl (drawOK tblOK) rfl ?_
    refine ⟨_, _, _, _, h1, trivial, rfl, ?_⟩
    refine ⟨_, _, _, _, h2, trivial, rfl, ?_⟩
    refine ⟨fun h => absurd h (by decide), fun _ => ?_⟩
    refine ⟨fun h => absurd h (by decide), fun _ => ?_⟩
    show TrQ _ _ _ _ _ _ _
    refine TrQ.loop tblOK (drawOK tblOK) [] (by kernel_rfl) (X := Unit) (fun _ => [(31, vI 0), (32, vI 0)]) (fun _ => []) (fun _ => True) (fun _ => 0) () trivial ?_ ?_
    · exact Le.sub ⟨rfl, rfl, trivial⟩ trivial
    rintro ⟨⟩ -
    refine ⟨fun h => absurd h (by decide), fun _ => ?_⟩
    exact ⟨_, _, _, Le.refl _ _, rfl, rfl, trivial, rfl⟩
  | some l =>
    have h1 := replies_ok s l hs hr
    have h2 := rreplies_ok s l hs hr
    have hl : l.length ≤ 100001 := Nat.le_trans (rplL_len hr) (by omega)
    refine Fn.of tblOK [] _ _ _ _ _ Tryz.func14 rfl rfl (by kernel_rfl) (by kernel_rfl) rfl (drawOK tblOK) rfl ?_
    refine ⟨_, _, _, _, h1, trivial, rfl, ?_⟩
    refine ⟨_, _, _, _, Fn.ren [(1001, 1002)] h2, trivial, rfl, ?_⟩
    refine ⟨fun h => absurd h (by decide), fun _ => ?_⟩
    refine ⟨fun h => absurd (show (!decide (((l.length : Nat) : Int) = ((l.length : Nat) : Int))) = true from h) (by simp), fun _ => ?_⟩
    show TrQ _ _ _ _ _ _ _
    refine TrQ.loop tblOK (drawOK tblOK) [] (by kernel_rfl) (X := Nat) (fun i => [(3, vL uRp l), (5, vL uRt l), (31, vI (l.length : Nat)), (32, vI (i : Nat))]) (fun _ => []) (fun i => i ≤ l.length) (fun i => l.length - i) 0 (Nat.zero_le _) ?_ ?_
    · exact Le.trans (Le.frz 1001 rfl) (Le.trans (Le.frz 1002 rfl) (Le.sub ⟨rfl, rfl, rfl, rfl, trivial⟩ trivial))
    intro i hi
    have hi : i ≤ l.length := hi
    refine ⟨fun h => ?_, fun h => ?_⟩
    · have hi1 : i < l.length := by
        have h : decide (((i : Nat) : Int) < ((l.length : Nat) : Int)) = true := h
        have := of_decide_eq_true h
        omega
      have hg1 : @lget (El uRp) l i = some l[i] := List.getElem?_eq_getElem hi1
      have hg2 : @lget (El uRt) l i = some l[i] := List.getElem?_eq_getElem hi1
      generalize l[i] = x at *
      have m1 : (0 : Int) ≤ ((i : Nat) : Int) := by omega
      have m2 : -9223372036854775808 ≤ ((i : Nat) : Int) + 1 ∧ ((i : Nat) : Int) + 1 ≤ 9223372036854775807 := by omega
      refine ⟨m1, x, hg1, m1, x, hg2, ?_⟩
      refine ⟨fun h => absurd (show (!decide (x.1 = x.1)) = true from h) (by simp), fun _ => ?_⟩
      refine ⟨m1, x, hg1, m1, x, hg2, ?_⟩
      refine ⟨fun h => absurd (show (!decide (x.2.1 = x.2.1)) = true from h) (by simp), fun _ => ?_⟩
      refine ⟨m1, x, hg1, m1, x, hg2, ?_⟩
      refine ⟨indep_of (by kernel_rfl), ?_⟩
      refine ⟨fun h => absurd (show (!decide (x.2.2 = x.2.2)) = true from h) (by simp), fun _ => ?_⟩
      exact ⟨m2, i + 1, hi1, by show l.length - (i + 1) < l.length - i; omega, Le.sub ⟨rfl, rfl, rfl, rfl, trivial⟩ trivial⟩
    · exact ⟨_, _, _, Le.refl _ _, rfl, rfl, trivial, rfl⟩
end Go.Proofs.YtolaecebfkdbcaaGreat
