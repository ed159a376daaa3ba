/-
  ExportBack: what is asked is heard, and what is told is read.
-/
import Derived.Test.YtmdhangeglaigaaEs
import Derived.Test.YtmdhangeglaigaaTb
import Derived.Laws.StructEq
set_option linter.unusedVariables false
set_option linter.unusedSimpArgs false
set_option maxRecDepth 10000
namespace Go.Proofs.Ytmdhangeglaigaa
open Go.RowKit Go.Proofs
theorem opOK_neqDeep {P : Program} {ids : List Nat} {K : KL} {B : BL} {o : Oper} {T T2 : TypeId} {x y : Operand} {lx ly : List S1} {m D : Nat} (ho : o.op = .binOp .neq T x y T2) (hg : P.eqGuardType P.depth T = false) (hk : P.keyTypeAt m T = true) (hm : m ≤ 10000)
    (hx : opv K x = .c (.agg lx)) (hy : opv K y = .c (.agg ly)) (hpl : (plainL lx && plainL ly) = true) (fx : (Value.agg (List.toArray (valsL lx))).formed P T = true) (fy : (Value.agg (List.toArray (valsL ly))).formed P T = true)
    (kx : P.keyLits D T (valsL lx) = some (litsL lx)) (ky : P.keyLits D T (valsL ly) = some (litsL ly)) {r : Bool} (hr : r = true ↔ litsL lx = litsL ly) (N : Nat) : OpOK P N ids o K B (.c (.one (.d (.bool (!r))))) ⟨[], [], []⟩ := by
  have m1 : x ∈ o.op.operands := by rw [ho]; simp [Op.operands]
  have m2 : y ∈ o.op.operands := by rw [ho]; simp [Op.operands]
  simp only [Bool.and_eq_true] at hpl
  refine OpOK.val fun K' B' g1 g2 C ρ F a w hM hS => ?_
  obtain ⟨vs, e1, h1⟩ := hS.ev ((g1 x m1).trans hx)
  obtain ⟨us, e2, h2⟩ := hS.ev ((g1 y m2).trans hy)
  have h1 := denL_vals hpl.1 h1
  have h2 := denL_vals hpl.2 h2
  subst h1 h2
  obtain ⟨q, hq, hiff⟩ := run_equalIn_deep (P := P) (10000 - m) m T hk w D D (.agg (List.toArray (valsL lx))) (.agg (List.toArray (valsL ly))) (litsL lx) (litsL ly) fx fy (by simpa [Value.cells] using kx) (by simpa [Value.cells] using ky)
  rw [show 10000 - m + m = 10000 by omega] at hq
  have hqr : q = r := by
    cases q <;> cases r
    · rfl
    · exact absurd (hiff.2 (hr.1 rfl)) (by simp)
    · exact absurd (hr.2 (hiff.1 rfl)) (by simp)
    · rfl
  subst hqr
  refine ⟨.bool (!q), ?_, rfl⟩
  simp only [execOp, ho, e1, e2, Sem.run_bind, run_eqGuard_agg w .neq T x y _ _ hg, Result.andThen_ok, run_neq_struct, hq, Sem.run_pure]
@[reducible] def inI (n : Int) : Prop := -9223372036854775808 ≤ n ∧ n ≤ 9223372036854775807
theorem kl_i64 (d : Nat) {n : Int} (h : inI n) : Try.prog.keyLits (d + 1) 3 [.int .i64 n] = some [.int .i64 n] := by
  unfold Program.keyLits
  simp only [Try.underlying3]
  have hw : (Lit.int .i64 n).wf = true := by
    simp only [Lit.wf, Bool.and_eq_true, decide_eq_true_eq]
    have h1 : IntKind.min .i64 = -9223372036854775808 := by decide
    have h2 : IntKind.max .i64 = 9223372036854775807 := by decide
    rw [h1, h2]
    exact h
  simp [hw]
theorem kl_rq (d : Nat) {r : Rq} (h1 : inI (rqK r)) (h2 : inI (rqC r)) (h3 : inI (rqH r)) (h4 : inI (rqA r)) (h5 : inI (rqL r)) : Try.prog.keyLits (d + 2) 23 (valsL (rqS r)) = some (litsL (rqS r)) := by
  have c1 : Try.prog.cellsOf 23 = 5 := by kernel_rfl
  have c2 : Try.prog.cellsOf 3 = 1 := by kernel_rfl
  have k1 := kl_i64 d h1
  have k2 := kl_i64 d h2
  have k3 := kl_i64 d h3
  have k4 := kl_i64 d h4
  have k5 := kl_i64 d h5
  unfold Program.keyLits
  simp only [Try.underlying23, c1]
  simp [valsL, valS, rqS, c2, k1, k2, k3, k4, k5, litsL, litS]
theorem fit_in {w : Nat} {n : Int} (hw : W w) (h : fit w n = true) : inI n := by
  have h := fit_iff.1 h
  have hp := (pw_of hw).2
  unfold inI
  omega
theorem kl_fit (d : Nat) {r : Rq} (h : rqFit r = true) : Try.prog.keyLits (d + 2) 23 (valsL (rqS r)) = some (litsL (rqS r)) := by
  unfold rqFit at h
  simp only [Bool.and_eq_true] at h
  obtain ⟨a, b, c, e, f⟩ := h
  have w1 : W 1 := by unfold W; simp
  have w2 : W 2 := by unfold W; simp
  have w4 : W 4 := by unfold W; simp
  exact kl_rq d (fit_in w1 a) (fit_in w1 b) (fit_in w2 c) (fit_in w4 e) (fit_in w4 f)
theorem rpl_cons {n : Nat} {e h : Int} {b t : List UInt8} (hf : tellOK e h b = true) : rplL (n + 1) (tellB e h b ++ t, 0) = (rplL n (t, 0)).map ((e, h, b) :: ·) := by
  obtain ⟨h1, h2, h3⟩ := rp_tell hf t
  have hl := rp_len h1
  have hne : ¬ (tellB e h b ++ t) = [] := fun e => by
    rw [e] at hl
    exact absurd hl (Nat.not_lt_zero _)
  conv => lhs; unfold rplL
  rw [if_neg hne, if_pos h1, h2, h3]
theorem rpl_nil (n : Nat) : rplL n ([], 0) = some [] := by
  cases n <;> rfl
theorem rpl_two {e h e2 h2 : Int} {b b2 : List UInt8} (hf : tellOK e h b = true) (hf2 : tellOK e2 h2 b2 = true) : rplL ((tellB e h b ++ tellB e2 h2 b2).length + 1) (tellB e h b ++ tellB e2 h2 b2, 0) = some [(e, h, b), (e2, h2, b2)] := by
  have a1 := rp_len (rp_tell hf []).1
  have a2 := rp_len (rp_tell hf2 []).1
  rw [List.append_nil] at a1 a2
  have a1 : 0 < (tellB e h b).length := Nat.lt_of_le_of_lt (Nat.zero_le _) a1
  have a2 : 0 < (tellB e2 h2 b2).length := Nat.lt_of_le_of_lt (Nat.zero_le _) a2
  rw [rpl_cons hf]
  obtain ⟨m, hm⟩ : ∃ m, (tellB e h b ++ tellB e2 h2 b2).length = m + 1 := ⟨(tellB e h b ++ tellB e2 h2 b2).length - 1, by rw [List.length_append]; omega⟩
  have := rpl_cons (n := m) (t := []) hf2
  rw [List.append_nil, rpl_nil] at this
  rw [hm, this]
  rfl
theorem tellB_len (e h : Int) (b : List UInt8) : (tellB e h b).length = 12 + b.length := by
  unfold tellB
  simp only [List.length_append, encR_length, encT_length]
  omega
@[reducible] def rpT (e h : Int) (b : List UInt8) : SV := .c (.agg [.d (.int .i64 e), .d (.int .i64 h), .d (.str b)])
@[reducible] def ebB (e1 h1 e2 h2 : Int) (s1 s2 : List UInt8) : BL := [(4, .cells [.d (.int .i64 e1), .d (.int .i64 h1), .d (.str s1)]), (5, .cells [.d (.int .i64 e2), .d (.int .i64 h2), .d (.str s2)])]
set_option maxHeartbeats 4000000 in
theorem exportBack_fn (r : Rq) (e1 h1 : Int) (s1 : List UInt8) (e2 h2 : Int) (s2 : List UInt8) (hl1 : s1.length ≤ 1073741824) (hl2 : s2.length ≤ 1073741824) :
    Fn Try.prog 3 [rqV r, rpT e1 h1 s1, rpT e2 h2 s2] [] [] (vB true) [] := by
  have m1 : -9223372036854775808 ≤ (((s1.length : Nat) : Int)) + ((s2.length : Nat) : Int) ∧ (((s1.length : Nat) : Int)) + ((s2.length : Nat) : Int) ≤ 9223372036854775807 := by omega
  have q1 : s1.length ≤ 4294967296 := by omega
  have q2 : s2.length ≤ 4294967296 := by omega
  have hal := alive20_fn
  refine Fn.of tblOK [7] _ _ _ _ _ Try.func3 rfl rfl (by kernel_rfl) (by kernel_rfl) rfl (drawOK tblOK) rfl ?_
  refine ⟨rfl, rfl, rfl, ?_⟩
  refine ⟨m1, ?_⟩
  refine ⟨fun _ => ?_, fun hlt => ?_⟩
  · refine ⟨_, _, _, _, hal, trivial, rfl, ?_⟩
    exact ⟨_, _, _, Le.refl _ _, rfl, rfl, trivial, rfl⟩
  have hlt : decide ((4000 : Int) < (((s1.length : Nat) : Int)) + ((s2.length : Nat) : Int)) = false := hlt
  have hlt := of_decide_eq_false hlt
  refine (Bool.eq_false_or_eq_true (rqFit r && kindOK (rqK r))).elim (fun hq => ?_) (fun hq => ?_)
  · rw [Bool.and_eq_true] at hq
    have hask := ask_ok r hq.1 hq.2
    have hhr := hear_fn (askB r) (by rw [askB_len]; decide)
    have he := hear_ask hq.1 hq.2
    rw [he.1, he.2] at hhr
    have hkl := kl_fit 3 hq.1
    refine ⟨_, _, _, _, hask, trivial, rfl, ?_⟩
    refine ⟨_, _, _, _, Fn.own (d := 1001) (args := [vOwn 1001]) hhr rfl, ⟨rfl, trivial⟩, rfl, ?_⟩
    refine ⟨rfl, ?_⟩
    refine ⟨fun _ => ?_, fun h => absurd h (by decide)⟩
    refine ⟨fun h => absurd h (by decide), fun _ => ?_⟩
    refine ⟨_, _, fun N => opOK_neqDeep (m := 5) (D := 5) (r := true) (lx := rqS r) (ly := rqS r) rfl (by kernel_rfl) (by kernel_rfl) (by decide) rfl rfl rfl (by rfl) (by rfl) hkl hkl ⟨fun _ => rfl, fun _ => rfl⟩ N, rfl, ?_⟩
    refine ⟨fun h => absurd h (by decide), fun _ => ?_⟩
    show TrQ _ _ _ _ _ _ _
    refine TrQ.go tblOK (drawOK tblOK) [] (by kernel_rfl) (Le.sub (K' := [(4, vP 4), (5, vP 5)]) (B' := ebB e1 h1 e2 h2 s1 s2) ⟨rfl, rfl, trivial⟩ ⟨rfl, rfl, trivial⟩) ?_
    refine ⟨q1, ?_⟩
    refine (Bool.eq_false_or_eq_true (tellOK e1 h1 s1)).elim (fun ha => ?_) (fun ha => ?_)
    · have hta := tell_ok e1 h1 s1 (by omega) ha
      refine ⟨_, _, _, _, Fn.ren [(1001, 2001)] hta, trivial, rfl, ?_⟩
      refine ⟨q2, ?_⟩
      refine (Bool.eq_false_or_eq_true (tellOK e2 h2 s2)).elim (fun hb => ?_) (fun hb => ?_)
      · have htb := tell_ok e2 h2 s2 (by omega) hb
        have hrp := replies_ok (tellB e1 h1 s1 ++ tellB e2 h2 s2) [(e1, h1, s1), (e2, h2, s2)] (by rw [List.length_append, tellB_len, tellB_len]; omega) (rpl_two ha hb)
        have hln : (tellB e1 h1 s1).length + (tellB e2 h2 s2).length ≤ 4294967296 := by rw [tellB_len, tellB_len]; omega
        refine ⟨_, _, _, _, Fn.ren [(1001, 2002)] htb, trivial, rfl, ?_⟩
        refine ⟨fun h => absurd h (by decide), fun _ => ?_⟩
        refine ⟨fun h => absurd h (by decide), fun _ => ?_⟩
        refine ⟨hln, rfl, ?_⟩
        refine ⟨_, _, _, _, Fn.own (d := 81) (args := [vOwn 81]) hrp rfl, ⟨rfl, trivial⟩, rfl, ?_⟩
        refine ⟨_, _, _, _, hal, trivial, rfl, ?_⟩
        refine ⟨fun _ => ?_, fun h => absurd h (by decide)⟩
        refine ⟨fun _ => ?_, fun h => absurd h (by decide)⟩
        refine ⟨fun _ => ?_, fun h => absurd (show decide ((2 : Int) = 2) = false from h) (by decide)⟩
        refine ⟨⟨Int.le_refl 0, (show (0 : Int) < 2 by decide)⟩, _, rfl, ?_⟩
        refine ⟨fun _ => ?_, fun h => absurd (show decide (h1 = h1) = false from h) (by simp)⟩
        refine ⟨⟨Int.le_refl 0, (show (0 : Int) < 2 by decide)⟩, _, rfl, ?_⟩
        refine ⟨fun _ => ?_, fun h => absurd (show decide (s1 = s1) = false from h) (by simp)⟩
        refine ⟨⟨(show (0 : Int) ≤ 1 by decide), (show (1 : Int) < 2 by decide)⟩, _, rfl, ?_⟩
        refine ⟨fun _ => ?_, fun h => absurd (show decide (e2 = e2) = false from h) (by simp)⟩
        refine ⟨⟨(show (0 : Int) ≤ 1 by decide), (show (1 : Int) < 2 by decide)⟩, _, rfl, ?_⟩
        refine ⟨indep_of (by kernel_rfl), ?_⟩
        exact ⟨_, _, _, Le.refl _ _, rfl, (decide_eq_true rfl), trivial, rfl⟩
      · have htb := tell_no e2 h2 s2 (by omega) hb
        refine ⟨_, _, _, _, htb, trivial, rfl, ?_⟩
        refine ⟨fun h => absurd h (by decide), fun _ => ?_⟩
        refine ⟨fun _ => ?_, fun h => absurd h (by decide)⟩
        refine ⟨_, _, _, _, hal, trivial, rfl, ?_⟩
        exact ⟨_, _, _, Le.refl _ _, rfl, rfl, trivial, rfl⟩
    · have hta := tell_no e1 h1 s1 (by omega) ha
      refine ⟨_, _, _, _, hta, trivial, rfl, ?_⟩
      refine ⟨q2, ?_⟩
      refine (Bool.eq_false_or_eq_true (tellOK e2 h2 s2)).elim (fun hb => ?_) (fun hb => ?_)
      · have htb := tell_ok e2 h2 s2 (by omega) hb
        refine ⟨_, _, _, _, Fn.ren [(1001, 2002)] htb, trivial, rfl, ?_⟩
        refine ⟨fun _ => ?_, fun h => absurd h (by decide)⟩
        refine ⟨_, _, _, _, hal, trivial, rfl, ?_⟩
        exact ⟨_, _, _, Le.refl _ _, rfl, rfl, trivial, rfl⟩
      · have htb := tell_no e2 h2 s2 (by omega) hb
        refine ⟨_, _, _, _, htb, trivial, rfl, ?_⟩
        refine ⟨fun _ => ?_, fun h => absurd h (by decide)⟩
        refine ⟨_, _, _, _, hal, trivial, rfl, ?_⟩
        exact ⟨_, _, _, Le.refl _ _, rfl, rfl, trivial, rfl⟩
  · have hask := ask_no r hq
    have hhr := hear_fn [] (by decide)
    refine ⟨_, _, _, _, hask, trivial, rfl, ?_⟩
    refine ⟨_, _, _, _, Fn.arg hhr ⟨rfl, trivial⟩, trivial, rfl, ?_⟩
    refine ⟨rfl, ?_⟩
    refine ⟨fun h => absurd h (by decide), fun _ => ?_⟩
    show TrQ _ _ _ _ _ _ _
    refine TrQ.go tblOK (drawOK tblOK) [] (by kernel_rfl) (Le.sub (K' := [(4, vP 4), (5, vP 5)]) (B' := ebB e1 h1 e2 h2 s1 s2) ⟨rfl, rfl, trivial⟩ ⟨rfl, rfl, trivial⟩) ?_
    refine ⟨q1, ?_⟩
    refine (Bool.eq_false_or_eq_true (tellOK e1 h1 s1)).elim (fun ha => ?_) (fun ha => ?_)
    · have hta := tell_ok e1 h1 s1 (by omega) ha
      refine ⟨_, _, _, _, Fn.ren [(1001, 2001)] hta, trivial, rfl, ?_⟩
      refine ⟨q2, ?_⟩
      refine (Bool.eq_false_or_eq_true (tellOK e2 h2 s2)).elim (fun hb => ?_) (fun hb => ?_)
      · have htb := tell_ok e2 h2 s2 (by omega) hb
        have hrp := replies_ok (tellB e1 h1 s1 ++ tellB e2 h2 s2) [(e1, h1, s1), (e2, h2, s2)] (by rw [List.length_append, tellB_len, tellB_len]; omega) (rpl_two ha hb)
        have hln : (tellB e1 h1 s1).length + (tellB e2 h2 s2).length ≤ 4294967296 := by rw [tellB_len, tellB_len]; omega
        refine ⟨_, _, _, _, Fn.ren [(1001, 2002)] htb, trivial, rfl, ?_⟩
        refine ⟨fun h => absurd h (by decide), fun _ => ?_⟩
        refine ⟨fun h => absurd h (by decide), fun _ => ?_⟩
        refine ⟨hln, rfl, ?_⟩
        refine ⟨_, _, _, _, Fn.own (d := 81) (args := [vOwn 81]) hrp rfl, ⟨rfl, trivial⟩, rfl, ?_⟩
        refine ⟨_, _, _, _, hal, trivial, rfl, ?_⟩
        refine ⟨fun _ => ?_, fun h => absurd h (by decide)⟩
        refine ⟨fun _ => ?_, fun h => absurd h (by decide)⟩
        refine ⟨fun _ => ?_, fun h => absurd (show decide ((2 : Int) = 2) = false from h) (by decide)⟩
        refine ⟨⟨Int.le_refl 0, (show (0 : Int) < 2 by decide)⟩, _, rfl, ?_⟩
        refine ⟨fun _ => ?_, fun h => absurd (show decide (h1 = h1) = false from h) (by simp)⟩
        refine ⟨⟨Int.le_refl 0, (show (0 : Int) < 2 by decide)⟩, _, rfl, ?_⟩
        refine ⟨fun _ => ?_, fun h => absurd (show decide (s1 = s1) = false from h) (by simp)⟩
        refine ⟨⟨(show (0 : Int) ≤ 1 by decide), (show (1 : Int) < 2 by decide)⟩, _, rfl, ?_⟩
        refine ⟨fun _ => ?_, fun h => absurd (show decide (e2 = e2) = false from h) (by simp)⟩
        refine ⟨⟨(show (0 : Int) ≤ 1 by decide), (show (1 : Int) < 2 by decide)⟩, _, rfl, ?_⟩
        refine ⟨indep_of (by kernel_rfl), ?_⟩
        exact ⟨_, _, _, Le.refl _ _, rfl, (decide_eq_true rfl), trivial, rfl⟩
      · have htb := tell_no e2 h2 s2 (by omega) hb
        refine ⟨_, _, _, _, htb, trivial, rfl, ?_⟩
        refine ⟨fun h => absurd h (by decide), fun _ => ?_⟩
        refine ⟨fun _ => ?_, fun h => absurd h (by decide)⟩
        refine ⟨_, _, _, _, hal, trivial, rfl, ?_⟩
        exact ⟨_, _, _, Le.refl _ _, rfl, rfl, trivial, rfl⟩
    · have hta := tell_no e1 h1 s1 (by omega) ha
      refine ⟨_, _, _, _, hta, trivial, rfl, ?_⟩
      refine ⟨q2, ?_⟩
      refine (Bool.eq_false_or_eq_true (tellOK e2 h2 s2)).elim (fun hb => ?_) (fun hb => ?_)
      · have htb := tell_ok e2 h2 s2 (by omega) hb
        refine ⟨_, _, _, _, Fn.ren [(1001, 2002)] htb, trivial, rfl, ?_⟩
        refine ⟨fun _ => ?_, fun h => absurd h (by decide)⟩
        refine ⟨_, _, _, _, hal, trivial, rfl, ?_⟩
        exact ⟨_, _, _, Le.refl _ _, rfl, rfl, trivial, rfl⟩
      · have htb := tell_no e2 h2 s2 (by omega) hb
        refine ⟨_, _, _, _, htb, trivial, rfl, ?_⟩
        refine ⟨fun _ => ?_, fun h => absurd h (by decide)⟩
        refine ⟨_, _, _, _, hal, trivial, rfl, ?_⟩
        exact ⟨_, _, _, Le.refl _ _, rfl, rfl, trivial, rfl⟩
end Go.Proofs.Ytmdhangeglaigaa
