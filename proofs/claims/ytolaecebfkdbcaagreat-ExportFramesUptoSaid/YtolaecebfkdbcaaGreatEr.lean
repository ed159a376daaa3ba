/-
  The document's requests and replies (reference 20).
-/
import Derived.Test.YtolaecebfkdbcaaGreatOr
import Derived.Test.YtolaecebfkdbcaaGreatEx
set_option linter.unusedVariables false
set_option linter.unusedSimpArgs false
set_option maxRecDepth 10000
namespace Go.Proofs.YtolaecebfkdbcaaGreat
open Go.RowKit Go.Proofs
theorem W1 : W 1 := by unfold W; simp
theorem W2 : W 2 := by unfold W; simp
theorem W4 : W 4 := by unfold W; simp
/-! ### Ask -/
@[reducible] def askR (r : Rq) : List UInt8 := ((((onum 1886286962 4 ++ onum (rqK r) 1) ++ onum (rqC r) 1) ++ onum (rqH r) 2) ++ onum (rqA r) 4) ++ onum (rqL r) 4
def askOK (r : Rq) : Bool := rqFit r && kindOK (rqK r)
theorem askR_fit {r : Rq} (h : rqFit r = true) : askR r = askB r := by
  have h0 := h
  unfold rqFit at h
  simp only [Bool.and_eq_true] at h
  obtain ⟨a, b, c, d, e⟩ := h
  unfold askR askB
  rw [onum_fit a, onum_fit b, onum_fit c, onum_fit d, onum_fit e, onum_fit (show fit 4 1886286962 = true from rfl)]
  simp only [List.append_assoc]
  rfl
theorem askR_len {r : Rq} (h : (askR r).length = 16) : rqFit r = true := by
  have l0 := onum_len 1886286962 4
  have l1 := onum_len (rqK r) 1
  have l2 := onum_len (rqC r) 1
  have l3 := onum_len (rqH r) 2
  have l4 := onum_len (rqA r) 4
  have l5 := onum_len (rqL r) 4
  unfold askR at h
  simp only [List.length_append] at h
  unfold rqFit
  rw [onum_full (w := 1) (by decide) (n := rqK r) (by omega), onum_full (w := 1) (by decide) (n := rqC r) (by omega), onum_full (w := 2) (by decide) (n := rqH r) (by omega), onum_full (w := 4) (by decide) (n := rqA r) (by omega), onum_full (w := 4) (by decide) (n := rqL r) (by omega)]
  rfl
@[reducible] def askX (b : Bool) (r : Rq) : List UInt8 := bif b then askB r else []
set_option maxHeartbeats 1000000 in
theorem rask_fn (r : Rq) : Fn Tryz.prog 9 [rqV r] [] [] (.tup [.one (.d (.str (askX (askOK r) r))), .one (.d (.int .i64 (e200 (askOK r))))]) [] := by
  have l0 := onum_len 1886286962 4
  have l1 := onum_len (rqK r) 1
  have l2 := onum_len (rqC r) 1
  have l3 := onum_len (rqH r) 2
  have l4 := onum_len (rqA r) 4
  have l5 := onum_len (rqL r) 4
  have m1 : (onum 1886286962 4).length + (onum (rqK r) 1).length ≤ 4294967296 := by omega
  have m2 : (onum 1886286962 4 ++ onum (rqK r) 1).length + (onum (rqC r) 1).length ≤ 4294967296 := by simp only [List.length_append]; omega
  have m3 : ((onum 1886286962 4 ++ onum (rqK r) 1) ++ onum (rqC r) 1).length + (onum (rqH r) 2).length ≤ 4294967296 := by simp only [List.length_append]; omega
  have m4 : (((onum 1886286962 4 ++ onum (rqK r) 1) ++ onum (rqC r) 1) ++ onum (rqH r) 2).length + (onum (rqA r) 4).length ≤ 4294967296 := by simp only [List.length_append]; omega
  have m5 : ((((onum 1886286962 4 ++ onum (rqK r) 1) ++ onum (rqC r) 1) ++ onum (rqH r) 2) ++ onum (rqA r) 4).length + (onum (rqL r) 4).length ≤ 4294967296 := by simp only [List.length_append]; omega
  have hfit := @askR_fit r
  have hlen := @askR_len r
  have n0 := onum_any 1886286962 4 W4
  have n1 := onum_any (rqK r) 1 W1
  have n2 := onum_any (rqC r) 1 W1
  have n3 := onum_any (rqH r) 2 W2
  have n4 := onum_any (rqA r) 4 W4
  have n5 := onum_any (rqL r) 4 W4
  unfold askR at hfit hlen
  clear l0 l1 l2 l3 l4 l5
  generalize onum 1886286962 4 = b0 at *
  generalize onum (rqK r) 1 = b1 at *
  generalize onum (rqC r) 1 = b2 at *
  generalize onum (rqH r) 2 = b3 at *
  generalize onum (rqA r) 4 = b4 at *
  generalize onum (rqL r) 4 = b5 at *
  refine Fn.of tblOK [] _ _ _ _ _ Tryz.func9 rfl rfl (by kernel_rfl) (by kernel_rfl) rfl (drawOK tblOK) rfl ?_
  refine ⟨rfl, ?_⟩
  refine ⟨_, _, _, _, n0, trivial, rfl, ?_⟩
  refine ⟨_, _, _, _, n1, trivial, rfl, ?_⟩
  refine ⟨m1, ?_⟩
  refine ⟨_, _, _, _, n2, trivial, rfl, ?_⟩
  refine ⟨m2, ?_⟩
  refine ⟨_, _, _, _, n3, trivial, rfl, ?_⟩
  refine ⟨m3, ?_⟩
  refine ⟨_, _, _, _, n4, trivial, rfl, ?_⟩
  refine ⟨m4, ?_⟩
  refine ⟨_, _, _, _, n5, trivial, rfl, ?_⟩
  refine ⟨m5, ?_⟩
  refine ⟨indep_of (by kernel_rfl), ?_⟩
  generalize hx : ((((b0 ++ b1) ++ b2) ++ b3) ++ b4) ++ b5 = x at *
  have hno : ((x.length : Nat) : Int) ≠ 16 ∨ rqK r < 1 ∨ 4 < rqK r → askOK r = false := by
    intro h
    unfold askOK
    cases hf : rqFit r with
    | false => rfl
    | true =>
      have hl := askB_len r
      rw [← hfit hf] at hl
      show kindOK (rqK r) = false
      unfold kindOK
      rcases h with h | h | h
      · exact absurd (show ((x.length : Nat) : Int) = 16 by rw [hl]; rfl) h
      · rw [decide_eq_false (show ¬ 1 ≤ rqK r by omega)]; rfl
      · rw [decide_eq_false (show ¬ rqK r ≤ 4 by omega), Bool.and_false]
  refine ⟨fun h => ?_, fun h => ?_⟩
  · have h : (!decide (((x.length : Nat) : Int) = 16)) = true := h
    rw [hno (.inl (by simpa using h))]
    exact ⟨_, _, _, Le.refl _ _, rfl, ⟨rfl, rfl, trivial⟩, trivial, rfl⟩
  have h : (!decide (((x.length : Nat) : Int) = 16)) = false := h
  have h : ((x.length : Nat) : Int) = 16 := by simpa using h
  refine ⟨fun h1 => ?_, fun h1 => ?_⟩
  · have h1 : decide (rqK r < 1) = true := h1
    rw [hno (.inr (.inl (of_decide_eq_true h1)))]
    exact ⟨_, _, _, Le.refl _ _, rfl, ⟨rfl, rfl, trivial⟩, trivial, rfl⟩
  have h1 : decide (rqK r < 1) = false := h1
  have h1 := of_decide_eq_false h1
  refine ⟨fun h2 => ?_, fun h2 => ?_⟩
  · have h2 : decide (4 < rqK r) = true := h2
    rw [hno (.inr (.inr (of_decide_eq_true h2)))]
    exact ⟨_, _, _, Le.refl _ _, rfl, ⟨rfl, rfl, trivial⟩, trivial, rfl⟩
  have h2 : decide (4 < rqK r) = false := h2
  have h2 := of_decide_eq_false h2
  have hf := hlen (by omega)
  have hok : askOK r = true := by
    unfold askOK kindOK
    rw [hf, decide_eq_true (show 1 ≤ rqK r by omega), decide_eq_true (show rqK r ≤ 4 by omega)]
    rfl
  rw [hok]
  exact ⟨_, _, _, Le.refl _ _, rfl, ⟨hfit hf, rfl, trivial⟩, trivial, rfl⟩
/-! ### Hear -/
theorem rdN_lt (w : Nat) (st : St) : (rdN w st).2 < 256 ^ w :=
  Nat.lt_of_lt_of_le (decN_lt (tkX w st)) (Nat.pow_le_pow_right (by decide) (tkX_length w st))
theorem fit_rd (w : Nat) (st : St) : fit w (((rdN w st).2 : Nat) : Int) = true :=
  fit_iff.2 ⟨by omega, by rw [Int.toNat_natCast]; exact rdN_lt w st⟩
theorem hearR_fit (s : List UInt8) : rqFit (hearR s) = true := by
  unfold rqFit
  have a1 : fit 1 (rqK (hearR s)) = true := fit_rd 1 _
  have a2 : fit 1 (rqC (hearR s)) = true := fit_rd 1 _
  have a3 : fit 2 (rqH (hearR s)) = true := fit_rd 2 _
  have a4 : fit 4 (rqA (hearR s)) = true := fit_rd 4 _
  have a5 : fit 4 (rqL (hearR s)) = true := fit_rd 4 _
  rw [a1, a2, a3, a4, a5]
  rfl
theorem hear_back {s : List UInt8} (h : (q6 s).1.2 = 0) : s = encR (q1 s).2 4 ++ (encR (q2 s).2 1 ++ (encR (q3 s).2 1 ++ (encR (q4 s).2 2 ++ (encR (q5 s).2 4 ++ (encR (q6 s).2 4 ++ (q6 s).1.1))))) := by
  obtain ⟨a1, a2⟩ := rdN_back (w := 4) (st := (q5 s).1) h
  obtain ⟨b1, b2⟩ := rdN_back (w := 4) (st := (q4 s).1) a1
  obtain ⟨c1, c2⟩ := rdN_back (w := 2) (st := (q3 s).1) b1
  obtain ⟨d1, d2⟩ := rdN_back (w := 1) (st := (q2 s).1) c1
  obtain ⟨e1, e2⟩ := rdN_back (w := 1) (st := (q1 s).1) d1
  obtain ⟨f1, f2⟩ := rdN_back (w := 4) (st := (s, 0)) e1
  have f2 : s = encR (q1 s).2 4 ++ (q1 s).1.1 := f2
  have e2 : (q1 s).1.1 = encR (q2 s).2 1 ++ (q2 s).1.1 := e2
  have d2 : (q2 s).1.1 = encR (q3 s).2 1 ++ (q3 s).1.1 := d2
  have c2 : (q3 s).1.1 = encR (q4 s).2 2 ++ (q4 s).1.1 := c2
  have b2 : (q4 s).1.1 = encR (q5 s).2 4 ++ (q5 s).1.1 := b2
  have a2 : (q5 s).1.1 = encR (q6 s).2 4 ++ (q6 s).1.1 := a2
  rw [← a2, ← b2, ← c2, ← d2, ← e2]
  exact f2
theorem askB_hear (s : List UInt8) : askB (hearR s) = encR asks 4 ++ (encR (q2 s).2 1 ++ (encR (q3 s).2 1 ++ (encR (q4 s).2 2 ++ (encR (q5 s).2 4 ++ encR (q6 s).2 4)))) := by
  rfl
/-- What is read, written, is the same just when the bytes are a request. -/
theorem hear_iff (s : List UInt8) : hearOK s = (decide ((q6 s).1.2 = 0) && (askOK (hearR s) && decide (askB (hearR s) = s))) := by
  by_cases h0 : (q6 s).1.2 = 0
  · have hb := hear_back h0
    have ha := askB_hear s
    have hk : askOK (hearR s) = kindOK ((q2 s).2 : Int) := by
      unfold askOK
      rw [hearR_fit]
      rfl
    rw [decide_eq_true h0, hk, Bool.true_and]
    unfold hearOK
    by_cases hm : (q1 s).2 = asks ∧ (q6 s).1.1 = []
    · obtain ⟨m1, m2⟩ := hm
      have he : endE (q6 s).1 = 0 := by
        unfold endE
        rw [m2, h0]
        rfl
      have hs : askB (hearR s) = s := by
        rw [ha]
        conv => rhs; rw [hb]
        rw [m1, m2, List.append_nil]
      rw [decide_eq_true he, decide_eq_true m1, decide_eq_true hs, Bool.and_true]
      rfl
    · have hs : ¬ askB (hearR s) = s := by
        intro hs
        apply hm
        have hq := congrArg q1 hs
        have g1 : q1 (askB (hearR s)) = _ := rdN_forth (n := asks) (w := 4) (by decide) _
        rw [g1] at hq
        refine ⟨(congrArg Prod.snd hq).symm, ?_⟩
        have hl := congrArg List.length hs
        have hl2 := congrArg List.length hb
        rw [askB_len] at hl
        simp only [List.length_append, encR_length] at hl2
        exact List.eq_nil_of_length_eq_zero (by omega)
      rw [decide_eq_false hs, Bool.and_false]
      by_cases m1 : (q1 s).2 = asks
      · have m2 : ¬ (q6 s).1.1 = [] := fun e => hm ⟨m1, e⟩
        have he : ¬ endE (q6 s).1 = 0 := by
          unfold endE
          rw [if_pos ⟨h0, List.length_pos_iff.2 m2⟩]
          decide
        rw [decide_eq_false he, Bool.false_and]
      · rw [decide_eq_false m1, Bool.false_and, Bool.and_false]
  · have he : ¬ endE (q6 s).1 = 0 := by
      unfold endE
      rw [if_neg fun h => h0 h.1]
      exact h0
    unfold hearOK
    rw [decide_eq_false h0, decide_eq_false he, Bool.false_and, Bool.false_and]
@[reducible] def rhB (s : List UInt8) (e : Int) : List S1 := [.d (.str s), .d (.int .i64 e)]
set_option maxHeartbeats 2000000 in
theorem rhear_fn (s : List UInt8) : Fn Tryz.prog 13 [vS s] [] [] (.tup [.agg (rqS (rqOr (hearOK s) (hearR s))), .one (.d (.int .i64 (e200 (hearOK s))))]) [] := by
  have h1 := readNum_spec (s, 0) 4 W4
  have h2 := readNum_spec (q1 s).1 1 W1
  have h3 := readNum_spec (q2 s).1 1 W1
  have h4 := readNum_spec (q3 s).1 2 W2
  have h5 := readNum_spec (q4 s).1 4 W4
  have h6 := readNum_spec (q5 s).1 4 W4
  have ha := rask_fn (hearR s)
  have hi := hear_iff s
  have hR : hearR s = (((q2 s).2 : Int), ((q3 s).2 : Int), ((q4 s).2 : Int), ((q5 s).2 : Int), ((q6 s).2 : Int)) := rfl
  rw [hR] at ha hi
  rw [hR]
  change Fn _ _ _ _ _ (.tup [vSt (q1 s).1, .one (.d (.int .i64 ((q1 s).2 : Nat)))]) _ at h1
  change Fn _ _ _ _ _ (.tup [vSt (q2 s).1, .one (.d (.int .i64 ((q2 s).2 : Nat)))]) _ at h2
  change Fn _ _ _ _ _ (.tup [vSt (q3 s).1, .one (.d (.int .i64 ((q3 s).2 : Nat)))]) _ at h3
  change Fn _ _ _ _ _ (.tup [vSt (q4 s).1, .one (.d (.int .i64 ((q4 s).2 : Nat)))]) _ at h4
  change Fn _ _ _ _ _ (.tup [vSt (q5 s).1, .one (.d (.int .i64 ((q5 s).2 : Nat)))]) _ at h5
  change Fn _ _ _ _ _ (.tup [vSt (q6 s).1, .one (.d (.int .i64 ((q6 s).2 : Nat)))]) _ at h6
  clear hR
  generalize hearOK s = ok at *
  generalize q1 s = a1 at *
  generalize q2 s = a2 at *
  generalize q3 s = a3 at *
  generalize q4 s = a4 at *
  generalize q5 s = a5 at *
  generalize q6 s = a6 at *
  obtain ⟨⟨s1, e1⟩, n1⟩ := a1
  obtain ⟨⟨s2, e2⟩, n2⟩ := a2
  obtain ⟨⟨s3, e3⟩, n3⟩ := a3
  obtain ⟨⟨s4, e4⟩, n4⟩ := a4
  obtain ⟨⟨s5, e5⟩, n5⟩ := a5
  obtain ⟨⟨s6, e6⟩, n6⟩ := a6
  simp only at h1 h2 h3 h4 h5 h6 ha hi ⊢
  generalize hrr : (((n2 : Int), (n3 : Int), (n4 : Int), (n5 : Int), (n6 : Int)) : Rq) = r at *
  have g1 : rqK r = (n2 : Int) := by rw [← hrr]
  have g2 : rqC r = (n3 : Int) := by rw [← hrr]
  have g3 : rqH r = (n4 : Int) := by rw [← hrr]
  have g4 : rqA r = (n5 : Int) := by rw [← hrr]
  have g5 : rqL r = (n6 : Int) := by rw [← hrr]
  refine Fn.of tblOK [] _ _ _ _ _ Tryz.func13 rfl rfl (by kernel_rfl) (by kernel_rfl) rfl (drawOK tblOK) rfl ?_
  refine ⟨rfl, rfl, ?_⟩
  refine ⟨_, _, _, _, h1, trivial, rfl, ?_⟩
  refine ⟨rfl, ?_⟩
  refine ⟨_, _, _, _, h2, trivial, rfl, ?_⟩
  refine ⟨_, _, _, _, h3, trivial, rfl, ?_⟩
  refine ⟨_, _, _, _, h4, trivial, rfl, ?_⟩
  refine ⟨_, _, _, _, h5, trivial, rfl, ?_⟩
  refine ⟨_, _, _, _, h6, trivial, rfl, ?_⟩
  subst hrr
  refine ⟨_, _, _, _, ha, trivial, rfl, ?_⟩
  refine ⟨fun h => ?_, fun h => ?_⟩
  · have h : (!decide (e6 = 0)) = true := h
    have hok : ok = false := by
      rw [hi]
      rw [show decide (e6 = 0) = false by simpa using h]
      rfl
    subst hok
    exact ⟨_, _, _, Le.refl _ _, rfl, ⟨⟨rfl, rfl, rfl, rfl, rfl, trivial⟩, rfl, trivial⟩, trivial, rfl⟩
  have h : (!decide (e6 = 0)) = false := h
  have h : decide (e6 = 0) = true := by simpa using h
  rw [h, Bool.true_and] at hi
  generalize askOK ((n2 : Int), (n3 : Int), (n4 : Int), (n5 : Int), (n6 : Int)) = ak at *
  refine ⟨fun h1 => ?_, fun h1 => ?_⟩
  · have h1 : (!decide (e200 ak = 0)) = true := h1
    have hk : ak = false := by
      cases ak
      · rfl
      · exact absurd h1 (by decide)
    subst hk
    have hok : ok = false := by rw [hi]; rfl
    subst hok
    exact ⟨_, _, _, Le.refl _ _, rfl, ⟨⟨rfl, rfl, rfl, rfl, rfl, trivial⟩, rfl, trivial⟩, trivial, rfl⟩
  have h1 : (!decide (e200 ak = 0)) = false := h1
  have hk : ak = true := by
    cases ak
    · exact absurd h1 (by decide)
    · rfl
  subst hk
  rw [Bool.true_and] at hi
  refine ⟨fun h2 => ?_, fun h2 => ?_⟩
  · have h2 : (!decide (askB ((n2 : Int), (n3 : Int), (n4 : Int), (n5 : Int), (n6 : Int)) = s)) = true := h2
    have hok : ok = false := by rw [hi]; simpa using h2
    subst hok
    exact ⟨_, _, _, Le.refl _ _, rfl, ⟨⟨rfl, rfl, rfl, rfl, rfl, trivial⟩, rfl, trivial⟩, trivial, rfl⟩
  · have h2 : (!decide (askB ((n2 : Int), (n3 : Int), (n4 : Int), (n5 : Int), (n6 : Int)) = s)) = false := h2
    have hok : ok = true := by rw [hi]; simpa using h2
    subst hok
    exact ⟨_, _, _, Le.refl _ _, rfl, ⟨⟨rfl, rfl, rfl, rfl, rfl, trivial⟩, rfl, trivial⟩, trivial, rfl⟩
end Go.Proofs.YtolaecebfkdbcaaGreat
