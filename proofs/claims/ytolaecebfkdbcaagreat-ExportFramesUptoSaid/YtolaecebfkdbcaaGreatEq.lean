/-
  The document's replies and extents (reference 20).
-/
import Derived.Test.YtolaecebfkdbcaaGreatEr
set_option linter.unusedVariables false
set_option linter.unusedSimpArgs false
set_option maxRecDepth 10000
namespace Go.Proofs.YtolaecebfkdbcaaGreat
open Go.RowKit Go.Proofs
/-! ### Tell -/
@[reducible] def rpT (e h : Int) (b : List UInt8) : SV := .c (.agg [.d (.int .i64 e), .d (.int .i64 h), .d (.str b)])
@[reducible] def telR (e h : Int) (n : Nat) : List UInt8 := ((onum 1886286945 4 ++ onum e 2) ++ onum h 2) ++ onum ((n : Nat) : Int) 4
theorem telR_fit {e h : Int} {b : List UInt8} (hf : tellOK e h b = true) : telR e h b.length ++ b = tellB e h b := by
  unfold tellOK at hf
  simp only [Bool.and_eq_true] at hf
  obtain ⟨a, c, d⟩ := hf
  unfold telR tellB encT
  rw [onum_fit a, onum_fit c, onum_fit d, onum_fit (show fit 4 1886286945 = true from rfl), Int.toNat_natCast]
  simp only [List.append_assoc]
  rfl
theorem telR_len {e h : Int} {b : List UInt8} : (telR e h b.length).length = 12 ↔ tellOK e h b = true := by
  constructor
  · intro hl
    have l0 := onum_len 1886286945 4
    have l1 := onum_len e 2
    have l2 := onum_len h 2
    have l3 := onum_len ((b.length : Nat) : Int) 4
    unfold telR at hl
    simp only [List.length_append] at hl
    unfold tellOK
    rw [onum_full (w := 2) (by decide) (n := e) (by omega), onum_full (w := 2) (by decide) (n := h) (by omega), onum_full (w := 4) (by decide) (n := ((b.length : Nat) : Int)) (by omega)]
    rfl
  · intro hf
    have h2 := congrArg List.length (telR_fit hf)
    rw [List.length_append] at h2
    have h3 : (tellB e h b).length = 12 + b.length := by
      unfold tellB
      simp only [List.length_append, encR_length, encT_length]
      omega
    omega
@[reducible] def tellX (k : Bool) (e h : Int) (b : List UInt8) : List UInt8 := bif k then tellB e h b else []
set_option maxHeartbeats 1000000 in
theorem rtell_fn (e h : Int) (b : List UInt8) (hb : b.length ≤ 1000000000) : Fn Tryz.prog 11 [rpT e h b] [] [] (.tup [.one (.d (.str (tellX (tellOK e h b) e h b))), .one (.d (.int .i64 (e200 (tellOK e h b))))]) [] := by
  have l0 := onum_len 1886286945 4
  have l1 := onum_len e 2
  have l2 := onum_len h 2
  have l3 := onum_len ((b.length : Nat) : Int) 4
  have m1 : (onum 1886286945 4).length + (onum e 2).length ≤ 4294967296 := by omega
  have m2 : (onum 1886286945 4 ++ onum e 2).length + (onum h 2).length ≤ 4294967296 := by simp only [List.length_append]; omega
  have m3 : ((onum 1886286945 4 ++ onum e 2) ++ onum h 2).length + (onum ((b.length : Nat) : Int) 4).length ≤ 4294967296 := by simp only [List.length_append]; omega
  have m4 : (((onum 1886286945 4 ++ onum e 2) ++ onum h 2) ++ onum ((b.length : Nat) : Int) 4).length + b.length ≤ 4294967296 := by simp only [List.length_append]; omega
  have hfit := @telR_fit e h b
  have hlen := @telR_len e h b
  have n0 := onum_any 1886286945 4 W4
  have n1 := onum_any e 2 W2
  have n2 := onum_any h 2 W2
  have n3 := onum_any ((b.length : Nat) : Int) 4 W4
  unfold telR at hfit hlen
  clear l0 l1 l2 l3
  generalize onum 1886286945 4 = b0 at *
  generalize onum e 2 = b1 at *
  generalize onum h 2 = b2 at *
  generalize onum ((b.length : Nat) : Int) 4 = b3 at *
  refine Fn.of tblOK [] _ _ _ _ _ Tryz.func11 rfl rfl (by kernel_rfl) (by kernel_rfl) rfl (drawOK tblOK) rfl ?_
  refine ⟨rfl, ?_⟩
  refine ⟨_, _, _, _, n0, trivial, rfl, ?_⟩
  refine ⟨_, _, _, _, n1, trivial, rfl, ?_⟩
  refine ⟨m1, ?_⟩
  refine ⟨_, _, _, _, n2, trivial, rfl, ?_⟩
  refine ⟨m2, ?_⟩
  refine ⟨_, _, _, _, n3, trivial, rfl, ?_⟩
  refine ⟨m3, ?_⟩
  refine ⟨indep_of (by kernel_rfl), ?_⟩
  generalize ((b0 ++ b1) ++ b2) ++ b3 = x at *
  refine ⟨fun g => ?_, fun g => ?_⟩
  · have g : (!decide (((x.length : Nat) : Int) = 12)) = true := g
    have hk : tellOK e h b = false := by
      cases hk : tellOK e h b
      · rfl
      · rw [hlen.2 hk] at g; exact absurd g (by decide)
    rw [hk]
    exact ⟨_, _, _, Le.refl _ _, rfl, ⟨rfl, rfl, trivial⟩, trivial, rfl⟩
  · have g : (!decide (((x.length : Nat) : Int) = 12)) = false := g
    have g : ((x.length : Nat) : Int) = 12 := by simpa using g
    have hk : tellOK e h b = true := hlen.1 (by omega)
    rw [hk]
    refine ⟨m4, ?_⟩
    exact ⟨_, _, _, Le.refl _ _, rfl, ⟨hfit hk, rfl, trivial⟩, trivial, rfl⟩
/-! ### Replies -/
theorem rd_tell (st : St) : tellOK ((t2 st).2 : Int) ((t3 st).2 : Int) (t4 st).2 = true := by
  unfold tellOK
  have a1 : fit 2 (((t2 st).2 : Nat) : Int) = true := fit_rd 2 _
  have a2 : fit 2 (((t3 st).2 : Nat) : Int) = true := fit_rd 2 _
  have a3 : fit 4 (((t4 st).2.length : Nat) : Int) = true := by
    refine fit_iff.2 ⟨by omega, ?_⟩
    rw [Int.toNat_natCast]
    exact Nat.lt_of_le_of_lt (tkX_length _ _) (rdN_lt 4 _)
  rw [a1, a2, a3]
  rfl
theorem rp_back {s : List UInt8} (h : (t4 (s, 0)).1.2 = 0) : s = encR (t1 (s, 0)).2 4 ++ (encR (t2 (s, 0)).2 2 ++ (encR (t3 (s, 0)).2 2 ++ (encT (t4 (s, 0)).2 4 ++ (t4 (s, 0)).1.1))) := by
  obtain ⟨a1, a2⟩ := rdT_back (w := 4) (st := (t3 (s, 0)).1) h
  obtain ⟨b1, b2⟩ := rdN_back (w := 2) (st := (t2 (s, 0)).1) a1
  obtain ⟨c1, c2⟩ := rdN_back (w := 2) (st := (t1 (s, 0)).1) b1
  obtain ⟨d1, d2⟩ := rdN_back (w := 4) (st := (s, 0)) c1
  have d2 : s = encR (t1 (s, 0)).2 4 ++ (t1 (s, 0)).1.1 := d2
  have c2 : (t1 (s, 0)).1.1 = encR (t2 (s, 0)).2 2 ++ (t2 (s, 0)).1.1 := c2
  have b2 : (t2 (s, 0)).1.1 = encR (t3 (s, 0)).2 2 ++ (t3 (s, 0)).1.1 := b2
  have a2 : (t3 (s, 0)).1.1 = encT (t4 (s, 0)).2 4 ++ (t4 (s, 0)).1.1 := a2
  rw [← a2, ← b2, ← c2]
  exact d2
theorem encR_inj {n m w : Nat} (hn : n < 256 ^ w) (hm : m < 256 ^ w) (h : encR n w = encR m w) : n = m := by
  have := congrArg decN h
  rwa [decN_encR n w hn, decN_encR m w hm] at this
theorem take_ahead {s p t : List UInt8} (e : s = p ++ t) : s.take (s.length - t.length) = p := by
  subst e
  rw [List.length_append, Nat.add_sub_cancel]
  exact List.take_left' rfl
/-- What is read, written, is the same just when it is a reply. -/
theorem rp_iff (s : List UInt8) : rpOK (s, 0) = (decide ((t4 (s, 0)).1.2 = 0) && decide (tellB ((t2 (s, 0)).2 : Int) ((t3 (s, 0)).2 : Int) (t4 (s, 0)).2 = s.take (s.length - (t4 (s, 0)).1.1.length))) := by
  by_cases h0 : (t4 (s, 0)).1.2 = 0
  · have hb := rp_back h0
    have hm := rdN_lt 4 (s, 0)
    have hm : (t1 (s, 0)).2 < 256 ^ 4 := hm
    have ht : tellB ((t2 (s, 0)).2 : Int) ((t3 (s, 0)).2 : Int) (t4 (s, 0)).2 = encR tells 4 ++ (encR (t2 (s, 0)).2 2 ++ (encR (t3 (s, 0)).2 2 ++ encT (t4 (s, 0)).2 4)) := by
      unfold tellB
      simp only [Int.toNat_natCast]
    unfold rpOK
    rw [decide_eq_true h0, ht, Bool.true_and, Bool.true_and]
    generalize (t1 (s, 0)).2 = n1 at *
    generalize (t2 (s, 0)).2 = n2 at *
    generalize (t3 (s, 0)).2 = n3 at *
    generalize (t4 (s, 0)).1.1 = rest at *
    generalize (t4 (s, 0)).2 = b4 at *
    have hs : s.take (s.length - rest.length) = encR n1 4 ++ (encR n2 2 ++ (encR n3 2 ++ encT b4 4)) := by
      have e : s = (encR n1 4 ++ (encR n2 2 ++ (encR n3 2 ++ encT b4 4))) ++ rest := by
        conv => lhs; rw [hb]
        simp only [List.append_assoc]
      exact take_ahead e
    rw [hs]
    refine decide_eq_decide.2 ⟨fun h => by rw [h], fun h => ?_⟩
    have h2 := List.append_inj_left h (by rw [encR_length, encR_length])
    exact (encR_inj (by decide) hm h2).symm
  · unfold rpOK
    rw [decide_eq_false h0, Bool.false_and, Bool.false_and]
@[reducible] def uRt : U := .pr (.int .i64) (.pr (.int .i64) .str)
@[reducible] def rqB (acc : List (El uRt)) : BL := [(5001, .row 26 uRt acc)]
@[reducible] def rqB2 (acc : List (El uRt)) : BL := [(61, .row 26 uRt acc)]
theorem rq_lemma (s0 s4 : List UInt8) (h : s4.length ≤ s0.length) : ((((s0.length : Nat) : Int)) - ((s4.length : Nat) : Int)).toNat = s0.length - s4.length := by omega
set_option maxHeartbeats 2000000 in
theorem rreplies_ok (s : List UInt8) (l : List Rp) (hs : s.length ≤ 100000) (hr : rplL (s.length + 1) (s, 0) = some l) : Fn Tryz.prog 42 [vS s] [] [1001] (.tup [.one (.own 1001), .one (.d (.bool true))]) [(1001, .row 26 uRt l)] := by
  refine Fn.of tblOK [] _ _ _ _ _ Tryz.func42 rfl rfl (by kernel_rfl) (by kernel_rfl) rfl (drawOK tblOK) rfl ?_
  show TrQ _ _ _ _ _ _ _
  refine TrQ.loop tblOK (drawOK tblOK) [] (by kernel_rfl) (X := List Rp × List UInt8 × Nat) (fun x => [(4, vOwn 5001), (0, vS x.2.1)]) (fun x => rqB x.1) (fun x => x.2.1.length < x.2.2 ∧ x.1.length + x.2.1.length ≤ s.length ∧ (rplL x.2.2 (x.2.1, 0)).map (x.1 ++ ·) = some l) (fun x => x.2.2) ([], s, s.length + 1) ⟨Nat.lt_succ_self _, (by show 0 + s.length ≤ s.length; omega), by rw [hr]; simp⟩ ?_ ?_
  · exact Le.trans (Le.nil 4 5001 26 uRt rfl rfl) (Le.sub ⟨rfl, rfl, trivial⟩ ⟨rfl, trivial⟩)
  rintro ⟨acc, s0, n⟩ ⟨hn, hlen, hrp⟩
  have hn : s0.length < n := hn
  have hlen : acc.length + s0.length ≤ s.length := hlen
  have g1 := readNum_spec (s0, 0) 4 W4
  have g2 := readNum_spec (t1 (s0, 0)).1 2 W2
  have g3 := readNum_spec (t2 (s0, 0)).1 2 W2
  have g4 := readText_spec (t3 (s0, 0)).1 4 W4
  change Fn _ _ _ _ _ (.tup [vSt (t1 (s0, 0)).1, .one (.d (.int .i64 ((t1 (s0, 0)).2 : Nat)))]) _ at g1
  change Fn _ _ _ _ _ (.tup [vSt (t2 (s0, 0)).1, .one (.d (.int .i64 ((t2 (s0, 0)).2 : Nat)))]) _ at g2
  change Fn _ _ _ _ _ (.tup [vSt (t3 (s0, 0)).1, .one (.d (.int .i64 ((t3 (s0, 0)).2 : Nat)))]) _ at g3
  change Fn _ _ _ _ _ (.tup [vSt (t4 (s0, 0)).1, .one (.d (.str (t4 (s0, 0)).2))]) _ at g4
  have hT := t4_len (s0, 0)
  have hT : (t4 (s0, 0)).2.length ≤ s0.length := hT
  have hT1 : (t4 (s0, 0)).1.1.length ≤ s0.length := Nat.le_trans (tkS_len _ _) (Nat.le_trans (tkS_len _ _) (Nat.le_trans (tkS_len _ _) (Nat.le_trans (tkS_len _ _) (tkS_len _ _))))
  have gt := rtell_fn ((t2 (s0, 0)).2 : Int) ((t3 (s0, 0)).2 : Int) (t4 (s0, 0)).2 (by omega)
  rw [rd_tell] at gt
  have hrp : (rplL n (s0, 0)).map (acc ++ ·) = some l := hrp
  have hA := fun hp => rpl_step hn hp hrp
  have hE := fun hp => rpl_end hp hrp
  have hK := rp_iff s0
  have hL := @rp_len (s0, 0)
  have hV : rpV (s0, 0) = (((t2 (s0, 0)).2 : Int), ((t3 (s0, 0)).2 : Int), (t4 (s0, 0)).2) := rfl
  rw [hK] at hL hA
  rw [hV] at hA
  clear hK hV hrp
  generalize t1 (s0, 0) = a1 at *
  generalize t2 (s0, 0) = a2 at *
  generalize t3 (s0, 0) = a3 at *
  generalize t4 (s0, 0) = a4 at *
  obtain ⟨⟨s1, e1⟩, n1⟩ := a1
  obtain ⟨⟨s2, e2⟩, n2⟩ := a2
  obtain ⟨⟨s3, e3⟩, n3⟩ := a3
  obtain ⟨⟨s4, e4⟩, b4⟩ := a4
  simp only at g1 g2 g3 g4 hA hE hL hT hT1 gt
  have hS := rq_lemma s0 s4 hT1
  have m1 : -9223372036854775808 ≤ (((s0.length : Nat) : Int)) - ((s4.length : Nat) : Int) ∧ (((s0.length : Nat) : Int)) - ((s4.length : Nat) : Int) ≤ 9223372036854775807 := by omega
  have m2 : 0 ≤ (((s0.length : Nat) : Int)) - ((s4.length : Nat) : Int) ∧ (((s0.length : Nat) : Int)) - ((s4.length : Nat) : Int) ≤ ((s0.length : Nat) : Int) := by omega
  refine ⟨fun h => ?_, fun h => ?_⟩
  · have hp : 0 < s0.length := by
      have h : (!decide (s0 = [])) = true := h
      have h : s0 ≠ [] := by simpa using h
      exact List.length_pos_iff.2 h
    have hA := hA hp
    refine ⟨rfl, ?_⟩
    refine ⟨_, _, _, _, g1, trivial, rfl, ?_⟩
    refine ⟨rfl, ?_⟩
    refine ⟨_, _, _, _, g2, trivial, rfl, ?_⟩
    refine ⟨_, _, _, _, g3, trivial, rfl, ?_⟩
    refine ⟨_, _, _, _, g4, trivial, rfl, ?_⟩
    refine ⟨_, _, _, _, gt, trivial, rfl, ?_⟩
    refine ⟨fun h => ?_, fun h => ?_⟩
    · have h : (!decide (e4 = 0)) = true := h
      have hb := hA.1
      rw [show decide (e4 = 0) = false by simpa using h] at hb
      cases hb
    have h : (!decide (e4 = 0)) = false := h
    have he : decide (e4 = 0) = true := by simpa using h
    rw [he, Bool.true_and] at hA hL
    have he : e4 = 0 := of_decide_eq_true he
    subst he
    refine ⟨m1, m2, ?_⟩
    refine ⟨fun h => ?_, fun h => ?_⟩
    · have h : (!decide (tellB ((n2 : Nat) : Int) ((n3 : Nat) : Int) b4 = s0.take ((((s0.length : Nat) : Int)) - ((s4.length : Nat) : Int)).toNat)) = true := h
      rw [hS] at h
      have hb := hA.1
      rw [hb] at h
      cases h
    have h : (!decide (tellB ((n2 : Nat) : Int) ((n3 : Nat) : Int) b4 = s0.take ((((s0.length : Nat) : Int)) - ((s4.length : Nat) : Int)).toNat)) = false := h
    rw [hS] at h
    have hb : decide (tellB ((n2 : Nat) : Int) ((n3 : Nat) : Int) b4 = s0.take (s0.length - s4.length)) = true := by simpa using h
    obtain ⟨-, m, rfl, hm, hrp⟩ := hA
    have hL := hL hb
    have hl1 : acc.length + 1 ≤ 4294967296 := by omega
    refine ⟨hl1, rfl, ?_⟩
    exact ⟨(acc ++ [((n2 : Int), (n3 : Int), b4)], s4, m), ⟨hm, (by show (acc ++ [((n2 : Int), (n3 : Int), b4)]).length + s4.length ≤ s.length; rw [List.length_append]; show acc.length + 1 + s4.length ≤ s.length; omega), hrp⟩, Nat.lt_succ_self m, Le.trans (Le.sub (K' := [(4, vOwn 61), (0, vS s4)]) (B' := rqB2 (acc ++ [((n2 : Int), (n3 : Int), b4)])) ⟨rfl, rfl, trivial⟩ ⟨rfl, trivial⟩) (Le.trans (Le.ren 61 5001 rfl) (Le.sub ⟨rfl, rfl, trivial⟩ ⟨rfl, trivial⟩))⟩
  · have hp : s0.length = 0 := by
      have h : (!decide (s0 = [])) = false := h
      have h : s0 = [] := by simpa using h
      rw [h]
      rfl
    have hE := hE hp
    subst hE
    exact ⟨_, _, _, Le.ren 5001 1001 rfl, rfl, ⟨rfl, rfl, trivial⟩, ⟨rfl, trivial⟩, rfl⟩
set_option maxHeartbeats 2000000 in
theorem rreplies_no (s : List UInt8) (hs : s.length ≤ 100000) (hr : rplL (s.length + 1) (s, 0) = none) : Fn Tryz.prog 42 [vS s] [] [] (.tup [.one .nils, .one (.d (.bool false))]) [] := by
  refine Fn.of tblOK [] _ _ _ _ _ Tryz.func42 rfl rfl (by kernel_rfl) (by kernel_rfl) rfl (drawOK tblOK) rfl ?_
  show TrQ _ _ _ _ _ _ _
  refine TrQ.loop tblOK (drawOK tblOK) [] (by kernel_rfl) (X := List Rp × List UInt8 × Nat) (fun x => [(4, vOwn 5001), (0, vS x.2.1)]) (fun x => rqB x.1) (fun x => x.2.1.length < x.2.2 ∧ x.1.length + x.2.1.length ≤ s.length ∧ rplL x.2.2 (x.2.1, 0) = none) (fun x => x.2.2) ([], s, s.length + 1) ⟨Nat.lt_succ_self _, (by show 0 + s.length ≤ s.length; omega), hr⟩ ?_ ?_
  · exact Le.trans (Le.nil 4 5001 26 uRt rfl rfl) (Le.sub ⟨rfl, rfl, trivial⟩ ⟨rfl, trivial⟩)
  rintro ⟨acc, s0, n⟩ ⟨hn, hlen, hrp⟩
  have hn : s0.length < n := hn
  have hlen : acc.length + s0.length ≤ s.length := hlen
  have g1 := readNum_spec (s0, 0) 4 W4
  have g2 := readNum_spec (t1 (s0, 0)).1 2 W2
  have g3 := readNum_spec (t2 (s0, 0)).1 2 W2
  have g4 := readText_spec (t3 (s0, 0)).1 4 W4
  change Fn _ _ _ _ _ (.tup [vSt (t1 (s0, 0)).1, .one (.d (.int .i64 ((t1 (s0, 0)).2 : Nat)))]) _ at g1
  change Fn _ _ _ _ _ (.tup [vSt (t2 (s0, 0)).1, .one (.d (.int .i64 ((t2 (s0, 0)).2 : Nat)))]) _ at g2
  change Fn _ _ _ _ _ (.tup [vSt (t3 (s0, 0)).1, .one (.d (.int .i64 ((t3 (s0, 0)).2 : Nat)))]) _ at g3
  change Fn _ _ _ _ _ (.tup [vSt (t4 (s0, 0)).1, .one (.d (.str (t4 (s0, 0)).2))]) _ at g4
  have hT := t4_len (s0, 0)
  have hT : (t4 (s0, 0)).2.length ≤ s0.length := hT
  have hT1 : (t4 (s0, 0)).1.1.length ≤ s0.length := Nat.le_trans (tkS_len _ _) (Nat.le_trans (tkS_len _ _) (Nat.le_trans (tkS_len _ _) (Nat.le_trans (tkS_len _ _) (tkS_len _ _))))
  have gt := rtell_fn ((t2 (s0, 0)).2 : Int) ((t3 (s0, 0)).2 : Int) (t4 (s0, 0)).2 (by omega)
  rw [rd_tell] at gt
  have hrp : rplL n (s0, 0) = none := hrp
  have hA := fun hp => rpl_no hn hp hrp
  have hE := fun hp => rpl_some (n := n) (st := (s0, 0)) hp hrp
  have hK := rp_iff s0
  have hL := @rp_len (s0, 0)
  have hV : rpV (s0, 0) = (((t2 (s0, 0)).2 : Int), ((t3 (s0, 0)).2 : Int), (t4 (s0, 0)).2) := rfl
  rw [hK] at hL hA
  clear hK hV hrp
  generalize t1 (s0, 0) = a1 at *
  generalize t2 (s0, 0) = a2 at *
  generalize t3 (s0, 0) = a3 at *
  generalize t4 (s0, 0) = a4 at *
  obtain ⟨⟨s1, e1⟩, n1⟩ := a1
  obtain ⟨⟨s2, e2⟩, n2⟩ := a2
  obtain ⟨⟨s3, e3⟩, n3⟩ := a3
  obtain ⟨⟨s4, e4⟩, b4⟩ := a4
  simp only at g1 g2 g3 g4 hA hE hL hT hT1 gt
  have hS := rq_lemma s0 s4 hT1
  have m1 : -9223372036854775808 ≤ (((s0.length : Nat) : Int)) - ((s4.length : Nat) : Int) ∧ (((s0.length : Nat) : Int)) - ((s4.length : Nat) : Int) ≤ 9223372036854775807 := by omega
  have m2 : 0 ≤ (((s0.length : Nat) : Int)) - ((s4.length : Nat) : Int) ∧ (((s0.length : Nat) : Int)) - ((s4.length : Nat) : Int) ≤ ((s0.length : Nat) : Int) := by omega
  refine ⟨fun h => ?_, fun h => ?_⟩
  · have hp : 0 < s0.length := by
      have h : (!decide (s0 = [])) = true := h
      have h : s0 ≠ [] := by simpa using h
      exact List.length_pos_iff.2 h
    have hA := hA hp
    refine ⟨rfl, ?_⟩
    refine ⟨_, _, _, _, g1, trivial, rfl, ?_⟩
    refine ⟨rfl, ?_⟩
    refine ⟨_, _, _, _, g2, trivial, rfl, ?_⟩
    refine ⟨_, _, _, _, g3, trivial, rfl, ?_⟩
    refine ⟨_, _, _, _, g4, trivial, rfl, ?_⟩
    refine ⟨_, _, _, _, gt, trivial, rfl, ?_⟩
    refine ⟨fun h => ?_, fun h => ?_⟩
    · exact ⟨_, _, _, Le.refl _ _, rfl, ⟨rfl, rfl, trivial⟩, trivial, rfl⟩
    have h : (!decide (e4 = 0)) = false := h
    have he : decide (e4 = 0) = true := by simpa using h
    rw [he, Bool.true_and] at hA hL
    have he : e4 = 0 := of_decide_eq_true he
    subst he
    refine ⟨m1, m2, ?_⟩
    refine ⟨fun h => ?_, fun h => ?_⟩
    · exact ⟨_, _, _, Le.refl _ _, rfl, ⟨rfl, rfl, trivial⟩, trivial, rfl⟩
    have h : (!decide (tellB ((n2 : Nat) : Int) ((n3 : Nat) : Int) b4 = s0.take ((((s0.length : Nat) : Int)) - ((s4.length : Nat) : Int)).toNat)) = false := h
    rw [hS] at h
    have hb : decide (tellB ((n2 : Nat) : Int) ((n3 : Nat) : Int) b4 = s0.take (s0.length - s4.length)) = true := by simpa using h
    obtain ⟨m, rfl, hm, hrp⟩ := hA hb
    have hL := hL hb
    have hl1 : acc.length + 1 ≤ 4294967296 := by omega
    refine ⟨hl1, rfl, ?_⟩
    exact ⟨(acc ++ [((n2 : Int), (n3 : Int), b4)], s4, m), ⟨hm, (by show (acc ++ [((n2 : Int), (n3 : Int), b4)]).length + s4.length ≤ s.length; rw [List.length_append]; show acc.length + 1 + s4.length ≤ s.length; omega), hrp⟩, Nat.lt_succ_self m, Le.trans (Le.sub (K' := [(4, vOwn 61), (0, vS s4)]) (B' := rqB2 (acc ++ [((n2 : Int), (n3 : Int), b4)])) ⟨rfl, rfl, trivial⟩ ⟨rfl, trivial⟩) (Le.trans (Le.ren 61 5001 rfl) (Le.sub ⟨rfl, rfl, trivial⟩ ⟨rfl, trivial⟩))⟩
  · have hp : s0.length = 0 := by
      have h : (!decide (s0 = [])) = false := h
      have h : s0 = [] := by simpa using h
      rw [h]
      rfl
    exact (hE hp).elim
end Go.Proofs.YtolaecebfkdbcaaGreat
