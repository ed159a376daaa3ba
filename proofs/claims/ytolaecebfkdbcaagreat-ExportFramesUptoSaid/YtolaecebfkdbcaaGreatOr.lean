/-
  The document's octets (reference 01): numbers and texts, written and read; any number.
-/
import Derived.Test.YtolaecebfkdbcaaGreatOk
import Derived.Test.YtolaecebfkdbcaaGreatIu
set_option linter.unusedVariables false
set_option linter.unusedSimpArgs false
set_option maxRecDepth 10000
namespace Go.Proofs.YtolaecebfkdbcaaGreat
open Go.RowKit Go.Proofs
theorem oRight_spec (w : Nat) (hw : W w) : Fn Tryz.prog 68 [vI (w : Nat)] [] [] (vB true) [] := by
  refine Fn.of tblOK [] _ _ _ _ _ Tryz.func68 rfl rfl (by kernel_rfl) (by kernel_rfl) rfl (drawOK tblOK) rfl ?_
  refine ⟨fun h => ?_, fun h1 => ?_⟩
  · exact ⟨_, _, _, Le.refl _ _, rfl, rfl, trivial, rfl⟩
  refine ⟨fun h => ?_, fun h2 => ?_⟩
  · exact ⟨_, _, _, Le.refl _ _, rfl, rfl, trivial, rfl⟩
  refine ⟨fun h => ?_, fun h3 => ?_⟩
  · exact ⟨_, _, _, Le.refl _ _, rfl, rfl, trivial, rfl⟩
  have h1 : ¬ ((w : Nat) : Int) = 1 := of_decide_eq_false h1
  have h2 : ¬ ((w : Nat) : Int) = 2 := of_decide_eq_false h2
  have h3 : ¬ ((w : Nat) : Int) = 4 := of_decide_eq_false h3
  unfold W at hw
  omega
theorem olimit_spec (w : Nat) (hw : W w) : Fn Tryz.prog 69 [vI (w : Nat)] [] [] (vI ((256 ^ w : Nat) : Int)) [] := by
  have hw4 : w ≤ 4 := by unfold W at hw; omega
  refine Fn.of tblOK [] _ _ _ _ _ Tryz.func69 rfl rfl (by kernel_rfl) (by kernel_rfl) rfl (drawOK tblOK) rfl ?_
  refine ⟨fun h => ?_, fun h1 => ?_⟩
  · have h : ((w : Nat) : Int) = 8 := of_decide_eq_true h
    omega
  show TrQ _ _ _ _ _ _ _
  refine TrQ.loop tblOK (drawOK tblOK) [] (by kernel_rfl) (X := Nat) (fun i => [(0, vI (w : Nat)), (3, vI ((256 ^ i : Nat) : Int)), (4, vI (i : Nat))]) (fun _ => []) (fun i => i ≤ w) (fun i => w - i) 0 (Nat.zero_le _) ?_ ?_
  · exact Le.sub ⟨rfl, rfl, rfl, trivial⟩ trivial
  intro i hi
  refine ⟨fun h => ?_, fun h => ?_⟩
  · have hi1 : i < w := by
      have h : (i : Int) < (w : Int) := of_decide_eq_true h
      omega
    have hp : 256 ^ i ≤ 16777216 ∧ 1 ≤ 256 ^ i := by
      have : i = 0 ∨ i = 1 ∨ i = 2 ∨ i = 3 := by omega
      rcases this with rfl | rfl | rfl | rfl <;> decide
    have hpi : ((256 ^ i : Nat) : Int) ≤ 16777216 ∧ 1 ≤ ((256 ^ i : Nat) : Int) := by omega
    refine ⟨⟨by omega, by omega⟩, ⟨by omega, i + 1, hi1, by omega, ?_⟩⟩
    refine Le.sub ⟨rfl, ?_, rfl, trivial⟩ trivial
    show ((256 ^ i : Nat) : Int) * 256 = ((256 ^ (i + 1) : Nat) : Int)
    rw [Nat.pow_succ]
    omega
  · have hi1 : i = w := by
      have h : ¬ (i : Int) < (w : Int) := of_decide_eq_false h
      omega
    subst hi1
    exact ⟨_, _, _, Le.refl _ _, rfl, rfl, trivial, rfl⟩
theorem onum_spec (n w : Nat) (hw : W w) (hn : n < 256 ^ w) : Fn Tryz.prog 36 [vI (n : Nat), vI (w : Nat)] [] [] (vS (encR n w)) [] := by
  have hw4 : w ≤ 4 := by unfold W at hw; omega
  have hn32 : n < 4294967296 := Nat.lt_of_lt_of_le hn (by rcases hw with rfl | rfl | rfl <;> decide)
  refine Fn.of tblOK [] _ _ _ _ _ Tryz.func36 rfl rfl (by kernel_rfl) (by kernel_rfl) rfl (drawOK tblOK) rfl ?_
  refine ⟨_, _, _, _, oRight_spec w hw, trivial, rfl, ?_⟩
  refine ⟨fun h => absurd h (by decide), fun _ => ?_⟩
  refine ⟨fun h => absurd (show ((n : Nat) : Int) < 0 from of_decide_eq_true h) (by omega), fun _ => ?_⟩
  refine ⟨_, _, _, _, olimit_spec w hw, trivial, rfl, ?_⟩
  refine ⟨fun h => absurd (show ((256 ^ w : Nat) : Int) ≤ ((n : Nat) : Int) from of_decide_eq_true h) (by omega), fun _ => ?_⟩
  show TrQ _ _ _ _ _ _ _
  refine TrQ.loop tblOK (drawOK tblOK) [] (by kernel_rfl) (X := Nat) (fun i => [(0, vI ((n / 256 ^ i : Nat) : Int)), (1, vI (w : Nat)), (5, vS (encR n i)), (6, vI (i : Nat))]) (fun _ => []) (fun i => i ≤ w) (fun i => w - i) 0 (Nat.zero_le _) ?_ ?_
  · refine Le.sub ⟨?_, rfl, rfl, rfl, trivial⟩ trivial
    show ((n : Nat) : Int) = ((n / 256 ^ 0 : Nat) : Int)
    simp
  intro i hi
  refine ⟨fun h => ?_, fun h => ?_⟩
  · have hi1 : i < w := by
      have h : (i : Int) < (w : Int) := of_decide_eq_true h
      omega
    have hq : n / 256 ^ i ≤ n := Nat.div_le_self _ _
    have hdd : n / 256 ^ (i + 1) = n / 256 ^ i / 256 := by rw [Nat.pow_succ, Nat.div_div_eq_div_mul]
    have hdig : dig n i = UInt8.ofNat (n / 256 ^ i % 256) := rfl
    generalize n / 256 ^ i = q at *
    have m1 : (0 : Int) ≤ (q : Int) ∧ (0 : Int) < 256 := by omega
    have m2 : -9223372036854775808 ≤ (q : Int) % 256 ∧ (q : Int) % 256 ≤ 9223372036854775807 := by omega
    have m3 : 0 ≤ (q : Int) % 256 % 256 ∧ (q : Int) % 256 % 256 < 256 := by omega
    have m4 : -9223372036854775808 ≤ (q : Int) / 256 ∧ (q : Int) / 256 ≤ 9223372036854775807 := by omega
    refine ⟨m1, m2, m3, ?_⟩
    refine ⟨?_, ?_⟩
    · show 1 + (encR n i).length ≤ 4294967296
      rw [encR_length]; omega
    refine ⟨m1, m4, by omega, i + 1, hi1, by omega, ?_⟩
    refine Le.sub ⟨?_, rfl, ?_, rfl, trivial⟩ trivial
    · show (q : Int) / 256 = _
      rw [hdd]; omega
    · show UInt8.ofNat ((q : Int) % 256 % 256).toNat :: encR n i = dig n i :: encR n i
      rw [hdig]
      congr 2
      omega
  · have hi1 : i = w := by
      have h : ¬ (i : Int) < (w : Int) := of_decide_eq_false h
      omega
    subst hi1
    exact ⟨_, _, _, Le.refl _ _, rfl, rfl, trivial, rfl⟩
@[reducible] def vSt (st : St) : SC := .agg [.d (.str st.1), .d (.int .i64 st.2)]
set_option maxHeartbeats 1000000 in
theorem readNum_spec (st : St) (w : Nat) (hw : W w) : Fn Tryz.prog 41 [.c (vSt st), vI (w : Nat)] [] [] (.tup [vSt (rdN w st).1, .one (.d (.int .i64 ((rdN w st).2 : Nat)))]) [] := by
  have hw4 : w ≤ 4 := by unfold W at hw; omega
  obtain ⟨s, e⟩ := st
  show Fn _ _ _ _ _ (.tup [vSt (tkS w (s, e)), .one (.d (.int .i64 ((decN (tkX w (s, e)) : Nat) : Int)))]) _
  refine Fn.of tblOK [] _ _ _ _ _ Tryz.func41 rfl rfl (by kernel_rfl) (by kernel_rfl) rfl (drawOK tblOK) rfl ?_
  refine ⟨rfl, rfl, ?_⟩
  refine ⟨fun h => ?_, fun h1 => ?_⟩
  · have h : (!decide (e = 0)) = true := h
    have he : ¬ e = 0 := by simpa using h
    have hx : tkX w (s, e) = [] := by unfold tkX; rw [if_pos (.inl he)]
    have hs : tkS w (s, e) = (s, e) := by unfold tkS; rw [if_pos he]
    rw [hx, hs]
    exact ⟨_, _, _, Le.refl _ _, rfl, ⟨⟨rfl, rfl, trivial⟩, rfl, trivial⟩, trivial, rfl⟩
  have h1 : (!decide (e = 0)) = false := h1
  have he : e = 0 := by simpa using h1
  subst he
  refine ⟨_, _, _, _, oRight_spec w hw, trivial, rfl, ?_⟩
  refine ⟨fun h => absurd h (by decide), fun _ => ?_⟩
  refine ⟨fun h => ?_, fun h => ?_⟩
  · have h : (s.length : Int) < (w : Int) := of_decide_eq_true h
    have hx : tkX w (s, 0) = [] := by unfold tkX; rw [if_pos (.inr (by show s.length < w; omega))]
    have hs : tkS w (s, 0) = (s, 10) := by unfold tkS; rw [if_neg (by simp), if_pos (by show s.length < w; omega)]
    rw [hx, hs]
    exact ⟨_, _, _, Le.refl _ _, rfl, ⟨⟨rfl, rfl, trivial⟩, rfl, trivial⟩, trivial, rfl⟩
  have h : ¬ (s.length : Int) < (w : Int) := of_decide_eq_false h
  have hx : tkX w (s, 0) = s.take w := by unfold tkX; rw [if_neg (by simp; omega)]
  have hs : tkS w (s, 0) = (s.drop w, 0) := by unfold tkS; rw [if_neg (by simp), if_neg (by show ¬ s.length < w; omega)]
  rw [hx, hs]
  have m1 : 0 ≤ (w : Int) ∧ (w : Int) ≤ (s.length : Int) := by omega
  have hd1 : (s.take ((w : Int)).toNat).drop 0 = s.take w := rfl
  have hd2 : (s.take s.length).drop ((w : Int)).toNat = s.drop w := by rw [List.take_length]; rfl
  refine ⟨m1, m1, ?_⟩
  refine ⟨fun h => absurd (show ((w : Nat) : Int) = 8 from of_decide_eq_true h) (by omega), fun _ => ?_⟩
  have hxl : (s.take w).length = w := by rw [List.length_take]; omega
  show TrQ _ _ _ _ _ _ _
  refine TrQ.loop tblOK (drawOK tblOK) [] (by kernel_rfl) (X := Nat) (fun i => [(1, vI (w : Nat)), (2, vP 2), (4, vP 4), (6, vS (s.take w)), (7, vI ((decN ((s.take w).take i) : Nat) : Int)), (8, vI (i : Nat))]) (fun _ => [(2, .cells [.d (.str (s.drop w)), .d (.int .i64 0)]), (4, .cells tbl.t104.zero)]) (fun i => i ≤ w) (fun i => w - i) 0 (Nat.zero_le _) ?_ ?_
  · exact Le.sub ⟨rfl, rfl, rfl, rfl, rfl, rfl, trivial⟩ ⟨congrArg (fun l : List UInt8 => some (Ch.cells [S1.d (D.str l), S1.d (D.int IntKind.i64 0)])) hd2, rfl, trivial⟩
  intro i hi
  generalize s.take w = x at *
  refine ⟨fun h => ?_, fun h => ?_⟩
  · have hi1 : i < w := by
      have h : (i : Int) < (w : Int) := of_decide_eq_true h
      omega
    have hi2 : i < x.length := by omega
    have hs : decN (x.take (i + 1)) = decN (x.take i) * 256 + (x[i]).toNat := by rw [← take_step hi2, decN_snoc]
    have hb2 := decN_lt (x.take i)
    have hb3 : 256 ^ (x.take i).length ≤ 256 ^ 3 := Nat.pow_le_pow_right (by decide) (by rw [List.length_take]; omega)
    have hc := (x[i]).toNat_lt
    have hg : lget x (i : Int).toNat = some x[i] := lget_at rfl hi2
    generalize x[i] = c at *
    generalize decN (x.take i) = a at *
    refine ⟨⟨by omega, by omega⟩, by omega, c, hg, ⟨by omega, by omega⟩, ⟨by omega, by omega⟩, ?_⟩
    refine ⟨by omega, i + 1, hi1, by omega, ?_⟩
    refine Le.sub ⟨rfl, rfl, rfl, rfl, ?_, rfl, trivial⟩ ⟨rfl, rfl, trivial⟩
    show (a : Int) * 256 + (c.toNat : Int) = ((decN (x.take (i + 1)) : Nat) : Int)
    rw [hs]
    omega
  · have hi1 : i = w := by
      have h : ¬ (i : Int) < (w : Int) := of_decide_eq_false h
      omega
    subst hi1
    exact ⟨_, _, _, Le.refl _ _, rfl, ⟨⟨rfl, rfl, trivial⟩, (show ((decN (x.take i) : Nat) : Int) = _ by rw [List.take_of_length_le (by omega)]), trivial⟩, trivial, rfl⟩
set_option maxHeartbeats 1000000 in
theorem readText_spec (st : St) (w : Nat) (hw : W w) : Fn Tryz.prog 72 [.c (vSt st), vI (w : Nat)] [] [] (.tup [vSt (rdT w st).1, .one (.d (.str (rdT w st).2))]) [] := by
  have h1 := readNum_spec st w hw
  show Fn _ _ _ _ _ (.tup [vSt (tkS (rdN w st).2 (rdN w st).1), .one (.d (.str (tkX (rdN w st).2 (rdN w st).1)))]) _
  generalize (rdN w st).2 = n at *
  generalize (rdN w st).1 = st1 at *
  obtain ⟨s, e⟩ := st1
  refine Fn.of tblOK [] _ _ _ _ _ Tryz.func72 rfl rfl (by kernel_rfl) (by kernel_rfl) rfl (drawOK tblOK) rfl ?_
  refine ⟨rfl, rfl, ?_⟩
  refine ⟨_, _, _, _, h1, trivial, rfl, ?_⟩
  refine ⟨fun h => ?_, fun h1 => ?_⟩
  · have h : (!decide (e = 0)) = true := h
    have he : ¬ e = 0 := by simpa using h
    have hx : tkX n (s, e) = [] := by unfold tkX; rw [if_pos (.inl he)]
    have hs : tkS n (s, e) = (s, e) := by unfold tkS; rw [if_pos he]
    rw [hx, hs]
    exact ⟨_, _, _, Le.refl _ _, rfl, ⟨⟨rfl, rfl, trivial⟩, rfl, trivial⟩, trivial, rfl⟩
  have h1 : (!decide (e = 0)) = false := h1
  have he : e = 0 := by simpa using h1
  subst he
  refine ⟨fun h => ?_, fun h => ?_⟩
  · have h : (s.length : Int) < (n : Int) := of_decide_eq_true h
    have hx : tkX n (s, 0) = [] := by unfold tkX; rw [if_pos (.inr (by show s.length < n; omega))]
    have hs : tkS n (s, 0) = (s, 10) := by unfold tkS; rw [if_neg (by simp), if_pos (by show s.length < n; omega)]
    rw [hx, hs]
    exact ⟨_, _, _, Le.refl _ _, rfl, ⟨⟨rfl, rfl, trivial⟩, rfl, trivial⟩, trivial, rfl⟩
  have h : ¬ (s.length : Int) < (n : Int) := of_decide_eq_false h
  have hx : tkX n (s, 0) = s.take n := by unfold tkX; rw [if_neg (by simp; omega)]
  have hs : tkS n (s, 0) = (s.drop n, 0) := by unfold tkS; rw [if_neg (by simp), if_neg (by show ¬ s.length < n; omega)]
  rw [hx, hs]
  have m1 : 0 ≤ (n : Int) ∧ (n : Int) ≤ (s.length : Int) := by omega
  have hd2 : (s.take s.length).drop ((n : Int)).toNat = s.drop n := by rw [List.take_length]; rfl
  refine ⟨m1, m1, ?_⟩
  exact ⟨_, _, _, Le.refl _ _, rfl, ⟨⟨hd2, rfl, trivial⟩, rfl, trivial⟩, trivial, rfl⟩
/-! ### any number -/
def onum (n : Int) (w : Nat) : List UInt8 := if fit w n = true then encR n.toNat w else []
theorem onum_len (n : Int) (w : Nat) : (onum n w).length ≤ w := by
  unfold onum
  split
  · rw [encR_length]; exact Nat.le_refl _
  · exact Nat.zero_le _
theorem onum_fit {n : Int} {w : Nat} (h : fit w n = true) : onum n w = encR n.toNat w := if_pos h
theorem onum_full {n : Int} {w : Nat} (hw : 0 < w) (h : (onum n w).length = w) : fit w n = true := by
  unfold onum at h
  split at h
  · assumption
  · simp at h; omega
theorem onum_any (n : Int) (w : Nat) (hw : W w) : Fn Tryz.prog 36 [vI n, vI (w : Nat)] [] [] (vS (onum n w)) [] := by
  cases hf : fit w n with
  | true =>
    obtain ⟨h0, h1⟩ := fit_iff.1 hf
    have hs := onum_spec n.toNat w hw h1
    rw [onum_fit hf]
    have e : ((n.toNat : Nat) : Int) = n := Int.toNat_of_nonneg h0
    rw [e] at hs
    exact hs
  | false =>
    have e : onum n w = [] := by unfold onum; rw [hf]; rfl
    have hf : ¬ (0 ≤ n ∧ n < ((256 ^ w : Nat) : Int)) := by
      unfold fit at hf
      intro ⟨a, b⟩
      rw [decide_eq_true a, decide_eq_true b] at hf
      cases hf
    rw [e]
    refine Fn.of tblOK [] _ _ _ _ _ Tryz.func36 rfl rfl (by kernel_rfl) (by kernel_rfl) rfl (drawOK tblOK) rfl ?_
    refine ⟨_, _, _, _, oRight_spec w hw, trivial, rfl, ?_⟩
    refine ⟨fun h => absurd h (by decide), fun _ => ?_⟩
    refine ⟨fun h => ?_, fun h => ?_⟩
    · exact ⟨_, _, _, Le.refl _ _, rfl, rfl, trivial, rfl⟩
    have h : decide (n < 0) = false := h
    have h := of_decide_eq_false h
    refine ⟨_, _, _, _, olimit_spec w hw, trivial, rfl, ?_⟩
    refine ⟨fun _ => ?_, fun h2 => ?_⟩
    · exact ⟨_, _, _, Le.refl _ _, rfl, rfl, trivial, rfl⟩
    have h2 : decide (((256 ^ w : Nat) : Int) ≤ n) = false := h2
    have h2 := of_decide_eq_false h2
    exact absurd ⟨by omega, by omega⟩ hf
end Go.Proofs.YtolaecebfkdbcaaGreat
