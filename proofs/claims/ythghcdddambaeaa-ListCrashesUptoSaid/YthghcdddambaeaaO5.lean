/-
  octets: numbers and texts, read (widths 1, 2, 4): the program's reader.
-/
import Derived.Test.YthghcdddambaeaaO1
set_option linter.unusedVariables false
set_option linter.unusedSimpArgs false
set_option maxRecDepth 10000
namespace Go.Proofs.Ythghcdddambaeaa
open Go.RowKit Go.Proofs

/-- What is left, and the first error. -/
abbrev St : Type := List UInt8 × Int
def tkX (n : Nat) (st : St) : List UInt8 := if st.2 ≠ 0 ∨ st.1.length < n then [] else st.1.take n
def tkS (n : Nat) (st : St) : St := if st.2 ≠ 0 then st else if st.1.length < n then (st.1, 10) else (st.1.drop n, 0)
def decN (l : List UInt8) : Nat := l.foldl (fun a c => a * 256 + c.toNat) 0
theorem decN_snoc (l : List UInt8) (c : UInt8) : decN (l ++ [c]) = decN l * 256 + c.toNat := by simp [decN, List.foldl_append]
theorem decN_lt (l : List UInt8) : decN l < 256 ^ l.length := by
  have : ∀ (l : List UInt8), decN l.reverse < 256 ^ l.length := fun l => by
    induction l with
    | nil => simp [decN]
    | cons c l ih =>
      rw [List.reverse_cons, decN_snoc, List.length_cons, Nat.pow_succ]
      have := c.toNat_lt
      omega
  have h := this l.reverse
  simpa using h
theorem tkX_length (n : Nat) (st : St) : (tkX n st).length ≤ n := by
  unfold tkX
  split
  · simp
  · rw [List.length_take]; omega
def rdN (w : Nat) (st : St) : St × Nat := (tkS w st, decN (tkX w st))
def rdT (w : Nat) (st : St) : St × List UInt8 := (tkS (rdN w st).2 (rdN w st).1, tkX (rdN w st).2 (rdN w st).1)
@[reducible] def rrB (st : St) : BL := [(1001, .cells [.d (.lst .u8 st.1), .d (.int .i64 st.2)])]
theorem newReader_spec (b : List UInt8) (hb : b.length ≤ 4294967296) : Fn Try.prog 66 [vL .u8 b] [] [1001] (vP 1001) (rrB (b, 0)) := by
  refine Fn.of tblOK [] _ _ _ _ _ Try.func66 rfl rfl (by kernel_rfl) (by kernel_rfl) rfl (drawOK tblOK) rfl ?_
  refine ⟨rfl, ?_⟩
  refine ⟨?_, rfl, ?_⟩
  · show 0 + b.length ≤ 4294967296
    omega
  refine ⟨rfl, ?_⟩
  exact ⟨_, _, _, Le.trans (Le.frz 5 rfl) (Le.ren 7 1001 rfl), rfl, rfl, ⟨rfl, trivial⟩, rfl⟩
theorem keep_spec (s : List UInt8) (e k : Int) : Fn Try.prog 136 [vI k, vP 1002] [(1001, .cells [.d (.lst .u8 s), .d (.int .i64 e)]), (1002, .cells [.ptr 1001 0])] [] (vL .u8 []) [(1001, .cells [.d (.lst .u8 s), .d (.int .i64 (if e = 0 then k else e))]), (1002, .cells [.ptr 1001 0])] := by
  refine Fn.of tblOK [] _ _ _ _ _ Try.func136 rfl rfl (by kernel_rfl) (by kernel_rfl) rfl (drawOK tblOK) rfl ?_
  refine ⟨fun h => ?_, fun h => ?_⟩
  · rw [if_pos (show e = 0 from of_decide_eq_true h)]
    exact ⟨_, _, _, Le.refl _ _, rfl, rfl, ⟨rfl, rfl, trivial⟩, rfl⟩
  · rw [if_neg (show ¬ e = 0 from of_decide_eq_false h)]
    exact ⟨_, _, _, Le.refl _ _, rfl, rfl, ⟨rfl, rfl, trivial⟩, rfl⟩
theorem take_spec (st : St) (n : Nat) : Fn Try.prog 109 [vP 1001, vI (n : Nat), vB false] (rrB st) [] (vL .u8 (tkX n st)) (rrB (tkS n st)) := by
  obtain ⟨s, e⟩ := st
  refine Fn.of tblOK [] _ _ _ _ _ Try.func109 rfl rfl (by kernel_rfl) (by kernel_rfl) rfl (drawOK tblOK) rfl ?_
  refine ⟨rfl, ?_⟩
  refine ⟨fun h => ?_, fun h1 => ?_⟩
  · have h : (!decide (e = 0)) = true := h
    have he : ¬ e = 0 := by simpa using h
    have hx : tkX n (s, e) = [] := by unfold tkX; rw [if_pos (.inl he)]
    have hs : tkS n (s, e) = (s, e) := by unfold tkS; rw [if_pos he]
    rw [hx, hs]
    exact ⟨_, _, _, Le.refl _ _, rfl, rfl, ⟨rfl, trivial⟩, rfl⟩
  have h1 : (!decide (e = 0)) = false := h1
  have he : e = 0 := by simpa using h1
  subst he
  refine ⟨fun h => absurd h (by decide), fun _ => ?_⟩
  refine ⟨fun h => ?_, fun h => ?_⟩
  · have h : (s.length : Int) < (n : Int) := of_decide_eq_true h
    have hx : tkX n (s, 0) = [] := by unfold tkX; rw [if_pos (.inr (by show s.length < n; omega))]
    have hs : tkS n (s, 0) = (s, 10) := by unfold tkS; rw [if_neg (by simp), if_pos (by show s.length < n; omega)]
    rw [hx, hs]
    refine ⟨_, _, _, _, Fn.ren [(1002, 3)] (keep_spec s 0 10), ⟨rfl, rfl, trivial⟩, rfl, ?_⟩
    exact ⟨_, _, _, Le.refl _ _, rfl, rfl, ⟨rfl, trivial⟩, rfl⟩
  · have h : ¬ (s.length : Int) < (n : Int) := of_decide_eq_false h
    have hx : tkX n (s, 0) = s.take n := by
      unfold tkX
      rw [if_neg (by simp; omega)]
    have hs : tkS n (s, 0) = (s.drop n, 0) := by unfold tkS; rw [if_neg (by simp), if_neg (by show ¬ s.length < n; omega)]
    rw [hx, hs]
    have m1 : 0 ≤ (n : Int) ∧ (n : Int) ≤ (s.length : Int) := by omega
    refine ⟨m1, m1, rfl, ?_⟩
    refine ⟨_, _, _, Le.refl _ _, rfl, rfl, ⟨?_, trivial⟩, rfl⟩
    refine congrArg (fun l : List UInt8 => some (Ch.cells [S1.d (D.lst U.u8 l), S1.d (D.int IntKind.i64 0)])) ?_
    show (List.take s.length s).drop ((n : Int)).toNat = s.drop n
    rw [List.take_length]
    rfl
theorem or_add (a : Nat) (c : UInt8) : (a * 256) ||| c.toNat = a * 256 + c.toNat := by
  have h : c.toNat < 2 ^ 8 := c.toNat_lt
  have := Nat.shiftLeft_add_eq_or_of_lt h a
  rw [Nat.shiftLeft_eq] at this
  exact this.symm
theorem num_spec (st : St) (w : Nat) (hw : W w) : Fn Try.prog 67 [vP 1001, vI (w : Nat)] (rrB st) [] (vI ((rdN w st).2 : Nat)) (rrB (rdN w st).1) := by
  have hw4 : w ≤ 4 := by unfold W at hw; omega
  have hl := tkX_length w st
  have ht := take_spec st w
  show Fn _ _ _ _ _ (vI ((decN (tkX w st) : Nat) : Int)) (rrB (tkS w st))
  generalize tkX w st = x at *
  generalize tkS w st = st' at *
  have hbx : decN x < 4294967296 := Nat.lt_of_lt_of_le (decN_lt x) (Nat.le_trans (Nat.pow_le_pow_right (by decide) (show x.length ≤ 4 by omega)) (by decide))
  refine Fn.of tblOK [] _ _ _ _ _ Try.func67 rfl rfl (by kernel_rfl) (by kernel_rfl) rfl (drawOK tblOK) rfl ?_
  refine ⟨_, _, _, _, oright_spec w hw, trivial, rfl, ?_⟩
  refine ⟨_, _, _, _, ht, ⟨rfl, trivial⟩, rfl, ?_⟩
  refine ⟨fun h => absurd (show (x.length : Int) = 8 from of_decide_eq_true h) (by omega), fun _ => ?_⟩
  show TrQ _ _ _ _ _ _ _
  refine TrQ.loop tblOK (drawOK tblOK) [] (by kernel_rfl) (X := Nat) (fun i => [(5, vI ((decN (x.take i) : Nat) : Int)), (27, vL .u8 x), (28, vI (x.length : Nat)), (29, vI (i : Nat))]) (fun _ => rrB st') (fun i => i ≤ x.length) (fun i => x.length - i) 0 (Nat.zero_le _) ?_ ?_
  · exact Le.sub ⟨rfl, rfl, rfl, rfl, trivial⟩ ⟨rfl, trivial⟩
  intro i hi
  refine ⟨fun h => ?_, fun h => ?_⟩
  · have hi1 : i < x.length := by
      have h : (i : Int) < (x.length : Int) := of_decide_eq_true h
      omega
    have hs : decN (x.take (i + 1)) = decN (x.take i) * 256 + (x[i]).toNat := by rw [← take_step hi1, decN_snoc]
    have hb2 := decN_lt (x.take i)
    have hb3 : 256 ^ (x.take i).length ≤ 256 ^ 3 := Nat.pow_le_pow_right (by decide) (by rw [List.length_take]; omega)
    have hc := (x[i]).toNat_lt
    refine ⟨by omega, x[i], lget_at rfl hi1, ?_⟩
    generalize x[i] = c at *
    generalize decN (x.take i) = a at *
    have hor := or_add a c
    have e1 : ((a : Int) * ((2 ^ (8 : Int).toNat : Nat) : Int)).toNat = a * 256 := by
      show ((a : Int) * 256).toNat = _
      omega
    have m1 : 0 ≤ (a : Int) ∧ (0 : Int) ≤ 8 ∧ (8 : Int) ≤ 64 := by omega
    have m2 : -9223372036854775808 ≤ (a : Int) * ((2 ^ (8 : Int).toNat : Nat) : Int) ∧ (a : Int) * ((2 ^ (8 : Int).toNat : Nat) : Int) ≤ 9223372036854775807 := by
      show -9223372036854775808 ≤ (a : Int) * 256 ∧ (a : Int) * 256 ≤ 9223372036854775807
      omega
    have m3 : -9223372036854775808 ≤ (c.toNat : Int) ∧ (c.toNat : Int) ≤ 9223372036854775807 := by omega
    have m4 : 0 ≤ (a : Int) * ((2 ^ (8 : Int).toNat : Nat) : Int) ∧ (a : Int) * ((2 ^ (8 : Int).toNat : Nat) : Int) ≤ 9223372036854775807 ∧ 0 ≤ (c.toNat : Int) ∧ (c.toNat : Int) ≤ 9223372036854775807 := by
      show 0 ≤ (a : Int) * 256 ∧ (a : Int) * 256 ≤ 9223372036854775807 ∧ _
      omega
    refine ⟨m1, m2, m3, m4, ?_⟩
    refine ⟨by omega, i + 1, hi1, by omega, ?_⟩
    refine Le.sub ⟨?_, rfl, rfl, rfl, trivial⟩ ⟨rfl, trivial⟩
    show (((((a : Int) * ((2 ^ (8 : Int).toNat : Nat) : Int)).toNat ||| ((c.toNat : Int)).toNat : Nat)) : Int) = ((decN (x.take (i + 1)) : Nat) : Int)
    rw [hs, e1, Int.toNat_natCast, hor]
  · have hi1 : i = x.length := by
      have h : ¬ (i : Int) < (x.length : Int) := of_decide_eq_false h
      omega
    subst hi1
    exact ⟨_, _, _, Le.refl _ _, rfl, (show ((decN (x.take x.length) : Nat) : Int) = _ by rw [List.take_length]), ⟨rfl, trivial⟩, rfl⟩
theorem text_spec (st : St) (w : Nat) (hw : W w) : Fn Try.prog 68 [vP 1001, vI (w : Nat)] (rrB st) [] (vS (rdT w st).2) (rrB (rdT w st).1) := by
  have h1 := num_spec st w hw
  have h2 := take_spec (rdN w st).1 (rdN w st).2
  show Fn _ _ _ _ _ (vS (tkX (rdN w st).2 (rdN w st).1)) (rrB (tkS (rdN w st).2 (rdN w st).1))
  generalize (rdN w st).2 = n at *
  generalize (rdN w st).1 = st1 at *
  generalize tkX n st1 = x at *
  generalize tkS n st1 = st2 at *
  refine Fn.of tblOK [] _ _ _ _ _ Try.func68 rfl rfl (by kernel_rfl) (by kernel_rfl) rfl (drawOK tblOK) rfl ?_
  refine ⟨_, _, _, _, h1, ⟨rfl, trivial⟩, rfl, ?_⟩
  refine ⟨_, _, _, _, Fn.arg h2 ⟨rfl, rfl, rfl, trivial⟩, ⟨rfl, trivial⟩, rfl, ?_⟩
  exact ⟨_, _, _, Le.refl _ _, rfl, rfl, ⟨rfl, trivial⟩, rfl⟩
theorem err_spec (st : St) : Fn Try.prog 69 [vP 1001] (rrB st) [] (vI st.2) (rrB st) := by
  refine Fn.of tblOK [] _ _ _ _ _ Try.func69 rfl rfl (by kernel_rfl) (by kernel_rfl) rfl (drawOK tblOK) rfl ?_
  exact ⟨_, _, _, Le.refl _ _, rfl, rfl, ⟨rfl, trivial⟩, rfl⟩
def endE (st : St) : Int := if st.2 = 0 ∧ 0 < st.1.length then 11 else st.2
theorem end_spec (st : St) : Fn Try.prog 70 [vP 1001] (rrB st) [] (vI (endE st)) (rrB st) := by
  obtain ⟨s, e⟩ := st
  refine Fn.of tblOK [] _ _ _ _ _ Try.func70 rfl rfl (by kernel_rfl) (by kernel_rfl) rfl (drawOK tblOK) rfl ?_
  refine ⟨fun h => ?_, fun h => ?_⟩
  · have he : e = 0 := of_decide_eq_true h
    refine ⟨fun h => ?_, fun h => ?_⟩
    · have h : (0 : Int) < (s.length : Int) := of_decide_eq_true h
      have : endE (s, e) = 11 := by unfold endE; rw [if_pos ⟨he, by show 0 < s.length; omega⟩]
      rw [this]
      exact ⟨_, _, _, Le.refl _ _, rfl, rfl, ⟨rfl, trivial⟩, rfl⟩
    · have h : ¬ (0 : Int) < (s.length : Int) := of_decide_eq_false h
      have : endE (s, e) = e := by unfold endE; rw [if_neg (fun hh => by have h2 : 0 < s.length := hh.2; omega)]
      rw [this]
      exact ⟨_, _, _, Le.refl _ _, rfl, rfl, ⟨rfl, trivial⟩, rfl⟩
  · have he : ¬ e = 0 := of_decide_eq_false h
    have : endE (s, e) = e := by unfold endE; rw [if_neg (fun hh => he hh.1)]
    rw [this]
    exact ⟨_, _, _, Le.refl _ _, rfl, rfl, ⟨rfl, trivial⟩, rfl⟩
end Go.Proofs.Ythghcdddambaeaa
/-
  The document's reader.
-/
set_option linter.unusedVariables false
set_option linter.unusedSimpArgs false
set_option maxRecDepth 10000
namespace Go.Proofs.Ythghcdddambaeaa
open Go.RowKit Go.Proofs

@[reducible] def vSt (st : St) : SC := .agg [.d (.str st.1), .d (.int .i64 st.2)]
set_option maxHeartbeats 1000000 in
theorem readNum_spec (st : St) (w : Nat) (hw : W w) : Fn Try.prog 71 [.c (vSt st), vI (w : Nat)] [] [] (.tup [vSt (rdN w st).1, .one (.d (.int .i64 ((rdN w st).2 : Nat)))]) [] := by
  have hw4 : w ≤ 4 := by unfold W at hw; omega
  obtain ⟨s, e⟩ := st
  show Fn _ _ _ _ _ (.tup [vSt (tkS w (s, e)), .one (.d (.int .i64 ((decN (tkX w (s, e)) : Nat) : Int)))]) _
  refine Fn.of tblOK [] _ _ _ _ _ Try.func71 rfl rfl (by kernel_rfl) (by kernel_rfl) rfl (drawOK tblOK) rfl ?_
  refine ⟨rfl, rfl, ?_⟩
  refine ⟨fun h => ?_, fun h1 => ?_⟩
  · have h : (!decide (e = 0)) = true := h
    have he : ¬ e = 0 := by simpa using h
    have hx : tkX w (s, e) = [] := by unfold tkX; rw [if_pos (.inl he)]
    have hs : tkS w (s, e) = (s, e) := by unfold tkS; rw [if_pos he]
    rw [hx, hs]
    exact ⟨_, _, _, Le.refl _ _, rfl, ⟨⟨rfl, rfl, trivial⟩, rfl, trivial⟩, trivial, rfl⟩
  have h1 : (!decide (e = 0)) = false := h1
  have he : e = 0 := by simpa using h1
  subst he
  refine ⟨_, _, _, _, oRight_spec w hw, trivial, rfl, ?_⟩
  refine ⟨fun h => absurd h (by decide), fun _ => ?_⟩
  refine ⟨fun h => ?_, fun h => ?_⟩
  · have h : (s.length : Int) < (w : Int) := of_decide_eq_true h
    have hx : tkX w (s, 0) = [] := by unfold tkX; rw [if_pos (.inr (by show s.length < w; omega))]
    have hs : tkS w (s, 0) = (s, 10) := by unfold tkS; rw [if_neg (by simp), if_pos (by show s.length < w; omega)]
    rw [hx, hs]
    exact ⟨_, _, _, Le.refl _ _, rfl, ⟨⟨rfl, rfl, trivial⟩, rfl, trivial⟩, trivial, rfl⟩
  have h : ¬ (s.length : Int) < (w : Int) := of_decide_eq_false h
  have hx : tkX w (s, 0) = s.take w := by unfold tkX; rw [if_neg (by simp; omega)]
  have hs : tkS w (s, 0) = (s.drop w, 0) := by unfold tkS; rw [if_neg (by simp), if_neg (by show ¬ s.length < w; omega)]
  rw [hx, hs]
  have m1 : 0 ≤ (w : Int) ∧ (w : Int) ≤ (s.length : Int) := by omega
  have hd1 : (s.take ((w : Int)).toNat).drop 0 = s.take w := rfl
  have hd2 : (s.take s.length).drop ((w : Int)).toNat = s.drop w := by rw [List.take_length]; rfl
  refine ⟨m1, m1, ?_⟩
  refine ⟨fun h => absurd (show ((w : Nat) : Int) = 8 from of_decide_eq_true h) (by omega), fun _ => ?_⟩
  have hxl : (s.take w).length = w := by rw [List.length_take]; omega
  show TrQ _ _ _ _ _ _ _
  refine TrQ.loop tblOK (drawOK tblOK) [] (by kernel_rfl) (X := Nat) (fun i => [(1, vI (w : Nat)), (2, vP 2), (4, vP 4), (6, vS (s.take w)), (7, vI ((decN ((s.take w).take i) : Nat) : Int)), (8, vI (i : Nat))]) (fun _ => [(2, .cells [.d (.str (s.drop w)), .d (.int .i64 0)]), (4, .cells tbl.t126.zero)]) (fun i => i ≤ w) (fun i => w - i) 0 (Nat.zero_le _) ?_ ?_
  · exact Le.sub ⟨rfl, rfl, rfl, rfl, rfl, rfl, trivial⟩ ⟨congrArg (fun l : List UInt8 => some (Ch.cells [S1.d (D.str l), S1.d (D.int IntKind.i64 0)])) hd2, rfl, trivial⟩
  intro i hi
  generalize s.take w = x at *
  refine ⟨fun h => ?_, fun h => ?_⟩
  · have hi1 : i < w := by
      have h : (i : Int) < (w : Int) := of_decide_eq_true h
      omega
    have hi2 : i < x.length := by omega
    have hs : decN (x.take (i + 1)) = decN (x.take i) * 256 + (x[i]).toNat := by rw [← take_step hi2, decN_snoc]
    have hb2 := decN_lt (x.take i)
    have hb3 : 256 ^ (x.take i).length ≤ 256 ^ 3 := Nat.pow_le_pow_right (by decide) (by rw [List.length_take]; omega)
    have hc := (x[i]).toNat_lt
    have hg : lget x (i : Int).toNat = some x[i] := lget_at rfl hi2
    generalize x[i] = c at *
    generalize decN (x.take i) = a at *
    refine ⟨⟨by omega, by omega⟩, by omega, c, hg, ⟨by omega, by omega⟩, ⟨by omega, by omega⟩, ?_⟩
    refine ⟨by omega, i + 1, hi1, by omega, ?_⟩
    refine Le.sub ⟨rfl, rfl, rfl, rfl, ?_, rfl, trivial⟩ ⟨rfl, rfl, trivial⟩
    show (a : Int) * 256 + (c.toNat : Int) = ((decN (x.take (i + 1)) : Nat) : Int)
    rw [hs]
    omega
  · have hi1 : i = w := by
      have h : ¬ (i : Int) < (w : Int) := of_decide_eq_false h
      omega
    subst hi1
    exact ⟨_, _, _, Le.refl _ _, rfl, ⟨⟨rfl, rfl, trivial⟩, (show ((decN (x.take i) : Nat) : Int) = _ by rw [List.take_of_length_le (by omega)]), trivial⟩, trivial, rfl⟩
set_option maxHeartbeats 1000000 in
theorem readText_spec (st : St) (w : Nat) (hw : W w) : Fn Try.prog 72 [.c (vSt st), vI (w : Nat)] [] [] (.tup [vSt (rdT w st).1, .one (.d (.str (rdT w st).2))]) [] := by
  have h1 := readNum_spec st w hw
  show Fn _ _ _ _ _ (.tup [vSt (tkS (rdN w st).2 (rdN w st).1), .one (.d (.str (tkX (rdN w st).2 (rdN w st).1)))]) _
  generalize (rdN w st).2 = n at *
  generalize (rdN w st).1 = st1 at *
  obtain ⟨s, e⟩ := st1
  refine Fn.of tblOK [] _ _ _ _ _ Try.func72 rfl rfl (by kernel_rfl) (by kernel_rfl) rfl (drawOK tblOK) rfl ?_
  refine ⟨rfl, rfl, ?_⟩
  refine ⟨_, _, _, _, h1, trivial, rfl, ?_⟩
  refine ⟨fun h => ?_, fun h1 => ?_⟩
  · have h : (!decide (e = 0)) = true := h
    have he : ¬ e = 0 := by simpa using h
    have hx : tkX n (s, e) = [] := by unfold tkX; rw [if_pos (.inl he)]
    have hs : tkS n (s, e) = (s, e) := by unfold tkS; rw [if_pos he]
    rw [hx, hs]
    exact ⟨_, _, _, Le.refl _ _, rfl, ⟨⟨rfl, rfl, trivial⟩, rfl, trivial⟩, trivial, rfl⟩
  have h1 : (!decide (e = 0)) = false := h1
  have he : e = 0 := by simpa using h1
  subst he
  refine ⟨fun h => ?_, fun h => ?_⟩
  · have h : (s.length : Int) < (n : Int) := of_decide_eq_true h
    have hx : tkX n (s, 0) = [] := by unfold tkX; rw [if_pos (.inr (by show s.length < n; omega))]
    have hs : tkS n (s, 0) = (s, 10) := by unfold tkS; rw [if_neg (by simp), if_pos (by show s.length < n; omega)]
    rw [hx, hs]
    exact ⟨_, _, _, Le.refl _ _, rfl, ⟨⟨rfl, rfl, trivial⟩, rfl, trivial⟩, trivial, rfl⟩
  have h : ¬ (s.length : Int) < (n : Int) := of_decide_eq_false h
  have hx : tkX n (s, 0) = s.take n := by unfold tkX; rw [if_neg (by simp; omega)]
  have hs : tkS n (s, 0) = (s.drop n, 0) := by unfold tkS; rw [if_neg (by simp), if_neg (by show ¬ s.length < n; omega)]
  rw [hx, hs]
  have m1 : 0 ≤ (n : Int) ∧ (n : Int) ≤ (s.length : Int) := by omega
  have hd2 : (s.take s.length).drop ((n : Int)).toNat = s.drop n := by rw [List.take_length]; rfl
  refine ⟨m1, m1, ?_⟩
  exact ⟨_, _, _, Le.refl _ _, rfl, ⟨⟨hd2, rfl, trivial⟩, rfl, trivial⟩, trivial, rfl⟩
end Go.Proofs.Ythghcdddambaeaa
