/-
  ExportFrames: any request and reply is written, and any bytes are read, as the document says, or refused.
-/
import Derived.Test.YtolaecebfkdbcaaGreatEs
import Derived.Test.YtolaecebfkdbcaaGreatEu
import Derived.Test.YtolaecebfkdbcaaGreatRd
set_option linter.unusedVariables false
set_option linter.unusedSimpArgs false
set_option maxRecDepth 10000
namespace Go.Proofs.YtolaecebfkdbcaaGreat
open Go.RowKit Go.Proofs
theorem bulk_b8 : ∀ s : List UInt8, bulkU (.sl .u8) s = 1 + s.length
  | [] => rfl
  | b :: s => by
    have ih := bulk_b8 s
    have e2 : bulkU (.sl .u8) s = 1 + (List.map (bulkU .u8) s).sum := rfl
    show 1 + (1 + (List.map (bulkU .u8) s).sum) = 1 + (s.length + 1)
    omega
theorem xtL_len : ∀ {n : Nat} {a : Int} {st : St} {l : List Xt3}, xtL n a st = some l → l.length ≤ n
  | 0, a, st, l, h => by
    unfold xtL at h
    injection h with h
    rw [← h]
    exact Nat.le_refl _
  | n + 1, a, st, l, h => by
    unfold xtL at h
    split at h
    · injection h with h
      rw [← h]
      exact Nat.zero_le _
    split at h
    · cases hr : xtL n (a + ((x1 st).2 : Int)) (x2 st).1 with
      | none => rw [hr] at h; cases h
      | some r =>
        rw [hr] at h
        injection h with h
        rw [← h]
        exact Nat.succ_le_succ (xtL_len hr)
    · cases h
theorem rqOr_fit (b : Bool) (s : List UInt8) : rqFit (rqOr b (hearR s)) = true := by
  cases b
  · rfl
  · exact hearR_fit s
theorem tellB_len (e h : Int) (b : List UInt8) : (tellB e h b).length = 12 + b.length := by
  unfold tellB
  simp only [List.length_append, encR_length, encT_length]
  omega
theorem three {x y z : List UInt8} {m i : Nat} (hx : x.length ≤ m) (hy : y.length ≤ m) (hz : z.length ≤ m) (hi : i < 3) : ∃ s : List UInt8, @lget (El (.sl .u8)) [x, y, z] i = some s ∧ s.length ≤ m := by
  match i, hi with
  | 0, _ => exact ⟨x, rfl, hx⟩
  | 1, _ => exact ⟨y, rfl, hy⟩
  | 2, _ => exact ⟨z, rfl, hz⟩
set_option maxHeartbeats 8000000 in
theorem exportFrames_fn (r : Rq) (e1 h1 : Int) (s1 b : List UInt8) (hl1 : s1.length ≤ 1000000000) (hl2 : b.length ≤ 1073741824) :
    Fn Tryz.prog 3 [rqV r, rpT e1 h1 s1, vL .u8 b] [] [] (vB true) [] := by
  have q1 : s1.length ≤ 4294967296 := by omega
  have hal := alive20_fn
  have hra := rask_fn r
  have hrt := rtell_fn e1 h1 s1 (by omega)
  refine Fn.of tblOK [9] _ _ _ _ _ Tryz.func3 rfl rfl (by kernel_rfl) (by kernel_rfl) rfl (drawOK tblOK) rfl ?_
  refine ⟨rfl, rfl, ?_⟩
  refine ⟨fun _ => ?_, fun g1 => ?_⟩
  · refine ⟨_, _, _, _, hal, trivial, rfl, ?_⟩
    exact ⟨_, _, _, Le.refl _ _, rfl, rfl, trivial, rfl⟩
  have g1 : decide ((2000 : Int) < ((s1.length : Nat) : Int)) = false := g1
  have g1 := of_decide_eq_false g1
  refine ⟨fun _ => ?_, fun g2 => ?_⟩
  · refine ⟨_, _, _, _, hal, trivial, rfl, ?_⟩
    exact ⟨_, _, _, Le.refl _ _, rfl, rfl, trivial, rfl⟩
  have g2 : decide ((2000 : Int) < ((b.length : Nat) : Int)) = false := g2
  have g2 := of_decide_eq_false g2
  have hbl : b.length ≤ 2012 := by omega
  refine (Bool.eq_false_or_eq_true (askOK r)).elim (fun hq => ?_) (fun hq => ?_)
  · rw [hq] at hra
    have hq2 : rqFit r = true ∧ kindOK (rqK r) = true := by unfold askOK at hq; simpa using hq
    have hask := ask_ok r hq2.1 hq2.2
    refine ⟨_, _, _, _, hask, trivial, rfl, ?_⟩
    refine ⟨_, _, _, _, hra, trivial, rfl, ?_⟩
    refine ⟨q1, ?_⟩
    refine (Bool.eq_false_or_eq_true (tellOK e1 h1 s1)).elim (fun ht => ?_) (fun ht => ?_)
    · rw [ht] at hrt
      have htl := tell_ok e1 h1 s1 (by omega) ht
      refine ⟨_, _, _, _, Fn.ren [(1001, 2001)] htl, trivial, rfl, ?_⟩
      refine ⟨_, _, _, _, hrt, trivial, rfl, ?_⟩
      refine ⟨fun h => absurd (show (!decide (askB r = askB r)) = true from h) (by simp), fun _ => ?_⟩
      refine ⟨fun h => absurd h (by decide), fun _ => ?_⟩
      refine ⟨fun h => absurd (show (!decide (tellB e1 h1 s1 = tellB e1 h1 s1)) = true from h) (by simp), fun _ => ?_⟩
      refine ⟨fun h => absurd h (by decide), fun _ => ?_⟩
      have hxl : (askB r).length ≤ 2012 := by rw [askB_len]; decide
      have hzl : (tellB e1 h1 s1).length ≤ 2012 := by rw [tellB_len]; omega
      generalize askB r = x at *
      generalize tellB e1 h1 s1 = z at *
      show TrQ _ _ _ _ _ _ _
      refine TrQ.go tblOK (drawOK tblOK) [] (by kernel_rfl) (Le.trans (Le.frz 1001 rfl) (Le.trans (Le.frz 2001 rfl) (Le.sub (K' := [(7, vL .u8 x), (11, vL .u8 z), (2, vL .u8 b)]) (B' := []) ⟨rfl, rfl, rfl, trivial⟩ trivial))) ?_
      show TrQ _ _ _ _ _ _ _
      refine TrQ.loop tblOK (drawOK tblOK) [] (by kernel_rfl) (X := Nat) (fun i => [(85, vL (.sl .u8) [x, z, b]), (86, vI 3), (87, vI (i : Nat))]) (fun _ => []) (fun i => i ≤ 3) (fun i => 3 - i) 0 (Nat.zero_le _) ?_ ?_
      · exact Le.sub ⟨rfl, rfl, rfl, trivial⟩ trivial
      intro i hi
      have h3 := fun hi => @three x z b 2012 i hxl hzl hbl hi
      refine ⟨fun h => ?_, fun h => ?_⟩
      · have hi1 : i < 3 := by
          have h : decide (((i : Nat) : Int) < 3) = true := h
          have := of_decide_eq_true h
          omega
        obtain ⟨s, hg, hs⟩ := h3 hi1
        have m1 : (0 : Int) ≤ ((i : Nat) : Int) := by omega
        have m2 : -9223372036854775808 ≤ ((i : Nat) : Int) + 1 ∧ ((i : Nat) : Int) + 1 ≤ 9223372036854775807 := by omega
        have hh := hear_fn s (by omega)
        have hrh := rhear_fn s
        have hrf := rqOr_fit (hearOK s) s
        have hkl := kl_fit 3 hrf
        have hrp := replies_fn s (by omega)
        generalize rqOr (hearOK s) (hearR s) = rr at *
        generalize e200 (hearOK s) = ee at *
        refine ⟨m1, s, hg, ?_⟩
        refine ⟨_, _, _, _, hh, trivial, rfl, ?_⟩
        refine ⟨rfl, ?_⟩
        refine ⟨_, _, _, _, hrh, trivial, rfl, ?_⟩
        refine ⟨rfl, ?_⟩
        refine ⟨_, _, fun N => opOK_neqDeep (m := 5) (D := 5) (r := true) (lx := rqS rr) (ly := rqS rr) rfl (by kernel_rfl) (by kernel_rfl) (by decide) rfl rfl rfl (by rfl) (by rfl) hkl hkl ⟨fun _ => rfl, fun _ => rfl⟩ N, rfl, ?_⟩
        refine ⟨fun h => absurd h (by decide), fun _ => ?_⟩
        refine ⟨fun h => absurd (show (!decide (ee = ee)) = true from h) (by simp), fun _ => ?_⟩
        refine ⟨_, _, _, _, hrp, trivial, rfl, ?_⟩
        refine ⟨fun h => absurd h (by decide), fun _ => ?_⟩
        cases hxt : xtL (s.length + 1) 0 (s, 0) with
        | none =>
          have k1 := exts_no s (by omega) hxt
          have k2 := rexts_no s (by omega) hxt
          have k3 := same_fn [] (by decide) (fun x hx => by cases hx)
          refine ⟨_, _, _, _, k1, trivial, rfl, ?_⟩
          refine ⟨_, _, _, _, k2, trivial, rfl, ?_⟩
          refine ⟨_, _, _, _, Fn.arg k3 ⟨rfl, rfl, trivial⟩, trivial, rfl, ?_⟩
          refine ⟨fun h => absurd h (by decide), fun _ => ?_⟩
          refine ⟨fun h => absurd h (by decide), fun _ => ?_⟩
          exact ⟨m2, i + 1, hi1, by show 3 - (i + 1) < 3 - i; omega, Le.sub ⟨rfl, rfl, rfl, trivial⟩ trivial⟩
        | some l =>
          have k1 := exts_ok s l (by omega) hxt
          have k2 := rexts_ok s l (by omega) hxt
          have k3 := same_fn l (Nat.le_trans (xtL_len hxt) (by omega)) (xtL_in hxt (Int.le_refl 0) (by omega))
          have k4 := Fn.own (d := 2001) (e := 79) (u := uXt) (xs := l) (args := [vOwn 2001, vL uXt l]) k3 rfl
          have k5 := Fn.own (d := 2002) (e := 79) (u := uXt) (xs := l) (args := [vOwn 2001, vOwn 2002]) k4 rfl
          refine ⟨_, _, _, _, Fn.ren [(1001, 2001)] k1, trivial, rfl, ?_⟩
          refine ⟨_, _, _, _, Fn.ren [(1001, 2002)] k2, trivial, rfl, ?_⟩
          refine ⟨_, _, _, _, k5, ⟨rfl, rfl, trivial⟩, rfl, ?_⟩
          refine ⟨fun h => absurd h (by decide), fun _ => ?_⟩
          refine ⟨fun h => absurd h (by decide), fun _ => ?_⟩
          exact ⟨m2, i + 1, hi1, by show 3 - (i + 1) < 3 - i; omega, Le.sub ⟨rfl, rfl, rfl, trivial⟩ trivial⟩
      · refine ⟨_, _, _, _, hal, trivial, rfl, ?_⟩
        exact ⟨_, _, _, Le.refl _ _, rfl, rfl, trivial, rfl⟩
    · rw [ht] at hrt
      have htl := tell_no e1 h1 s1 (by omega) ht
      refine ⟨_, _, _, _, htl, trivial, rfl, ?_⟩
      refine ⟨_, _, _, _, hrt, trivial, rfl, ?_⟩
      refine ⟨fun h => absurd (show (!decide (askB r = askB r)) = true from h) (by simp), fun _ => ?_⟩
      refine ⟨fun h => absurd h (by decide), fun _ => ?_⟩
      refine ⟨fun h => absurd (show (!decide (([] : List UInt8) = ([] : List UInt8))) = true from h) (by simp), fun _ => ?_⟩
      refine ⟨fun h => absurd h (by decide), fun _ => ?_⟩
      have hxl : (askB r).length ≤ 2012 := by rw [askB_len]; decide
      have hzl : (([] : List UInt8)).length ≤ 2012 := by decide
      generalize askB r = x at *
      show TrQ _ _ _ _ _ _ _
      refine TrQ.go tblOK (drawOK tblOK) [] (by kernel_rfl) (Le.trans (Le.frz 1001 rfl) (Le.trans (Le.refl _ _) (Le.sub (K' := [(7, vL .u8 x), (11, vL .u8 []), (2, vL .u8 b)]) (B' := []) ⟨rfl, rfl, rfl, trivial⟩ trivial))) ?_
      show TrQ _ _ _ _ _ _ _
      refine TrQ.loop tblOK (drawOK tblOK) [] (by kernel_rfl) (X := Nat) (fun i => [(85, vL (.sl .u8) [x, ([] : List UInt8), b]), (86, vI 3), (87, vI (i : Nat))]) (fun _ => []) (fun i => i ≤ 3) (fun i => 3 - i) 0 (Nat.zero_le _) ?_ ?_
      · exact Le.sub ⟨rfl, rfl, rfl, trivial⟩ trivial
      intro i hi
      have h3 := fun hi => @three x [] b 2012 i hxl hzl hbl hi
      refine ⟨fun h => ?_, fun h => ?_⟩
      · have hi1 : i < 3 := by
          have h : decide (((i : Nat) : Int) < 3) = true := h
          have := of_decide_eq_true h
          omega
        obtain ⟨s, hg, hs⟩ := h3 hi1
        have m1 : (0 : Int) ≤ ((i : Nat) : Int) := by omega
        have m2 : -9223372036854775808 ≤ ((i : Nat) : Int) + 1 ∧ ((i : Nat) : Int) + 1 ≤ 9223372036854775807 := by omega
        have hh := hear_fn s (by omega)
        have hrh := rhear_fn s
        have hrf := rqOr_fit (hearOK s) s
        have hkl := kl_fit 3 hrf
        have hrp := replies_fn s (by omega)
        generalize rqOr (hearOK s) (hearR s) = rr at *
        generalize e200 (hearOK s) = ee at *
        refine ⟨m1, s, hg, ?_⟩
        refine ⟨_, _, _, _, hh, trivial, rfl, ?_⟩
        refine ⟨rfl, ?_⟩
        refine ⟨_, _, _, _, hrh, trivial, rfl, ?_⟩
        refine ⟨rfl, ?_⟩
        refine ⟨_, _, fun N => opOK_neqDeep (m := 5) (D := 5) (r := true) (lx := rqS rr) (ly := rqS rr) rfl (by kernel_rfl) (by kernel_rfl) (by decide) rfl rfl rfl (by rfl) (by rfl) hkl hkl ⟨fun _ => rfl, fun _ => rfl⟩ N, rfl, ?_⟩
        refine ⟨fun h => absurd h (by decide), fun _ => ?_⟩
        refine ⟨fun h => absurd (show (!decide (ee = ee)) = true from h) (by simp), fun _ => ?_⟩
        refine ⟨_, _, _, _, hrp, trivial, rfl, ?_⟩
        refine ⟨fun h => absurd h (by decide), fun _ => ?_⟩
        cases hxt : xtL (s.length + 1) 0 (s, 0) with
        | none =>
          have k1 := exts_no s (by omega) hxt
          have k2 := rexts_no s (by omega) hxt
          have k3 := same_fn [] (by decide) (fun x hx => by cases hx)
          refine ⟨_, _, _, _, k1, trivial, rfl, ?_⟩
          refine ⟨_, _, _, _, k2, trivial, rfl, ?_⟩
          refine ⟨_, _, _, _, Fn.arg k3 ⟨rfl, rfl, trivial⟩, trivial, rfl, ?_⟩
          refine ⟨fun h => absurd h (by decide), fun _ => ?_⟩
          refine ⟨fun h => absurd h (by decide), fun _ => ?_⟩
          exact ⟨m2, i + 1, hi1, by show 3 - (i + 1) < 3 - i; omega, Le.sub ⟨rfl, rfl, rfl, trivial⟩ trivial⟩
        | some l =>
          have k1 := exts_ok s l (by omega) hxt
          have k2 := rexts_ok s l (by omega) hxt
          have k3 := same_fn l (Nat.le_trans (xtL_len hxt) (by omega)) (xtL_in hxt (Int.le_refl 0) (by omega))
          have k4 := Fn.own (d := 2001) (e := 79) (u := uXt) (xs := l) (args := [vOwn 2001, vL uXt l]) k3 rfl
          have k5 := Fn.own (d := 2002) (e := 79) (u := uXt) (xs := l) (args := [vOwn 2001, vOwn 2002]) k4 rfl
          refine ⟨_, _, _, _, Fn.ren [(1001, 2001)] k1, trivial, rfl, ?_⟩
          refine ⟨_, _, _, _, Fn.ren [(1001, 2002)] k2, trivial, rfl, ?_⟩
          refine ⟨_, _, _, _, k5, ⟨rfl, rfl, trivial⟩, rfl, ?_⟩
          refine ⟨fun h => absurd h (by decide), fun _ => ?_⟩
          refine ⟨fun h => absurd h (by decide), fun _ => ?_⟩
          exact ⟨m2, i + 1, hi1, by show 3 - (i + 1) < 3 - i; omega, Le.sub ⟨rfl, rfl, rfl, trivial⟩ trivial⟩
      · refine ⟨_, _, _, _, hal, trivial, rfl, ?_⟩
        exact ⟨_, _, _, Le.refl _ _, rfl, rfl, trivial, rfl⟩
  · rw [hq] at hra
    have hask := ask_no r hq
    refine ⟨_, _, _, _, hask, trivial, rfl, ?_⟩
    refine ⟨_, _, _, _, hra, trivial, rfl, ?_⟩
    refine ⟨q1, ?_⟩
    refine (Bool.eq_false_or_eq_true (tellOK e1 h1 s1)).elim (fun ht => ?_) (fun ht => ?_)
    · rw [ht] at hrt
      have htl := tell_ok e1 h1 s1 (by omega) ht
      refine ⟨_, _, _, _, Fn.ren [(1001, 2001)] htl, trivial, rfl, ?_⟩
      refine ⟨_, _, _, _, hrt, trivial, rfl, ?_⟩
      refine ⟨fun h => absurd (show (!decide (([] : List UInt8) = ([] : List UInt8))) = true from h) (by simp), fun _ => ?_⟩
      refine ⟨fun h => absurd h (by decide), fun _ => ?_⟩
      refine ⟨fun h => absurd (show (!decide (tellB e1 h1 s1 = tellB e1 h1 s1)) = true from h) (by simp), fun _ => ?_⟩
      refine ⟨fun h => absurd h (by decide), fun _ => ?_⟩
      have hxl : (([] : List UInt8)).length ≤ 2012 := by decide
      have hzl : (tellB e1 h1 s1).length ≤ 2012 := by rw [tellB_len]; omega
      generalize tellB e1 h1 s1 = z at *
      show TrQ _ _ _ _ _ _ _
      refine TrQ.go tblOK (drawOK tblOK) [] (by kernel_rfl) (Le.trans (Le.refl _ _) (Le.trans (Le.frz 2001 rfl) (Le.sub (K' := [(7, vL .u8 []), (11, vL .u8 z), (2, vL .u8 b)]) (B' := []) ⟨rfl, rfl, rfl, trivial⟩ trivial))) ?_
      show TrQ _ _ _ _ _ _ _
      refine TrQ.loop tblOK (drawOK tblOK) [] (by kernel_rfl) (X := Nat) (fun i => [(85, vL (.sl .u8) [([] : List UInt8), z, b]), (86, vI 3), (87, vI (i : Nat))]) (fun _ => []) (fun i => i ≤ 3) (fun i => 3 - i) 0 (Nat.zero_le _) ?_ ?_
      · exact Le.sub ⟨rfl, rfl, rfl, trivial⟩ trivial
      intro i hi
      have h3 := fun hi => @three [] z b 2012 i hxl hzl hbl hi
      refine ⟨fun h => ?_, fun h => ?_⟩
      · have hi1 : i < 3 := by
          have h : decide (((i : Nat) : Int) < 3) = true := h
          have := of_decide_eq_true h
          omega
        obtain ⟨s, hg, hs⟩ := h3 hi1
        have m1 : (0 : Int) ≤ ((i : Nat) : Int) := by omega
        have m2 : -9223372036854775808 ≤ ((i : Nat) : Int) + 1 ∧ ((i : Nat) : Int) + 1 ≤ 9223372036854775807 := by omega
        have hh := hear_fn s (by omega)
        have hrh := rhear_fn s
        have hrf := rqOr_fit (hearOK s) s
        have hkl := kl_fit 3 hrf
        have hrp := replies_fn s (by omega)
        generalize rqOr (hearOK s) (hearR s) = rr at *
        generalize e200 (hearOK s) = ee at *
        refine ⟨m1, s, hg, ?_⟩
        refine ⟨_, _, _, _, hh, trivial, rfl, ?_⟩
        refine ⟨rfl, ?_⟩
        refine ⟨_, _, _, _, hrh, trivial, rfl, ?_⟩
        refine ⟨rfl, ?_⟩
        refine ⟨_, _, fun N => opOK_neqDeep (m := 5) (D := 5) (r := true) (lx := rqS rr) (ly := rqS rr) rfl (by kernel_rfl) (by kernel_rfl) (by decide) rfl rfl rfl (by rfl) (by rfl) hkl hkl ⟨fun _ => rfl, fun _ => rfl⟩ N, rfl, ?_⟩
        refine ⟨fun h => absurd h (by decide), fun _ => ?_⟩
        refine ⟨fun h => absurd (show (!decide (ee = ee)) = true from h) (by simp), fun _ => ?_⟩
        refine ⟨_, _, _, _, hrp, trivial, rfl, ?_⟩
        refine ⟨fun h => absurd h (by decide), fun _ => ?_⟩
        cases hxt : xtL (s.length + 1) 0 (s, 0) with
        | none =>
          have k1 := exts_no s (by omega) hxt
          have k2 := rexts_no s (by omega) hxt
          have k3 := same_fn [] (by decide) (fun x hx => by cases hx)
          refine ⟨_, _, _, _, k1, trivial, rfl, ?_⟩
          refine ⟨_, _, _, _, k2, trivial, rfl, ?_⟩
          refine ⟨_, _, _, _, Fn.arg k3 ⟨rfl, rfl, trivial⟩, trivial, rfl, ?_⟩
          refine ⟨fun h => absurd h (by decide), fun _ => ?_⟩
          refine ⟨fun h => absurd h (by decide), fun _ => ?_⟩
          exact ⟨m2, i + 1, hi1, by show 3 - (i + 1) < 3 - i; omega, Le.sub ⟨rfl, rfl, rfl, trivial⟩ trivial⟩
        | some l =>
          have k1 := exts_ok s l (by omega) hxt
          have k2 := rexts_ok s l (by omega) hxt
          have k3 := same_fn l (Nat.le_trans (xtL_len hxt) (by omega)) (xtL_in hxt (Int.le_refl 0) (by omega))
          have k4 := Fn.own (d := 2001) (e := 79) (u := uXt) (xs := l) (args := [vOwn 2001, vL uXt l]) k3 rfl
          have k5 := Fn.own (d := 2002) (e := 79) (u := uXt) (xs := l) (args := [vOwn 2001, vOwn 2002]) k4 rfl
          refine ⟨_, _, _, _, Fn.ren [(1001, 2001)] k1, trivial, rfl, ?_⟩
          refine ⟨_, _, _, _, Fn.ren [(1001, 2002)] k2, trivial, rfl, ?_⟩
          refine ⟨_, _, _, _, k5, ⟨rfl, rfl, trivial⟩, rfl, ?_⟩
          refine ⟨fun h => absurd h (by decide), fun _ => ?_⟩
          refine ⟨fun h => absurd h (by decide), fun _ => ?_⟩
          exact ⟨m2, i + 1, hi1, by show 3 - (i + 1) < 3 - i; omega, Le.sub ⟨rfl, rfl, rfl, trivial⟩ trivial⟩
      · refine ⟨_, _, _, _, hal, trivial, rfl, ?_⟩
        exact ⟨_, _, _, Le.refl _ _, rfl, rfl, trivial, rfl⟩
    · rw [ht] at hrt
      have htl := tell_no e1 h1 s1 (by omega) ht
      refine ⟨_, _, _, _, htl, trivial, rfl, ?_⟩
      refine ⟨_, _, _, _, hrt, trivial, rfl, ?_⟩
      refine ⟨fun h => absurd (show (!decide (([] : List UInt8) = ([] : List UInt8))) = true from h) (by simp), fun _ => ?_⟩
      refine ⟨fun h => absurd h (by decide), fun _ => ?_⟩
      refine ⟨fun h => absurd (show (!decide (([] : List UInt8) = ([] : List UInt8))) = true from h) (by simp), fun _ => ?_⟩
      refine ⟨fun h => absurd h (by decide), fun _ => ?_⟩
      have hxl : (([] : List UInt8)).length ≤ 2012 := by decide
      have hzl : (([] : List UInt8)).length ≤ 2012 := by decide
      show TrQ _ _ _ _ _ _ _
      refine TrQ.go tblOK (drawOK tblOK) [] (by kernel_rfl) (Le.trans (Le.refl _ _) (Le.trans (Le.refl _ _) (Le.sub (K' := [(7, vL .u8 []), (11, vL .u8 []), (2, vL .u8 b)]) (B' := []) ⟨rfl, rfl, rfl, trivial⟩ trivial))) ?_
      show TrQ _ _ _ _ _ _ _
      refine TrQ.loop tblOK (drawOK tblOK) [] (by kernel_rfl) (X := Nat) (fun i => [(85, vL (.sl .u8) [([] : List UInt8), ([] : List UInt8), b]), (86, vI 3), (87, vI (i : Nat))]) (fun _ => []) (fun i => i ≤ 3) (fun i => 3 - i) 0 (Nat.zero_le _) ?_ ?_
      · exact Le.sub ⟨rfl, rfl, rfl, trivial⟩ trivial
      intro i hi
      have h3 := fun hi => @three [] [] b 2012 i hxl hzl hbl hi
      refine ⟨fun h => ?_, fun h => ?_⟩
      · have hi1 : i < 3 := by
          have h : decide (((i : Nat) : Int) < 3) = true := h
          have := of_decide_eq_true h
          omega
        obtain ⟨s, hg, hs⟩ := h3 hi1
        have m1 : (0 : Int) ≤ ((i : Nat) : Int) := by omega
        have m2 : -9223372036854775808 ≤ ((i : Nat) : Int) + 1 ∧ ((i : Nat) : Int) + 1 ≤ 9223372036854775807 := by omega
        have hh := hear_fn s (by omega)
        have hrh := rhear_fn s
        have hrf := rqOr_fit (hearOK s) s
        have hkl := kl_fit 3 hrf
        have hrp := replies_fn s (by omega)
        generalize rqOr (hearOK s) (hearR s) = rr at *
        generalize e200 (hearOK s) = ee at *
        refine ⟨m1, s, hg, ?_⟩
        refine ⟨_, _, _, _, hh, trivial, rfl, ?_⟩
        refine ⟨rfl, ?_⟩
        refine ⟨_, _, _, _, hrh, trivial, rfl, ?_⟩
        refine ⟨rfl, ?_⟩
        refine ⟨_, _, fun N => opOK_neqDeep (m := 5) (D := 5) (r := true) (lx := rqS rr) (ly := rqS rr) rfl (by kernel_rfl) (by kernel_rfl) (by decide) rfl rfl rfl (by rfl) (by rfl) hkl hkl ⟨fun _ => rfl, fun _ => rfl⟩ N, rfl, ?_⟩
        refine ⟨fun h => absurd h (by decide), fun _ => ?_⟩
        refine ⟨fun h => absurd (show (!decide (ee = ee)) = true from h) (by simp), fun _ => ?_⟩
        refine ⟨_, _, _, _, hrp, trivial, rfl, ?_⟩
        refine ⟨fun h => absurd h (by decide), fun _ => ?_⟩
        cases hxt : xtL (s.length + 1) 0 (s, 0) with
        | none =>
          have k1 := exts_no s (by omega) hxt
          have k2 := rexts_no s (by omega) hxt
          have k3 := same_fn [] (by decide) (fun x hx => by cases hx)
          refine ⟨_, _, _, _, k1, trivial, rfl, ?_⟩
          refine ⟨_, _, _, _, k2, trivial, rfl, ?_⟩
          refine ⟨_, _, _, _, Fn.arg k3 ⟨rfl, rfl, trivial⟩, trivial, rfl, ?_⟩
          refine ⟨fun h => absurd h (by decide), fun _ => ?_⟩
          refine ⟨fun h => absurd h (by decide), fun _ => ?_⟩
          exact ⟨m2, i + 1, hi1, by show 3 - (i + 1) < 3 - i; omega, Le.sub ⟨rfl, rfl, rfl, trivial⟩ trivial⟩
        | some l =>
          have k1 := exts_ok s l (by omega) hxt
          have k2 := rexts_ok s l (by omega) hxt
          have k3 := same_fn l (Nat.le_trans (xtL_len hxt) (by omega)) (xtL_in hxt (Int.le_refl 0) (by omega))
          have k4 := Fn.own (d := 2001) (e := 79) (u := uXt) (xs := l) (args := [vOwn 2001, vL uXt l]) k3 rfl
          have k5 := Fn.own (d := 2002) (e := 79) (u := uXt) (xs := l) (args := [vOwn 2001, vOwn 2002]) k4 rfl
          refine ⟨_, _, _, _, Fn.ren [(1001, 2001)] k1, trivial, rfl, ?_⟩
          refine ⟨_, _, _, _, Fn.ren [(1001, 2002)] k2, trivial, rfl, ?_⟩
          refine ⟨_, _, _, _, k5, ⟨rfl, rfl, trivial⟩, rfl, ?_⟩
          refine ⟨fun h => absurd h (by decide), fun _ => ?_⟩
          refine ⟨fun h => absurd h (by decide), fun _ => ?_⟩
          exact ⟨m2, i + 1, hi1, by show 3 - (i + 1) < 3 - i; omega, Le.sub ⟨rfl, rfl, rfl, trivial⟩ trivial⟩
      · refine ⟨_, _, _, _, hal, trivial, rfl, ?_⟩
        exact ⟨_, _, _, Le.refl _ _, rfl, rfl, trivial, rfl⟩
end Go.Proofs.YtolaecebfkdbcaaGreat
