/-
  The store: Write.
-/
import Derived.Test.YthghcdddambaeaaSt7
set_option linter.unusedVariables false
set_option linter.unusedSimpArgs false
set_option maxRecDepth 10000
namespace Go.Proofs.Ythghcdddambaeaa
open Go.RowKit Go.Proofs
/-- The k-th sector's bytes. -/
def chunkL (b : List UInt8) (k : Nat) : List UInt8 := List.take 16 ((b.take ((((k : Nat) : Int) + 1) * 16).toNat).drop (((k : Nat) : Int) * 16).toNat)
def chunk (b : List UInt8) (k : Nat) : El uX := chunkL b k
theorem chunk_wf {b : List UInt8} {k : Nat} (h : 16 * (k + 1) ≤ b.length) : WfX (chunk b k) := by
  show (List.take 16 ((b.take _).drop _)).length = 16
  rw [List.length_take, List.length_drop, List.length_take]
  omega
theorem chunkL_eq (b : List UInt8) (k : Nat) : chunkL b k = (b.drop (16 * k)).take 16 := by
  unfold chunkL
  rw [show ((((k : Nat) : Int) + 1) * 16).toNat = 16 * k + 16 by omega, show (((k : Nat) : Int) * 16).toNat = 16 * k by omega, List.drop_take, List.take_take]
  congr 1
  omega
@[reducible] def mkW (a : Int) (x : El uX) : El uW := (a, x)
/-- What is seen, and loose, behind k sectors of a write. -/
def wrS (at_ : Int) (b : List UInt8) (s : SMap) : Nat → SMap
  | 0 => s
  | k + 1 => mput (wrS at_ b s k) (at_ + (k : Nat) : Int) (chunk b k)
def wrL (at_ : Int) (b : List UInt8) (l : List (El uW)) : Nat → List (El uW)
  | 0 => l
  | k + 1 => wrL at_ b l k ++ [mkW (at_ + (k : Nat)) (chunk b k)]
theorem wrL_length (at_ : Int) (b : List UInt8) (l : List (El uW)) : ∀ k, (wrL at_ b l k).length = l.length + k
  | 0 => rfl
  | k + 1 => by rw [wrL, List.length_append, wrL_length]; simp; omega
/-- How many of k sectors were never written. -/
def freshN (s : SMap) (at_ : Int) : Nat → Nat
  | 0 => 0
  | k + 1 => match (mget s (at_ + (k : Nat) : Int)).isSome with
    | true => freshN s at_ k
    | false => freshN s at_ k + 1
theorem freshN_le (s : SMap) (at_ : Int) : ∀ k, freshN s at_ k ≤ k
  | 0 => Nat.le_refl _
  | k + 1 => by
    have := freshN_le s at_ k
    unfold freshN
    split <;> omega
def StM.fullB (m : StM) (at_ : Int) (k : Nat) : Bool := decide (m.room < (m.seen.length + freshN m.seen at_ k : Nat)) && decide (0 < freshN m.seen at_ k)
def StM.wrote (m : StM) (at_ : Int) (b : List UInt8) : StM := { m with seen := wrS at_ b m.seen (b.length / 16), loose := wrL at_ b m.loose (b.length / 16) }
def badLen (b : List UInt8) : Bool := decide (b.length = 0) || !decide (b.length % 16 = 0)
@[reducible] def wr1K (m : StM) (at_ : Int) (b : List UInt8) (k : Nat) : KL := [(0, vP 1001), (1, vI at_), (2, vL .u8 b), (7, vI (b.length / 16 : Nat)), (8, vI (m.seen.length + freshN m.seen at_ k : Nat)), (35, vI (b.length / 16 : Nat)), (36, vI (k : Nat))]
@[reducible] def wr2K (m : StM) (at_ : Int) (b : List UInt8) (k : Nat) : KL := [(0, vP 1001), (1, vI at_), (2, vL .u8 b), (7, vI (b.length / 16 : Nat)), (67, vI (b.length / 16 : Nat)), (68, vI (k : Nat))]
@[reducible] def wr2B (m : StM) (at_ : Int) (b : List UInt8) (k r : Nat) : BL := stB 1001 1002 1003 r { m with seen := wrS at_ b m.seen k, loose := wrL at_ b m.loose k }
theorem badLen_split (b : List UInt8) : badLen b = (decide ((b.length : Int) = 0) || !decide ((b.length : Int) % 16 = 0)) := by
  have e1 : decide (b.length = 0) = decide ((b.length : Int) = 0) := by rw [Bool.eq_iff_iff, decide_eq_true_iff, decide_eq_true_iff]; omega
  have e2 : decide (b.length % 16 = 0) = decide ((b.length : Int) % 16 = 0) := by rw [Bool.eq_iff_iff, decide_eq_true_iff, decide_eq_true_iff]; omega
  rw [badLen, e1, e2]
theorem len_div {b : List UInt8} (hl : b.length ≤ 4294967296) : (0 ≤ (b.length : Int) ∧ (0 : Int) < 16) ∧ (-9223372036854775808 ≤ (b.length : Int) / 16 ∧ (b.length : Int) / 16 ≤ 9223372036854775807) ∧ (-9223372036854775808 ≤ (b.length : Int) % 16 ∧ (b.length : Int) % 16 ≤ 9223372036854775807) := by omega
theorem swrite_arg (m : StM) (at_ : Int) (b : List UInt8) (hl : b.length ≤ 4294967296) (h : badLen b = true) : Fn Try.prog 85 [vP 1001, vI at_, vL .u8 b] [(1001, .obj (stO m))] [] (vI 1) [(1001, .obj (stO m))] := by
  refine stClose (Bi := []) (Bo := []) (nw := []) ?_ rfl rfl
  rw [badLen_split] at h
  obtain ⟨a1, a2, a3⟩ := len_div hl
  refine Fn.of tblOK [] _ _ _ _ _ Try.func85 rfl rfl (by kernel_rfl) (by kernel_rfl) rfl (drawOK tblOK) rfl ?_
  refine ⟨a1, a2, ?_⟩
  refine ⟨fun _ => ?_, fun h1 => ?_⟩
  · exact ⟨_, _, _, Le.refl _ _, rfl, rfl, ⟨rfl, rfl, rfl, rfl, trivial⟩, rfl⟩
  refine ⟨a1, a3, ?_⟩
  refine ⟨fun _ => ?_, fun h2 => ?_⟩
  · exact ⟨_, _, _, Le.refl _ _, rfl, rfl, ⟨rfl, rfl, rfl, rfl, trivial⟩, rfl⟩
  · have h1 : decide ((b.length : Int) = 0) = false := h1
    have h2 : (!decide ((b.length : Int) % 16 = 0)) = false := h2
    rw [h1, h2] at h
    cases h
theorem swrite_end (m : StM) (at_ : Int) (b : List UInt8) (hl : b.length ≤ 4294967296) (h : badLen b = false) (hi : m.insideB at_ (b.length / 16 : Nat) = false) (h1 : 0 ≤ m.n) (h2 : m.n ≤ 4096) : Fn Try.prog 85 [vP 1001, vI at_, vL .u8 b] [(1001, .obj (stO m))] [] (vI 31) [(1001, .obj (stO m))] := by
  refine stClose (Bi := []) (Bo := []) (nw := []) ?_ rfl rfl
  rw [badLen_split, Bool.or_eq_false_iff] at h
  obtain ⟨a1, a2, a3⟩ := len_div hl
  refine Fn.of tblOK [] _ _ _ _ _ Try.func85 rfl rfl (by kernel_rfl) (by kernel_rfl) rfl (drawOK tblOK) rfl ?_
  refine ⟨a1, a2, ?_⟩
  refine ⟨fun h3 => absurd (h.1.symm.trans h3) (by decide), fun _ => ?_⟩
  refine ⟨a1, a3, ?_⟩
  refine ⟨fun h3 => absurd (h.2.symm.trans h3) (by decide), fun _ => ?_⟩
  refine ⟨_, _, _, _, sinside_fn m at_ (b.length / 16 : Nat) (by omega) h1 h2, ⟨rfl, rfl, rfl, rfl, trivial⟩, rfl, ?_⟩
  rw [hi]
  refine ⟨fun _ => ?_, fun h => absurd h (by decide)⟩
  exact ⟨_, _, _, Le.refl _ _, rfl, rfl, ⟨rfl, rfl, rfl, rfl, trivial⟩, rfl⟩
/-- A write that may be, up to the count of what was never written; Q: what is shown from there on. -/
theorem swrite_go (m : StM) (at_ : Int) (b : List UInt8) (hl : b.length ≤ 4294967296) (h : badLen b = false) (hi : m.insideB at_ (b.length / 16 : Nat) = true) (h1 : 0 ≤ m.n) (h2 : m.n ≤ 4096) (h3 : m.seen.length ≤ 4096) (hw : WfS m.seen) (hlo : m.loose.length + b.length ≤ 4294967296) :
    Fn Try.prog 85 [vP 1001, vI at_, vL .u8 b] (stB 1001 1002 1003 1004 m) [2004] (vI (match m.fullB at_ (b.length / 16) with | true => 30 | false => 0)) (match m.fullB at_ (b.length / 16) with | true => stB 1001 1002 1003 1004 m | false => stB 1001 1002 1003 2004 (m.wrote at_ b)) := by
  rw [badLen_split, Bool.or_eq_false_iff] at h
  obtain ⟨a1, a2, a3⟩ := len_div hl
  refine Fn.of tblOK [] _ _ _ _ _ Try.func85 rfl rfl (by kernel_rfl) (by kernel_rfl) rfl (drawOK tblOK) rfl ?_
  refine ⟨a1, a2, ?_⟩
  refine ⟨fun h3 => absurd (h.1.symm.trans h3) (by decide), fun _ => ?_⟩
  refine ⟨a1, a3, ?_⟩
  refine ⟨fun h3 => absurd (h.2.symm.trans h3) (by decide), fun _ => ?_⟩
  refine ⟨_, _, _, _, sinside_fn m at_ (b.length / 16 : Nat) (by omega) h1 h2, ⟨rfl, rfl, rfl, rfl, trivial⟩, rfl, ?_⟩
  rw [hi]
  refine ⟨fun h => absurd h (by decide), fun _ => ?_⟩
  simp only [StM.insideB, Bool.and_eq_true, decide_eq_true_eq] at hi
  obtain ⟨⟨i1, i2⟩, i3⟩ := hi
  refine ⟨_, _, _, _, sused_fn m, ⟨rfl, rfl, rfl, rfl, trivial⟩, rfl, ?_⟩
  show TrQ _ _ _ _ _ _ _
  have e0 : ((b.length : Int) / 16) = ((b.length / 16 : Nat) : Int) := by omega
  have hfl := freshN_le m.seen at_
  refine TrQ.loop tblOK (drawOK tblOK) [] (by kernel_rfl) (X := Nat) (wr1K m at_ b) (fun k => stB 1001 1002 1003 1004 m) (fun k => k ≤ b.length / 16) (fun k => b.length / 16 - k) 0 (Nat.zero_le _) ?_ ?_
  · exact Le.sub ⟨rfl, rfl, rfl, e0, rfl, e0, rfl, trivial⟩ ⟨rfl, rfl, rfl, rfl, trivial⟩
  intro k hk
  refine ⟨fun hc => ?_, fun hc => ?_⟩
  · have hk1 : (k : Int) < (b.length / 16 : Nat) := of_decide_eq_true hc
    have hfk := hfl k
    refine ⟨by omega, ?_⟩
    refine ⟨rfl, ?_⟩
    have hs : freshN m.seen at_ (k + 1) = match (mget m.seen (at_ + (k : Nat) : Int)).isSome with
        | true => freshN m.seen at_ k
        | false => freshN m.seen at_ k + 1 := rfl
    refine ⟨fun h4 => ?_, fun h4 => ?_⟩
    · have h4 : (mget m.seen (at_ + (k : Nat) : Int)).isSome = false := by
        have h4 : (!(mget m.seen (at_ + (k : Nat) : Int)).isSome) = true := h4
        simpa using h4
      rw [h4] at hs
      have hs : freshN m.seen at_ (k + 1) = freshN m.seen at_ k + 1 := hs
      refine ⟨by omega, ?_⟩
      refine ⟨by omega, k + 1, by omega, by omega, Le.sub ⟨rfl, rfl, rfl, rfl, ?_, rfl, rfl, trivial⟩ ⟨rfl, rfl, rfl, rfl, trivial⟩⟩
      show _ = _
      rw [hs]
      omega
    · have h4 : (mget m.seen (at_ + (k : Nat) : Int)).isSome = true := by
        have h4 : (!(mget m.seen (at_ + (k : Nat) : Int)).isSome) = false := h4
        simpa using h4
      rw [h4] at hs
      refine ⟨by omega, k + 1, by omega, by omega, Le.sub ⟨rfl, rfl, rfl, rfl, ?_, rfl, rfl, trivial⟩ ⟨rfl, rfl, rfl, rfl, trivial⟩⟩
      show _ = _
      rw [hs]
  · have hk1 : k = b.length / 16 := by
      have : ¬ (k : Int) < (b.length / 16 : Nat) := of_decide_eq_false hc
      omega
    subst hk1
    have hfk := hfl (b.length / 16)
    refine ⟨fun c1 => ?cA, fun c1 => ?cB⟩
    case' cA =>
      have c1 : decide (m.room < (m.seen.length + freshN m.seen at_ (b.length / 16) : Nat)) = true := c1
      refine ⟨_, _, _, _, sused_fn m, ⟨rfl, rfl, rfl, rfl, trivial⟩, rfl, ?_⟩
      refine ⟨fun c2 => ?cC, fun c2 => ?cD⟩
    case cC =>
      have c2 : decide (((m.seen.length : Nat) : Int) < (m.seen.length + freshN m.seen at_ (b.length / 16) : Nat)) = true := c2
      have hf : m.fullB at_ (b.length / 16) = true := by
        have h0 : 0 < freshN m.seen at_ (b.length / 16) := by have := of_decide_eq_true c2; omega
        rw [StM.fullB, c1, decide_eq_true h0]
        rfl
      rw [hf]
      exact ⟨_, _, _, Le.refl _ _, rfl, rfl, ⟨rfl, rfl, rfl, rfl, trivial⟩, rfl⟩
    case' cD =>
      have c2 : decide (((m.seen.length : Nat) : Int) < (m.seen.length + freshN m.seen at_ (b.length / 16) : Nat)) = false := c2
      have hf : m.fullB at_ (b.length / 16) = false := by
        have h0 : ¬ 0 < freshN m.seen at_ (b.length / 16) := by have := of_decide_eq_false c2; omega
        rw [StM.fullB, c1, decide_eq_false h0]
        rfl
      clear c1 c2
    case' cB =>
      have c1 : decide (m.room < (m.seen.length + freshN m.seen at_ (b.length / 16) : Nat)) = false := c1
      have hf : m.fullB at_ (b.length / 16) = false := by
        rw [StM.fullB, c1]
        rfl
      clear c1
    all_goals
      rw [hf]
      show TrQ _ _ _ _ _ _ _
      refine TrQ.loop tblOK (drawOK tblOK) [] (by kernel_rfl) (X := Nat) (wr2K m at_ b) (fun k => wr2B m at_ b k 2004) (fun k => k ≤ b.length / 16) (fun k => b.length / 16 - k) 0 (Nat.zero_le _) ?_ ?_
      · exact Le.trans (Le.sub (K' := wr2K m at_ b 0) (B' := wr2B m at_ b 0 1004) ⟨rfl, rfl, rfl, rfl, rfl, rfl, trivial⟩ ⟨rfl, rfl, rfl, rfl, trivial⟩) (Le.ren 1004 2004 rfl)
      intro k hk
      refine ⟨fun hc => ?_, fun hc => ?_⟩
      · have hk1 : (k : Int) < (b.length / 16 : Nat) := of_decide_eq_true hc
        have hwf : WfX (chunk b k) := chunk_wf (by omega)
        have hll := wrL_length at_ b m.loose k
        have q1 : -9223372036854775808 ≤ (k : Int) * 16 ∧ (k : Int) * 16 ≤ 9223372036854775807 := by omega
        have q2 : -9223372036854775808 ≤ (k : Int) + 1 ∧ (k : Int) + 1 ≤ 9223372036854775807 := by omega
        have q3 : -9223372036854775808 ≤ ((k : Int) + 1) * 16 ∧ ((k : Int) + 1) * 16 ≤ 9223372036854775807 := by omega
        have q4 : 0 ≤ (k : Int) * 16 ∧ (k : Int) * 16 ≤ ((k : Int) + 1) * 16 ∧ ((k : Int) + 1) * 16 ≤ (b.length : Nat) := by omega
        refine ⟨q1, q2, q3, q4, ?_⟩
        have q5 : 0 < 16 ∧ 16 ≤ ((b.take (((k : Int) + 1) * 16).toNat).drop ((k : Int) * 16).toNat).length := by
          rw [List.length_drop, List.length_take]
          omega
        refine ⟨q5, rfl, ?_⟩
        have q6 : -9223372036854775808 ≤ at_ + (k : Nat) ∧ at_ + (k : Nat) ≤ 9223372036854775807 := by omega
        refine ⟨q6, ?_⟩
        refine ⟨chunk b k, ⟨hwf.wf, rfl⟩, ?_⟩
        refine ⟨rfl, ?_⟩
        refine ⟨q6, ?_⟩
        refine ⟨rfl, mkW (at_ + (k : Nat)) (chunk b k), ⟨⟨trivial, hwf.wf⟩, rfl⟩, ?_⟩
        have q7 : (wrL at_ b m.loose k).length + [mkW (at_ + (k : Nat)) (chunk b k)].length ≤ 4294967296 := by
          rw [hll]
          simp only [List.length_cons, List.length_nil]
          omega
        refine ⟨q7, rfl, ?_⟩
        refine ⟨rfl, ?_⟩
        exact ⟨by omega, k + 1, by omega, by omega, Le.trans (Le.sub (K' := wr2K m at_ b (k + 1)) (B' := wr2B m at_ b (k + 1) 99) ⟨rfl, rfl, rfl, rfl, rfl, rfl, trivial⟩ ⟨rfl, rfl, rfl, rfl, trivial⟩) (Le.ren 99 2004 rfl)⟩
      · have hk1 : k = b.length / 16 := by
          have : ¬ (k : Int) < (b.length / 16 : Nat) := of_decide_eq_false hc
          omega
        subst hk1
        exact ⟨_, _, _, Le.refl _ _, rfl, rfl, ⟨rfl, rfl, rfl, rfl, trivial⟩, rfl⟩
/-- The write, whatever it is. -/
def StM.write (m : StM) (at_ : Int) (b : List UInt8) : StM × Int := match badLen b with
  | true => (m, 1)
  | false => match m.insideB at_ (b.length / 16 : Nat) with
    | false => (m, 31)
    | true => match m.fullB at_ (b.length / 16) with
      | true => (m, 30)
      | false => (m.wrote at_ b, 0)
theorem swrite_fn (m : StM) (at_ : Int) (b : List UInt8) (hl : b.length ≤ 1073741824) (h1 : 0 ≤ m.n) (h2 : m.n ≤ 4096) (h3 : m.seen.length ≤ 4096) (hw : WfS m.seen) (hlo : m.loose.length ≤ 1073741824) :
    Fn Try.prog 85 [vP 1001, vI at_, vL .u8 b] [(1001, .obj (stO m))] [] (vI (m.write at_ b).2) [(1001, .obj (stO (m.write at_ b).1))] := by
  unfold StM.write
  cases e1 : badLen b with
  | true => exact swrite_arg m at_ b (by omega) e1
  | false =>
    simp only
    cases e2 : m.insideB at_ (b.length / 16 : Nat) with
    | false => exact swrite_end m at_ b (by omega) e1 e2 h1 h2
    | true =>
      simp only
      have h := swrite_go m at_ b (by omega) e1 e2 h1 h2 h3 hw (by omega)
      cases e3 : m.fullB at_ (b.length / 16) with
      | true => rw [e3] at h; exact stClose (Bi := []) (Bo := []) (nw := [2004]) h rfl rfl
      | false => rw [e3] at h; exact stCloseR (Bi := []) (Bo := []) (nw := [2004]) [(2004, 1004)] h ⟨rfl, rfl, rfl, rfl⟩ rfl rfl
end Go.Proofs.Ythghcdddambaeaa
