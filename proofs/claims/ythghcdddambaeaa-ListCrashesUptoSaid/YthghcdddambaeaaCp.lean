/-
  safe: what a store has of one of its two copies; the newest one; Load.
-/
import Derived.Test.YthghcdddambaeaaSw
import Derived.Test.YthghcdddambaeaaFi
set_option linter.unusedVariables false
set_option linter.unusedSimpArgs false
set_option maxRecDepth 10000
namespace Go.Proofs.Ythghcdddambaeaa
open Go.RowKit Go.Proofs
def openO (b : List UInt8) : List UInt8 × Bool := if b.length < 4 then ([], false) else if sealB (b.take (b.length - 4)) = b then (b.take (b.length - 4), true) else ([], false)
theorem open_fn (b : List UInt8) (hb : b.length ≤ 1000000) : Fn Try.prog 138 [vL .u8 b] [] [] (.tup [.one (.d (.lst .u8 (openO b).1)), .one (.d (.bool (openO b).2))]) [] := by
  unfold openO
  refine Fn.of tblOK [] _ _ _ _ _ Try.func138 rfl rfl (by kernel_rfl) (by kernel_rfl) rfl (drawOK tblOK) rfl ?_
  refine ⟨fun c => ?_, fun c => ?_⟩
  · have c : (b.length : Int) < 4 := of_decide_eq_true c
    rw [if_pos (show b.length < 4 by omega)]
    exact ⟨_, _, _, Le.refl _ _, rfl, ⟨rfl, rfl, trivial⟩, trivial, rfl⟩
  have c : ¬ (b.length : Int) < 4 := of_decide_eq_false c
  rw [if_neg (show ¬ b.length < 4 by omega)]
  have q : -9223372036854775808 ≤ (b.length : Int) - 4 ∧ (b.length : Int) - 4 ≤ 9223372036854775807 := by omega
  have q2 : 0 ≤ (b.length : Int) - 4 ∧ (b.length : Int) - 4 ≤ (b.length : Nat) := by omega
  have e : ((b.length : Int) - 4).toNat = b.length - 4 := by omega
  have hl : (b.take (b.length - 4)).length ≤ 1000000 := by rw [List.length_take]; omega
  have hs : (sealB (b.take (b.length - 4))).length ≤ 4294967296 := by
    unfold sealB
    rw [List.length_append, encR_length]
    omega
  have e3 : List.drop 0 (List.take ((b.length : Int) - 4).toNat b) = b.take (b.length - 4) := by rw [e, List.drop_zero]
  refine ⟨q, q2, ?_⟩
  refine ⟨_, _, _, _, Fn.arg (seal_fn (b.take (b.length - 4)) hl) ⟨e3, trivial⟩, trivial, rfl, ?_⟩
  refine ⟨_, _, _, _, eqB_fn (sealB (b.take (b.length - 4))) b hs (by omega), trivial, rfl, ?_⟩
  refine ⟨fun d => ?_, fun d => ?_⟩
  · have d : ¬ sealB (b.take (b.length - 4)) = b := by simpa using d
    rw [if_neg d]
    exact ⟨_, _, _, Le.refl _ _, rfl, ⟨rfl, rfl, trivial⟩, trivial, rfl⟩
  · have d : sealB (b.take (b.length - 4)) = b := by simpa using d
    rw [if_pos d]
    refine ⟨q, q2, ?_⟩
    refine ⟨_, _, _, _, Fn.arg (clone_fn (b.take (b.length - 4)) (by omega)) ⟨e3, trivial⟩, trivial, rfl, ?_⟩
    exact ⟨_, _, _, Le.refl _ _, rfl, ⟨rfl, rfl, trivial⟩, trivial, rfl⟩
theorem poolN {m : StM} {L : SPool} {b : Nat} (hL : sget L b = some m) : Fn Try.prog 54 [vAd b] [(1003, .obj (.pool (poolS L)))] [] (vI m.n) [(1003, .obj (.pool (poolS L)))] := by
  have := poolFn (slen_fn m) hL rfl rfl
  rwa [sset_same hL] at this
theorem poolRd {m : StM} {L : SPool} {b : Nat} (hL : sget L b = some m) (h : StOK m) (at_ long : Int) (h0 : 0 ≤ long) (hi : m.insideB at_ long = true) : Fn Try.prog 53 [vAd b, vI at_, vI long] [(1003, .obj (.pool (poolS L)))] [] (.tup [.one (.d (.lst .u8 (readB m.seen at_ long.toNat))), vErr 0]) [(1003, .obj (.pool (poolS L)))] := by
  have := poolFn (sread_ok m at_ long h0 hi h.n0 h.n1 h.seen.wf) hL rfl rfl
  rwa [sset_same hL] at this
def hdrS (m : StM) (k : Int) : List UInt8 := readB m.seen k 1
def num3 (x : List UInt8) : Nat × Nat × Nat := ((rdN 4 (x, 0)).2, (rdN 4 (rdN 4 (x, 0)).1).2, (rdN 4 (rdN 4 (rdN 4 (x, 0)).1).1).2)
def areaB (m : StM) (k : Int) : List UInt8 := readB m.seen (2 + k * areaS m.n) (areaS m.n).toNat
def copM (m : StM) (k : Int) : List UInt8 × Int := match (openO (hdrS m k)).2 with
  | false => ([], 0)
  | true => match decide (((num3 (openO (hdrS m k)).1).1 : Int) < 1) || decide ((1073741824 : Int) < ((num3 (openO (hdrS m k)).1).1 : Int)) || decide (areaS m.n * 16 < ((num3 (openO (hdrS m k)).1).2.1 : Int)) with
    | true => ([], 0)
    | false => match decide (sumO ((areaB m k).take (num3 (openO (hdrS m k)).1).2.1) = ((num3 (openO (hdrS m k)).1).2.2 : Int)) with
      | false => ([], 0)
      | true => ((areaB m k).take (num3 (openO (hdrS m k)).1).2.1, ((num3 (openO (hdrS m k)).1).1 : Int))
theorem area_ok {n : Int} (h2 : 2 ≤ n) (h1 : n ≤ 4096) : 0 ≤ areaS n ∧ 2 + areaS n + areaS n ≤ n := by unfold areaS; omega
theorem areaB_len {m : StM} (ho : StOK m) (h2 : 2 ≤ m.n) (k : Int) : (areaB m k).length = 16 * (areaS m.n).toNat := readB_length ho.seen.wf _ _
set_option maxHeartbeats 1000000 in
theorem copied_fn {m : StM} (ho : StOK m) (h2 : 2 ≤ m.n) (k : Int) (hk : k = 0 ∨ k = 1) {s : Nat} {M : SPool} (hM : sget M s = some m) : Fn Try.prog 116 [vAd s, vI k] [(1003, .obj (.pool (poolS M)))] [] (.tup [.one (.d (.lst .u8 (copM m k).1)), .one (.d (.int .i64 (copM m k).2))]) [(1003, .obj (.pool (poolS M)))] := by
  have hn1 := ho.n1
  have hi1 : m.insideB k 1 = true := by simp only [StM.insideB, Bool.and_eq_true, decide_eq_true_eq]; omega
  obtain ⟨a0, a1⟩ := area_ok h2 hn1
  unfold copM
  refine Fn.of tblOK [] _ _ _ _ _ Try.func116 rfl rfl (by kernel_rfl) (by kernel_rfl) rfl (drawOK tblOK) rfl ?_
  refine ⟨_, _, _, _, poolRd hM ho k 1 (by decide) hi1, ⟨rfl, trivial⟩, rfl, ?_⟩
  have hh : (hdrS m k).length ≤ 1000000 := by
    have := readB_length ho.seen.wf k 1
    unfold hdrS
    omega
  refine ⟨_, _, _, _, open_fn (hdrS m k) hh, trivial, rfl, ?_⟩
  refine ⟨fun h => absurd h (by decide), fun _ => ?_⟩
  cases hop : (openO (hdrS m k)).2 with
  | false =>
    refine ⟨fun _ => ?_, fun h => absurd h (by decide)⟩
    exact ⟨_, _, _, Le.refl _ _, rfl, ⟨rfl, rfl, trivial⟩, ⟨rfl, trivial⟩, rfl⟩
  | true =>
    refine ⟨fun h => absurd h (by decide), fun _ => ?_⟩
    have hx : (openO (hdrS m k)).1.length ≤ 4294967296 := by
      unfold openO
      split
      · simp
      · split
        · show ((hdrS m k).take _).length ≤ _
          rw [List.length_take]; omega
        · simp
    generalize (openO (hdrS m k)).1 = x at hx ⊢
    refine ⟨_, _, _, _, newReader_spec x hx, trivial, rfl, ?_⟩
    refine ⟨_, _, _, _, num_spec (x, 0) 4 (by unfold W; omega), ⟨rfl, trivial⟩, rfl, ?_⟩
    refine ⟨_, _, _, _, num_spec (rdN 4 (x, 0)).1 4 (by unfold W; omega), ⟨rfl, trivial⟩, rfl, ?_⟩
    refine ⟨_, _, _, _, num_spec (rdN 4 (rdN 4 (x, 0)).1).1 4 (by unfold W; omega), ⟨rfl, trivial⟩, rfl, ?_⟩
    refine ⟨fun c1 => ?_, fun c1 => ?_⟩
    · have c1 : decide (((num3 x).1 : Int) < 1) = true := c1
      rw [c1]
      exact ⟨_, _, _, Le.refl _ _, rfl, ⟨rfl, rfl, trivial⟩, ⟨rfl, trivial⟩, rfl⟩
    have c1 : decide (((num3 x).1 : Int) < 1) = false := c1
    rw [c1]
    refine ⟨fun c2 => ?_, fun c2 => ?_⟩
    · have c2 : decide ((1073741824 : Int) < ((num3 x).1 : Int)) = true := c2
      rw [c2]
      exact ⟨_, _, _, Le.refl _ _, rfl, ⟨rfl, rfl, trivial⟩, ⟨rfl, trivial⟩, rfl⟩
    have c2 : decide ((1073741824 : Int) < ((num3 x).1 : Int)) = false := c2
    rw [c2]
    refine ⟨_, _, _, _, poolN hM, ⟨rfl, trivial⟩, rfl, ?_⟩
    refine ⟨_, _, _, _, most_fn m.n ho.n0 ho.n1, trivial, rfl, ?_⟩
    refine ⟨fun c3 => ?_, fun c3 => ?_⟩
    · have c3 : decide (areaS m.n * 16 < ((num3 x).2.1 : Int)) = true := c3
      rw [c3]
      exact ⟨_, _, _, Le.refl _ _, rfl, ⟨rfl, rfl, trivial⟩, ⟨rfl, trivial⟩, rfl⟩
    have c3 : decide (areaS m.n * 16 < ((num3 x).2.1 : Int)) = false := c3
    rw [c3]
    have hlen := areaB_len ho h2 k
    have hll : (num3 x).2.1 ≤ (areaB m k).length := by
      have := of_decide_eq_false c3
      omega
    refine ⟨_, _, _, _, poolN hM, ⟨rfl, trivial⟩, rfl, ?_⟩
    refine ⟨_, _, _, _, area_fn m.n ho.n0 ho.n1, trivial, rfl, ?_⟩
    have q1 : -9223372036854775808 ≤ k * areaS m.n ∧ k * areaS m.n ≤ 9223372036854775807 := by rcases hk with rfl | rfl <;> omega
    have q2 : -9223372036854775808 ≤ 2 + k * areaS m.n ∧ 2 + k * areaS m.n ≤ 9223372036854775807 := by rcases hk with rfl | rfl <;> omega
    have hi2 : m.insideB (2 + k * areaS m.n) (areaS m.n) = true := by
      simp only [StM.insideB, Bool.and_eq_true, decide_eq_true_eq]
      rcases hk with rfl | rfl <;> omega
    refine ⟨q1, q2, ?_⟩
    refine ⟨_, _, _, _, poolN hM, ⟨rfl, trivial⟩, rfl, ?_⟩
    refine ⟨_, _, _, _, area_fn m.n ho.n0 ho.n1, trivial, rfl, ?_⟩
    refine ⟨_, _, _, _, poolRd hM ho (2 + k * areaS m.n) (areaS m.n) a0 hi2, ⟨rfl, trivial⟩, rfl, ?_⟩
    have q3 : 0 ≤ ((num3 x).2.1 : Int) ∧ ((num3 x).2.1 : Int) ≤ ((areaB m k).length : Nat) := by omega
    refine ⟨q3, ?_⟩
    have e4 : ([List.drop 0 (List.take (((num3 x).2.1 : Nat) : Int).toNat (areaB m k))] : List (List UInt8)) = [(areaB m k).take (num3 x).2.1] := rfl
    refine ⟨_, _, _, _, Fn.arg (sumOf_fn [(areaB m k).take (num3 x).2.1] (by simp) (fun y hy => by rw [List.mem_singleton] at hy; rw [hy, List.length_take]; omega)) ⟨e4, trivial⟩, trivial, rfl, ?_⟩
    have e5 : ([(areaB m k).take (num3 x).2.1] : List (List UInt8)).flatten = (areaB m k).take (num3 x).2.1 := by simp
    rw [e5]
    refine ⟨fun c4 => ?_, fun c4 => ?_⟩
    · have c4 : (!decide (sumO ((areaB m k).take (num3 x).2.1) = ((num3 x).2.2 : Int))) = true := c4
      have c5 : decide (sumO ((areaB m k).take (num3 x).2.1) = ((num3 x).2.2 : Int)) = false := by simpa using c4
      rw [c5]
      exact ⟨_, _, _, Le.refl _ _, rfl, ⟨rfl, rfl, trivial⟩, ⟨rfl, trivial⟩, rfl⟩
    · have c4 : (!decide (sumO ((areaB m k).take (num3 x).2.1) = ((num3 x).2.2 : Int))) = false := c4
      have c5 : decide (sumO ((areaB m k).take (num3 x).2.1) = ((num3 x).2.2 : Int)) = true := by simpa using c4
      rw [c5]
      refine ⟨_, _, fun N => opOK_slice3 tblOK rfl rfl rfl rfl rfl rfl q3.1 q3.2 N, rfl, ?_⟩
      exact ⟨_, _, _, Le.refl _ _, rfl, ⟨rfl, rfl, trivial⟩, ⟨rfl, trivial⟩, rfl⟩
def newJ (m : StM) : Nat → Int × List UInt8 × Int
  | 0 => (-1, [], 0)
  | j + 1 => if (newJ m j).2.2 < (copM m (j : Nat)).2 then ((j : Nat), (copM m (j : Nat)).1, (copM m (j : Nat)).2) else newJ m j
@[reducible] def nwK (m : StM) (s j : Nat) : KL := [(0, vAd s), (5, vI (newJ m j).1), (6, vI (newJ m j).2.2), (7, vL .u8 (newJ m j).2.1), (11, vI (j : Nat))]
theorem newest_fn {m : StM} (ho : StOK m) (h2 : 2 ≤ m.n) {s : Nat} {M : SPool} (hM : sget M s = some m) : Fn Try.prog 79 [vAd s] [(1003, .obj (.pool (poolS M)))] [] (.tup [.one (.d (.int .i64 (newJ m 2).1)), .one (.d (.lst .u8 (newJ m 2).2.1)), .one (.d (.int .i64 (newJ m 2).2.2))]) [(1003, .obj (.pool (poolS M)))] := by
  refine Fn.of tblOK [] _ _ _ _ _ Try.func79 rfl rfl (by kernel_rfl) (by kernel_rfl) rfl (drawOK tblOK) rfl ?_
  show TrQ _ _ _ _ _ _ _
  refine TrQ.loop tblOK (drawOK tblOK) [] (by kernel_rfl) (X := Nat) (nwK m s) (fun _ => [(1003, .obj (.pool (poolS M)))]) (fun j => j ≤ 2) (fun j => 2 - j) 0 (by decide) ?_ ?_
  · exact Le.sub ⟨rfl, rfl, rfl, rfl, rfl, trivial⟩ ⟨rfl, trivial⟩
  intro j hj
  refine ⟨fun h => ?_, fun h => ?_⟩
  · have h : (j : Int) < 2 := of_decide_eq_true h
    refine ⟨_, _, _, _, copied_fn ho h2 (j : Nat) (by omega) hM, ⟨rfl, trivial⟩, rfl, ?_⟩
    refine ⟨fun c => ?_, fun c => ?_⟩
    · have c : (newJ m j).2.2 < (copM m (j : Nat)).2 := of_decide_eq_true c
      have e : newJ m (j + 1) = (((j : Nat) : Int), (copM m (j : Nat)).1, (copM m (j : Nat)).2) := if_pos c
      refine ⟨by omega, j + 1, by omega, by omega, Le.sub ⟨rfl, ?_, ?_, ?_, rfl, trivial⟩ ⟨rfl, trivial⟩⟩
      · rw [e]; rfl
      · rw [e]; rfl
      · rw [e]; rfl
    · have c : ¬ (newJ m j).2.2 < (copM m (j : Nat)).2 := of_decide_eq_false c
      have e : newJ m (j + 1) = newJ m j := if_neg c
      refine ⟨by omega, j + 1, by omega, by omega, Le.sub ⟨rfl, ?_, ?_, ?_, rfl, trivial⟩ ⟨rfl, trivial⟩⟩
      · rw [e]; rfl
      · rw [e]; rfl
      · rw [e]; rfl
  · have h : ¬ (j : Int) < 2 := of_decide_eq_false h
    have hj2 : j = 2 := by omega
    subst hj2
    exact ⟨_, _, _, Le.refl _ _, rfl, ⟨rfl, rfl, rfl, trivial⟩, ⟨rfl, trivial⟩, rfl⟩
end Go.Proofs.Ythghcdddambaeaa
