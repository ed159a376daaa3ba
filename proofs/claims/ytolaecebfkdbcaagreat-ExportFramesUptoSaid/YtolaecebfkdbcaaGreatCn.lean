/-
  Counts: how many have each cluster.
-/
import Derived.Test.YtolaecebfkdbcaaGreatCd
import Derived.Test.YtolaecebfkdbcaaGreatAr
set_option linter.unusedVariables false
set_option linter.unusedSimpArgs false
set_option maxRecDepth 10000
namespace Go.Proofs.YtolaecebfkdbcaaGreat
open Go.RowKit Go.Proofs
@[reducible] def cntB (l : List Int) : BL := [(1001, .cells [.own 1002]), (1002, .row 3 uI l)]
def cntO (l : List Int) : Ob := .grp 1001 (cntB l)
theorem intInf : (Tryz.prog.info? 3).map (fun i => (i.zero, i.size, i.bytes)) = some (some (.int .i64 0), 1, 8) := by kernel_rfl
theorem cnew_bad (n : Int) (h : ¬ (0 ≤ n ∧ n ≤ 512)) : Fn Tryz.prog 74 [vI n] [] [] (.tup [vNilP, vErr 1]) [] := by
  refine Fn.of tblOK [] _ _ _ _ _ Tryz.func74 rfl rfl (by kernel_rfl) (by kernel_rfl) rfl (drawOK tblOK) rfl ?_
  refine ⟨fun h1 => ?_, fun h1 => ?_⟩
  · exact ⟨_, _, _, Le.refl _ _, rfl, ⟨rfl, rfl, trivial⟩, trivial, rfl⟩
  refine ⟨fun h2 => ?_, fun h2 => ?_⟩
  · exact ⟨_, _, _, Le.refl _ _, rfl, ⟨rfl, rfl, trivial⟩, trivial, rfl⟩
  · exfalso
    simp at h1 h2
    omega
theorem cnew_ok (n : Int) (h0 : 0 ≤ n) (hn : n ≤ 512) : Fn Tryz.prog 74 [vI n] [] [1001] (.tup [.one (.ptr 1001 0), vErr 0]) [(1001, .obj (cntO (List.replicate n.toNat (0 : Int))))] := by
  obtain ⟨inf, i1, i2, i3, i4⟩ := info_parts intInf
  refine Fn.of tblOK [] _ _ _ _ _ Tryz.func74 rfl rfl (by kernel_rfl) (by kernel_rfl) rfl (drawOK tblOK) rfl ?_
  refine ⟨fun h1 => ?_, fun h1 => ?_⟩
  · exfalso; simp at h1; omega
  refine ⟨fun h2 => ?_, fun h2 => ?_⟩
  · exfalso; simp at h2; omega
  refine ⟨_, _, fun N => opOK_makeInts (d := 11) rfl Tryz.underlying186 i1 i2 i3 i4 rfl rfl h0 (by omega) N, rfl, ?_⟩
  refine ⟨rfl, ?_⟩
  exact ⟨_, _, _, (Le.ren 13 1001 rfl).trans ((Le.ren 11 1002 rfl).trans (Le.close 1001 (cntB (List.replicate n.toNat (0 : Int))) (o := cntO (List.replicate n.toNat (0 : Int))) ⟨rfl, rfl, trivial⟩ rfl fun _ _ _ _ h => h)), rfl, ⟨rfl, rfl, trivial⟩, ⟨rfl, trivial⟩, rfl⟩
theorem is_fn (l : List Int) (h : Int) : Fn Tryz.prog 177 [vP 1001, vI h] (cntB l) [] (vB (decide (0 ≤ h) && decide (h < l.length))) (cntB l) := by
  refine Fn.of tblOK [] _ _ _ _ _ Tryz.func177 rfl rfl (by kernel_rfl) (by kernel_rfl) rfl (drawOK tblOK) rfl ?_
  refine ⟨fun h1 => ?_, fun h1 => ?_⟩
  · refine ⟨_, _, _, Le.refl _ _, rfl, ?_, ⟨rfl, rfl, trivial⟩, rfl⟩
    show decide (h < (l.length : Nat)) = (decide (0 ≤ h) && decide (h < (l.length : Nat)))
    have h1 : decide (0 ≤ h) = true := h1
    rw [h1, Bool.true_and]
  · refine ⟨_, _, _, Le.refl _ _, rfl, ?_, ⟨rfl, rfl, trivial⟩, rfl⟩
    show false = (decide (0 ≤ h) && decide (h < (l.length : Nat)))
    have h1 : decide (0 ≤ h) = false := h1
    rw [h1, Bool.false_and]
theorem cless1_fn (n : Int) (h : n ≠ 0) : Fn Tryz.prog 170 [vI n] [] [] (vI 0) [] := by
  refine Fn.of tblOK [] _ _ _ _ _ Tryz.func170 rfl rfl (by kernel_rfl) (by kernel_rfl) rfl (drawOK tblOK) rfl ?_
  refine ⟨fun h1 => absurd (of_decide_eq_true h1) h, fun h1 => ?_⟩
  exact ⟨_, _, _, Le.refl _ _, rfl, rfl, trivial, rfl⟩
theorem change_fn (l : List Int) (h : Nat) (n : Int) (hn : l[h]? = some n) (h1 : 1 ≤ n) (h2 : n ≤ 65535) : Fn Tryz.prog 169 [vP 1001, vI (h : Int), vI (-1), v1 (.clo 170 [])] (cntB l) [] (vI 0) (cntB (l.set h (n - 1))) := by
  have hl : h < l.length := (List.getElem?_eq_some_iff.1 hn).1
  refine Fn.of tblOK [] _ _ _ _ _ Tryz.func169 rfl rfl (by kernel_rfl) (by kernel_rfl) rfl (drawOK tblOK) rfl ?_
  refine ⟨_, _, _, _, is_fn l h, ⟨rfl, rfl, trivial⟩, rfl, ?_⟩
  have m1 : (0 : Int) ≤ (h : Int) := by omega
  have m2 : (h : Int) < (l.length : Nat) := by omega
  refine ⟨fun _ => ?_, fun hf => ?_⟩
  · refine ⟨⟨m1, m2⟩, n, hn, ?_⟩
    refine ⟨_, _, _, _, cless1_fn n (by omega), trivial, rfl, ?_⟩
    refine ⟨fun _ => ?_, fun h => absurd h (by decide)⟩
    refine ⟨⟨m1, m2⟩, n, hn, ⟨by omega, by omega⟩, ⟨m1, m2⟩, ⟨trivial, hl⟩, ?_⟩
    exact ⟨_, _, _, Le.refl _ _, rfl, rfl, ⟨rfl, rfl, trivial⟩, rfl⟩
  · exfalso
    have hf : (decide ((0 : Int) ≤ h) && decide ((h : Int) < l.length)) = false := hf
    rw [decide_eq_true (by omega), decide_eq_true (by omega)] at hf
    cases hf
theorem cless_fn (l : List Int) (h : Nat) (n : Int) (hn : l[h]? = some n) (h1 : 1 ≤ n) (h2 : n ≤ 65535) : Fn Tryz.prog 152 [vP 1001, vI (h : Int)] (cntB l) [] (.tup [.one (.d (.int .i64 (n - 1))), vErr 0]) (cntB (l.set h (n - 1))) := by
  have hl : h < l.length := (List.getElem?_eq_some_iff.1 hn).1
  refine Fn.of tblOK [] _ _ _ _ _ Tryz.func152 rfl rfl (by kernel_rfl) (by kernel_rfl) rfl (drawOK tblOK) rfl ?_
  refine ⟨_, _, _, _, change_fn l h n hn h1 h2, ⟨rfl, rfl, trivial⟩, rfl, ?_⟩
  refine ⟨fun h => absurd h (by decide), fun _ => ?_⟩
  have hl2 : h < (l.set h (n - 1)).length := by rw [List.length_set]; exact hl
  have m1 : (0 : Int) ≤ (h : Int) := by omega
  have m2 : (h : Int) < ((l.set h (n - 1)).length : Nat) := by omega
  have m3 : (l.set h (n - 1))[h]? = some (n - 1) := by rw [List.getElem?_set_self hl]
  refine ⟨⟨m1, m2⟩, n - 1, m3, ?_⟩
  exact ⟨_, _, _, Le.refl _ _, rfl, ⟨rfl, rfl, trivial⟩, ⟨rfl, rfl, trivial⟩, rfl⟩
def zeros (l : List Int) : Nat := (l.filter fun x => decide (x = 0)).length
theorem zeros_le (l : List Int) : zeros l ≤ l.length := List.length_filter_le _ _
theorem zeros_step {l : List Int} {k : Nat} (h : k < l.length) : zeros (l.take (k + 1)) = zeros (l.take k) + (if l[k] = 0 then 1 else 0) := by
  unfold zeros
  rw [List.take_succ_eq_append_getElem h, List.filter_append, List.length_append]
  congr 1
  by_cases e : l[k] = 0
  · simp [e]
  · simp [e]
@[reducible] def cfK (l : List Int) (k : Nat) : KL := [(3, vI (zeros (l.take k) : Nat)), (9, vOwn 1002), (10, vI (l.length : Nat)), (11, vI (k : Nat))]
theorem cfree_fn (l : List Int) (hl : l.length ≤ 1000000) : Fn Tryz.prog 135 [vP 1001] (cntB l) [] (vI (zeros l : Nat)) (cntB l) := by
  refine Fn.of tblOK [] _ _ _ _ _ Tryz.func135 rfl rfl (by kernel_rfl) (by kernel_rfl) rfl (drawOK tblOK) rfl ?_
  show TrQ _ _ _ _ _ _ _
  refine TrQ.loop tblOK (drawOK tblOK) [] (by kernel_rfl) (X := Nat) (cfK l) (fun _ => cntB l) (fun k => k ≤ l.length) (fun k => l.length - k) 0 (Nat.zero_le _) ?_ ?_
  · exact Le.sub ⟨rfl, rfl, rfl, rfl, trivial⟩ ⟨rfl, rfl, trivial⟩
  intro k hk
  have hz := zeros_le (l.take k)
  have hz2 : (l.take k).length ≤ l.length := by rw [List.length_take]; omega
  refine ⟨fun h => ?_, fun h => ?_⟩
  · have h : decide ((k : Int) < (l.length : Nat)) = true := h
    have hk2 : k < l.length := by simpa using h
    have hs := zeros_step hk2
    have m1 : (0 : Int) ≤ (k : Int) := by omega
    have m2 : (k : Int) < (l.length : Nat) := by omega
    refine ⟨⟨m1, m2⟩, l[k], lgAt (n := k) hk2, ?_⟩
    refine ⟨fun h0 => ?_, fun h0 => ?_⟩
    · have h0 := of_decide_eq_true h0
      refine ⟨by omega, by omega, k + 1, by omega, by omega, Le.sub ⟨?_, rfl, rfl, rfl, trivial⟩ ⟨rfl, rfl, trivial⟩⟩
      show ((zeros (l.take k) : Nat) : Int) + 1 = (zeros (l.take (k + 1)) : Nat)
      rw [hs, if_pos h0]
      omega
    · have h0 := of_decide_eq_false h0
      refine ⟨by omega, k + 1, by omega, by omega, Le.sub ⟨?_, rfl, rfl, rfl, trivial⟩ ⟨rfl, rfl, trivial⟩⟩
      show ((zeros (l.take k) : Nat) : Int) = (zeros (l.take (k + 1)) : Nat)
      rw [hs, if_neg h0]
      omega
  · have h : decide ((k : Int) < (l.length : Nat)) = false := h
    have hk2 : k = l.length := by simp at h; omega
    subst hk2
    refine ⟨_, _, _, Le.refl _ _, rfl, ?_, ⟨rfl, rfl, trivial⟩, rfl⟩
    show ((zeros (l.take l.length) : Nat) : Int) = _
    rw [List.take_length]
@[reducible] def ctK (l : List Int) (k : Nat) : KL := [(0, vP 1001), (9, vI (l.length : Nat)), (10, vI (k : Nat))]
/-- The first free one. -/
theorem ctake_fn (l : List Int) (hl : l.length ≤ 1000000) (h : Nat) (hh : l[h]? = some 0) (hf : ∀ j, j < h → l[j]? ≠ some 0) : Fn Tryz.prog 136 [vP 1001] (cntB l) [] (.tup [.one (.d (.int .i64 (h : Int))), vErr 0]) (cntB (l.set h 1)) := by
  have hlt : h < l.length := (List.getElem?_eq_some_iff.1 hh).1
  refine Fn.of tblOK [] _ _ _ _ _ Tryz.func136 rfl rfl (by kernel_rfl) (by kernel_rfl) rfl (drawOK tblOK) rfl ?_
  show TrQ _ _ _ _ _ _ _
  refine TrQ.loop tblOK (drawOK tblOK) [] (by kernel_rfl) (X := Nat) (ctK l) (fun _ => cntB l) (fun k => k ≤ h) (fun k => l.length - k) 0 (Nat.zero_le _) ?_ ?_
  · exact Le.sub ⟨rfl, rfl, rfl, trivial⟩ ⟨rfl, rfl, trivial⟩
  intro k hk
  refine ⟨fun _ => ?_, fun h1 => ?_⟩
  · have hk2 : k < l.length := by omega
    have m1 : (0 : Int) ≤ (k : Int) := by omega
    have m2 : (k : Int) < (l.length : Nat) := by omega
    refine ⟨⟨m1, m2⟩, l[k], lgAt (n := k) hk2, ?_⟩
    refine ⟨fun h0 => ?_, fun h0 => ?_⟩
    · have h0 := of_decide_eq_true h0
      have hkh : k = h := by
        rcases Nat.lt_or_ge k h with h3 | h3
        · exact absurd (by rw [List.getElem?_eq_getElem hk2, h0]) (hf k h3)
        · omega
      subst hkh
      refine ⟨⟨m1, m2⟩, ⟨trivial, hk2⟩, ?_⟩
      exact ⟨_, _, _, Le.refl _ _, rfl, ⟨rfl, rfl, trivial⟩, ⟨rfl, rfl, trivial⟩, rfl⟩
    · have h0 := of_decide_eq_false h0
      have hkh : k ≠ h := fun e => by
        subst e
        rw [List.getElem?_eq_getElem hk2] at hh
        exact h0 (by injection hh)
      exact ⟨by omega, k + 1, by omega, by omega, Le.sub ⟨rfl, rfl, rfl, trivial⟩ ⟨rfl, rfl, trivial⟩⟩
  · exfalso
    have h1 : decide ((k : Int) < (l.length : Nat)) = false := h1
    simp at h1
    omega
end Go.Proofs.YtolaecebfkdbcaaGreat
