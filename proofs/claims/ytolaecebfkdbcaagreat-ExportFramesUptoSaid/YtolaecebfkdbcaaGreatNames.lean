/-
  files.Right: whether a name may be.
-/
import Derived.Test.YtolaecebfkdbcaaGreatProg
import Derived.Test.YtolaecebfkdbcaaGreatBase
namespace Go.Proofs.YtolaecebfkdbcaaGreat
open Go.RowKit

/-- A sign of a name. -/
def signB (c : UInt8) : Bool := (97 ≤ c.toNat && c.toNat ≤ 122) || (48 ≤ c.toNat && c.toNat ≤ 57) || c.toNat == 46 || c.toNat == 45
/-- Whether a name may be. -/
def rightN (s : ByteArray) : Bool := decide (1 ≤ s.size) && decide (s.size ≤ 15) && s.data.toList.all signB

theorem decode_high (s : ByteArray) (pos : Nat) (h : pos < s.size) (ha : ¬ (s[pos]'h).toNat < 128) : 128 ≤ (Utf8.decode s pos).1 ∧ (Utf8.decode s pos).1 ≤ 1114111 := by
  have e : s.get! (pos + 0) = s[pos]'h := by
    show s.get! pos = _
    simp [ByteArray.get!, getElem!_pos, h]
    rfl
  have hb : (s[pos]'h).toNat < 256 := (s[pos]'h).toNat_lt
  unfold Utf8.decode
  simp only [e]
  rw [if_neg (by omega)]
  split
  · split <;> simp [Utf8.runeError] <;> omega
  · split
    · split
      · rename_i h2; simp [Utf8.valid] at h2; simp only; omega
      · simp [Utf8.runeError]
    · split
      · split
        · rename_i h2; simp [Utf8.valid] at h2; simp only; omega
        · simp [Utf8.runeError]
      · simp [Utf8.runeError]

theorem run_next_any {P : Program} (w : World) (s : ByteArray) (pos : Nat) (ty : TypeId) (h : pos < s.size) :
    (Instr.next (.pointer (some ⟨w.heap.size, 0, none⟩)) true ty).run P (w.iter s pos) =
      .ok (.tuple #[.bool true, .int .i64 pos, .int .i32 (Utf8.decode s pos).1]) (w.iter s (pos + (Utf8.decode s pos).2)) := by
  simp only [Instr.next, getObj, setObj, Sem.run_bind, Sem.run, World.iter_heap, Result.andThen, h, if_true]
  simp [goInt, World.iter_set]

theorem rightN_of {s : ByteArray} (h1 : 1 ≤ s.size) (h2 : s.size ≤ 15) (h : ∀ j (hj : j < s.size), signB (s[j]'hj) = true) : rightN s = true := by
  unfold rightN
  simp only [h1, h2, decide_true, Bool.true_and, List.all_eq_true]
  intro x hx
  obtain ⟨j, hj, rfl⟩ := List.getElem_of_mem hx
  exact h j (by simpa using hj)
theorem rightN_bad {s : ByteArray} {j : Nat} (hj : j < s.size) (h : signB (s[j]'hj) = false) : rightN s = false := by
  unfold rightN
  have : s.data.toList.all signB = false := by
    rw [List.all_eq_false]
    exact ⟨s[j]'hj, List.getElem_mem (by simpa using hj), by simp [h]⟩
  rw [this, Bool.and_false]

def posAt (B : Nat) (w : World) : Nat := match w.heap[B]? with | some (.stringIter _ p) => p | _ => 0
theorem posAt_iter (w : World) (s : ByteArray) (k : Nat) : posAt w.heap.size (w.iter s k) = k := by simp [posAt, World.iter_heap]
theorem iter_below (w : World) (s : ByteArray) (k : Nat) : Below w.heap.size w (w.iter s k) := (Below.refl _ _).alloc (Nat.le_refl _) _

theorem sign_step {s : ByteArray} {k : Nat} (h : ∀ j (hj : j < s.size), j < k → signB (s[j]'hj) = true) (hk : k < s.size) (h1 : signB (s[k]'hk) = true) : ∀ j (hj : j < s.size), j < k + 1 → signB (s[j]'hj) = true := by
  intro j hj hlt
  by_cases e : j = k
  · subst e; exact h1
  · exact h j hj (by omega)
theorem rightN_all {s : ByteArray} (h : ∀ j (hj : j < s.size), signB (s[j]'hj) = true) : rightN s = (decide (1 ≤ s.size) && decide (s.size ≤ 15)) := by
  unfold rightN
  have : s.data.toList.all signB = true := by
    rw [List.all_eq_true]
    intro x hx
    obtain ⟨j, hj, rfl⟩ := List.getElem_of_mem hx
    exact h j (by simpa using hj)
  rw [this, Bool.and_true]

set_option maxHeartbeats 1000000 in
theorem files_Right (s : ByteArray) (w : World) (hs : s.size ≤ maxLen) :
    Calls Tryz.prog 53 #[.string s] w fun e w' => e = .returned (.bool (rightN s)) ∧ Below w.heap.size w w' := by
  unfold maxLen at hs
  go_enter Tryz.func53, Tryz.ntmps53
  go_wp2
  go_loopw [4, 7, 8, 9, 10, 11, 12, 13, 14, 15, 16, 17, 18, 19, 20, 21, 22, 23, 24, 25, 26, 27, 28, 29, 30, 31] (fun _ _ _ _ _ _ _ _ _ _ _ _ _ _ _ _ _ _ _ _ _ _ _ _ _ _ wr => ∃ k : Nat, k ≤ s.size ∧ wr = w.iter s k ∧ ∀ j (hj : j < s.size), j < k → signB (s[j]'hj) = true) (fun _ _ _ _ _ _ _ _ _ _ _ _ _ _ _ _ _ _ _ _ _ _ _ _ _ _ wr => s.size - posAt w.heap.size wr)
  case atStart => exact ⟨0, Nat.zero_le _, rfl, fun _ _ h => absurd h (by omega)⟩
  case round =>
    obtain ⟨k, hk, rfl, hall⟩ := hrel
    have Hall := Lib.hid hall
    clear hall
    by_cases hlt : k < s.size
    · by_cases ha : (s[k]'hlt).toNat < 128
      · have hn := fun ty => run_next_ascii (P := Tryz.prog) w s k ty hlt ha
        go_wp2
        all_goals first
          | (refine ⟨⟨k + 1, hlt, rfl, sign_step Hall.out hlt ?_⟩, ?_⟩
             · clear hn; simp_all [signB]; omega
             · rw [posAt_iter, posAt_iter]; omega)
          | (go_ret
             refine ⟨?_, iter_below _ _ _⟩
             rw [rightN_bad hlt (by clear hn; simp_all [signB]; omega)]; rfl)
      · obtain ⟨d1, d2⟩ := decode_high s k hlt ha
        have hn := fun ty => run_next_any (P := Tryz.prog) w s k ty hlt
        generalize Utf8.decode s k = d at *
        have b1 : (((d.1 : Nat) : Int) != 46) = true := by rw [bne_iff_ne]; omega
        have b2 : (((d.1 : Nat) : Int) != 45) = true := by rw [bne_iff_ne]; omega
        go_wp2
        go_ret
        exact ⟨by rw [rightN_bad hlt (by clear hn; simp [signB]; omega)]; rfl, iter_below _ _ _⟩
    · have hn := fun ty => run_next_end (P := Tryz.prog) w s k ty hlt
      have hk2 : k = s.size := by omega
      have hr : rightN s = (decide (1 ≤ s.size) && decide (s.size ≤ 15)) := rightN_all fun j hj => Hall.out j hj (by omega)
      clear hk2 Hall
      have Hr := Lib.hid hr
      clear hr
      go_wp2
      all_goals
        go_ret
        refine ⟨?_, iter_below _ _ _⟩
        rw [Hr.out]
        refine congrArg (fun b => Ending.returned (.bool b)) ?_
        rw [Bool.eq_iff_iff]
        simp
        omega
end Go.Proofs.YtolaecebfkdbcaaGreat
