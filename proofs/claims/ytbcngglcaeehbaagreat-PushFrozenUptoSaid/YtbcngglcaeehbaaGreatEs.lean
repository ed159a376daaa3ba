/-
  What is left of a job: numbers as the keys of a map.
-/
import Derived.Test.YtbcngglcaeehbaaGreatPp
import Derived.Test.YtbcngglcaeehbaaGreatKi
set_option linter.unusedVariables false
set_option linter.unusedSimpArgs false
set_option maxRecDepth 10000
namespace Go.Proofs.YtbcngglcaeehbaaGreat
open Go.RowKit Go.Proofs
/-! ### what is left: cells of a map -/
@[reducible] def esP (k : Nat) : El uI × El uI := @Prod.mk Int Int (k : Int) 1
@[reducible] def esL (l : List Nat) : List (El uI × El uI) := l.map esP
def lput (l : List Nat) (k : Nat) : List Nat := if k ∈ l then l else l ++ [k]
theorem esL_len (l : List Nat) : (esL l).length = l.length := List.length_map _
theorem eqKey_nat (a b : Nat) : eqKey uI (a : Int) (b : Int) = decide (a = b) := by
  show decide ((a : Int) = (b : Int)) = _
  by_cases h : a = b
  · rw [decide_eq_true h, decide_eq_true (by omega)]
  · rw [decide_eq_false h, decide_eq_false (by omega)]
theorem mput_t {l : List (El uI × El uI)} {p : El uI × El uI} {k x : Int} (h : eqKey uI k p.1 = true) : mput (ku := uI) (vu := uI) (p :: l) k x = @Prod.mk Int Int k x :: l := by
  simp only [mput, h]
  rfl
theorem mput_f {l : List (El uI × El uI)} {p : El uI × El uI} {k x : Int} (h : eqKey uI k p.1 = false) : mput (ku := uI) (vu := uI) (p :: l) k x = p :: mput (ku := uI) (vu := uI) l k x := by
  simp only [mput, h]
theorem mdel_t {l : List (El uI × El uI)} {p : El uI × El uI} {k : Int} (h : eqKey uI k p.1 = true) : mdel (ku := uI) (vu := uI) (p :: l) k = l := by
  simp only [mdel, h]
theorem mdel_f {l : List (El uI × El uI)} {p : El uI × El uI} {k : Int} (h : eqKey uI k p.1 = false) : mdel (ku := uI) (vu := uI) (p :: l) k = p :: mdel (ku := uI) (vu := uI) l k := by
  simp only [mdel, h]
theorem mput_esL (k : Nat) : ∀ l : List Nat, mput (ku := uI) (vu := uI) (esL l) (k : Int) (1 : Int) = esL (lput l k)
  | [] => rfl
  | x :: l => by
    by_cases h : k = x
    · refine (mput_t (p := esP x) (l := esL l) ((eqKey_nat k x).trans (decide_eq_true h))).trans ?_
      subst h
      unfold lput
      rw [if_pos (List.mem_cons_self ..)]
      rfl
    · refine (mput_f (p := esP x) (l := esL l) ((eqKey_nat k x).trans (decide_eq_false h))).trans ?_
      rw [mput_esL k l]
      unfold lput
      by_cases h2 : k ∈ l
      · rw [if_pos h2, if_pos (List.mem_cons_of_mem _ h2)]
        rfl
      · rw [if_neg h2, if_neg (fun e => by rcases List.mem_cons.1 e with e | e; exact h e; exact h2 e)]
        rfl
theorem mdel_esL (k : Nat) : ∀ l : List Nat, mdel (ku := uI) (vu := uI) (esL l) (k : Int) = esL (l.erase k)
  | [] => rfl
  | x :: l => by
    by_cases h : k = x
    · refine (mdel_t (p := esP x) (l := esL l) ((eqKey_nat k x).trans (decide_eq_true h))).trans ?_
      subst h
      rw [List.erase_cons_head]
    · refine (mdel_f (p := esP x) (l := esL l) ((eqKey_nat k x).trans (decide_eq_false h))).trans ?_
      rw [mdel_esL k l, List.erase_cons_tail (by simpa using fun e => h e.symm)]
      rfl
theorem lput_mem {l : List Nat} {k x : Nat} : x ∈ lput l k ↔ x ∈ l ∨ x = k := by
  unfold lput
  split
  · rename_i h
    exact ⟨.inl, fun h' => h'.elim id fun e => e ▸ h⟩
  · rw [List.mem_append, List.mem_singleton]
theorem lput_nodup {l : List Nat} {k : Nat} (h : l.Nodup) : (lput l k).Nodup := by
  unfold lput
  split
  · exact h
  · rename_i hk
    rw [List.nodup_append]
    refine ⟨h, by simp, fun a ha b hb e => ?_⟩
    rw [List.mem_singleton] at hb
    subst hb e
    exact hk ha
theorem lput_len (l : List Nat) (k : Nat) : l.length ≤ (lput l k).length ∧ (lput l k).length ≤ l.length + 1 := by
  unfold lput
  split
  · omega
  · rw [List.length_append, List.length_singleton]; omega
theorem mkeys_esL (l : List Nat) : mkeysI (esL l) = l.map fun k : Nat => (k : Int) := by
  unfold mkeysI esL
  rw [List.map_map]
  rfl
theorem esL_nodup {l : List Nat} (h : l.Nodup) : (mkeysI (esL l)).Nodup := by
  rw [mkeys_esL]
  exact nodup_map (fun x _ y _ e => by have e : (x : Int) = (y : Int) := e; omega) h
theorem esL_wf {l : List Nat} (h : ∀ k, k ∈ l → k ≤ 1000000) : ∀ s ∈ mkeysI (esL l), (Lit.int .i64 s).wf = true := fun s hs => by
  rw [mkeys_esL] at hs
  obtain ⟨k, hk, rfl⟩ := List.mem_map.1 hs
  have := h k hk
  show (decide (IntKind.i64.min ≤ (k : Int)) && decide ((k : Int) ≤ IntKind.i64.max)) = true
  rw [decide_eq_true (show (IntKind.i64.min : Int) ≤ (k : Int) from Int.le_trans (by decide : IntKind.i64.min ≤ (0 : Int)) (by omega)), decide_eq_true (show (k : Int) ≤ IntKind.i64.max from Int.le_trans (by omega : (k : Int) ≤ 1000000) (by decide))]
  rfl
/-- The least one. -/
def mnN (l : List Nat) : Nat := (mnL (l.map fun k : Nat => (k : Int))).toNat
theorem mnN_spec {l : List Nat} (h : l ≠ []) : mnL (l.map fun k : Nat => (k : Int)) = ((mnN l : Nat) : Int) ∧ mnN l ∈ l ∧ ∀ y, y ∈ l → mnN l ≤ y := by
  have hne : l.map (fun k : Nat => (k : Int)) ≠ [] := by simpa using h
  obtain ⟨h1, h2⟩ := mnL_spec hne
  obtain ⟨k, hk, he⟩ := List.mem_map.1 h1
  have hm : mnN l = k := by unfold mnN; rw [← he]; rfl
  refine ⟨by rw [hm, he], by rw [hm]; exact hk, fun y hy => ?_⟩
  have := h2 _ (List.mem_map_of_mem hy)
  rw [hm]
  omega
end Go.Proofs.YtbcngglcaeehbaaGreat
