/-
  Independence, with short lists of who comes ahead.
-/
import Derived.Test.YtolaecebfkdbcaaGreatCode
set_option linter.unusedVariables false
set_option linter.unusedSimpArgs false
namespace Go.Proofs.YtolaecebfkdbcaaGreat
open Go.RowKit
/-! ### independence, with short lists of who comes ahead -/
def uni : List Nat → List Nat → List Nat
  | [], r => r
  | x :: l, r => match r.contains x with
    | true => uni l r
    | false => uni l (x :: r)
theorem uni_mem {a : Nat} : ∀ {l r : List Nat}, a ∈ uni l r → a ∈ l ∨ a ∈ r
  | [], r, h => .inr h
  | x :: l, r, h => by
    unfold uni at h
    split at h
    · rcases uni_mem h with h | h
      · exact .inl (List.mem_cons_of_mem _ h)
      · exact .inr h
    · rcases uni_mem h with h | h
      · exact .inl (List.mem_cons_of_mem _ h)
      · rcases List.mem_cons.1 h with rfl | h
        · exact .inl (List.mem_cons_self ..)
        · exact .inr h
def ancs1 (acc : List (List Nat)) : List Nat → List Nat
  | [] => []
  | d :: l => uni (d :: acc.getD d []) (ancs1 acc l)
theorem ancs1_mem {acc : List (List Nat)} {a : Nat} : ∀ {l : List Nat}, a ∈ ancs1 acc l → a ∈ l ∨ ∃ d ∈ l, a ∈ acc.getD d []
  | [], h => by cases h
  | d :: l, h => by
    rcases uni_mem h with h | h
    · rcases List.mem_cons.1 h with rfl | h
      · exact .inl (List.mem_cons_self ..)
      · exact .inr ⟨d, List.mem_cons_self .., h⟩
    · rcases ancs1_mem h with h | ⟨e, he, h⟩
      · exact .inl (List.mem_cons_of_mem _ h)
      · exact .inr ⟨e, List.mem_cons_of_mem _ he, h⟩
def ancsU : List Oper → List (List Nat) → List (List Nat)
  | [], acc => acc
  | o :: l, acc => ancsU l (acc ++ [ancs1 acc (depsOf o)])
theorem ancsU_sub : ∀ (l : List Oper) (acc acc' : List (List Nat)), acc.length = acc'.length → (∀ j a, a ∈ acc.getD j [] → a ∈ acc'.getD j []) → ∀ j a, a ∈ (ancsU l acc).getD j [] → a ∈ (ancs l acc').getD j []
  | [], acc, acc', _, h => h
  | o :: l, acc, acc', hl, h => by
    unfold ancsU ancs
    refine ancsU_sub l _ _ (by simp [hl]) ?_
    intro j a ha
    rw [List.getD_eq_getElem?_getD] at ha ⊢
    rcases Nat.lt_trichotomy j acc.length with hlt | heq | hgt
    · rw [List.getElem?_append_left hlt, ← List.getD_eq_getElem?_getD] at ha
      rw [List.getElem?_append_left (hl ▸ hlt), ← List.getD_eq_getElem?_getD]
      exact h j a ha
    · subst heq
      rw [List.getElem?_append_right (Nat.le_refl _)] at ha
      rw [List.getElem?_append_right (Nat.le_of_eq hl.symm)]
      simp only [Nat.sub_self, List.getElem?_cons_zero, Option.getD_some] at ha
      simp only [hl, Nat.sub_self, List.getElem?_cons_zero, Option.getD_some, List.mem_append, List.mem_flatMap]
      rcases ancs1_mem ha with ha | ⟨d, hd, ha⟩
      · exact .inl ha
      · exact .inr ⟨d, hd, h d a ha⟩
    · rw [List.getElem?_eq_none (by simp; omega)] at ha
      simp at ha
theorem pairs_sub {all : List Oper} {an an' : List (List Nat)} (h : ∀ j a, a ∈ an.getD j [] → a ∈ an'.getD j []) : ∀ l : List (Oper × Ent × Nat), pairsOK all an l = true → pairsOK all an' l = true
  | [], _ => rfl
  | (o, n, i) :: l, hp => by
    simp only [pairsOK, Bool.and_eq_true] at hp ⊢
    refine ⟨List.all_eq_true.2 fun x hx => ?_, pairs_sub h l hp.2⟩
    have := List.all_eq_true.1 hp.1 x hx
    obtain ⟨p, m, j⟩ := x
    simp only [Bool.or_eq_true, Bool.and_eq_true, List.contains_iff_mem] at this ⊢
    exact this.imp (fun g => ⟨h _ _ g.1, g.2⟩) id
def indepU (K : KL) (B : BL) (ops : List Oper) (log : List Ent) : Bool :=
  let es := log.reverse
  (ops.zipIdx.all fun (o, i) => (depsOf o).all fun d => Nat.blt d i) && (es.all fun n => n.e.nw.all fun c => noK c K && noB c B) && pairsOK ops (ancsU ops []) ((ops.zip es).zipIdx.map fun ((o, n), i) => (o, n, i))
theorem indep_of {K : KL} {B : BL} {ops : List Oper} {log : List Ent} (h : indepU K B ops log = true) : indep K B ops log = true := by
  simp only [indepU, Bool.and_eq_true] at h
  simp only [indep, Bool.and_eq_true]
  exact ⟨h.1, pairs_sub (ancsU_sub ops [] [] rfl fun _ _ h => h) _ h.2⟩
end Go.Proofs.YtolaecebfkdbcaaGreat
