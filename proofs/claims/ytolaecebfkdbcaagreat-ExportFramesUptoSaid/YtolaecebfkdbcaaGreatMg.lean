/-
  Maps as lists of entries: get, put, delete. No program in sight.
-/
import Derived.Test.YtolaecebfkdbcaaGreatMp
set_option linter.unusedVariables false
set_option linter.unusedSimpArgs false
namespace Go.Proofs.YtolaecebfkdbcaaGreat
open Go.RowKit
/-- No key is there twice. -/
def KNd {ku vu : U} (es : List (El ku × El vu)) : Prop := es.Pairwise fun p q => eqKey ku p.1 q.1 = false
theorem eqI_iff (a b : Int) : eqI a b = true ↔ a = b := decide_eq_true_iff
theorem eqS_iff (a b : List UInt8) : eqS a b = true ↔ a = b := decide_eq_true_iff
theorem eqKey_int {k : IntKind} (a b : El (.int k)) : eqKey (.int k) a b = true ↔ a = b := eqI_iff a b
theorem eqKey_str (a b : El .str) : eqKey .str a b = true ↔ a = b := eqS_iff a b
section
variable {ku vu : U} (hL : ∀ a b : El ku, eqKey ku a b = true ↔ a = b)
include hL
theorem eqKey_ne {a b : El ku} (h : a ≠ b) : eqKey ku a b = false := by
  cases e : eqKey ku a b with
  | false => rfl
  | true => exact absurd ((hL a b).1 e) h
theorem eqKey_refl (a : El ku) : eqKey ku a a = true := (hL a a).2 rfl
theorem mget_mput (k : El ku) (x : El vu) : ∀ (es : List (El ku × El vu)), mget (mput es k x) k = some x ∧ ∀ j, j ≠ k → mget (mput es k x) j = mget es j
  | [] => by
    refine ⟨?_, fun j hj => ?_⟩
    · simp only [mput, mget, eqKey_refl hL]
    · simp only [mput, mget, eqKey_ne hL hj]
  | p :: es => by
    obtain ⟨h1, h2⟩ := mget_mput k x es
    unfold mput
    cases e : eqKey ku k p.1 with
    | true =>
      have e1 := (hL _ _).1 e
      simp only
      refine ⟨by simp only [mget, eqKey_refl hL], fun j hj => ?_⟩
      simp only [mget, eqKey_ne hL hj, eqKey_ne hL (fun h => hj (h.trans e1.symm))]
    | false =>
      simp only
      refine ⟨by simp only [mget, e, h1], fun j hj => ?_⟩
      simp only [mget, h2 j hj]
theorem mget_none_of {k : El ku} : ∀ {es : List (El ku × El vu)}, (∀ p, p ∈ es → eqKey ku p.1 k = false) → mget es k = none
  | [], _ => rfl
  | p :: es, h => by
    have h1 := h p (List.mem_cons_self ..)
    have : eqKey ku k p.1 = false := eqKey_ne hL fun e => by rw [e, eqKey_refl hL] at h1; cases h1
    simp only [mget, this]
    exact mget_none_of fun q hq => h q (List.mem_cons_of_mem _ hq)
theorem mget_mdel (k : El ku) : ∀ (es : List (El ku × El vu)), KNd es → mget (mdel es k) k = none ∧ ∀ j, j ≠ k → mget (mdel es k) j = mget es j
  | [], _ => ⟨rfl, fun _ _ => rfl⟩
  | p :: es, hn => by
    obtain ⟨n1, n2⟩ := List.pairwise_cons.1 hn
    obtain ⟨h1, h2⟩ := mget_mdel k es n2
    unfold mdel
    cases e : eqKey ku k p.1 with
    | true =>
      have e1 := (hL _ _).1 e
      subst e1
      simp only
      refine ⟨mget_none_of hL fun q hq => ?_, fun j hj => ?_⟩
      · have := n1 q hq
        exact eqKey_ne hL fun e => by rw [← e, eqKey_refl hL] at this; cases this
      · simp only [mget, eqKey_ne hL hj]
    | false =>
      simp only
      refine ⟨by simp only [mget, e, h1], fun j hj => ?_⟩
      simp only [mget, h2 j hj]
omit hL in
theorem mem_mput {k : El ku} {x : El vu} : ∀ {es : List (El ku × El vu)} {q : El ku × El vu}, q ∈ mput es k x → q = (k, x) ∨ q ∈ es
  | [], q, h => by
    unfold mput at h
    exact .inl (List.mem_singleton.1 h)
  | p :: es, q, h => by
    unfold mput at h
    split at h
    · rcases List.mem_cons.1 h with h | h
      · exact .inl h
      · exact .inr (List.mem_cons_of_mem _ h)
    · rcases List.mem_cons.1 h with h | h
      · exact .inr (by rw [h]; exact List.mem_cons_self ..)
      · exact (mem_mput h).imp id (List.mem_cons_of_mem _)
omit hL in
theorem mem_mdel {k : El ku} : ∀ {es : List (El ku × El vu)} {q : El ku × El vu}, q ∈ mdel es k → q ∈ es
  | [], q, h => by cases h
  | p :: es, q, h => by
    unfold mdel at h
    split at h
    · exact List.mem_cons_of_mem _ h
    · rcases List.mem_cons.1 h with h | h
      · rw [h]; exact List.mem_cons_self ..
      · exact List.mem_cons_of_mem _ (mem_mdel h)
theorem KNd.put {k : El ku} {x : El vu} : ∀ {es : List (El ku × El vu)}, KNd es → KNd (mput es k x)
  | [], _ => List.pairwise_singleton _ _
  | p :: es, hn => by
    obtain ⟨n1, n2⟩ := List.pairwise_cons.1 hn
    unfold mput
    split
    · rename_i e
      have e1 := (hL _ _).1 e
      refine List.pairwise_cons.2 ⟨fun q hq => ?_, n2⟩
      have := n1 q hq
      simp only
      rw [e1]
      exact this
    · rename_i e
      refine List.pairwise_cons.2 ⟨fun q hq => ?_, KNd.put n2⟩
      rcases mem_mput hq with rfl | hq
      · simp only
        exact eqKey_ne hL fun h => by rw [h, eqKey_refl hL] at e; cases e
      · exact n1 q hq
omit hL in
theorem KNd.del {k : El ku} : ∀ {es : List (El ku × El vu)}, KNd es → KNd (mdel es k)
  | [], h => h
  | p :: es, hn => by
    obtain ⟨n1, n2⟩ := List.pairwise_cons.1 hn
    unfold mdel
    split
    · exact n2
    · exact List.pairwise_cons.2 ⟨fun q hq => n1 q (mem_mdel hq), KNd.del n2⟩
theorem mget_mem_key {k : El ku} {x : El vu} : ∀ {es : List (El ku × El vu)}, mget es k = some x → (k, x) ∈ es
  | [], h => by cases h
  | p :: es, h => by
    unfold mget at h
    split at h
    · rename_i e
      injection h with h
      have e1 := (hL _ _).1 e
      subst h e1
      exact List.mem_cons_self ..
    · exact List.mem_cons_of_mem _ (mget_mem_key h)
theorem mem_mget {k : El ku} {x : El vu} : ∀ {es : List (El ku × El vu)}, KNd es → (k, x) ∈ es → mget es k = some x
  | [], _, h => by cases h
  | p :: es, hn, h => by
    obtain ⟨n1, n2⟩ := List.pairwise_cons.1 hn
    rcases List.mem_cons.1 h with h | h
    · subst h
      simp only [mget, eqKey_refl hL]
    · have h1 := n1 _ h
      have : eqKey ku k p.1 = false := eqKey_ne hL fun e => by rw [← e, eqKey_refl hL] at h1; cases h1
      simp only [mget, this]
      exact mem_mget n2 h
end
end Go.Proofs.YtolaecebfkdbcaaGreat
