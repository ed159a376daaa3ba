/-
  maps.Clone.
-/
import Derived.Test.YtclklmajbnadcaaCd
import Derived.Test.YtclklmajbnadcaaLays
set_option linter.unusedVariables false
set_option linter.unusedSimpArgs false
set_option maxRecDepth 10000
namespace Go.Proofs.Ytclklmajbnadcaa
open Go.RowKit Go.Proofs
theorem mapsClone_gen {ρ : Go.Shelf.Ren} (L : SlLaysW.n5 Try.prog ρ) (hcall : callable Try.prog (ρ.f 5) = true) {ku vu : U} (es : List (El ku × El vu)) :
    Fn Try.prog (ρ.f 5) [.c (.one (.mp 1001))] [(1001, .map ku vu es)] [2001] (.c (.one (.mp 2001))) [(1001, .map ku vu es), (2001, .map ku vu es)] := by
  refine ⟨hcall, fun ρ F I w vals hI hH hF hdj hlen hden => ?_⟩
  match vals, hlen with
  | [v], _ =>
    obtain rfl : v = .map (some (ρ 1001).blk) := hden 0 _ v rfl rfl
    obtain ⟨hF1, ents, clock, hb, hm, hB⟩ := hH 1001 _ rfl
    refine (AnyW.maps_Clone L _ _ _ w hb).mono ?_
    rintro e w' ⟨rfl, rfl⟩
    have hbel : Below w.heap.size w (w.alloc (.map (List.toArray ents) clock)) := (Below.refl _ _).alloc (Nat.le_refl _) _
    have hE : Ext I w I (w.alloc (.map (List.toArray ents) clock)) := fun b hbI => ⟨hbI, hbel.block b (hI b hbI)⟩
    have hlt := lt_of_heap hb
    refine ⟨_, upd ρ 2001 ⟨w.heap.size, none, 0, 0⟩, upd F 2001 (fun b => b = w.heap.size), rfl, Fr.of_below hbel, fun c hc => upd_other _ _ (fun e => hc (by simp [e])), I, hE, fun b hbI => ⟨Nat.lt_of_lt_of_le (hI b hbI) hbel.size, .inl hbI⟩, ?_, ?_, ?_, ?_⟩
    · intro c ch hc
      rw [lookB_cons] at hc
      split at hc
      · rename_i hc1; subst hc1; injection hc with hc; subst hc
        rw [upd_other _ _ (by decide), upd_other _ _ (by decide)]
        exact ⟨hF1, ents, clock, (hbel.block _ hlt).trans hb, hm.mono hE, hB⟩
      · rw [lookB_cons] at hc
        split at hc
        · rename_i hc1; subst hc1; injection hc with hc; subst hc
          rw [upd_same, upd_same]
          exact ⟨fun b => Iff.rfl, ents, clock, heap_alloc_new w _, hm.mono hE, hB⟩
        · simp [lookB] at hc
    · intro c ch hc b hbF
      rw [lookB_cons] at hc
      split at hc
      · rename_i hc1; subst hc1
        rw [upd_other _ _ (by decide)] at hbF
        have := hF 1001 _ rfl b hbF
        exact ⟨Nat.lt_of_lt_of_le this.1 hbel.size, this.2, .inl ⟨1001, _, rfl, hbF⟩⟩
      · rw [lookB_cons] at hc
        split at hc
        · rename_i hc1; subst hc1
          rw [upd_same] at hbF
          subst hbF
          exact ⟨by simp, fun hbI => by have := hI _ hbI; omega, .inr (Nat.le_refl _)⟩
        · simp [lookB] at hc
    · intro c c' ch ch' b hc hc' hne hb1 hb2
      have key : ∀ c ch, lookB [(1001, Ch.map ku vu es), (2001, Ch.map ku vu es)] c = some ch → c = 1001 ∨ c = 2001 := fun c ch hc => by
        rw [lookB_cons] at hc
        split at hc
        · rename_i h; exact .inl h.symm
        · rw [lookB_cons] at hc
          split at hc
          · rename_i h; exact .inr h.symm
          · simp [lookB] at hc
      rcases key c ch hc with rfl | rfl <;> rcases key c' ch' hc' with rfl | rfl
      · exact hne rfl
      · rw [upd_other _ _ (by decide)] at hb1
        rw [upd_same] at hb2
        have := (hF 1001 _ rfl b hb1).1
        omega
      · rw [upd_other _ _ (by decide)] at hb2
        rw [upd_same] at hb1
        have := (hF 1001 _ rfl b hb2).1
        omega
      · exact hne rfl
    · show Value.map (some w.heap.size) = Value.map (some (upd ρ 2001 _ 2001).blk)
      rw [upd_same]
end Go.Proofs.Ytclklmajbnadcaa
