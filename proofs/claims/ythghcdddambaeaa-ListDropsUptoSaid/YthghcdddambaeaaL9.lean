/-
  The plain law: what Add leaves as it was.
-/
import Derived.Test.YthghcdddambaeaaL8
set_option linter.unusedVariables false
set_option linter.unusedSimpArgs false
namespace Go.Proofs.Ythghcdddambaeaa
open Go.RowKit Go.Proofs

theorem InvL.nil : InvL [] := ⟨by simp, fun b hb => by simp at hb, fun k b hk => by simp at hk⟩
theorem addE_zero {L : List Bup} {b : Bup} (h : addE L b = 0) : rightB b = true ∧ fnd L (bNm b) < 0 ∧ L.length < 64 ∧ (decide (bPa b = []) = false → 0 ≤ fnd L (bPa b)) := by
  unfold addE at h
  split at h
  · cases h
  · rename_i h1
    split at h
    · cases h
    · rename_i h2
      simp only [Bool.or_eq_true, Bool.not_eq_true', decide_eq_true_eq, not_or, Bool.not_eq_false] at h1
      refine ⟨h1.1.1, by omega, by omega, fun h => ?_⟩
      rw [h] at h2
      simp only [Bool.not_false, Bool.true_and, decide_eq_true_eq] at h2
      omega
theorem ixL_append {α : Type} {p : α → Bool} {L : List α} (x : α) (h : 0 ≤ ixL p L) : ixL p (L ++ [x]) = ixL p L := by
  unfold ixL at *
  rw [List.findIdx?_append]
  cases hf : L.findIdx? p with
  | none => rw [hf] at h; exact absurd h (by decide)
  | some k => simp
theorem ixL_append_new {α : Type} {p : α → Bool} {L : List α} {x : α} (h : ixL p L < 0) (hx : p x = true) : ixL p (L ++ [x]) = (L.length : Int) := by
  unfold ixL at *
  rw [List.findIdx?_append]
  cases hf : L.findIdx? p with
  | none => simp [List.findIdx?_cons, hx]
  | some k => rw [hf] at h; simp at h; omega
theorem snoc_get {α : Type} {L : List α} {b : α} (k : Nat) (x : α) (hx : (L ++ [b])[k]? = some x) : L[k]? = some x ∨ (k = L.length ∧ x = b) := by
  rcases Nat.lt_or_ge k L.length with h | h
  · rw [List.getElem?_append_left h] at hx; exact .inl hx
  · rw [List.getElem?_append_right h] at hx
    cases hk : k - L.length with
    | zero => rw [hk] at hx; exact .inr ⟨by omega, by simpa using hx.symm⟩
    | succ n => rw [hk] at hx; simp at hx
theorem InvL.add {L : List Bup} (hI : InvL L) (b : Bup) : InvL (addL L b) := by
  unfold addL
  split
  · rename_i h
    obtain ⟨h1, h2, h3, h4⟩ := addE_zero h
    refine ⟨by simp; omega, fun x hx => ?_, fun k x hk hp => ?_⟩
    · rcases List.mem_append.1 hx with hx | hx
      · exact hI.right x hx
      · simp only [List.mem_cons, List.not_mem_nil, or_false] at hx
        rw [hx]; exact h1
    · rcases snoc_get k x hk with hk | ⟨rfl, rfl⟩
      · have := hI.par k x hk hp
        unfold fnd at *
        rw [ixL_append b this.1]; exact this
      · have := h4 hp
        have hlt := fnd_lt L (bPa x)
        unfold fnd at *
        rw [ixL_append x this]; exact ⟨this, hlt⟩
  · exact hI
/-- What is restored of who is there stays so. -/
theorem restB_append {L : List Bup} (hI : InvL L) (b : Bup) : ∀ (n : Nat) (nm : List UInt8), 0 ≤ fnd L nm → restB (L ++ [b]) n nm = restB L n nm
  | 0, _, _ => rfl
  | n + 1, nm, h => by
    have hf : fnd (L ++ [b]) nm = fnd L nm := ixL_append b h
    have hlt := fnd_lt L nm
    simp only [restB, restS]
    rw [hf]
    have hg : lgetI (L ++ [b]) (fnd L nm) = lgetI L (fnd L nm) := by
      unfold lgetI lget
      rw [if_pos h, if_pos h, List.getElem?_append_left (by omega)]
    rw [hg]
    cases hx : lgetI L (fnd L nm) with
    | none => rfl
    | some x =>
      simp only
      obtain ⟨k, hk, hb⟩ := lgetI_some hx
      by_cases hp : bPa x = []
      · unfold diskB
        simp only [hp, decide_true, if_true]
      · rw [restB_append hI b n (bPa x) (hI.par k x hb (by simpa using hp)).1]
/-- Zeros, over which bytes are laid: as far as both go, the bytes; behind them zeros. -/
theorem laid_zeros (m : Nat) (ys : List UInt8) : (laid (List.replicate m 0) 0 m ys) = ys.take m ++ List.replicate (m - ys.length) 0 := by
  unfold laid
  simp only [List.take_zero, List.nil_append, List.length_take, Nat.zero_add, List.drop_replicate]
  congr 2
  omega
theorem over_bytes (m : Nat) (ys : List UInt8) : let b := ys.take m ++ List.replicate (m - ys.length) (0 : UInt8)
    b.length = m ∧ ys.take (min ys.length m) = b.take (min ys.length m) ∧ b.drop (min ys.length m) = List.replicate (m - min ys.length m) 0 := by
  intro b
  have hl : b.length = m := by simp only [b, List.length_append, List.length_take, List.length_replicate]; omega
  have ht : (ys.take m).length = min ys.length m := by rw [List.length_take]; omega
  refine ⟨hl, ?_, ?_⟩
  · rw [← ht, List.take_left, ht]
    rcases Nat.le_total ys.length m with h | h
    · rw [Nat.min_eq_left h, List.take_length, List.take_of_length_le h]
    · rw [Nat.min_eq_right h]
  · rw [← ht, List.drop_left, ht]
    congr 1
    omega
/-- What is restored of a new one that has no pieces. -/
theorem rest_over {L : List Bup} (hI : InvL L) {ov : Bup} (hA : addE L ov = 0) (hp : bPc ov = []) (hf : 0 ≤ fnd L (bPa ov)) (hn : ¬ bPa ov = []) :
    restE (L ++ [ov]) (bNm ov) = 0 ∧ restL (L ++ [ov]) (bNm ov) = laid (List.replicate (bSz ov * clB (bBits ov)).toNat 0) 0 (bSz ov * clB (bBits ov)).toNat (restL L (bPa ov)) := by
  obtain ⟨h1, h2, h3, h4⟩ := addE_zero hA
  have hfn : fnd (L ++ [ov]) (bNm ov) = L.length := ixL_append_new h2 (by simp)
  refine ⟨by unfold restE; rw [hfn, if_neg (by simp)], ?_⟩
  have hg : lgetI (L ++ [ov]) (fnd (L ++ [ov]) (bNm ov)) = some ov := by
    rw [hfn]
    unfold lgetI lget
    rw [if_pos (by omega)]
    simp
  unfold restL
  rw [List.length_append, List.length_singleton]
  show restS (L ++ [ov]) (bNm ov) (restB (L ++ [ov]) (L.length + 1)) = _
  unfold restS
  rw [hg]
  simp only
  rw [restB_append hI ov _ _ hf]
  unfold diskB
  simp only [hp, List.foldl_nil, List.length_replicate]
  rw [if_neg (by simp [hn])]
end Go.Proofs.Ythghcdddambaeaa
