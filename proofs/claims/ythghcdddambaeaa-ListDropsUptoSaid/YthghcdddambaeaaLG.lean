/-
  Cluster by cluster, or piece over piece: the same disk. And who is found behind a drop.
-/
import Derived.Test.YthghcdddambaeaaLF
set_option linter.unusedVariables false
set_option linter.unusedSimpArgs false
namespace Go.Proofs.Ythghcdddambaeaa
open Go.RowKit Go.Proofs

/-- A cluster, as the document says. -/
def cluI (n : Nat) (below : List UInt8) (c : Nat) : List UInt8 := if n * c + n ≤ below.length then (below.take (n * c + n)).drop (n * c) else List.replicate n 0
def cluS (c : Nat) (x : List UInt8) (p : Pie) : List UInt8 := if pC p = c then pB p else x
def clu (n : Nat) (below : List UInt8) (l : List Pie) (c : Nat) : List UInt8 := l.foldl (cluS c) (cluI n below c)
def diskC (S n : Nat) (below : List UInt8) (l : List Pie) : List UInt8 := (List.range S).flatMap (clu n below l)

theorem cluI_length (n : Nat) (below : List UInt8) (c : Nat) : (cluI n below c).length = n := by
  unfold cluI
  split
  · rw [List.length_drop, List.length_take]; omega
  · simp
theorem clu_length {n : Nat} (c : Nat) : ∀ (l : List Pie) (x : List UInt8), x.length = n → (∀ p, p ∈ l → (pB p).length = n) → (l.foldl (cluS c) x).length = n
  | [], x, h, _ => h
  | p :: l, x, h, hp => by
    refine clu_length c l _ ?_ fun q hq => hp q (List.mem_cons_of_mem _ hq)
    unfold cluS
    split
    · exact hp p List.mem_cons_self
    · exact h
theorem flat_length {n : Nat} {f : Nat → List UInt8} (hf : ∀ c, (f c).length = n) : ∀ S : Nat, ((List.range S).flatMap f).length = S * n
  | 0 => by simp
  | S + 1 => by
    rw [List.range_succ, List.flatMap_append, List.length_append, flat_length hf S]
    simp [hf, Nat.succ_mul]
theorem flat_get {n : Nat} {f : Nat → List UInt8} (hf : ∀ c, (f c).length = n) : ∀ (S c j : Nat), c < S → j < n → ((List.range S).flatMap f)[n * c + j]? = (f c)[j]?
  | 0, c, j, h, _ => by omega
  | S + 1, c, j, h, hj => by
    have hl := flat_length hf S
    have hc : n * (c + 1) = n * c + n := Nat.mul_succ n c
    have hsn : S * n = n * S := Nat.mul_comm _ _
    rw [List.range_succ, List.flatMap_append]
    rcases Nat.lt_or_ge c S with h1 | h1
    · have : n * (c + 1) ≤ n * S := Nat.mul_le_mul_left n h1
      rw [List.getElem?_append_left (by rw [hl]; omega)]
      exact flat_get hf S c j h1 hj
    · obtain rfl : c = S := by omega
      rw [List.getElem?_append_right (by rw [hl]; omega), hl, Nat.mul_comm c n]
      simp
theorem laid_get {acc ys : List UInt8} {off m : Nat} (hm : ys.length ≤ m) (ho : off + ys.length ≤ acc.length) (i : Nat) : (laid acc off m ys)[i]? = if off ≤ i ∧ i < off + ys.length then ys[i - off]? else acc[i]? := by
  unfold laid
  rw [List.take_of_length_le hm]
  have h1 : (acc.take off).length = off := by rw [List.length_take]; omega
  split
  · rename_i h
    rw [List.append_assoc, List.getElem?_append_right (by omega), List.getElem?_append_left (by omega), h1]
  · rename_i h
    rcases Nat.lt_or_ge i off with h2 | h2
    · rw [List.append_assoc, List.getElem?_append_left (by omega), List.getElem?_take, if_pos h2]
    · rw [List.getElem?_append_right (by rw [List.length_append]; omega), List.getElem?_drop, List.length_append, h1]
      congr 1
      omega
theorem lay_eq {n S : Nat} {c j : Nat} (hj : j < n) (hc : c < S) : ∀ (l : List Pie) (acc x : List UInt8), (∀ p, p ∈ l → 0 ≤ pC p ∧ pC p < (S : Int) ∧ (pB p).length = n) → acc.length = S * n → acc[n * c + j]? = x[j]? →
    (l.foldl (layP (n : Int)) acc)[n * c + j]? = (l.foldl (cluS c) x)[j]?
  | [], acc, x, _, _, h => h
  | p :: l, acc, x, hp, ha, h => by
    obtain ⟨h0, h1, h2⟩ := hp p List.mem_cons_self
    obtain ⟨k, hk⟩ : ∃ k : Nat, pC p = k := ⟨(pC p).toNat, by omega⟩
    have hks : k < S := by omega
    have e1 : (pC p * (n : Int)).toNat = n * k := by rw [hk, ← Int.natCast_mul, Int.toNat_natCast, Nat.mul_comm]
    have e2 : n * (k + 1) ≤ S * n := by rw [Nat.mul_comm S n]; exact Nat.mul_le_mul_left n hks
    have e3 : n * (k + 1) = n * k + n := Nat.mul_succ n k
    have e4 : n * (c + 1) = n * c + n := Nat.mul_succ n c
    have hlen : (layP (n : Int) acc p).length = acc.length := by
      unfold layP
      rw [e1]
      exact laid_length _ _ (by omega)
    refine lay_eq hj hc l _ _ (fun q hq => hp q (List.mem_cons_of_mem _ hq)) (by rw [hlen]; exact ha) ?_
    unfold layP
    rw [e1, laid_get (by omega) (by omega), h2]
    unfold cluS
    rcases Nat.lt_trichotomy c k with hck | hck | hck
    · have : n * (c + 1) ≤ n * k := Nat.mul_le_mul_left n hck
      rw [if_neg (by omega), if_neg (by omega)]
      exact h
    · subst hck
      rw [if_pos (by omega), if_pos hk]
      congr 1
      omega
    · have : n * (k + 1) ≤ n * c := Nat.mul_le_mul_left n hck
      rw [if_neg (by omega), if_neg (by omega)]
      exact h
/-- A disk, cluster by cluster. -/
theorem disk_eq {n S : Nat} (hn : 0 < n) (l : List Pie) (below acc : List UInt8) (hp : ∀ p, p ∈ l → 0 ≤ pC p ∧ pC p < (S : Int) ∧ (pB p).length = n) (ha : acc.length = S * n)
    (hb : ∀ c j, c < S → j < n → acc[n * c + j]? = (cluI n below c)[j]?) : l.foldl (layP (n : Int)) acc = diskC S n below l := by
  have hcl : ∀ c, (clu n below l c).length = n := fun c => clu_length c l _ (cluI_length n below c) fun p h => (hp p h).2.2
  have hl1 : (l.foldl (layP (n : Int)) acc).length = S * n := by
    have := layN_length (size := (S : Int)) (cl := (n : Int)) (by omega) l acc (fun p h => ⟨(hp p h).1, (hp p h).2.1⟩) (by rw [ha, ← Int.natCast_mul, Int.toNat_natCast])
    rw [this, ← Int.natCast_mul, Int.toNat_natCast]
  have hl2 : (diskC S n below l).length = S * n := flat_length hcl S
  refine List.ext_getElem? fun i => ?_
  rcases Nat.lt_or_ge i (S * n) with h | h
  · have h1 : i / n < S := (Nat.div_lt_iff_lt_mul hn).2 h
    have h2 : i % n < n := Nat.mod_lt _ hn
    have h3 : n * (i / n) + i % n = i := Nat.div_add_mod i n
    have := lay_eq h2 h1 l acc (cluI n below (i / n)) hp ha (hb _ _ h1 h2)
    rw [h3] at this
    rw [this]
    have := flat_get hcl S (i / n) (i % n) h1 h2
    rw [h3] at this
    exact this.symm
  · rw [List.getElem?_eq_none (by omega), List.getElem?_eq_none (by omega)]
theorem zeros_clu {n S : Nat} (c j : Nat) (hc : c < S) (hj : j < n) : (List.replicate (S * n) (0 : UInt8))[n * c + j]? = (cluI n [] c)[j]? := by
  have : n * (c + 1) ≤ n * S := Nat.mul_le_mul_left n hc
  have e4 : n * (c + 1) = n * c + n := Nat.mul_succ n c
  unfold cluI
  have hsn : S * n = n * S := Nat.mul_comm _ _
  rw [if_neg (by simp; omega), List.getElem?_replicate, if_pos (by omega), List.getElem?_replicate, if_pos hj]
theorem over_clu {n S m : Nat} (below : List UInt8) (hb : below.length = m * n) (c j : Nat) (hc : c < S) (hj : j < n) : (laid (List.replicate (S * n) (0 : UInt8)) 0 (S * n) below)[n * c + j]? = (cluI n below c)[j]? := by
  have h1 : n * (c + 1) ≤ n * S := Nat.mul_le_mul_left n hc
  have e4 : n * (c + 1) = n * c + n := Nat.mul_succ n c
  have e5 : S * n = n * S := Nat.mul_comm _ _
  rw [laid_zeros]
  unfold cluI
  rcases Nat.lt_or_ge c m with h | h
  · have h2 : n * (c + 1) ≤ n * m := Nat.mul_le_mul_left n h
    have e6 : m * n = n * m := Nat.mul_comm _ _
    rw [if_pos (by omega), List.getElem?_append_left (by rw [List.length_take]; omega), List.getElem?_take, if_pos (by omega), List.getElem?_drop, List.getElem?_take, if_pos (by omega)]
  · have h2 : n * m ≤ n * c := Nat.mul_le_mul_left n h
    have e6 : m * n = n * m := Nat.mul_comm _ _
    rw [if_neg (by omega), List.getElem?_append_right (by rw [List.length_take]; omega), List.getElem?_replicate, List.length_take, if_pos (by omega), List.getElem?_replicate, if_pos hj]

/-! ### who is found -/
theorem get_ixL {α : Type} (p : α → Bool) : ∀ (L : List α), (if 0 ≤ ixL p L then lget L (ixL p L).toNat else none) = L.find? p := by
  intro L
  rcases ixL_cases p L with ⟨h, hn⟩ | ⟨k, x, h, hx, hp, hlt⟩
  · rw [h, if_neg (by omega)]
    refine (List.find?_eq_none.2 fun x hx => ?_).symm
    obtain ⟨i, hi, rfl⟩ := List.getElem_of_mem hx
    rw [hn i _ (List.getElem?_eq_getElem hi)]; simp
  · rw [h, if_pos (by omega), Int.toNat_natCast]
    unfold lget
    rw [hx]
    refine (List.find?_eq_some_iff_getElem.2 ⟨hp, k, (List.getElem?_eq_some_iff.1 hx).1, (List.getElem?_eq_some_iff.1 hx).2, fun j hj => ?_⟩).symm
    have := hlt j _ hj (List.getElem?_eq_getElem (by have := (List.getElem?_eq_some_iff.1 hx).1; omega))
    simpa using this
theorem lgetI_find (L : List Bup) (nm : List UInt8) : lgetI L (fnd L nm) = L.find? (fun b => decide (bNm b = nm)) := get_ixL _ L
theorem find_erase {α : Type} (p : α → Bool) : ∀ (L : List α) (k : Nat) (x : α), L[k]? = some x → p x = false → (L.eraseIdx k).find? p = L.find? p
  | [], k, x, h, _ => by simp at h
  | a :: L, 0, x, h, hp => by
    simp only [List.getElem?_cons_zero, Option.some.injEq] at h
    subst h
    simp [List.find?_cons, hp]
  | a :: L, k + 1, x, h, hp => by
    simp only [List.getElem?_cons_succ] at h
    rw [List.eraseIdx_cons_succ, List.find?_cons, List.find?_cons, find_erase p L k x h hp]
theorem fnd_neg_iff (L : List Bup) (nm : List UInt8) : fnd L nm < 0 ↔ L.find? (fun b => decide (bNm b = nm)) = none := by
  rw [← lgetI_find]
  unfold lgetI
  constructor
  · intro h; rw [if_neg (by omega)]
  · intro h
    rcases ixL_cases (fun b => decide (bNm b = nm)) L with ⟨h2, _⟩ | ⟨k, x, h2, hx, _⟩
    · unfold fnd; omega
    · have h2 : fnd L nm = k := h2
      rw [if_pos (by omega), h2, Int.toNat_natCast] at h
      unfold lget at h
      rw [hx] at h
      cases h
/-- What is restored goes by who is found. -/
theorem restB_find {L L' : List Bup} (nm0 : List UInt8) (h : ∀ nm, nm ≠ nm0 → L'.find? (fun b => decide (bNm b = nm)) = L.find? (fun b => decide (bNm b = nm))) (hp : ∀ b, b ∈ L → bPa b ≠ nm0) :
    ∀ (n : Nat) (nm : List UInt8), nm ≠ nm0 → restB L' n nm = restB L n nm
  | 0, _, _ => rfl
  | n + 1, nm, hn => by
    show restS L' nm (restB L' n) = restS L nm (restB L n)
    unfold restS
    rw [lgetI_find, lgetI_find, h nm hn]
    cases hx : L.find? (fun b => decide (bNm b = nm)) with
    | none => rfl
    | some b =>
      simp only
      rw [restB_find nm0 h hp n _ (hp b (List.mem_of_find?_eq_some hx))]
end Go.Proofs.Ythghcdddambaeaa
