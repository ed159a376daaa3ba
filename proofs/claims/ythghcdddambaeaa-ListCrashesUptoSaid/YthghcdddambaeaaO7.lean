/-
  Lists, read: what is read is what was written. No program in sight.
-/
import Derived.Test.YthghcdddambaeaaO3
import Derived.Test.YthghcdddambaeaaO5
import Derived.Test.YthghcdddambaeaaLD
set_option linter.unusedVariables false
set_option linter.unusedSimpArgs false
namespace Go.Proofs.Ythghcdddambaeaa
open Go.RowKit Go.Proofs

theorem encR_snoc (n : Nat) : ∀ k, encR n (k + 1) = encR (n / 256) k ++ [dig n 0]
  | 0 => rfl
  | k + 1 => by
    show dig n (k + 1) :: encR n (k + 1) = dig (n / 256) k :: encR (n / 256) k ++ [dig n 0]
    rw [encR_snoc n k, List.cons_append]
    congr 1
    unfold dig
    rw [Nat.div_div_eq_div_mul, Nat.pow_succ, Nat.mul_comm 256]
theorem dig_zero (a : Nat) (c : UInt8) : dig (a * 256 + c.toNat) 0 = c := by
  have := c.toNat_lt
  unfold dig
  rw [Nat.pow_zero, Nat.div_one, show (a * 256 + c.toNat) % 256 = c.toNat by omega]
  simp
theorem encR_decN (l : List UInt8) : encR (decN l) l.length = l := by
  have : ∀ (l : List UInt8), encR (decN l.reverse) l.length = l.reverse := fun l => by
    induction l with
    | nil => rfl
    | cons c l ih =>
      have hc := c.toNat_lt
      rw [List.reverse_cons, decN_snoc, List.length_cons, encR_snoc, dig_zero, show (decN l.reverse * 256 + c.toNat) / 256 = decN l.reverse by omega, ih]
  have h := this l.reverse
  simpa using h
theorem decN_encR (n : Nat) : ∀ k, n < 256 ^ k → decN (encR n k) = n := by
  intro k
  induction k generalizing n with
  | zero => intro h; simp at h; subst h; rfl
  | succ k ih =>
    intro h
    rw [encR_snoc, decN_snoc, ih (n / 256) (by rw [Nat.pow_succ] at h; omega)]
    unfold dig
    rw [Nat.pow_zero, Nat.div_one, UInt8.toNat_ofNat']
    omega
/-! ### back -/
theorem tk_back {n : Nat} {st : St} (h : (tkS n st).2 = 0) : st.2 = 0 ∧ st.1 = tkX n st ++ (tkS n st).1 ∧ (tkX n st).length = n := by
  by_cases h1 : st.2 = 0
  · by_cases h2 : st.1.length < n
    · unfold tkS at h
      rw [if_neg (by simp [h1]), if_pos h2] at h
      simp at h
    · have hx : tkX n st = st.1.take n := by unfold tkX; exact if_neg (by simp only [h1, ne_eq, not_true_eq_false, false_or]; exact h2)
      have hs : tkS n st = (st.1.drop n, 0) := by unfold tkS; rw [if_neg (by simp [h1]), if_neg h2]
      rw [hx, hs]
      exact ⟨h1, (List.take_append_drop n st.1).symm, by rw [List.length_take]; omega⟩
  · unfold tkS at h
    rw [if_pos h1] at h
    exact absurd h h1
theorem rdN_back {w : Nat} {st : St} (h : (rdN w st).1.2 = 0) : st.2 = 0 ∧ st.1 = encR (rdN w st).2 w ++ (rdN w st).1.1 := by
  obtain ⟨h1, h2, h3⟩ := tk_back h
  refine ⟨h1, ?_⟩
  have := encR_decN (tkX w st)
  rw [h3] at this
  show st.1 = encR (decN (tkX w st)) w ++ (tkS w st).1
  rw [this]
  exact h2
theorem rdT_back {w : Nat} {st : St} (h : (rdT w st).1.2 = 0) : st.2 = 0 ∧ st.1 = encT (rdT w st).2 w ++ (rdT w st).1.1 := by
  obtain ⟨h1, h2, h3⟩ := tk_back h
  obtain ⟨h4, h5⟩ := rdN_back h1
  refine ⟨h4, ?_⟩
  show st.1 = (encR (tkX (rdN w st).2 (rdN w st).1).length w ++ tkX (rdN w st).2 (rdN w st).1) ++ (tkS (rdN w st).2 (rdN w st).1).1
  rw [h3, List.append_assoc, ← h2]
  exact h5
/-! ### forth -/
theorem tk_forth (x t : List UInt8) : tkS x.length (x ++ t, 0) = (t, 0) ∧ tkX x.length (x ++ t, 0) = x := by
  unfold tkS tkX
  rw [if_neg (by simp), if_neg (by simp), if_neg (by simp)]
  exact ⟨by simp, by simp⟩
theorem rdN_forth {n w : Nat} (h : n < 256 ^ w) (t : List UInt8) : rdN w (encR n w ++ t, 0) = ((t, 0), n) := by
  have := tk_forth (encR n w) t
  rw [encR_length] at this
  unfold rdN
  rw [this.1, this.2, decN_encR n w h]
theorem rdT_forth {w : Nat} {x : List UInt8} (h : x.length < 256 ^ w) (t : List UInt8) : rdT w (encT x w ++ t, 0) = ((t, 0), x) := by
  have h1 : rdN w (encT x w ++ t, 0) = ((x ++ t, 0), x.length) := by
    unfold encT
    rw [List.append_assoc]
    exact rdN_forth h _
  have := tk_forth x t
  unfold rdT
  rw [h1]
  simp only
  rw [this.1, this.2]
/-! ### pieces, backups, lists -/
def rdP (st : St) : St × RPie := ((rdT 2 (rdN 2 st).1).1, (((rdN 2 st).2 : Int), (rdT 2 (rdN 2 st).1).2))
def rdPs (st : St) : Nat → St × List RPie
  | 0 => (st, [])
  | k + 1 => ((rdP (rdPs st k).1).1, (rdPs st k).2 ++ [(rdP (rdPs st k).1).2])
def h1 (st : St) := rdT 1 st
def h2 (st : St) := rdT 1 (h1 st).1
def h3 (st : St) := rdN 1 (h2 st).1
def h4 (st : St) := rdN 2 (h3 st).1
def h5 (st : St) := rdN 2 (h4 st).1
def mkBk (st : St) (l : List RPie) : RBup := ((h1 st).2, (h2 st).2, ((h3 st).2 : Int), ((h4 st).2 : Int), l)
def rdBk (st : St) : St × RBup := ((rdPs (h5 st).1 (h5 st).2).1, mkBk st (rdPs (h5 st).1 (h5 st).2).2)
def decK (st0 : St) : Nat → Option (List RBup × St)
  | 0 => some ([], st0)
  | k + 1 => match decK st0 k with
    | none => none
    | some (l, st) => if (rdBk st).1.2 = 0 ∧ addE (l.map ownOf) (ownOf (rdBk st).2) = 0 then some (l ++ [(rdBk st).2], (rdBk st).1) else none
/-- The list that bytes are. -/
def dec (s : List UInt8) : Option (List RBup) := match decK (rdN 1 (s, 0)).1 (rdN 1 (s, 0)).2 with
  | none => none
  | some (l, st) => if endE st = 0 then some l else none
theorem rdP_back {st : St} (h : (rdP st).1.2 = 0) : st.2 = 0 ∧ st.1 = encP (pieOf (rdP st).2) ++ (rdP st).1.1 := by
  obtain ⟨a1, a2⟩ := rdT_back (w := 2) h
  obtain ⟨b1, b2⟩ := rdN_back a1
  refine ⟨b1, ?_⟩
  rw [b2, a2, ← List.append_assoc]
  rfl
theorem rdPs_back {st : St} : ∀ {k : Nat}, (rdPs st k).1.2 = 0 → st.2 = 0 ∧ st.1 = ((rdPs st k).2.map pieOf).flatMap encP ++ (rdPs st k).1.1 ∧ (rdPs st k).2.length = k
  | 0, h => ⟨h, rfl, rfl⟩
  | k + 1, h => by
    obtain ⟨a1, a2⟩ := rdP_back (st := (rdPs st k).1) h
    obtain ⟨b1, b2, b3⟩ := rdPs_back a1
    refine ⟨b1, ?_, ?_⟩
    · show st.1 = (((rdPs st k).2 ++ [(rdP (rdPs st k).1).2]).map pieOf).flatMap encP ++ (rdP (rdPs st k).1).1.1
      rw [List.map_append, List.flatMap_append, List.append_assoc]
      simp only [List.map_cons, List.map_nil, List.flatMap_cons, List.flatMap_nil, List.append_nil]
      rw [← a2]
      exact b2
    · show ((rdPs st k).2 ++ [_]).length = _
      rw [List.length_append, b3]; rfl
theorem rdPs_sticky {st : St} {k : Nat} (h : (rdPs st k).1.2 ≠ 0) : ∀ {m : Nat}, k ≤ m → (rdPs st m).1.2 ≠ 0 := by
  intro m hm
  induction m with
  | zero => obtain rfl : k = 0 := by omega
            exact h
  | succ m ih =>
    rcases Nat.lt_or_ge k (m + 1) with h1 | h1
    · intro he
      exact ih (by omega) (rdP_back (st := (rdPs st m).1) he).1
    · obtain rfl : k = m + 1 := by omega
      exact h
theorem rdBk_back {st : St} (h : (rdBk st).1.2 = 0) : st.2 = 0 ∧ st.1 = encB (ownOf (rdBk st).2) ++ (rdBk st).1.1 := by
  obtain ⟨a1, a2, a3⟩ := rdPs_back h
  obtain ⟨b1, b2⟩ := rdN_back (w := 2) a1
  obtain ⟨c1, c2⟩ := rdN_back (w := 2) b1
  obtain ⟨d1, d2⟩ := rdN_back (w := 1) c1
  obtain ⟨e1, e2⟩ := rdT_back (w := 1) d1
  obtain ⟨f1, f2⟩ := rdT_back (w := 1) e1
  refine ⟨f1, ?_⟩
  have hE : encB (ownOf (rdBk st).2) = encT (h1 st).2 1 ++ encT (h2 st).2 1 ++ encR (h3 st).2 1 ++ encR (h4 st).2 2 ++ encR (h5 st).2 2 ++ (((rdPs (h5 st).1 (h5 st).2).2.map pieOf).flatMap encP) := by
    have : ((rdPs (h5 st).1 (h5 st).2).2.map pieOf).length = (h5 st).2 := by rw [List.length_map, a3]
    show encT (h1 st).2 1 ++ encT (h2 st).2 1 ++ encR (((h3 st).2 : Nat) : Int).toNat 1 ++ encR (((h4 st).2 : Nat) : Int).toNat 2 ++ encR ((rdPs (h5 st).1 (h5 st).2).2.map pieOf).length 2 ++ _ = _
    rw [this]
    rfl
  rw [hE]
  rw [show st.1 = encT (h1 st).2 1 ++ (h1 st).1.1 from f2, show (h1 st).1.1 = encT (h2 st).2 1 ++ (h2 st).1.1 from e2, show (h2 st).1.1 = encR (h3 st).2 1 ++ (h3 st).1.1 from d2, show (h3 st).1.1 = encR (h4 st).2 2 ++ (h4 st).1.1 from c2, show (h4 st).1.1 = encR (h5 st).2 2 ++ (h5 st).1.1 from b2, show (h5 st).1.1 = ((rdPs (h5 st).1 (h5 st).2).2.map pieOf).flatMap encP ++ (rdPs (h5 st).1 (h5 st).2).1.1 from a2]
  simp only [List.append_assoc]
  rfl
theorem decK_back {st0 : St} (h0 : st0.2 = 0) : ∀ {k : Nat} {l : List RBup} {st : St}, decK st0 k = some (l, st) → st.2 = 0 ∧ l.length = k ∧ st0.1 = (l.map ownOf).flatMap encB ++ st.1 ∧ InvP (l.map ownOf)
  | 0, l, st, h => by
    simp only [decK, Option.some.injEq, Prod.mk.injEq] at h
    obtain ⟨rfl, rfl⟩ := h
    exact ⟨h0, rfl, rfl, InvP.nil⟩
  | k + 1, l, st, h => by
    unfold decK at h
    split at h
    · cases h
    · rename_i l' st' hk
      obtain ⟨a1, a2, a3, a4⟩ := decK_back h0 hk
      split at h
      · rename_i hh
        simp only [Option.some.injEq, Prod.mk.injEq] at h
        obtain ⟨rfl, rfl⟩ := h
        obtain ⟨b1, b2⟩ := rdBk_back hh.1
        refine ⟨hh.1, by rw [List.length_append, a2]; rfl, ?_, ?_⟩
        · rw [List.map_append, List.flatMap_append, List.append_assoc]
          simp only [List.map_cons, List.map_nil, List.flatMap_cons, List.flatMap_nil, List.append_nil]
          rw [← b2]
          exact a3
        · have := a4.add (ownOf (rdBk st').2)
          unfold addL at this
          rw [if_pos hh.2] at this
          rw [List.map_append]
          exact this
      · cases h
theorem endE_zero (st : St) : endE st = 0 ↔ st.2 = 0 ∧ st.1 = [] := by
  unfold endE
  split
  · rename_i h
    constructor
    · intro h2; omega
    · intro h2; rw [h2.2] at h; simp at h
  · rename_i h
    constructor
    · intro h2
      refine ⟨h2, ?_⟩
      have : ¬ 0 < st.1.length := fun h3 => h ⟨h2, h3⟩
      exact List.eq_nil_of_length_eq_zero (by omega)
    · exact fun h2 => h2.1
/-- All was read just if the list is written so. -/
theorem dec_iff (s : List UInt8) {l : List RBup} {st : St} (h : decK (rdN 1 (s, 0)).1 (rdN 1 (s, 0)).2 = some (l, st)) : encL (l.map ownOf) = s ↔ endE st = 0 := by
  rw [endE_zero]
  cases s with
  | nil =>
    have e : rdN 1 (([] : List UInt8), (0 : Int)) = (([], 10), 0) := rfl
    rw [e] at h
    simp only [decK, Option.some.injEq, Prod.mk.injEq] at h
    obtain ⟨rfl, rfl⟩ := h
    constructor
    · intro h
      unfold encL at h
      simp [encR] at h
    · intro h; simp at h
  | cons c s =>
    have hc := c.toNat_lt
    have e : rdN 1 ((c :: s : List UInt8), (0 : Int)) = ((s, 0), c.toNat) := by
      have h1 : encR c.toNat 1 = [c] := by
        have := dig_zero 0 c
        simp only [Nat.zero_mul, Nat.zero_add] at this
        show [dig c.toNat 0] = [c]
        rw [this]
      have := rdN_forth (n := c.toNat) (w := 1) (by simpa using hc) s
      rw [h1] at this
      exact this
    rw [e] at h
    obtain ⟨a1, a2, a3, a4⟩ := decK_back rfl h
    have h1 : encR c.toNat 1 = [c] := by
      have := dig_zero 0 c
      simp only [Nat.zero_mul, Nat.zero_add] at this
      show [dig c.toNat 0] = [c]
      rw [this]
    unfold encL
    rw [List.length_map, a2, h1]
    have a3 : s = (l.map ownOf).flatMap encB ++ st.1 := a3
    constructor
    · intro h
      refine ⟨a1, ?_⟩
      have h : (l.map ownOf).flatMap encB = s := by simpa using h
      rw [h] at a3
      have := congrArg List.length a3
      rw [List.length_append] at this
      exact List.eq_nil_of_length_eq_zero (by omega)
    · rintro ⟨_, h⟩
      rw [h, List.append_nil] at a3
      rw [← a3]
      rfl
/-- Who may be, can be written. -/
theorem wr_of {L : List Bup} (hI : InvL L) {b : Bup} (hb : b ∈ L) : Wr b := by
  have nm : ∀ x, x ∈ L → (bNm x).length ≤ 15 := fun x hx => by
    have := hI.right x hx
    simp only [rightB, nameOK, Bool.and_eq_true, decide_eq_true_eq] at this
    omega
  have hr := hI.right b hb
  obtain ⟨a1, a2, a3, a4⟩ := rightB_small hr
  have a5 := rBits_le hr
  have a6 := right_few hr
  refine ⟨by have := nm b hb; omega, ?_, by omega, by omega, a6, fun p hp => ?_⟩
  · by_cases hp : bPa b = []
    · rw [hp]; decide
    · obtain ⟨x, hx⟩ := find_there (par_there hI hb hp)
      have h1 := List.find?_some hx
      simp only [decide_eq_true_eq] at h1
      have := nm x (List.mem_of_find?_eq_some hx)
      rw [h1] at this
      omega
  · have := right_pieces hr p hp
    omega
end Go.Proofs.Ythghcdddambaeaa
/-
  list.Decode.
-/
set_option linter.unusedVariables false
set_option linter.unusedSimpArgs false
set_option maxRecDepth 10000
namespace Go.Proofs.Ythghcdddambaeaa
open Go.RowKit Go.Proofs

/-! ### nothing gets longer -/
theorem tkS_len (n : Nat) (st : St) : (tkS n st).1.length ≤ st.1.length := by
  unfold tkS
  split
  · exact Nat.le_refl _
  · split
    · exact Nat.le_refl _
    · rw [List.length_drop]; omega
theorem tkX_len (n : Nat) (st : St) : (tkX n st).length ≤ st.1.length := by
  unfold tkX
  split
  · simp
  · rw [List.length_take]; omega
theorem rdN_len (w : Nat) (st : St) : (rdN w st).1.1.length ≤ st.1.length := tkS_len w st
theorem rdT_len (w : Nat) (st : St) : (rdT w st).1.1.length ≤ st.1.length ∧ (rdT w st).2.length ≤ st.1.length :=
  ⟨Nat.le_trans (tkS_len _ _) (tkS_len w st), Nat.le_trans (tkX_len _ _) (tkS_len w st)⟩
theorem rdN_lt (w : Nat) (hw : w ≤ 4) (st : St) : (rdN w st).2 < 256 ^ w :=
  Nat.lt_of_lt_of_le (decN_lt _) (Nat.pow_le_pow_right (by decide) (tkX_length w st))
theorem rdP_len (st : St) : (rdP st).1.1.length ≤ st.1.length ∧ (rB (rdP st).2).length ≤ st.1.length := by
  have a := rdN_len 2 st
  have b := rdT_len 2 (rdN 2 st).1
  exact ⟨Nat.le_trans b.1 a, Nat.le_trans b.2 a⟩
theorem rdPs_len (st : St) : ∀ k, (rdPs st k).1.1.length ≤ st.1.length ∧ (rdPs st k).2.length = k ∧ ∀ p, p ∈ (rdPs st k).2 → (rB p).length ≤ st.1.length
  | 0 => ⟨Nat.le_refl _, rfl, fun p hp => by cases hp⟩
  | k + 1 => by
    obtain ⟨a1, a2, a3⟩ := rdPs_len st k
    obtain ⟨b1, b2⟩ := rdP_len (rdPs st k).1
    refine ⟨Nat.le_trans b1 a1, by show ((rdPs st k).2 ++ [_]).length = _; rw [List.length_append, a2]; rfl, fun p hp => ?_⟩
    rcases List.mem_append.1 hp with hp | hp
    · exact a3 p hp
    · simp only [List.mem_singleton] at hp
      subst hp
      exact Nat.le_trans b2 a1
theorem h5_len (st : St) : (h1 st).1.1.length ≤ st.1.length ∧ (h2 st).1.1.length ≤ st.1.length ∧ (h3 st).1.1.length ≤ st.1.length ∧ (h4 st).1.1.length ≤ st.1.length ∧ (h5 st).1.1.length ≤ st.1.length ∧ (h1 st).2.length ≤ st.1.length ∧ (h2 st).2.length ≤ st.1.length := by
  have a := rdT_len 1 st
  have b := rdT_len 1 (h1 st).1
  have c := rdN_len 1 (h2 st).1
  have d := rdN_len 2 (h3 st).1
  have e := rdN_len 2 (h4 st).1
  have a1 : (h1 st).1.1.length ≤ st.1.length := a.1
  have b1 : (h2 st).1.1.length ≤ (h1 st).1.1.length := b.1
  have c1 : (h3 st).1.1.length ≤ (h2 st).1.1.length := c
  have d1 : (h4 st).1.1.length ≤ (h3 st).1.1.length := d
  have e1 : (h5 st).1.1.length ≤ (h4 st).1.1.length := e
  refine ⟨a1, by omega, by omega, by omega, by omega, a.2, ?_⟩
  have : (h2 st).2.length ≤ (h1 st).1.1.length := b.2
  omega
theorem decK_none {st0 : St} {k : Nat} (h : decK st0 k = none) : ∀ {m : Nat}, k ≤ m → decK st0 m = none := by
  intro m hm
  induction m with
  | zero => obtain rfl : k = 0 := by omega
            exact h
  | succ m ih =>
    rcases Nat.lt_or_ge k (m + 1) with h1 | h1
    · unfold decK
      rw [ih (by omega)]
    · obtain rfl : k = m + 1 := by omega
      exact h
theorem dec_none {s : List UInt8} {k : Nat} (hk : k ≤ (rdN 1 (s, 0)).2) (h : decK (rdN 1 (s, 0)).1 k = none) : dec s = none := by
  unfold dec
  rw [decK_none h hk]
theorem decK_bad {st0 : St} {k : Nat} {l : List RBup} {st : St} (h : decK st0 k = some (l, st)) (hh : ¬ ((rdBk st).1.2 = 0 ∧ addE (l.map ownOf) (ownOf (rdBk st).2) = 0)) : decK st0 (k + 1) = none := by
  unfold decK
  rw [h]
  exact if_neg hh
theorem decK_good {st0 : St} {k : Nat} {l : List RBup} {st : St} (h : decK st0 k = some (l, st)) (h1 : (rdBk st).1.2 = 0) (h2 : addE (l.map ownOf) (ownOf (rdBk st).2) = 0) : decK st0 (k + 1) = some (l ++ [(rdBk st).2], (rdBk st).1) := by
  conv => lhs; unfold decK
  rw [h]
  exact if_pos ⟨h1, h2⟩

@[reducible] def rdB2 (st : St) : Nat × Ch := (2001, .cells [.d (.lst .u8 st.1), .d (.int .i64 st.2)])
@[reducible] def deK (n k : Nat) : KL := [(4, vP 1001), (5, vP 2001), (11, vI (n : Nat)), (12, vI (k : Nat))]
@[reducible] def deB (l : List RBup) (st : St) : BL := rdB2 st :: lstR 1002 (l.map ownOf)
@[reducible] def deK2 (n k m j : Nat) : KL := [(4, vP 1001), (5, vP 2001), (6, vP 6), (11, vI (n : Nat)), (12, vI (k : Nat)), (24, vI (m : Nat)), (25, vI (j : Nat))]
@[reducible] def hdL (st : St) : List S1 := [.d (.str (h1 st).2), .d (.str (h2 st).2), .d (.int .i64 ((h3 st).2 : Nat)), .d (.int .i64 ((h4 st).2 : Nat))]
@[reducible] def deB2 (l : List RBup) (st0 st : St) (r : Nat) (ps : List Pie) : BL := (r, .row 111 uP ps) :: (6, .cells [.d (.str (h1 st0).2), .d (.str (h2 st0).2), .d (.int .i64 ((h3 st0).2 : Nat)), .d (.int .i64 ((h4 st0).2 : Nat)), .own r]) :: rdB2 st :: lstR 1002 (l.map ownOf)
@[reducible] def deB3 (l : List RBup) (st0 st : St) (ps : List Pie) : BL := (6, .cells [.d (.str (h1 st0).2), .d (.str (h2 st0).2), .d (.int .i64 ((h3 st0).2 : Nat)), .d (.int .i64 ((h4 st0).2 : Nat)), .d (.lst uP ps)]) :: rdB2 st :: lstR 1002 (l.map ownOf)
def vDecN : SV := .tup [.one (.raw (.pointer none)), .one (.d (.int .i64 180))]
def vDecS : SV := .tup [.one (.ptr 1001 0), .one (.d (.int .i64 0))]
set_option maxRecDepth 100000 in
set_option maxHeartbeats 4000000 in
theorem decode_both (s : List UInt8) (hs : s.length ≤ 100000000) (d : Option (List RBup)) (hd : dec s = d) :
    match d with
    | some l => Fn Try.prog 27 [vL .u8 s] [] [1001, 1002] vDecS (lstB (l.map ownOf))
    | none => Fn Try.prog 27 [vL .u8 s] [] [] vDecN [] := by
  cases d
  all_goals
    simp only
    refine Fn.of tblOK [10] _ _ _ _ _ Try.func27 rfl rfl (by kernel_rfl) (by kernel_rfl) rfl (drawOK tblOK) rfl ?_
    refine ⟨_, _, _, _, new_spec, trivial, rfl, ?_⟩
    refine ⟨_, _, _, _, Fn.ren [(1001, 2001)] (newReader_spec s (by omega)), trivial, rfl, ?_⟩
    refine ⟨_, _, _, _, Fn.ren [(1001, 2001)] (num_spec (s, 0) 1 (.inl rfl)), ⟨rfl, trivial⟩, rfl, ?_⟩
    have hl0 := rdN_len 1 (s, 0)
    have hn1 := rdN_lt 1 (by decide) (s, 0)
    have hnone := fun k h => dec_none (s := s) (k := k) h
    have hsome : ∀ l st, decK (rdN 1 (s, 0)).1 (rdN 1 (s, 0)).2 = some (l, st) → dec s = if endE st = 0 then some l else none := fun l st h => by unfold dec; rw [h]
    generalize (rdN 1 (s, 0)).2 = n at *
    generalize (rdN 1 (s, 0)).1 = st0 at *
    have hl0 : st0.1.length ≤ 100000000 := Nat.le_trans hl0 hs
    have hn1 : n < 256 := by simpa using hn1
    show TrQ _ _ _ _ _ _ _
    refine TrQ.loop tblOK (drawOK tblOK) [10] (by kernel_rfl) (X := Nat × List RBup × St) (fun x => deK n x.1) (fun x => deB x.2.1 x.2.2) (fun x => x.1 ≤ n ∧ decK st0 x.1 = some (x.2.1, x.2.2) ∧ x.2.2.1.length ≤ 100000000 ∧ (x.2.1.map ownOf).length ≤ 64) (fun x => n - x.1) (0, [], st0) ⟨Nat.zero_le _, rfl, hl0, by simp⟩ ?_ ?_
    · exact Le.sub ⟨rfl, rfl, rfl, rfl, trivial⟩ ⟨rfl, rfl, rfl, trivial⟩
    rintro ⟨k, l, st⟩ ⟨hk, hdk, hsl, hll⟩
    simp only at hk hdk hsl hll
    refine ⟨fun h => ?_, fun h => ?_⟩
    · have hk1 : k < n := by
        have h : (k : Int) < (n : Int) := of_decide_eq_true h
        omega
      obtain ⟨a1, a2, a3, a4, a5, a6, a7⟩ := h5_len st
      have hm := rdN_lt 2 (by decide) (h4 st).1
      have hm : (h5 st).2 < 65536 := hm
      have c3 := rdN_lt 1 (by decide) (h2 st).1
      have c4 := rdN_lt 2 (by decide) (h3 st).1
      refine ⟨_, _, _, _, Fn.ren [(1001, 2001)] (text_spec st 1 (.inl rfl)), ⟨rfl, trivial⟩, rfl, ?_⟩
      refine ⟨_, _, _, _, Fn.ren [(1001, 2001)] (text_spec (h1 st).1 1 (.inl rfl)), ⟨rfl, trivial⟩, rfl, ?_⟩
      refine ⟨_, _, _, _, Fn.ren [(1001, 2001)] (num_spec (h2 st).1 1 (.inl rfl)), ⟨rfl, trivial⟩, rfl, ?_⟩
      refine ⟨_, _, _, _, Fn.ren [(1001, 2001)] (num_spec (h3 st).1 2 (.inr (.inl rfl))), ⟨rfl, trivial⟩, rfl, ?_⟩
      refine ⟨rfl, ?_⟩
      refine ⟨_, _, _, _, Fn.ren [(1001, 2001)] (num_spec (h4 st).1 2 (.inr (.inl rfl))), ⟨rfl, trivial⟩, rfl, ?_⟩
      show TrQ _ _ _ _ _ _ _
      refine TrQ.loop tblOK (drawOK tblOK) [10] (by kernel_rfl) (X := Nat) (fun j => deK2 n k (h5 st).2 j) (fun j => deB2 l st (rdPs (h5 st).1 j).1 2002 ((rdPs (h5 st).1 j).2.map pieOf)) (fun j => j ≤ (h5 st).2) (fun j => (h5 st).2 - j) 0 (Nat.zero_le _) ?_ ?_
      · exact Le.trans (Le.nilc 6 4 2002 111 uP rfl rfl rfl) (Le.sub ⟨rfl, rfl, rfl, rfl, rfl, rfl, rfl, trivial⟩ ⟨rfl, rfl, rfl, rfl, rfl, trivial⟩)
      intro j hj
      obtain ⟨b1, b2, b3⟩ := rdPs_len (h5 st).1 j
      refine ⟨fun h => ?_, fun h => ?_⟩
      · have hj1 : j < (h5 st).2 := by
          have h : (j : Int) < ((h5 st).2 : Int) := of_decide_eq_true h
          omega
        have hP := rdP_len (rdPs (h5 st).1 j).1
        have hnx : (rdPs (h5 st).1 (j + 1)).1 = (rdP (rdPs (h5 st).1 j).1).1 := rfl
        have hnx2 : (rdPs (h5 st).1 (j + 1)).2.map pieOf = (rdPs (h5 st).1 j).2.map pieOf ++ [pieOf (rdP (rdPs (h5 st).1 j).1).2] := by
          show ((rdPs (h5 st).1 j).2 ++ [_]).map pieOf = _
          rw [List.map_append]; rfl
        have hbl : (rdT 2 (rdN 2 (rdPs (h5 st).1 j).1).1).2.length ≤ 4294967296 := by
          have : (rB (rdP (rdPs (h5 st).1 j).1).2).length ≤ (rdPs (h5 st).1 j).1.1.length := hP.2
          have this : (rdT 2 (rdN 2 (rdPs (h5 st).1 j).1).1).2.length ≤ (rdPs (h5 st).1 j).1.1.length := this
          omega
        refine ⟨_, _, _, _, Fn.ren [(1001, 2001)] (num_spec (rdPs (h5 st).1 j).1 2 (.inr (.inl rfl))), ⟨rfl, trivial⟩, rfl, ?_⟩
        refine ⟨_, _, _, _, Fn.ren [(1001, 2001)] (text_spec (rdN 2 (rdPs (h5 st).1 j).1).1 2 (.inr (.inl rfl))), ⟨rfl, trivial⟩, rfl, ?_⟩
        refine ⟨hbl, ?_, rfl, rfl, ?_⟩
        · show ((rdPs (h5 st).1 j).2.map pieOf).length + 1 ≤ 4294967296
          rw [List.length_map, b2]; omega
        refine ⟨by omega, j + 1, hj1, by omega, ?_⟩
        refine Le.trans (Le.sub (K' := deK2 n k (h5 st).2 (j + 1)) (B' := deB2 l st (rdPs (h5 st).1 (j + 1)).1 36 ((rdPs (h5 st).1 (j + 1)).2.map pieOf)) ⟨rfl, rfl, rfl, rfl, rfl, rfl, rfl, trivial⟩ ⟨?_, rfl, rfl, rfl, rfl, trivial⟩) (Le.ren 36 2002 rfl)
        rw [hnx2]
        rfl
      · have hj1 : j = (h5 st).2 := by
          have h : ¬ (j : Int) < ((h5 st).2 : Int) := of_decide_eq_false h
          omega
        subst hj1
        show TrQ _ _ _ _ _ _ _
        refine TrQ.go tblOK (drawOK tblOK) [] (by kernel_rfl) (Le.trans (Le.sub (K' := deK2 n k (h5 st).2 (h5 st).2) (B' := deB2 l st (rdPs (h5 st).1 (h5 st).2).1 2002 ((rdPs (h5 st).1 (h5 st).2).2.map pieOf)) ⟨rfl, rfl, rfl, rfl, rfl, rfl, rfl, trivial⟩ ⟨rfl, rfl, rfl, rfl, rfl, trivial⟩) (Le.frz 2002 rfl)) ?_
        refine ⟨_, _, _, _, Fn.ren [(1001, 2001)] (err_spec (rdPs (h5 st).1 (h5 st).2).1), ⟨rfl, trivial⟩, rfl, ?_⟩
        refine ⟨fun h => ?_, fun h => ?_⟩
        · have h : (!decide ((rdBk st).1.2 = 0)) = true := h
          have hbad := hnone (k + 1) hk1 (decK_bad hdk (fun hh => by rw [hh.1] at h; cases h))
          first
            | (have hcon := hd.symm.trans hbad; contradiction)
            | exact ⟨_, _, _, Le.refl _ _, rfl, ⟨rfl, rfl, trivial⟩, trivial, rfl⟩
        have h : (!decide ((rdBk st).1.2 = 0)) = false := h
        have he : (rdBk st).1.2 = 0 := by simpa using h
        have hadd := add_spec (l.map ownOf) (ownOf (rdBk st).2) (by omega) (show (h1 st).2.length ≤ 4294967296 by omega) (by
          show ((rdPs (h5 st).1 (h5 st).2).2.map pieOf).length ≤ 1000000
          rw [List.length_map, b2]; omega) (fun p hp => by
          obtain ⟨q, hq, rfl⟩ := List.mem_map.1 hp
          have := b3 q hq
          show (rB q).length ≤ 4294967296
          omega)
        refine ⟨_, _, _, _, hadd, ⟨rfl, rfl, trivial⟩, rfl, ?_⟩
        refine ⟨fun h => ?_, fun h => ?_⟩
        · have h : (!decide (addE (l.map ownOf) (ownOf (rdBk st).2) = 0)) = true := h
          have hbad := hnone (k + 1) hk1 (decK_bad hdk (fun hh => by rw [hh.2] at h; cases h))
          first
            | (have hcon := hd.symm.trans hbad; contradiction)
            | exact ⟨_, _, _, Le.refl _ _, rfl, ⟨rfl, rfl, trivial⟩, trivial, rfl⟩
        · have h : (!decide (addE (l.map ownOf) (ownOf (rdBk st).2) = 0)) = false := h
          have hA : addE (l.map ownOf) (ownOf (rdBk st).2) = 0 := by simpa using h
          have hmap : (l ++ [(rdBk st).2]).map ownOf = addL (l.map ownOf) (ownOf (rdBk st).2) := by
            unfold addL
            rw [if_pos hA, List.map_append]
            rfl
          refine ⟨by omega, (k + 1, l ++ [(rdBk st).2], (rdBk st).1), ⟨hk1, decK_good hdk he hA, ?_, ?_⟩, ?_, ?_⟩
          · show (rdPs (h5 st).1 (h5 st).2).1.1.length ≤ 100000000
            omega
          · have := (addE_zero hA).2.2.1
            simp only [List.length_map, List.length_append, List.length_singleton] at this ⊢
            omega
          · simp only; omega
          · refine Le.trans (Le.sub (K' := deK n (k + 1)) (B' := rdB2 (rdBk st).1 :: lstR 1003 ((l ++ [(rdBk st).2]).map ownOf)) ⟨rfl, rfl, rfl, rfl, trivial⟩ ⟨rfl, rfl, ?_, trivial⟩) (Le.ren 1003 1002 rfl)
            rw [hmap]
            rfl
    · have hk1 : k = n := by
        have h : ¬ (k : Int) < (n : Int) := of_decide_eq_false h
        omega
      subst hk1
      have hr := hsome l st hdk
      refine ⟨_, _, _, _, Fn.ren [(1001, 2001)] (end_spec st), ⟨rfl, trivial⟩, rfl, ?_⟩
      refine ⟨fun h => ?_, fun h => ?_⟩
      · have h : (!decide (endE st = 0)) = true := h
        rw [if_neg (by simpa using h)] at hr
        first
          | (have hcon := hd.symm.trans hr; contradiction)
          | exact ⟨_, _, _, Le.refl _ _, rfl, ⟨rfl, rfl, trivial⟩, trivial, rfl⟩
      · have h : (!decide (endE st = 0)) = false := h
        rw [if_pos (by simpa using h)] at hr
        first
          | (rw [hd] at hr; injection hr with hr; subst hr; exact ⟨_, _, _, Le.refl _ _, rfl, ⟨rfl, rfl, trivial⟩, ⟨rfl, rfl, trivial⟩, rfl⟩)
          | (rw [hd] at hr; cases hr)
end Go.Proofs.Ythghcdddambaeaa
/-
  The document's Decode.
-/
set_option linter.unusedVariables false
set_option linter.unusedSimpArgs false
set_option maxRecDepth 10000
namespace Go.Proofs.Ythghcdddambaeaa
open Go.RowKit Go.Proofs

theorem decK_inv {st0 : St} : ∀ {k : Nat} {l : List RBup} {st : St}, decK st0 k = some (l, st) → InvP (l.map ownOf)
  | 0, l, st, h => by
    simp only [decK, Option.some.injEq, Prod.mk.injEq] at h
    obtain ⟨rfl, rfl⟩ := h
    exact InvP.nil
  | k + 1, l, st, h => by
    unfold decK at h
    split at h
    · cases h
    · rename_i l' st' hk
      split at h
      · rename_i hh
        simp only [Option.some.injEq, Prod.mk.injEq] at h
        obtain ⟨rfl, rfl⟩ := h
        have := (decK_inv hk).add (ownOf (rdBk st').2)
        unfold addL at this
        rw [if_pos hh.2] at this
        rw [List.map_append]
        exact this
      · cases h
@[reducible] def rdB4 (st : St) : Nat × Ch := (4, .cells [.d (.str st.1), .d (.int .i64 st.2)])
@[reducible] def drK (s : List UInt8) (n : Nat) (l : List RBup) (k : Nat) : KL := [(0, vS s), (4, vP 4), (5, vI (n : Nat)), (6, vL uRB l), (7, vI (k : Nat))]
@[reducible] def drKK (s : List UInt8) (n : Nat) (l : List RBup) (k m j : Nat) : KL := [(0, vS s), (4, vP 4), (5, vI (n : Nat)), (6, vL uRB l), (7, vI (k : Nat)), (8, vP 8), (9, vI (m : Nat)), (10, vI (j : Nat))]
@[reducible] def drB2 (st0 st : St) (r : Nat) (ps : List RPie) : BL := [(r, .row 109 uRP ps), (8, .cells [.d (.str (h1 st0).2), .d (.str (h2 st0).2), .d (.int .i64 ((h3 st0).2 : Nat)), .d (.int .i64 ((h4 st0).2 : Nat)), .own r]), rdB4 st]
def vRDec (l : List RBup) (b : Bool) : SV := .tup [.one (.d (.lst uRB l)), .one (.d (.bool b))]
set_option maxRecDepth 100000 in
set_option maxHeartbeats 4000000 in
theorem decodeR_both (s : List UInt8) (hs : s.length ≤ 100000000) (d : Option (List RBup)) (hd : dec s = d) :
    match d with
    | some l => Fn Try.prog 28 [vS s] [] [] (vRDec l true) []
    | none => Fn Try.prog 28 [vS s] [] [] (vRDec [] false) [] := by
  cases d
  all_goals
    simp only
    have hr1 := readNum_spec (s, 0) 1 (.inl rfl)
    have hl0 := rdN_len 1 (s, 0)
    have hn1 := rdN_lt 1 (by decide) (s, 0)
    have hnone := fun k h => dec_none (s := s) (k := k) h
    have hiff := fun l st h => dec_iff s (l := l) (st := st) h
    have hsome : ∀ l st, decK (rdN 1 (s, 0)).1 (rdN 1 (s, 0)).2 = some (l, st) → dec s = if endE st = 0 then some l else none := fun l st h => by unfold dec; rw [h]
    generalize (rdN 1 (s, 0)).2 = n at *
    generalize (rdN 1 (s, 0)).1 = st0 at *
    have hl0 : st0.1.length ≤ 100000000 := Nat.le_trans hl0 hs
    have hn1 : n < 256 := by simpa using hn1
    refine Fn.of tblOK [20] _ _ _ _ _ Try.func28 rfl rfl (by kernel_rfl) (by kernel_rfl) rfl (drawOK tblOK) rfl ?_
    refine ⟨_, _, _, _, hr1, trivial, rfl, ?_⟩
    refine ⟨rfl, ?_⟩
    show TrQ _ _ _ _ _ _ _
    refine TrQ.loop tblOK (drawOK tblOK) [20] (by kernel_rfl) (X := Nat × List RBup × St) (fun x => drK s n x.2.1 x.1) (fun x => [rdB4 x.2.2]) (fun x => x.1 ≤ n ∧ decK st0 x.1 = some (x.2.1, x.2.2) ∧ x.2.2.1.length ≤ 100000000 ∧ x.2.1.length ≤ 64) (fun x => n - x.1) (0, [], st0) ⟨Nat.zero_le _, rfl, hl0, by simp⟩ ?_ ?_
    · exact Le.sub ⟨rfl, rfl, rfl, rfl, rfl, trivial⟩ ⟨rfl, trivial⟩
    rintro ⟨k, l, st⟩ ⟨hk, hdk, hsl, hll⟩
    simp only at hk hdk hsl hll
    refine ⟨fun h => ?_, fun h => ?_⟩
    · have hk1 : k < n := by
        have h : (k : Int) < (n : Int) := of_decide_eq_true h
        omega
      obtain ⟨a1, a2, a3, a4, a5, a6, a7⟩ := h5_len st
      have hm := rdN_lt 2 (by decide) (h4 st).1
      have hm : (h5 st).2 < 65536 := hm
      refine ⟨rfl, ?_⟩
      refine ⟨_, _, _, _, readText_spec st 1 (.inl rfl), trivial, rfl, ?_⟩
      refine ⟨_, _, _, _, readText_spec (h1 st).1 1 (.inl rfl), trivial, rfl, ?_⟩
      refine ⟨_, _, _, _, readNum_spec (h2 st).1 1 (.inl rfl), trivial, rfl, ?_⟩
      refine ⟨_, _, _, _, readNum_spec (h3 st).1 2 (.inr (.inl rfl)), trivial, rfl, ?_⟩
      refine ⟨_, _, _, _, readNum_spec (h4 st).1 2 (.inr (.inl rfl)), trivial, rfl, ?_⟩
      have fin : ∀ j, j ≤ (h5 st).2 → (rdPs (h5 st).1 j).1.2 ≠ 0 → dec s = none := fun j hj he => hnone (k + 1) hk1 (decK_bad hdk (fun hh => rdPs_sticky he hj hh.1))
      show TrQ _ _ _ _ _ _ _
      refine TrQ.loop tblOK (drawOK tblOK) [20] (by kernel_rfl) (X := Nat) (fun j => drKK s n l k (h5 st).2 j) (fun j => drB2 st (rdPs (h5 st).1 j).1 2002 (rdPs (h5 st).1 j).2) (fun j => j ≤ (h5 st).2) (fun j => (h5 st).2 - j) 0 (Nat.zero_le _) ?_ ?_
      · exact Le.trans (Le.nilc 8 4 2002 109 uRP rfl rfl rfl) (Le.sub ⟨rfl, rfl, rfl, rfl, rfl, rfl, rfl, rfl, trivial⟩ ⟨rfl, rfl, rfl, trivial⟩)
      intro j hj
      obtain ⟨b1, b2, b3⟩ := rdPs_len (h5 st).1 j
      have hadd := addR_spec l (mkBk st (rdPs (h5 st).1 j).2) (by omega) (show (h1 st).2.length ≤ 4294967296 by omega) (show (rdPs (h5 st).1 j).2.length ≤ 1000000 by rw [b2]; omega) (fun p hp => by
        have := b3 p hp
        omega)
      refine ⟨fun h => ?_, fun h => ?_⟩
      · have hj1 : j < (h5 st).2 := by
          have h : (j : Int) < ((h5 st).2 : Int) := of_decide_eq_true h
          omega
        refine ⟨fun h => ?_, fun h => ?_⟩
        · refine ⟨rfl, ?_⟩
          refine ⟨_, _, _, _, readNum_spec (rdPs (h5 st).1 j).1 2 (.inr (.inl rfl)), trivial, rfl, ?_⟩
          refine ⟨_, _, _, _, readText_spec (rdN 2 (rdPs (h5 st).1 j).1).1 2 (.inr (.inl rfl)), trivial, rfl, ?_⟩
          refine ⟨?_, rfl, ?_⟩
          · show (rdPs (h5 st).1 j).2.length + 1 ≤ 4294967296
            rw [b2]; omega
          refine ⟨by omega, j + 1, hj1, by omega, ?_⟩
          exact Le.trans (Le.sub (K' := drKK s n l k (h5 st).2 (j + 1)) (B' := drB2 st (rdPs (h5 st).1 (j + 1)).1 80 (rdPs (h5 st).1 (j + 1)).2) ⟨rfl, rfl, rfl, rfl, rfl, rfl, rfl, rfl, trivial⟩ ⟨rfl, rfl, rfl, trivial⟩) (Le.ren 80 2002 rfl)
        · have he : (rdPs (h5 st).1 j).1.2 ≠ 0 := of_decide_eq_false h
          have hbad := fin j hj he
          show TrQ _ _ _ _ _ _ _
          refine TrQ.go tblOK (drawOK tblOK) [] (by kernel_rfl) (Le.trans (Le.sub (K' := drKK s n l k (h5 st).2 j) (B' := drB2 st (rdPs (h5 st).1 j).1 2002 (rdPs (h5 st).1 j).2) ⟨rfl, rfl, rfl, rfl, rfl, rfl, rfl, rfl, trivial⟩ ⟨rfl, rfl, rfl, trivial⟩) (Le.frz 2002 rfl)) ?_
          refine ⟨_, _, _, _, hadd, trivial, rfl, ?_⟩
          refine ⟨fun h => ?_, fun h => ?_⟩
          · first
              | (have hcon := hd.symm.trans hbad; contradiction)
              | exact ⟨_, _, _, Le.refl _ _, rfl, ⟨rfl, rfl, trivial⟩, trivial, rfl⟩
          refine ⟨fun h => ?_, fun h => absurd (show (!decide ((rdPs (h5 st).1 j).1.2 = 0)) = false from h) (by simp [he])⟩
          first
            | (have hcon := hd.symm.trans hbad; contradiction)
            | exact ⟨_, _, _, Le.refl _ _, rfl, ⟨rfl, rfl, trivial⟩, trivial, rfl⟩
      · have hj1 : j = (h5 st).2 := by
          have h : ¬ (j : Int) < ((h5 st).2 : Int) := of_decide_eq_false h
          omega
        subst hj1
        show TrQ _ _ _ _ _ _ _
        refine TrQ.go tblOK (drawOK tblOK) [] (by kernel_rfl) (Le.trans (Le.sub (K' := drKK s n l k (h5 st).2 (h5 st).2) (B' := drB2 st (rdPs (h5 st).1 (h5 st).2).1 2002 (rdPs (h5 st).1 (h5 st).2).2) ⟨rfl, rfl, rfl, rfl, rfl, rfl, rfl, rfl, trivial⟩ ⟨rfl, rfl, rfl, trivial⟩) (Le.frz 2002 rfl)) ?_
        refine ⟨_, _, _, _, hadd, trivial, rfl, ?_⟩
        refine ⟨fun h => ?_, fun h => ?_⟩
        · have h : (!decide (addE (l.map ownOf) (ownOf (rdBk st).2) = 0)) = true := h
          have hbad := hnone (k + 1) hk1 (decK_bad hdk (fun hh => by rw [hh.2] at h; cases h))
          first
            | (have hcon := hd.symm.trans hbad; contradiction)
            | exact ⟨_, _, _, Le.refl _ _, rfl, ⟨rfl, rfl, trivial⟩, trivial, rfl⟩
        have h : (!decide (addE (l.map ownOf) (ownOf (rdBk st).2) = 0)) = false := h
        have hA : addE (l.map ownOf) (ownOf (rdBk st).2) = 0 := by simpa using h
        refine ⟨fun h => ?_, fun h => ?_⟩
        · have h : (!decide ((rdBk st).1.2 = 0)) = true := h
          have hbad := hnone (k + 1) hk1 (decK_bad hdk (fun hh => by rw [hh.1] at h; cases h))
          first
            | (have hcon := hd.symm.trans hbad; contradiction)
            | exact ⟨_, _, _, Le.refl _ _, rfl, ⟨rfl, rfl, trivial⟩, trivial, rfl⟩
        have h : (!decide ((rdBk st).1.2 = 0)) = false := h
        have he : (rdBk st).1.2 = 0 := by simpa using h
        have hR : addR l (rdBk st).2 = l ++ [(rdBk st).2] := by unfold addR; rw [if_pos hA]
        refine ⟨by omega, (k + 1, l ++ [(rdBk st).2], (rdBk st).1), ⟨hk1, decK_good hdk he hA, ?_, ?_⟩, ?_, ?_⟩
        · show (rdPs (h5 st).1 (h5 st).2).1.1.length ≤ 100000000
          omega
        · have := (addE_zero hA).2.2.1
          simp only [List.length_map, List.length_append, List.length_singleton] at this ⊢
          omega
        · simp only; omega
        · exact Le.sub ⟨rfl, rfl, rfl, hR, rfl, trivial⟩ ⟨rfl, trivial⟩
    · have hk1 : k = n := by
        have h : ¬ (k : Int) < (n : Int) := of_decide_eq_false h
        omega
      subst hk1
      have hr := hsome l st hdk
      have hi := hiff l st hdk
      have hIP := decK_inv hdk
      have hE := encodeR_spec l (by omega) (fun b hb => wr_of hIP.toInvL hb)
      generalize encL (l.map ownOf) = el at *
      refine ⟨_, _, _, _, hE, trivial, rfl, ?_⟩
      refine ⟨fun h => ?_, fun h => ?_⟩
      · have h : (!decide (el = s)) = true := h
        have h : ¬ el = s := by simpa using h
        rw [if_neg (fun hh => h (hi.2 hh))] at hr
        first
          | (have hcon := hd.symm.trans hr; contradiction)
          | exact ⟨_, _, _, Le.refl _ _, rfl, ⟨rfl, rfl, trivial⟩, trivial, rfl⟩
      · have h : (!decide (el = s)) = false := h
        have h : el = s := by simpa using h
        rw [if_pos (hi.1 h)] at hr
        first
          | (have hcon := hd.symm.trans hr; contradiction)
          | (rw [hd] at hr; injection hr with hr; subst hr; exact ⟨_, _, _, Le.refl _ _, rfl, ⟨rfl, rfl, trivial⟩, trivial, rfl⟩)
end Go.Proofs.Ythghcdddambaeaa
