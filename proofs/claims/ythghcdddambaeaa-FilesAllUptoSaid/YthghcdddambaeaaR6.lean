/-
  The document's store and the program's: one relation, kept by every call.
-/
import Derived.Test.YthghcdddambaeaaR4
set_option linter.unusedVariables false
set_option linter.unusedSimpArgs false
set_option maxRecDepth 10000
namespace Go.Proofs.Ythghcdddambaeaa
open Go.RowKit Go.Proofs
/-- What a map has of a sector. -/
def sgB (s : SMap) (a : Int) : Option (List UInt8) := mget s (a : El uI)
theorem sgB_nil (a : Int) : sgB [] a = none := rfl
theorem sgB_cons (p : El uI × El uX) (s : SMap) (a : Int) : sgB (p :: s) a = match eqP a p with | true => some (show List UInt8 from p.2) | false => sgB s a := rfl
theorem sgB_put (k : Int) (x : El uX) (a : Int) : ∀ s : SMap, sgB (putI s k x) a = if k = a then some (show List UInt8 from x) else sgB s a
  | [] => by
    rw [putI_nil, sgB_cons, sgB_nil]
    by_cases h : k = a
    · rw [if_pos h, show eqP a (mkP k x) = true from eqP_iff.2 h.symm]; rfl
    · rw [if_neg h, show eqP a (mkP k x) = false from Bool.eq_false_iff.2 fun e => h (eqP_iff.1 e).symm]
  | p :: s => by
    rw [putI_cons]
    cases e : eqP k p with
    | true =>
      have e := eqP_iff.1 e
      simp only
      rw [sgB_cons, sgB_cons]
      by_cases h : k = a
      · rw [if_pos h, show eqP a (mkP k x) = true from eqP_iff.2 h.symm]; rfl
      · rw [if_neg h, show eqP a (mkP k x) = false from Bool.eq_false_iff.2 fun e2 => h (eqP_iff.1 e2).symm, show eqP a p = false from Bool.eq_false_iff.2 fun e2 => h (e.trans (eqP_iff.1 e2).symm)]
    | false =>
      have e : ¬ k = kP p := fun h => by rw [eqP_iff.2 h] at e; cases e
      simp only
      rw [sgB_cons, sgB_cons, sgB_put k x a s]
      by_cases h : k = a
      · simp only [if_pos h, show eqP a p = false from Bool.eq_false_iff.2 fun e2 => e (h.trans (eqP_iff.1 e2))]
      · simp only [if_neg h]
theorem sgB_some {a : Int} : ∀ {s : SMap}, (sgB s a).isSome = true ↔ a ∈ keysI s
  | [] => ⟨fun h => (by cases h), fun h => (by cases h)⟩
  | p :: s => by
    rw [sgB_cons, keysI_cons, List.mem_cons]
    cases e : eqP a p with
    | true => exact ⟨fun _ => .inl (eqP_iff.1 e), fun _ => rfl⟩
    | false =>
      have e : ¬ a = kP p := fun h => by rw [eqP_iff.2 h] at e; cases e
      simp only
      rw [sgB_some]
      exact ⟨.inr, fun h => h.resolve_left e⟩
theorem sgB_filter (n a : Int) : ∀ s : SMap, sgB (s.filter fun p => decide ((show Int from p.1) < n)) a = if a < n then sgB s a else none
  | [] => by
    show sgB [] a = _
    rw [sgB_nil]
    simp
  | p :: s => by
    by_cases h : kP p < n
    · rw [List.filter_cons_of_pos (p := fun p : El uI × El uX => decide ((show Int from p.1) < n)) (decide_eq_true h), sgB_cons, sgB_cons, sgB_filter n a s]
      cases e : eqP a p with
      | true =>
        rw [← eqP_iff.1 e] at h
        simp only [if_pos h]
      | false => rfl
    · rw [List.filter_cons_of_neg (p := fun p : El uI × El uX => decide ((show Int from p.1) < n)) (by intro hc; exact h (of_decide_eq_true hc)), sgB_filter n a s, sgB_cons]
      cases e : eqP a p with
      | true =>
        rw [← eqP_iff.1 e] at h
        simp only [if_neg h]
      | false => rfl
theorem lastW_filter (n a : Int) : ∀ l : List RW, lastW (l.filter fun w => decide (wAt w < n)) a = if a < n then lastW l a else none
  | [] => by show (none : Option (List UInt8)) = _; split <;> rfl
  | w :: l => by
    by_cases h : wAt w < n
    · rw [List.filter_cons_of_pos (p := fun w : RW => decide (wAt w < n)) (decide_eq_true h), lastW, lastW_filter n a l, lastW]
      by_cases h2 : a < n
      · rw [if_pos h2, if_pos h2]
      · rw [if_neg h2, if_neg h2]
        simp only
        rw [if_neg (fun e : wAt w = a => h2 (e ▸ h))]
    · rw [List.filter_cons_of_neg (p := fun w : RW => decide (wAt w < n)) (by simpa using h), lastW_filter n a l, lastW]
      by_cases h2 : a < n
      · rw [if_pos h2, if_pos h2, if_neg (fun e : wAt w = a => h (e ▸ h2))]
        cases lastW l a <;> rfl
      · rw [if_neg h2, if_neg h2]
/-! ### the relation -/
def toRW (w : El uW) : RW := mkRW (show Int from w.1) (show List UInt8 from w.2)
structure RS (r : RSt) (m : StM) : Prop where
  n : rN r = m.n
  room : rRoom r = m.room
  s0 : 0 ≤ rSafe r
  s1 : rSafe r ≤ ((rL r).length : Nat)
  seen : ∀ a, lastW (rL r) a = sgB m.seen a
  safe : ∀ a, lastW ((rL r).take (rSafe r).toNat) a = sgB m.safe a
  loose : (rL r).drop (rSafe r).toNat = m.loose.map toRW
theorem insideR_eq {n a long : Int} {m : StM} (hn : n = m.n) (hl : 0 ≤ long) (h0 : 0 ≤ m.n) : insideR n a long = m.insideB a long := by
  subst hn
  unfold insideR StM.insideB
  rw [Bool.eq_iff_iff]
  simp only [Bool.and_eq_true, decide_eq_true_eq]
  omega
theorem secR_eq {l : List RW} {s : SMap} (h : ∀ a, lastW l a = sgB s a) (a : Int) : secR l a = secB s a := by
  unfold secR secB secAt
  rw [h]
  rfl
theorem readR_eq {l : List RW} {s : SMap} (h : ∀ a, lastW l a = sgB s a) (a : Int) (k : Nat) : readR l a k = readB s a k := by
  unfold readR readB
  congr 1
  funext i
  exact secR_eq h _
theorem usedTo_count {l : List RW} {s : SMap} (h : ∀ a, lastW l a = sgB s a) (hn : (keysI s).Nodup) (h0 : ∀ k ∈ keysI s, 0 ≤ k) : ∀ k : Nat, usedTo l k = (keysI s).countP fun j => decide (j < ((k : Nat) : Int))
  | 0 => by
    show 0 = _
    rw [eq_comm, List.countP_eq_zero]
    intro j hj hc
    have := h0 j hj
    have := of_decide_eq_true hc
    omega
  | k + 1 => by
    have ih := usedTo_count h hn h0 k
    unfold usedTo
    rw [h, ih]
    have key : ∀ l : List Int, (l.countP fun j => decide (j < ((k + 1 : Nat) : Int))) = (l.countP fun j => decide (j < ((k : Nat) : Int))) + l.count (k : Int) := by
      intro l
      induction l with
      | nil => rfl
      | cons x l ih2 =>
        rw [List.countP_cons, List.countP_cons, List.count_cons, ih2]
        by_cases e1 : x < (k : Int)
        · have h1 : ¬ x = (k : Int) := by omega
          have h2 : x < ((k + 1 : Nat) : Int) := by omega
          rw [if_pos (decide_eq_true h2), if_pos (decide_eq_true e1), if_neg (by simpa using h1)]
          omega
        · by_cases e2 : x = (k : Int)
          · have h2 : x < ((k + 1 : Nat) : Int) := by omega
            rw [if_pos (decide_eq_true h2), if_neg (by rw [decide_eq_false e1]; decide), if_pos (by simpa using e2)]
            omega
          · have h2 : ¬ x < ((k + 1 : Nat) : Int) := by omega
            rw [if_neg (by rw [decide_eq_false h2]; decide), if_neg (by rw [decide_eq_false e1]; decide), if_neg (by simpa using e2)]
            omega
    rw [key]
    cases e : (sgB s (k : Nat)).isSome with
    | true =>
      rw [List.Nodup.count hn, if_pos (sgB_some.1 e)]
    | false =>
      rw [List.count_eq_zero_of_not_mem fun hm => by rw [sgB_some.2 hm] at e; cases e]
      rfl
theorem used_len {l : List RW} {s : SMap} {n : Int} (h : ∀ a, lastW l a = sgB s a) (hs : MapOK n s) (hn : 0 ≤ n) : usedTo l n.toNat = s.length := by
  rw [usedTo_count h hs.nd fun k hk => (hs.rg k hk).1]
  rw [← show (keysI s).length = s.length from List.length_map _]
  refine List.countP_eq_length.2 fun k hk => ?_
  have := (hs.rg k hk).2
  simp
  omega
theorem length_put_in {k : Int} {x : El uX} : ∀ {s : SMap}, k ∈ keysI s → (putI s k x).length = s.length
  | [], h => by cases h
  | p :: s, h => by
    rw [putI_cons]
    cases e : eqP k p with
    | true => rfl
    | false =>
      have e : ¬ k = kP p := fun h => by rw [eqP_iff.2 h] at e; cases e
      rw [keysI_cons] at h
      rcases List.mem_cons.1 h with h | h
      · exact absurd h e
      · simp only [List.length_cons]
        rw [length_put_in h]
theorem length_put_new {k : Int} {x : El uX} : ∀ {s : SMap}, k ∉ keysI s → (putI s k x).length = s.length + 1
  | [], _ => rfl
  | p :: s, h => by
    rw [keysI_cons, List.mem_cons, not_or] at h
    rw [putI_cons, show eqP k p = false from Bool.eq_false_iff.2 fun e => h.1 (eqP_iff.1 e)]
    simp only [List.length_cons]
    rw [length_put_new h.2]
theorem wrS_succ (a : Int) (b : List UInt8) (s : SMap) (k : Nat) : wrS a b s (k + 1) = putI (wrS a b s k) (a + (k : Nat)) (chunk b k) := rfl
theorem wrS_keys {a : Int} {b : List UInt8} {s : SMap} {j : Int} : ∀ k : Nat, j ∈ keysI (wrS a b s k) ↔ j ∈ keysI s ∨ ∃ i : Nat, i < k ∧ j = a + i
  | 0 => by
    show j ∈ keysI s ↔ _
    simp
  | k + 1 => by
    rw [wrS_succ, mem_keys_put, wrS_keys k]
    constructor
    · rintro (h | h | ⟨i, hi, h⟩)
      · exact .inr ⟨k, by omega, h⟩
      · exact .inl h
      · exact .inr ⟨i, by omega, h⟩
    · rintro (h | ⟨i, hi, h⟩)
      · exact .inr (.inl h)
      · rcases Nat.lt_or_ge i k with h4 | h4
        · exact .inr (.inr ⟨i, h4, h⟩)
        · have : i = k := by omega
          subst this
          exact .inl h
theorem wrS_length (a : Int) (b : List UInt8) (s : SMap) : ∀ k : Nat, (wrS a b s k).length = s.length + freshN s a k
  | 0 => rfl
  | k + 1 => by
    have ih := wrS_length a b s k
    rw [wrS_succ]
    unfold freshN
    have hk : (a + (k : Nat)) ∈ keysI (wrS a b s k) ↔ (a + (k : Nat)) ∈ keysI s := by
      rw [wrS_keys]
      constructor
      · rintro (h | ⟨i, hi, h⟩)
        · exact h
        · omega
      · exact .inl
    cases e : (mget s (a + (k : Nat) : Int)).isSome with
    | true =>
      rw [length_put_in (hk.2 (sgB_some.1 e)), ih]
    | false =>
      have hne : (a + (k : Nat)) ∉ keysI (wrS a b s k) := fun hm => by
        rw [show (mget s (a + (k : Nat) : Int)).isSome = true from sgB_some.2 (hk.1 hm)] at e
        cases e
      rw [length_put_new hne, ih]
      rfl
theorem wr_rel {a : Int} {b : List UInt8} {l : List RW} {s : SMap} (h : ∀ x, lastW l x = sgB s x) : ∀ (k : Nat) (x : Int), lastW (wrR a b l k) x = sgB (wrS a b s k) x
  | 0, x => h x
  | k + 1, x => by
    rw [wrS_succ, sgB_put, wrR, lastW_snoc, wr_rel h k x]
    show (if a + (k : Nat) = x then some (chunkR b k) else _) = _
    rw [chunkR_eq]
    rfl
theorem wr_drop {a : Int} {b : List UInt8} {l : List RW} {s : Nat} (hs : s ≤ l.length) : ∀ (k : Nat) (L : List (El uW)), l.drop s = L.map toRW → (wrR a b l k).drop s = (wrL a b L k).map toRW
  | 0, L, h => h
  | k + 1, L, h => by
    have hl := wrR_length a b l k
    rw [wrR, List.drop_append_of_le_length (by omega), wr_drop hs k L h, wrL, List.map_append]
    show _ ++ [mkRW (a + (k : Nat)) (chunkR b k)] = _ ++ [mkRW (a + (k : Nat)) (chunkL b k)]
    rw [chunkR_eq]
theorem wr_take {a : Int} {b : List UInt8} {l : List RW} {s : Nat} (hs : s ≤ l.length) : ∀ k : Nat, (wrR a b l k).take s = l.take s
  | 0 => rfl
  | k + 1 => by
    have hl := wrR_length a b l k
    rw [wrR, List.take_append_of_le_length (by omega), wr_take hs k]
theorem RS.write {r : RSt} {m : StM} (h : RS r m) (ho : StOK m) (a : Int) (b : List UInt8) : RS (writeR r a b).1 (m.write a b).1 ∧ (writeR r a b).2 = (m.write a b).2 := by
  unfold writeR StM.write
  cases badLen b with
  | true => exact ⟨h, rfl⟩
  | false =>
    simp only
    rw [insideR_eq h.n (by omega) ho.n0]
    cases hi : m.insideB a (b.length / 16 : Nat) with
    | false => exact ⟨h, rfl⟩
    | true =>
      simp only
      simp only [StM.insideB, Bool.and_eq_true, decide_eq_true_eq] at hi
      obtain ⟨⟨i1, i2⟩, i3⟩ := hi
      have e1 : usedTo (rL r) (rN r).toNat = m.seen.length := by rw [h.n]; exact used_len h.seen ho.seen ho.n0
      have hok : MapOK m.n (wrS a b m.seen (b.length / 16)) := wrS_ok i1 ho.seen _ (by omega) (by omega)
      have e2 : usedTo (wrR a b (rL r) (b.length / 16)) (rN r).toNat = m.seen.length + freshN m.seen a (b.length / 16) := by
        rw [h.n, used_len (wr_rel h.seen _) hok ho.n0, wrS_length]
      rw [e1, e2, h.room]
      have e3 : (decide (m.room < (m.seen.length + freshN m.seen a (b.length / 16) : Nat)) && decide (m.seen.length < m.seen.length + freshN m.seen a (b.length / 16))) = m.fullB a (b.length / 16) := by
        unfold StM.fullB
        congr 1
        rw [Bool.eq_iff_iff, decide_eq_true_iff, decide_eq_true_iff]
        omega
      rw [e3]
      have hsl : (rSafe r).toNat ≤ (rL r).length := by have := h.s1; have := h.s0; omega
      cases m.fullB a (b.length / 16) with
      | true => exact ⟨h, rfl⟩
      | false =>
        simp only
        refine ⟨⟨h.n, rfl, h.s0, ?_, wr_rel h.seen _, fun x => ?_, wr_drop hsl _ _ h.loose⟩, trivial⟩
        · show rSafe r ≤ ((wrR a b (rL r) (b.length / 16)).length : Nat)
          rw [wrR_length]
          have := h.s1
          omega
        · show lastW ((wrR a b (rL r) (b.length / 16)).take (rSafe r).toNat) x = _
          rw [wr_take hsl]
          exact h.safe x
/-! The document's store (layer 3): every call keeps the relation; Do. -/
theorem crR_append (s : Int) (keep : List Int) : ∀ (l m : List RW) (i : Nat), crR s keep i (l ++ m) = crR s keep i l ++ crR s keep (i + l.length) m
  | [], m, i => rfl
  | w :: l, m, i => by
    rw [List.cons_append, crR, crR_append s keep l m (i + 1), crR]
    rw [show i + 1 + l.length = i + (w :: l).length by simp; omega]
    cases keptR s keep i <;> rfl
theorem crR_safe (s : Int) (keep : List Int) : ∀ (l : List RW) (i : Nat), ((i + l.length : Nat) : Int) ≤ s → crR s keep i l = l
  | [], _, _ => rfl
  | w :: l, i, h => by
    rw [List.length_cons] at h
    have e : keptR s keep i = true := by
      unfold keptR
      rw [decide_eq_true (show (i : Int) < s by omega)]
      rfl
    unfold crR
    rw [e, crR_safe s keep l (i + 1) (by omega)]
theorem keptR_off (s : Int) (keep : List Int) (h : 0 ≤ s) (k : Nat) : keptR s keep (s.toNat + k) = keep.contains (k : Int) := by
  unfold keptR
  rw [decide_eq_false (show ¬ ((s.toNat + k : Nat) : Int) < s by omega), decide_eq_true (show s ≤ ((s.toNat + k : Nat) : Int) by omega), show ((s.toNat + k : Nat) : Int) - s = (k : Int) by omega]
  simp
theorem cr_rel {s : Int} {keep : List Int} (h0 : 0 ≤ s) : ∀ (l : List (El uW)) (k : Nat) (P : List RW) (S : SMap), (∀ a, lastW P a = sgB S a) → ∀ a, lastW (P ++ crR s keep (s.toNat + k) (l.map toRW)) a = sgB (crashS keep k l S) a
  | [], k, P, S, h, a => by
    rw [List.map_nil, crR, List.append_nil]
    exact h a
  | w :: l, k, P, S, h, a => by
    rw [List.map_cons, crR, keptR_off s keep h0, crashS]
    cases e : keep.contains (k : Int) with
    | true =>
      simp only
      rw [show P ++ toRW w :: crR s keep (s.toNat + k + 1) (l.map toRW) = (P ++ [toRW w]) ++ crR s keep (s.toNat + (k + 1)) (l.map toRW) by rw [List.append_assoc]; rfl]
      refine cr_rel h0 l (k + 1) (P ++ [toRW w]) _ (fun b => ?_) a
      rw [lastW_snoc, h b]
      exact (sgB_put (show Int from w.1) w.2 b S).symm
    | false =>
      simp only
      exact cr_rel h0 l (k + 1) P S h a
theorem RS.crash {r : RSt} {m : StM} (h : RS r m) (keep : List Int) : RS (crashR r keep) (m.crash keep) := by
  have h0 := h.s0
  have h1 := h.s1
  have e : crR (rSafe r) keep 0 (rL r) = (rL r).take (rSafe r).toNat ++ crR (rSafe r) keep ((rSafe r).toNat + 0) (m.loose.map toRW) := by
    conv => lhs; rw [← List.take_append_drop (rSafe r).toNat (rL r)]
    have hlen : ((rL r).take (rSafe r).toNat).length = (rSafe r).toNat := by rw [List.length_take]; omega
    rw [crR_append, crR_safe _ _ _ 0 (by rw [hlen]; omega), hlen, ← h.loose, Nat.zero_add, Nat.add_zero]
  have key : ∀ a, lastW (crR (rSafe r) keep 0 (rL r)) a = sgB (crashS keep 0 m.loose m.safe) a := fun a => by
    rw [e]
    exact cr_rel h0 m.loose 0 _ _ h.safe a
  refine ⟨h.n, h.room, ?_, ?_, key, fun a => ?_, ?_⟩
  · show (0 : Int) ≤ ((crR (rSafe r) keep 0 (rL r)).length : Nat)
    omega
  · exact Int.le_refl _
  · show lastW ((crR (rSafe r) keep 0 (rL r)).take (((crR (rSafe r) keep 0 (rL r)).length : Nat) : Int).toNat) a = _
    rw [Int.toNat_natCast, List.take_length]
    exact key a
  · show (crR (rSafe r) keep 0 (rL r)).drop (((crR (rSafe r) keep 0 (rL r)).length : Nat) : Int).toNat = _
    rw [Int.toNat_natCast, List.drop_length]
    rfl
theorem RS.resize {r : RSt} {m : StM} (h : RS r m) (n : Int) : RS (resizeR r n) (m.resize n) := by
  have key : ∀ a, lastW ((rL r).filter fun w => decide (wAt w < n)) a = sgB (m.seen.filter fun p => decide ((show Int from p.1) < n)) a := fun a => by
    rw [lastW_filter, sgB_filter, h.seen a]
  refine ⟨rfl, h.room, ?_, ?_, key, fun a => ?_, ?_⟩
  · show (0 : Int) ≤ (((rL r).filter fun w => decide (wAt w < n)).length : Nat)
    omega
  · exact Int.le_refl _
  · show lastW (((rL r).filter fun w => decide (wAt w < n)).take ((((rL r).filter fun w => decide (wAt w < n)).length : Nat) : Int).toNat) a = _
    rw [Int.toNat_natCast, List.take_length]
    exact key a
  · show ((rL r).filter fun w => decide (wAt w < n)).drop ((((rL r).filter fun w => decide (wAt w < n)).length : Nat) : Int).toNat = _
    rw [Int.toNat_natCast, List.drop_length]
    rfl
def flushR (r : RSt) : RSt := mkRS (rN r) (rRoom r) (rL r) ((rL r).length : Nat)
theorem RS.flush {r : RSt} {m : StM} (h : RS r m) : RS (flushR r) m.flush := by
  refine ⟨h.n, h.room, ?_, ?_, h.seen, fun a => ?_, ?_⟩
  · show (0 : Int) ≤ ((rL r).length : Nat)
    omega
  · exact Int.le_refl _
  · show lastW ((rL r).take (((rL r).length : Nat) : Int).toNat) a = _
    rw [Int.toNat_natCast, List.take_length]
    exact h.seen a
  · show (rL r).drop (((rL r).length : Nat) : Int).toNat = _
    rw [Int.toNat_natCast, List.drop_length]
    rfl
def roomR (r : RSt) (n : Int) : RSt := mkRS (rN r) n (rL r) (rSafe r)
theorem RS.setRoom {r : RSt} {m : StM} (h : RS r m) (n : Int) : RS (roomR r n) { m with room := n } := ⟨h.n, rfl, h.s0, h.s1, h.seen, h.safe, h.loose⟩
theorem RS.new (n room : Int) : RS (mkRS n room [] 0) ⟨n, room, [], [], []⟩ := ⟨rfl, rfl, Int.le_refl _, Int.le_refl _, fun _ => rfl, fun _ => rfl, rfl⟩
/-! ### a call -/
def opR (r : RSt) (o : Op3) : RSt × List UInt8 × Int :=
  if oKind o = 0 then ((writeR r (oAt o) (oB o)).1, [], (writeR r (oAt o) (oB o)).2)
  else if oKind o = 1 then (r, (readO r (oAt o) (oN o)).1, (readO r (oAt o) (oN o)).2)
  else if oKind o = 2 then (flushR r, [], 0)
  else if oKind o = 3 then (crashR r (oKeep o), [], 0)
  else if oKind o = 4 then ((match srightN (oN o) with | true => resizeR r (oN o) | false => r), [], (match srightN (oN o) with | true => 0 | false => 1))
  else if oKind o = 5 then (roomR r (max (oN o) 0), [], 0)
  else (r, [], 0)
theorem readO_eq {r : RSt} {m : StM} (h : RS r m) (ho : StOK m) (a n : Int) : readO r a n = if n < 0 then ([], (1 : Int)) else match m.insideB a n with
    | true => (readB m.seen a n.toNat, 0)
    | false => ([], 31) := by
  unfold readO
  by_cases hn : n < 0
  · rw [if_pos hn, if_pos hn]
  · rw [if_neg hn, if_neg hn, insideR_eq h.n (by omega) ho.n0]
    cases m.insideB a n with
    | false => rfl
    | true =>
      simp only
      rw [readR_eq h.seen]
theorem RS.op {r : RSt} {m : StM} (h : RS r m) (ho : StOK m) (o : Op3) : RS (opR r o).1 (m.op o).1 ∧ (opR r o).2 = (m.op o).2 := by
  unfold opR StM.op
  split
  · obtain ⟨h1, h2⟩ := h.write ho (oAt o) (oB o)
    exact ⟨h1, by rw [h2]⟩
  split
  · rw [readO_eq h ho]
    split
    · exact ⟨h, rfl⟩
    · cases m.insideB (oAt o) (oN o) <;> exact ⟨h, rfl⟩
  split
  · exact ⟨h.flush, rfl⟩
  split
  · exact ⟨h.crash _, rfl⟩
  split
  · cases srightN (oN o) with
    | true => exact ⟨h.resize _, rfl⟩
    | false => exact ⟨h, rfl⟩
  split
  · exact ⟨h.setRoom _, rfl⟩
  · exact ⟨h, rfl⟩
/-- What a document's store is as. -/
structure ROK (r : RSt) (W : Nat) : Prop where
  wf : WfR (rL r)
  len : (rL r).length ≤ W
theorem ROK.mono {r : RSt} {W W' : Nat} (h : ROK r W) (hw : W ≤ W') : ROK r W' := ⟨h.wf, Nat.le_trans h.len hw⟩
theorem crR_sub (s : Int) (keep : List Int) : ∀ (l : List RW) (i : Nat), ∀ w ∈ crR s keep i l, w ∈ l
  | [], _, w, h => by cases h
  | v :: l, i, w, h => by
    unfold crR at h
    split at h
    · rcases List.mem_cons.1 h with rfl | h
      · exact List.mem_cons_self ..
      · exact List.mem_cons_of_mem _ (crR_sub s keep l (i + 1) w h)
    · exact List.mem_cons_of_mem _ (crR_sub s keep l (i + 1) w h)
theorem wrR_wf {a : Int} {b : List UInt8} {l : List RW} (h : WfR l) : ∀ k : Nat, 16 * k ≤ b.length → WfR (wrR a b l k)
  | 0, _ => h
  | k + 1, hk => fun w hw => by
    rw [wrR, List.mem_append, List.mem_singleton] at hw
    rcases hw with hw | rfl
    · exact wrR_wf h k (by omega) w hw
    · show (chunkR b k).length = 16
      rw [chunkR_eq, chunkL_eq, List.length_take, List.length_drop]
      omega
theorem ROK.op {r : RSt} {W : Nat} (h : ROK r W) (o : Op3) : ROK (opR r o).1 (W + (oB o).length) := by
  have hb : W ≤ W + (oB o).length := by omega
  unfold opR
  split
  · unfold writeR
    split
    · exact h.mono hb
    · split
      · exact h.mono hb
      · split
        · exact h.mono hb
        · refine ⟨wrR_wf h.wf _ (by omega), ?_⟩
          show (wrR (oAt o) (oB o) (rL r) ((oB o).length / 16)).length ≤ _
          rw [wrR_length]
          have := h.len
          omega
  split
  · exact h.mono hb
  split
  · exact ⟨h.wf, Nat.le_trans h.len hb⟩
  split
  · refine ⟨fun w hw => h.wf w (crR_sub _ _ _ _ w hw), ?_⟩
    exact Nat.le_trans (crR_len (rSafe r) (oKeep o) (rL r) 0) (Nat.le_trans h.len hb)
  split
  · split
    · refine ⟨fun w hw => h.wf w (List.mem_filter.1 hw).1, ?_⟩
      exact Nat.le_trans (List.length_filter_le _ (rL r)) (Nat.le_trans h.len hb)
    · exact h.mono hb
  split
  · exact ⟨h.wf, Nat.le_trans h.len hb⟩
  · exact h.mono hb
set_option maxHeartbeats 1000000 in
theorem rdo_fn (r : RSt) (o : Op3) {W : Nat} (h : ROK r W) (hW : W ≤ 536870912) (h0 : 0 ≤ rN r) (h1 : rN r ≤ 4096) (hs : 0 ≤ rSafe r) (hs1 : rSafe r ≤ ((rL r).length : Nat)) (hb : (oB o).length ≤ 536870912) (hk : (oKeep o).length ≤ 1073741824) :
    Fn Try.prog 99 [rsV r, op3V o] [] [] (.tup [.agg (rsL (opR r o).1), .one (.d (.str (opR r o).2.1)), vErr (opR r o).2.2]) [] := by
  have hl := h.len
  refine Fn.of tblOK [] _ _ _ _ _ Try.func99 rfl rfl (by kernel_rfl) (by kernel_rfl) rfl (drawOK tblOK) rfl ?_
  refine ⟨rfl, ?_⟩
  refine ⟨rfl, ?_⟩
  refine ⟨rfl, ?_⟩
  refine ⟨fun c0 => ?_, fun c0 => ?_⟩
  · have c0 : oKind o = 0 := of_decide_eq_true c0
    have e : opR r o = ((writeR r (oAt o) (oB o)).1, [], (writeR r (oAt o) (oB o)).2) := if_pos c0
    rw [e]
    refine ⟨_, _, _, _, rwrite_fn r (oAt o) (oB o) (by omega) hb h0 h1, trivial, rfl, ?_⟩
    exact ⟨_, _, _, Le.refl _ _, rfl, ⟨⟨rfl, rfl, rfl, rfl, trivial⟩, rfl, rfl, trivial⟩, trivial, rfl⟩
  have c0 : oKind o ≠ 0 := of_decide_eq_false c0
  refine ⟨fun c1 => ?_, fun c1 => ?_⟩
  · have c1 : oKind o = 1 := of_decide_eq_true c1
    have e : opR r o = (r, (readO r (oAt o) (oN o)).1, (readO r (oAt o) (oN o)).2) := (if_neg c0).trans (if_pos c1)
    rw [e]
    refine ⟨_, _, _, _, rread_fn r (oAt o) (oN o) (by omega) h0 h1 h.wf, trivial, rfl, ?_⟩
    exact ⟨_, _, _, Le.refl _ _, rfl, ⟨⟨rfl, rfl, rfl, rfl, trivial⟩, rfl, rfl, trivial⟩, trivial, rfl⟩
  have c1 : oKind o ≠ 1 := of_decide_eq_false c1
  refine ⟨fun c2 => ?_, fun c2 => ?_⟩
  · have c2 : oKind o = 2 := of_decide_eq_true c2
    have e : opR r o = (flushR r, [], 0) := (if_neg c0).trans ((if_neg c1).trans (if_pos c2))
    rw [e]
    exact ⟨_, _, _, Le.refl _ _, rfl, ⟨⟨rfl, rfl, rfl, rfl, trivial⟩, rfl, rfl, trivial⟩, trivial, rfl⟩
  have c2 : oKind o ≠ 2 := of_decide_eq_false c2
  refine ⟨fun c3 => ?_, fun c3 => ?_⟩
  · have c3 : oKind o = 3 := of_decide_eq_true c3
    have e : opR r o = (crashR r (oKeep o), [], 0) := (if_neg c0).trans ((if_neg c1).trans ((if_neg c2).trans (if_pos c3)))
    rw [e]
    refine ⟨_, _, _, _, rcrash_fn r (oKeep o) (by omega) hk hs (by omega), trivial, rfl, ?_⟩
    exact ⟨_, _, _, Le.refl _ _, rfl, ⟨⟨rfl, rfl, rfl, rfl, trivial⟩, rfl, rfl, trivial⟩, trivial, rfl⟩
  have c3 : oKind o ≠ 3 := of_decide_eq_false c3
  refine ⟨fun c4 => ?_, fun c4 => ?_⟩
  · have c4 : oKind o = 4 := of_decide_eq_true c4
    have e : opR r o = ((match srightN (oN o) with | true => resizeR r (oN o) | false => r), [], (match srightN (oN o) with | true => 0 | false => 1)) := (if_neg c0).trans ((if_neg c1).trans ((if_neg c2).trans ((if_neg c3).trans (if_pos c4))))
    rw [e]
    refine ⟨_, _, _, _, rresize_fn r (oN o) (by omega), trivial, rfl, ?_⟩
    exact ⟨_, _, _, Le.refl _ _, rfl, ⟨⟨rfl, rfl, rfl, rfl, trivial⟩, rfl, rfl, trivial⟩, trivial, rfl⟩
  have c4 : oKind o ≠ 4 := of_decide_eq_false c4
  refine ⟨fun c5 => ?_, fun c5 => ?_⟩
  · have c5 : oKind o = 5 := of_decide_eq_true c5
    have e : opR r o = (roomR r (max (oN o) 0), [], 0) := (if_neg c0).trans ((if_neg c1).trans ((if_neg c2).trans ((if_neg c3).trans ((if_neg c4).trans (if_pos c5)))))
    rw [e]
    refine ⟨fun c6 => ?_, fun c6 => ?_⟩
    · have c6 : oN o < 0 := of_decide_eq_true c6
      have em : max (oN o) 0 = 0 := by omega
      rw [em]
      exact ⟨_, _, _, Le.refl _ _, rfl, ⟨⟨rfl, rfl, rfl, rfl, trivial⟩, rfl, rfl, trivial⟩, trivial, rfl⟩
    · have c6 : ¬ oN o < 0 := of_decide_eq_false c6
      have em : max (oN o) 0 = oN o := by omega
      rw [em]
      exact ⟨_, _, _, Le.refl _ _, rfl, ⟨⟨rfl, rfl, rfl, rfl, trivial⟩, rfl, rfl, trivial⟩, trivial, rfl⟩
  have c5 : oKind o ≠ 5 := of_decide_eq_false c5
  have e : opR r o = (r, [], 0) := (if_neg c0).trans ((if_neg c1).trans ((if_neg c2).trans ((if_neg c3).trans ((if_neg c4).trans (if_neg c5)))))
  rw [e]
  exact ⟨_, _, _, Le.refl _ _, rfl, ⟨⟨rfl, rfl, rfl, rfl, trivial⟩, rfl, rfl, trivial⟩, trivial, rfl⟩
end Go.Proofs.Ythghcdddambaeaa
