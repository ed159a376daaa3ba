/-
  ChainUsers: who uses whom.
-/
import Derived.Test.YtclklmajbnadcaaLy
set_option linter.unusedVariables false
set_option linter.unusedSimpArgs false
set_option maxRecDepth 10000
namespace Go.Proofs.Ytclklmajbnadcaa
open Go.RowKit Go.Proofs
/-! ### counting pairs by either side -/
theorem sum_ind {α : Type} [DecidableEq α] (a : α) : ∀ (A : List α), A.Nodup → (A.map fun x => if a = x then 1 else 0).sum = if a ∈ A then 1 else 0
  | [], _ => rfl
  | x :: A, hn => by
    obtain ⟨n1, n2⟩ := List.nodup_cons.1 hn
    rw [List.map_cons, List.sum_cons, sum_ind a A n2]
    by_cases e : a = x
    · subst e
      rw [if_pos rfl, if_neg n1, if_pos (List.mem_cons_self ..)]
    · rw [if_neg e]
      by_cases m : a ∈ A
      · rw [if_pos m, if_pos (List.mem_cons_of_mem _ m)]
      · rw [if_neg m, if_neg (fun h => (List.mem_cons.1 h).elim e m)]
theorem sum_add {α : Type} (f g : α → Nat) : ∀ A : List α, (A.map fun x => f x + g x).sum = (A.map f).sum + (A.map g).sum
  | [] => rfl
  | x :: A => by
    simp only [List.map_cons, List.sum_cons, sum_add f g A]
    omega
theorem sum_zero {α : Type} : ∀ A : List α, (A.map fun _ => 0).sum = 0
  | [] => rfl
  | x :: A => by rw [List.map_cons, List.sum_cons, sum_zero A]
/-- Whoever is one of B, and is of the right ones, belongs to just one of A. -/
theorem pairs_count {α β : Type} [DecidableEq α] (A : List α) (hA : A.Nodup) (f : β → α) (p : β → Bool) (q : α → β → Bool) (hq : ∀ a b, q a b = true ↔ p b = true ∧ f b = a) : ∀ B : List β, (∀ b, b ∈ B → p b = true → f b ∈ A) → (A.map fun a => (B.filter (q a)).length).sum = (B.filter p).length
  | [], _ => sum_zero A
  | b :: B, hB => by
    have ih := pairs_count A hA f p q hq B fun x hx => hB x (List.mem_cons_of_mem _ hx)
    have e : (fun a => ((b :: B).filter (q a)).length) = fun a => (if p b = true then (if f b = a then 1 else 0) else 0) + (B.filter (q a)).length := funext fun a => by
      rw [List.filter_cons]
      by_cases h : q a b = true
      · obtain ⟨h1, h2⟩ := (hq a b).1 h
        rw [if_pos h, if_pos h1, if_pos h2, List.length_cons, Nat.add_comm]
      · rw [if_neg h]
        by_cases h1 : p b = true
        · rw [if_pos h1, if_neg (fun h2 => h ((hq a b).2 ⟨h1, h2⟩)), Nat.zero_add]
        · rw [if_neg h1, Nat.zero_add]
    rw [e, sum_add, ih, List.filter_cons]
    by_cases h1 : p b = true
    · have e2 : (fun a => if p b = true then (if f b = a then 1 else 0) else 0) = fun a => if f b = a then 1 else 0 := funext fun a => if_pos h1
      rw [e2, sum_ind _ A hA, if_pos (hB b (List.mem_cons_self ..) h1), if_pos h1, List.length_cons, Nat.add_comm]
    · have e2 : (fun a : α => if p b = true then (if f b = a then 1 else 0) else 0) = fun _ => 0 := funext fun a => if_neg h1
      rw [e2, sum_zero, Nat.zero_add, if_neg h1]
/-! ### users -/
def hasB (L : List Dsk) (n : List UInt8) : Bool := !decide ((bkC L n).1 = [])
section
variable {bits room : Nat} {L : List Dsk}
theorem nms_nodup (h : CS bits room L) : (nmsS L).Nodup := by
  unfold nmsS keysS
  exact (List.mergeSort_perm _ _).nodup_iff.2 (by rw [mkeys_chE]; exact h.nms)
theorem nms_mem (h : CS bits room L) {n : List UInt8} : n ∈ nmsS L ↔ (dk L n).isSome = true := by
  constructor
  · intro hn
    obtain ⟨d, hd⟩ := nmsS_mem hn
    rw [hd]
    rfl
  · intro hn
    obtain ⟨d, hd⟩ := Option.isSome_iff_exists.1 hn
    unfold nmsS keysS
    rw [List.mem_mergeSort, mkeys_chE, ← (dk_get hd).2]
    exact List.mem_map_of_mem (dk_get hd).1
theorem bkC_getD (L : List Dsk) (n : List UInt8) : (bkC L n).1 = ((dk L n).map (·.back)).getD [] := by
  unfold bkC
  cases dk L n <;> rfl
theorem usr_one (nm n : List UInt8) : isUsr L nm n = true ↔ hasB L n = true ∧ (bkC L n).1 = nm := by
  unfold isUsr hasB
  rw [bkC_getD]
  simp only [Bool.and_eq_true, Bool.not_eq_true', decide_eq_false_iff_not, decide_eq_true_eq]
  constructor
  · rintro ⟨h1, h2⟩
    exact ⟨by rw [h2]; exact h1, h2⟩
  · rintro ⟨h1, h2⟩
    exact ⟨by rw [← h2]; exact h1, h2⟩
/-- Users of the first k names. -/
def usN (L : List Dsk) (k : Nat) : Nat := (((nmsS L).take k).map fun a => (usrS L a).length).sum
def bkN (L : List Dsk) (k : Nat) : Nat := (((nmsS L).take k).filter (hasB L)).length
theorem usN_succ {k : Nat} (h : k < (nmsS L).length) : usN L (k + 1) = usN L k + (usrS L (nmsS L)[k]).length := by
  unfold usN
  rw [List.take_add_one, List.getElem?_eq_getElem h, List.map_append, List.sum_append]
  rfl
theorem bkN_succ {k : Nat} (h : k < (nmsS L).length) : bkN L (k + 1) = bkN L k + if hasB L (nmsS L)[k] = true then 1 else 0 := by
  unfold bkN
  rw [List.take_add_one, List.getElem?_eq_getElem h, List.filter_append, List.length_append]
  show _ + (List.filter (hasB L) [(nmsS L)[k]]).length = _
  rw [List.filter_cons]
  split <;> rfl
theorem us_all (h : CS bits room L) : usN L (nmsS L).length = bkN L (nmsS L).length := by
  unfold usN bkN
  rw [List.take_length]
  refine pairs_count (nmsS L) (nms_nodup h) (fun n => (bkC L n).1) (hasB L) (isUsr L) (fun a b => usr_one a b) (nmsS L) fun n hn hb => ?_
  obtain ⟨d, hd⟩ := nmsS_mem hn
  have e : (bkC L n).1 = d.back := by unfold bkC; rw [hd]
  have hne : d.back ≠ [] := by
    unfold hasB at hb
    rw [e] at hb
    simpa using hb
  obtain ⟨x, hx⟩ := h.kn d (dk_get hd).1 hne
  show (bkC L n).1 ∈ nmsS L
  rw [e, nms_mem h, hx]
  rfl
theorem us_le (h : CS bits room L) (k : Nat) : usN L k ≤ 1000 := by
  have h1 : usN L k ≤ usN L (nmsS L).length := by
    unfold usN
    rw [List.take_length, List.map_take]
    exact csum_le _ _
  have h2 : bkN L (nmsS L).length ≤ (nmsS L).length := by
    unfold bkN
    rw [List.take_length]
    exact List.length_filter_le _ _
  have h3 := nmsS_len L
  have h4 := h.len
  rw [us_all h] at h1
  omega
theorem bk_le (k : Nat) : bkN L k ≤ (nmsS L).length := by
  unfold bkN
  exact Nat.le_trans (List.length_filter_le _ _) (by rw [List.length_take]; omega)
theorem us_len (h : CS bits room L) (n : List UInt8) : (usrS L n).length ≤ 16 := by
  unfold usrS
  have := nmsS_len L
  have := h.len
  exact Nat.le_trans (List.length_filter_le _ _) (by omega)
theorem us_back (h : CS bits room L) {n u : List UInt8} (hu : u ∈ usrS L n) : bkC L u = (n, 0) := by
  unfold usrS at hu
  obtain ⟨h1, h2⟩ := List.mem_filter.1 hu
  obtain ⟨d, hd⟩ := nmsS_mem h1
  have h3 := ((usr_one n u).1 h2).2
  have e : bkC L u = (d.back, 0) := by unfold bkC; rw [hd]
  rw [e] at h3 ⊢
  rw [show d.back = n from h3]
theorem rm_in_use (h : CS bits room L) {n : List UInt8} (hn : n ∈ nmsS L) (hu : (usrS L n).length > 0) : rmC L n = ⟨143, L⟩ := by
  obtain ⟨d, hd⟩ := nmsS_mem hn
  unfold rmC
  rw [hd]
  simp only
  rw [if_neg]
  intro e
  rw [e] at hu
  exact absurd hu (by decide)
end
@[reducible] def uaK (l : List Cop) (k : Nat) : KL := [(0, vL uC l), (3, vP 1001), (42, vL uC l), (43, vI (l.length : Nat)), (44, vI (k : Nat))]
@[reducible] def uaK2 (N : List (List UInt8)) (n i : Nat) : KL := [(3, vP 1001), (7, vI (n : Nat)), (53, vL .str N), (54, vI (N.length : Nat)), (55, vI (i : Nat))]
@[reducible] def uaK3 (N : List (List UInt8)) (n i : Nat) (nm : List UInt8) (us : List (List UInt8)) (j : Nat) : KL := [(3, vP 1001), (7, vI (n : Nat)), (53, vL .str N), (54, vI (N.length : Nat)), (55, vI (i : Nat)), (9, vS nm), (61, vL .str us), (62, vI (us.length : Nat)), (63, vI (j : Nat))]
@[reducible] def uaK4 (N : List (List UInt8)) (n : Int) (i : Nat) : KL := [(7, vI n), (3, vP 1001), (96, vL .str N), (97, vI (N.length : Nat)), (98, vI (i : Nat))]
set_option maxHeartbeats 1000000 in
theorem chainUsers_fn (l : List Cop) (hl : l.length ≤ 1073741824) (ht : (l.map cTot).sum ≤ 1073741824) : Fn Try.prog 4 [vL uC l] [] [] (vB true) [] := by
  refine Fn.of tblOK [] _ _ _ _ _ Try.func4 rfl rfl (by kernel_rfl) (by kernel_rfl) rfl (drawOK tblOK) rfl ?_
  refine ⟨_, _, _, _, chnew_ok 0 30 (by decide) (by decide), trivial, rfl, ?_⟩
  refine ⟨fun h => absurd h (by decide), fun _ => ?_⟩
  refine ⟨_, _, _, _, few14_fn l hl ht, trivial, rfl, ?_⟩
  refine ⟨fun _ => ?_, fun hf => ?_⟩
  · refine ⟨fun _ => ?_, fun h => absurd h (by decide)⟩
    refine ⟨_, _, _, _, alive14_fn, trivial, rfl, ?_⟩
    exact ⟨_, _, _, Le.refl _ _, rfl, rfl, trivial, rfl⟩
  have hfew : fewO 40 l = true := by
    have hf : (!fewO 40 l) = false := hf
    simpa using hf
  obtain ⟨hll, -, hob⟩ := fewO_get hfew
  show TrQ _ _ _ _ _ _ _
  refine TrQ.loop tblOK (drawOK tblOK) [7] (by kernel_rfl) (X := Nat × List Dsk) (fun x => uaK l x.1) (fun x => chB 0 30 x.2) (fun x => x.1 ≤ l.length ∧ CS 0 30 x.2) (fun x => l.length - x.1) (0, []) ⟨Nat.zero_le _, CS.nil (by decide) (by decide)⟩ ?_ ?_
  · exact Le.sub ⟨rfl, rfl, rfl, rfl, rfl, trivial⟩ ⟨rfl, rfl, rfl, rfl, trivial⟩
  rintro ⟨k, L⟩ ⟨hk, hC⟩
  have hk : k ≤ l.length := hk
  have hC : CS 0 30 L := hC
  refine ⟨fun hc => ?_, fun hc => ?_⟩
  · have hc : decide ((k : Int) < ((l.length : Nat) : Int)) = true := hc
    have hk1 : k < l.length := by have := of_decide_eq_true hc; omega
    have hO := (hob _ (List.getElem_mem hk1)).1
    refine ⟨by omega, l[k], lgAt (n := k) hk1, ?_⟩
    refine ⟨rfl, ?_⟩
    show TrQ _ _ _ _ _ _ _
    refine TrQ.regionX tblOK (by kernel_rfl) ?_
    refine ⟨_, _, _, fun g => _, fun g => _, does14_fn hC l[k] (by omega), ⟨rfl, rfl, rfl, rfl, trivial⟩, rfl, fun _ => rfl, fun g => ?_⟩
    exact ⟨by omega, (k + 1, (doC 0 30 L l[k] g.1).L), ⟨hk1, g.2⟩, by show l.length - (k + 1) < l.length - k; omega, Le.sub ⟨rfl, rfl, rfl, rfl, rfl, trivial⟩ ⟨rfl, rfl, rfl, rfl, trivial⟩⟩
  have hnl := nmsS_len L
  have hL16 := hC.len
  have hnm := fun n => @nmsS_mem L n
  refine ⟨_, _, _, _, chnames_fn hC, ⟨rfl, rfl, rfl, rfl, trivial⟩, rfl, ?_⟩
  show TrQ _ _ _ _ _ _ _
  refine TrQ.loop tblOK (drawOK tblOK) [] (by kernel_rfl) (X := Nat) (fun i => uaK2 (nmsS L) (usN L i) i) (fun _ => chB 0 30 L) (fun i => i ≤ (nmsS L).length) (fun i => (nmsS L).length - i) 0 (Nat.zero_le _) ?_ ?_
  · exact Le.sub ⟨rfl, rfl, rfl, rfl, rfl, trivial⟩ ⟨rfl, rfl, rfl, rfl, trivial⟩
  intro i hi
  refine ⟨fun hc => ?_, fun hc => ?_⟩
  · have hc : decide ((i : Int) < (((nmsS L).length : Nat) : Int)) = true := hc
    have hi1 : i < (nmsS L).length := by have := of_decide_eq_true hc; omega
    have hsu := usN_succ (L := L) hi1
    have hget := lgAt (n := i) hi1
    have hmem := List.getElem_mem hi1
    generalize hx : (nmsS L)[i] = nm at *
    refine ⟨by omega, nm, hget, ?_⟩
    refine ⟨_, _, _, _, chusers_fn hC nm, ⟨rfl, rfl, rfl, rfl, trivial⟩, rfl, ?_⟩
    have hul := us_len hC nm
    have hu1 := us_le hC (i + 1)
    show TrQ _ _ _ _ _ _ _
    refine TrQ.loop tblOK (drawOK tblOK) [] (by kernel_rfl) (X := Nat) (fun j => uaK3 (nmsS L) (usN L i + j) i nm (usrS L nm) j) (fun _ => chB 0 30 L) (fun j => j ≤ (usrS L nm).length) (fun j => (usrS L nm).length - j) 0 (Nat.zero_le _) ?_ ?_
    · exact Le.sub ⟨rfl, rfl, rfl, rfl, rfl, rfl, rfl, rfl, rfl, trivial⟩ ⟨rfl, rfl, rfl, rfl, trivial⟩
    intro j hj
    refine ⟨fun hc => ?_, fun hc => ?_⟩
    · have hc : decide ((j : Int) < (((usrS L nm).length : Nat) : Int)) = true := hc
      have hj1 : j < (usrS L nm).length := by have := of_decide_eq_true hc; omega
      have hbk := us_back hC (List.getElem_mem hj1)
      have hget2 := lgAt (n := j) hj1
      generalize hy : (usrS L nm)[j] = u at *
      refine ⟨by omega, u, hget2, ?_⟩
      have hcb := chback_fn hC u
      rw [hbk] at hcb
      refine ⟨_, _, _, _, hcb, ⟨rfl, rfl, rfl, rfl, trivial⟩, rfl, ?_⟩
      refine ⟨fun h => absurd (show (!decide ((0 : Int) = 0)) = true from h) (by decide), fun _ => ?_⟩
      refine ⟨fun h => ?_, fun _ => ?_⟩
      · have h : (!decide (nm = nm)) = true := h
        simp at h
      have m : (-9223372036854775808 : Int) ≤ ((usN L i + j : Nat) : Int) + 1 ∧ ((usN L i + j : Nat) : Int) + 1 ≤ 9223372036854775807 := by omega
      refine ⟨m, ?_⟩
      exact ⟨by omega, j + 1, hj1, by omega, Le.sub ⟨rfl, rfl, rfl, rfl, rfl, rfl, rfl, rfl, rfl, trivial⟩ ⟨rfl, rfl, rfl, rfl, trivial⟩⟩
    · have hc : decide ((j : Int) < (((usrS L nm).length : Nat) : Int)) = false := hc
      have hj2 : j = (usrS L nm).length := by have := of_decide_eq_false hc; omega
      subst hj2
      refine ⟨_, _, _, _, chusers_fn hC nm, ⟨rfl, rfl, rfl, rfl, trivial⟩, rfl, ?_⟩
      refine ⟨fun hgt => ?_, fun _ => ?_⟩
      · have hgt : decide ((0 : Int) < (((usrS L nm).length : Nat) : Int)) = true := hgt
        have hrm := rm_in_use hC hmem (by have := of_decide_eq_true hgt; omega)
        have hcr := chremove_fn hC nm
        rw [hrm] at hcr
        refine ⟨_, _, _, _, hcr, ⟨rfl, rfl, rfl, rfl, trivial⟩, rfl, ?_⟩
        refine ⟨fun h => absurd (show (!decide ((143 : Int) = 143)) = true from h) (by decide), fun _ => ?_⟩
        exact ⟨by omega, i + 1, hi1, by omega, Le.sub ⟨rfl, by rw [hsu]; rfl, rfl, rfl, rfl, trivial⟩ ⟨rfl, rfl, rfl, rfl, trivial⟩⟩
      · exact ⟨by omega, i + 1, hi1, by omega, Le.sub ⟨rfl, by rw [hsu]; rfl, rfl, rfl, rfl, trivial⟩ ⟨rfl, rfl, rfl, rfl, trivial⟩⟩
  have hc : decide ((i : Int) < (((nmsS L).length : Nat) : Int)) = false := hc
  have hi2 : i = (nmsS L).length := by have := of_decide_eq_false hc; omega
  subst hi2
  have hall := us_all hC
  refine ⟨_, _, _, _, chnames_fn hC, ⟨rfl, rfl, rfl, rfl, trivial⟩, rfl, ?_⟩
  show TrQ _ _ _ _ _ _ _
  refine TrQ.loop tblOK (drawOK tblOK) [] (by kernel_rfl) (X := Nat) (fun i => uaK4 (nmsS L) ((usN L (nmsS L).length : Nat) - (bkN L i : Nat) : Int) i) (fun _ => chB 0 30 L) (fun i => i ≤ (nmsS L).length) (fun i => (nmsS L).length - i) 0 (Nat.zero_le _) ?_ ?_
  · exact Le.sub ⟨(by show ((usN L (nmsS L).length : Nat) : Int) = (usN L (nmsS L).length : Nat) - ((0 : Nat) : Int); omega), rfl, rfl, rfl, rfl, trivial⟩ ⟨rfl, rfl, rfl, rfl, trivial⟩
  intro i hi
  have hbl := bk_le (L := L) i
  have hul := us_le hC (nmsS L).length
  refine ⟨fun hc => ?_, fun hc => ?_⟩
  · have hc : decide ((i : Int) < (((nmsS L).length : Nat) : Int)) = true := hc
    have hi1 : i < (nmsS L).length := by have := of_decide_eq_true hc; omega
    have hsb := bkN_succ (L := L) hi1
    have hget := lgAt (n := i) hi1
    generalize hx : (nmsS L)[i] = nm at *
    refine ⟨by omega, nm, hget, ?_⟩
    refine ⟨_, _, _, _, chback_fn hC nm, ⟨rfl, rfl, rfl, rfl, trivial⟩, rfl, ?_⟩
    refine ⟨fun hb => ?_, fun hb => ?_⟩
    · have hb : hasB L nm = true := hb
      rw [if_pos hb] at hsb
      have m : (-9223372036854775808 : Int) ≤ ((usN L (nmsS L).length : Nat) - (bkN L i : Nat) : Int) - 1 ∧ ((usN L (nmsS L).length : Nat) - (bkN L i : Nat) : Int) - 1 ≤ 9223372036854775807 := by omega
      refine ⟨m, ?_⟩
      exact ⟨by omega, i + 1, hi1, by omega, Le.sub ⟨(by show ((usN L (nmsS L).length : Nat) - (bkN L i : Nat) : Int) - 1 = (usN L (nmsS L).length : Nat) - (bkN L (i + 1) : Nat); omega), rfl, rfl, rfl, rfl, trivial⟩ ⟨rfl, rfl, rfl, rfl, trivial⟩⟩
    · have hb : hasB L nm = false := hb
      rw [if_neg (by rw [hb]; decide)] at hsb
      exact ⟨by omega, i + 1, hi1, by omega, Le.sub ⟨(by show ((usN L (nmsS L).length : Nat) - (bkN L i : Nat) : Int) = (usN L (nmsS L).length : Nat) - (bkN L (i + 1) : Nat); omega), rfl, rfl, rfl, rfl, trivial⟩ ⟨rfl, rfl, rfl, rfl, trivial⟩⟩
  have hc : decide ((i : Int) < (((nmsS L).length : Nat) : Int)) = false := hc
  have hi2 : i = (nmsS L).length := by have := of_decide_eq_false hc; omega
  subst hi2
  refine ⟨_, _, _, _, alive14_fn, trivial, rfl, ?_⟩
  refine ⟨fun _ => ?_, fun h => absurd h (by decide)⟩
  have hz : ((usN L (nmsS L).length : Nat) - (bkN L (nmsS L).length : Nat) : Int) = 0 := by omega
  exact ⟨_, _, _, Le.refl _ _, rfl, (show decide (((usN L (nmsS L).length : Nat) - (bkN L (nmsS L).length : Nat) : Int) = 0) = true by rw [hz]; rfl), trivial, rfl⟩
end Go.Proofs.Ytclklmajbnadcaa
