/-
  The law ListDrops: the walk.
-/
import Derived.Test.YthghcdddambaeaaLH
set_option linter.unusedVariables false
set_option linter.unusedSimpArgs false
set_option maxRecDepth 10000
namespace Go.Proofs.Ythghcdddambaeaa
open Go.RowKit Go.Proofs

theorem ixL_erase {α : Type} (p : α → Bool) {L : List α} {q k : Nat} (hq : ixL p L = q) (hne : q ≠ k) : ixL p (L.eraseIdx k) = ((if q < k then q else q - 1 : Nat) : Int) := by
  rcases ixL_cases p L with ⟨h, _⟩ | ⟨j, x, h, hx, hp, hlt⟩
  · omega
  · obtain rfl : j = q := by omega
    have hg : ∀ i : Nat, (L.eraseIdx k)[i]? = if i < k then L[i]? else L[i + 1]? := fun i => List.getElem?_eraseIdx ..
    have hx' : (L.eraseIdx k)[if j < k then j else j - 1]? = some x := by
      rw [hg]
      by_cases h1 : j < k
      · rw [if_pos h1, if_pos h1]; exact hx
      · rw [if_neg h1, if_neg (by omega), show j - 1 + 1 = j by omega]; exact hx
    have hlt' := (List.getElem?_eq_some_iff.1 hx').1
    refine ixL_at hlt' (fun i b hi hb => ?_) (by rw [(List.getElem?_eq_some_iff.1 hx').2]; exact hp)
    rw [hg] at hb
    by_cases h1 : j < k
    · rw [if_pos h1] at hi
      rw [if_pos (by omega)] at hb
      exact hlt i b hi hb
    · rw [if_neg h1] at hi
      split at hb
      · exact hlt i b (by omega) hb
      · exact hlt (i + 1) b (by omega) hb
theorem not_par {L : List Bup} {nm : List UInt8} (h : isPar L nm = false) {b : Bup} (hb : b ∈ L) : bPa b ≠ nm := fun e => by
  obtain ⟨i, hi, rfl⟩ := List.getElem_of_mem hb
  rcases ixL_cases (fun b => decide (bPa b = nm)) L with ⟨_, hn⟩ | ⟨k, x, h2, _⟩
  · have := hn i _ (List.getElem?_eq_getElem hi)
    simp [e] at this
  · have : isPar L nm = true := by unfold isPar; rw [h2]; simp
    rw [h] at this
    cases this
theorem dropE_zero {L : List Bup} {nm : List UInt8} (h : dropE L nm = 0) : 0 ≤ fnd L nm ∧ isPar L nm = false := by
  unfold dropE at h
  split at h
  · cases h
  split at h
  · cases h
  · rename_i h1 h2
    exact ⟨by omega, by simpa using h2⟩
theorem dropL_inv {L : List Bup} (hI : InvL L) (nm : List UInt8) : InvL (dropL L nm) := by
  unfold dropL
  split
  · rename_i hE
    obtain ⟨h1, h2⟩ := dropE_zero hE
    obtain ⟨k, hk⟩ : ∃ k : Nat, fnd L nm = k := ⟨(fnd L nm).toNat, by omega⟩
    rw [hk, Int.toNat_natCast]
    refine ⟨Nat.le_trans (List.length_eraseIdx_le _ _) hI.len, fun b hb => hI.right b (List.mem_of_mem_eraseIdx hb), fun k' b hb hp => ?_⟩
    have hbm : b ∈ L := List.mem_of_mem_eraseIdx (List.mem_of_getElem? hb)
    have hne := not_par h2 hbm
    rw [List.getElem?_eraseIdx] at hb
    obtain ⟨j, hj, hjk⟩ : ∃ j, L[j]? = some b ∧ ((k' < k ∧ j = k') ∨ (k ≤ k' ∧ j = k' + 1)) := by
      split at hb
      · exact ⟨k', hb, .inl ⟨by omega, rfl⟩⟩
      · exact ⟨k' + 1, hb, .inr ⟨by omega, rfl⟩⟩
    obtain ⟨p1, p2⟩ := hI.par j b hj hp
    obtain ⟨q, hq⟩ : ∃ q : Nat, fnd L (bPa b) = q := ⟨(fnd L (bPa b)).toNat, by omega⟩
    have hqk : q ≠ k := fun e => by
      subst e
      have a1 := lgetI_find L (bPa b)
      have a2 := lgetI_find L nm
      rw [hq] at a1
      rw [hk] at a2
      obtain ⟨x, hx⟩ := find_there (L := L) (nm := nm) (by omega)
      rw [hx] at a2
      rw [a2] at a1
      have b1 := List.find?_some hx
      have b2 := List.find?_some a1.symm
      simp only [decide_eq_true_eq] at b1 b2
      exact hne (b2.symm.trans b1)
    have he : fnd (L.eraseIdx k) (bPa b) = ((if q < k then q else q - 1 : Nat) : Int) := ixL_erase _ hq hqk
    rw [he]
    split <;> omega
  · exact hI
/-- All others are restored as they were. -/
theorem drop_stays {L : List Bup} (hI : InvL L) {nm nm' : List UInt8} (h : ¬ (nm' = nm ∧ dropE L nm = 0)) : restL (dropL L nm) nm' = restL L nm' ∧ restE (dropL L nm) nm' = restE L nm' := by
  unfold dropL
  split
  · rename_i hE
    have hn : nm' ≠ nm := fun e => h ⟨e, hE⟩
    obtain ⟨h1, h2⟩ := dropE_zero hE
    obtain ⟨x, hx⟩ := find_there h1
    have hxm : (fnd L nm).toNat < L.length ∧ L[(fnd L nm).toNat]? = some x := by
      have a2 := lgetI_find L nm
      unfold lgetI at a2
      rw [if_pos h1, hx] at a2
      exact ⟨(List.getElem?_eq_some_iff.1 a2).1, a2⟩
    have b1 := List.find?_some hx
    simp only [decide_eq_true_eq] at b1
    have hf : ∀ nm', nm' ≠ nm → (L.eraseIdx (fnd L nm).toNat).find? (fun b => decide (bNm b = nm')) = L.find? (fun b => decide (bNm b = nm')) := fun nm' hn =>
      find_erase _ L _ x hxm.2 (by rw [b1]; simpa using fun e => hn e.symm)
    have hlt := fnd_lt L nm'
    have hl : (L.eraseIdx (fnd L nm).toNat).length = L.length - 1 := List.length_eraseIdx_of_lt hxm.1
    refine ⟨?_, ?_⟩
    · unfold restL
      rw [restB_find nm hf (fun b hb => not_par h2 hb) _ nm' hn]
      exact restB_fuel hI _ _ _ (by omega) (by omega)
    · unfold restE
      have e : fnd (L.eraseIdx (fnd L nm).toNat) nm' < 0 ↔ fnd L nm' < 0 := by rw [fnd_neg_iff, fnd_neg_iff, hf nm' hn]
      rw [show decide (fnd (L.eraseIdx (fnd L nm).toNat) nm' < 0) = decide (fnd L nm' < 0) from decide_eq_decide.2 e]
  · exact ⟨rfl, rfl⟩
/-- The document's list behind calls. -/
def rOp (r : List RBup) (o : LOp) : List RBup := if decide (oKind o = 0) = true then addR r (oB o) else r
theorem rOp_map (r : List RBup) (o : LOp) : (rOp r o).map ownOf = addOp (r.map ownOf) o := by
  unfold rOp addOp
  split
  · exact addR_map r _
  · rfl
theorem rOps_inv (l : List LOp) : ∀ r : List RBup, InvP (r.map ownOf) → InvP ((l.foldl rOp r).map ownOf) := by
  induction l with
  | nil => exact fun r h => h
  | cons o l ih =>
    refine fun r h => ih _ ?_
    rw [rOp_map]
    unfold addOp
    split
    · exact h.add _
    · exact h
def parR (r : List RBup) (nm : List UInt8) : Bool := r.any fun b => decide (rPa b = nm)
theorem parR_eq (r : List RBup) (nm : List UInt8) : parR r nm = isPar (r.map ownOf) nm := by
  unfold parR isPar
  rw [ixL_map]
  rcases ixL_cases (fun x => decide (bPa (ownOf x) = nm)) r with ⟨h, hn⟩ | ⟨k, x, h, hx, hp, _⟩
  · rw [h, List.any_eq_false.2 fun x hx => by
      obtain ⟨i, hi, rfl⟩ := List.getElem_of_mem hx
      have := hn i _ (List.getElem?_eq_getElem hi)
      exact fun h2 => by have this : decide (rPa r[i] = nm) = false := this; rw [this] at h2; cases h2]
    rfl
  · rw [h, List.any_eq_true.2 ⟨x, List.mem_of_getElem? hx, hp⟩]
    simp
@[reducible] def drK1 (l : List LOp) (nm : List UInt8) (r : List RBup) (k : Nat) : KL := [(1, vS nm), (5, vP 1001), (6, vL uRB r), (34, vL uLO l), (35, vI (l.length : Nat)), (36, vI (k : Nat))]
@[reducible] def drK2 (nm : List UInt8) (r : List RBup) (p : Bool) (k : Nat) : KL := [(1, vS nm), (5, vP 1001), (6, vL uRB r), (11, vB p), (57, vL uRB r), (58, vI (r.length : Nat)), (59, vI (k : Nat))]
@[reducible] def drK3 (nm : List UInt8) (r : List RBup) (e : Int) (k : Nat) : KL := [(1, vS nm), (5, vP 1001), (6, vL uRB r), (14, vI e), (85, vL uRB r), (86, vI (r.length : Nat)), (87, vI (k : Nat))]
set_option maxRecDepth 100000 in
set_option maxHeartbeats 4000000 in
theorem ldrops_spec (l : List LOp) (nm : List UInt8) (hl : l.length ≤ 1000000) (hc : costs l ≤ 1000000000) (hks : ∀ o, o ∈ l → (fKs (oF o)).length ≤ 1000000) : Fn Try.prog 4 [vL uLO l, vS nm] [] [] (vB true) [] := by
  refine Fn.of tblOK [] _ _ _ _ _ Try.func4 rfl rfl (by kernel_rfl) (by kernel_rfl) rfl (drawOK tblOK) rfl ?_
  refine ⟨_, _, _, _, new_spec, trivial, rfl, ?_⟩
  refine ⟨_, _, _, _, few_spec l hl hc hks, trivial, rfl, ?_⟩
  refine ⟨fun h => ?_, fun h1 => ?_⟩
  · refine ⟨_, _, _, _, alive_spec, trivial, rfl, ?_⟩
    exact ⟨_, _, _, Le.refl _ _, rfl, rfl, trivial, rfl⟩
  have hf1 : fewB l = true := by simpa using h1
  have hc1 : costs l ≤ 4000 := by
    unfold fewB at hf1
    simp only [Bool.and_eq_true, decide_eq_true_eq] at hf1
    exact hf1.2
  show TrQ _ _ _ _ _ _ _
  refine TrQ.loop tblOK (drawOK tblOK) [] (by kernel_rfl) (X := Nat) (fun k => drK1 l nm ((l.take k).foldl rOp []) k) (fun k => lstR 1002 (((l.take k).foldl rOp []).map ownOf)) (fun k => k ≤ l.length) (fun k => l.length - k) 0 (Nat.zero_le _) ?_ ?_
  · exact Le.sub ⟨rfl, rfl, rfl, rfl, rfl, rfl, trivial⟩ ⟨rfl, rfl, trivial⟩
  intro k hk
  refine ⟨fun h => ?_, fun h => ?_⟩
  · have hk1 : k < l.length := by simpa using h
    obtain ⟨s1, s2, s3⟩ := cost_small (List.getElem_mem hk1) hc1
    have hI := rOps_inv (l.take k) [] InvP.nil
    have hs := foldl_step rOp [] hk1
    generalize List.foldl rOp [] (l.take k) = r at *
    have hlen := hI.len
    rw [List.length_map] at hlen
    refine ⟨by omega, l[k], lget_at rfl hk1, rfl, ?_⟩
    have hm := rOp_map r l[k]
    generalize l[k] = o at *
    have hrp : ∀ p, p ∈ rPc (oB o) → (rB p).length ≤ 4294967296 := fun p hp => by have := s3 p hp; omega
    refine ⟨fun h => ?_, fun h => ?_⟩
    · refine ⟨_, _, _, _, addR_spec r (oB o) (by omega) (Nat.le_trans s1 (by decide)) (by omega) hrp, trivial, rfl, ?_⟩
      refine ⟨_, _, _, _, own_spec (oB o) (by omega) hrp, trivial, rfl, ?_⟩
      refine ⟨_, _, _, _, add_spec (r.map ownOf) (ownOf (oB o)) (by rw [List.length_map]; omega) (Nat.le_trans s1 (by decide)) (by
        show ((rPc (oB o)).map pieOf).length ≤ 1000000
        rw [List.length_map]; omega) (fun p hp => by
        obtain ⟨q, hq, rfl⟩ := List.mem_map.1 hp
        exact Nat.le_trans (s3 q hq) (by decide)), ⟨rfl, rfl, trivial⟩, rfl, ?_⟩
      have e1 : rOp r o = addR r (oB o) := by unfold rOp; rw [if_pos h]
      rw [e1] at hs hm
      rw [addR_map] at hm
      refine ⟨by omega, k + 1, hk1, by omega, ?_⟩
      rw [hs]
      refine Le.trans (Le.sub (K' := drK1 l nm (addR r (oB o)) (k + 1)) (B' := lstR 1003 ((addR r (oB o)).map ownOf)) ⟨rfl, rfl, rfl, rfl, rfl, rfl, trivial⟩ ⟨rfl, ?_, trivial⟩) (Le.ren 1003 1002 rfl)
      rw [addR_map]
      rfl
    · have e1 : rOp r o = r := by unfold rOp; rw [if_neg (by rw [show decide (oKind o = 0) = false from h]; simp)]
      rw [e1] at hs
      refine ⟨by omega, k + 1, hk1, by omega, ?_⟩
      rw [hs]
      exact Le.sub ⟨rfl, rfl, rfl, rfl, rfl, rfl, trivial⟩ ⟨rfl, rfl, trivial⟩
  have hk1 : k = l.length := by have : ¬ k < l.length := by simpa using h
                                omega
  subst hk1
  rw [List.take_length]
  have hI := rOps_inv l [] InvP.nil
  generalize List.foldl rOp [] l = r at *
  have hlen := hI.len
  rw [List.length_map] at hlen
  show TrQ _ _ _ _ _ _ _
  refine TrQ.loop tblOK (drawOK tblOK) [] (by kernel_rfl) (X := Nat) (fun k => drK2 nm r (parR (r.take k) nm) k) (fun _ => lstR 1002 (r.map ownOf)) (fun k => k ≤ r.length) (fun k => r.length - k) 0 (Nat.zero_le _) ?_ ?_
  · exact Le.sub ⟨rfl, rfl, rfl, rfl, rfl, rfl, rfl, trivial⟩ ⟨rfl, rfl, trivial⟩
  intro k hk
  refine ⟨fun h => ?_, fun h => ?_⟩
  · have hk1 : k < r.length := by simpa using h
    have ht : parR (r.take (k + 1)) nm = (parR (r.take k) nm || decide (rPa r[k] = nm)) := any_take _ hk1
    refine ⟨by omega, r[k], lget_at rfl hk1, rfl, ?_⟩
    refine ⟨fun h => ?_, fun h => ?_⟩
    · refine ⟨by omega, k + 1, hk1, by omega, ?_⟩
      rw [ht]
      refine Le.sub ⟨rfl, rfl, rfl, ?_, rfl, rfl, rfl, trivial⟩ ⟨rfl, rfl, trivial⟩
      show true = _
      rw [show parR (r.take k) nm = true from h]; rfl
    · refine ⟨by omega, k + 1, hk1, by omega, ?_⟩
      rw [ht]
      refine Le.sub ⟨rfl, rfl, rfl, ?_, rfl, rfl, rfl, trivial⟩ ⟨rfl, rfl, trivial⟩
      show _ = (_ : Bool)
      rw [show parR (r.take k) nm = false from h]; rfl
  have hk1 : k = r.length := by have : ¬ k < r.length := by simpa using h
                                omega
  subst hk1
  rw [List.take_length]
  have hpe := parR_eq r nm
  generalize hpv : parR r nm = pv at *
  have hD := drop_spec (r.map ownOf) nm (by rw [List.length_map]; omega)
  have hI2 := dropL_inv hI.toInvL nm
  have hst := fun nm' h => drop_stays hI.toInvL (nm := nm) (nm' := nm') h
  have hEv : dropE (r.map ownOf) nm = if fnd (r.map ownOf) nm < 0 then 181 else if pv = true then 1 else 0 := by rw [hpe]; rfl
  have hF := findR_spec r nm (by omega)
  generalize dropE (r.map ownOf) nm = e at *
  generalize dropL (r.map ownOf) nm = L' at *
  generalize fnd (r.map ownOf) nm = f at *
  refine ⟨_, _, _, _, hD, ⟨rfl, rfl, trivial⟩, rfl, ?_⟩
  refine ⟨_, _, _, _, hF, trivial, rfl, ?_⟩
  have key : decide (e = 0) = (decide (0 ≤ f) && !pv) := by
    rw [hEv]
    by_cases h1 : f < 0
    · rw [if_pos h1]; simp; omega
    · rw [if_neg h1]
      cases pv <;> simp <;> omega
  refine ⟨fun h => ?cA, fun h => ?cB⟩
  case' cA =>
    refine ⟨fun h2 => absurd (show (!(decide (e = 0) == !pv)) = true from h2) (by rw [key, show decide (0 ≤ f) = true from h]; simp), fun h2 => ?_⟩
  case' cB =>
    refine ⟨fun h2 => absurd (show (!(decide (e = 0) == false)) = true from h2) (by rw [key, show decide (0 ≤ f) = false from h]; simp), fun h2 => ?_⟩
  all_goals
    clear h h2 key hEv hF hD hpv hpe
    show TrQ _ _ _ _ _ _ _
    refine TrQ.loop tblOK (drawOK tblOK) [] (by kernel_rfl) (X := Nat) (drK3 nm r e) (fun _ => lstR 1003 L') (fun k => k ≤ r.length) (fun k => r.length - k) 0 (Nat.zero_le _) ?_ ?_
    · exact Le.sub ⟨rfl, rfl, rfl, rfl, rfl, rfl, rfl, trivial⟩ ⟨rfl, rfl, trivial⟩
    intro k hk
    refine ⟨fun h => ?_, fun h => ?_⟩
    · have hk1 : k < r.length := by simpa using h
      refine ⟨by omega, r[k], lget_at rfl hk1, rfl, ?_⟩
      generalize hrk : r[k] = b at *
      refine ⟨fun h => ?_, fun h => ?_⟩
      focus
        refine ⟨fun h4 => ?_, fun h4 => ?_⟩
        · refine ⟨by omega, k + 1, hk1, by omega, ?_⟩
          exact Le.sub ⟨rfl, rfl, rfl, rfl, rfl, rfl, rfl, trivial⟩ ⟨rfl, rfl, trivial⟩
        have hcond : ¬ (rNm b = nm ∧ e = 0) := fun hh => by
          have h4 : decide (e = 0) = false := h4
          rw [hh.2] at h4
          cases h4
      rotate_left
      focus
        have hcond : ¬ (rNm b = nm ∧ e = 0) := fun hh => by
          have h : decide (rNm b = nm) = false := h
          simp [hh.1] at h
      all_goals
        obtain ⟨w1, w2⟩ := hst (rNm b) hcond
        have hA := restore_spec hI2 (rNm b)
        have hB := restoreR_spec hI (rNm b)
        rw [w1, w2] at hA
        generalize restL (r.map ownOf) (rNm b) = x at *
        generalize restE (r.map ownOf) (rNm b) = g at *
        refine ⟨_, _, _, _, Fn.ren [(1002, 1003)] hA, ⟨rfl, rfl, trivial⟩, rfl, ?_⟩
        refine ⟨_, _, _, _, hB, trivial, rfl, ?_⟩
        refine ⟨fun h => absurd (show (!decide (g = g)) = true from h) (by simp), fun h => ?_⟩
        refine ⟨fun h => absurd (show (!decide (x = x)) = true from h) (by simp), fun h => ?_⟩
        refine ⟨by omega, k + 1, hk1, by omega, ?_⟩
        exact Le.sub ⟨rfl, rfl, rfl, rfl, rfl, rfl, rfl, trivial⟩ ⟨rfl, rfl, trivial⟩
    refine ⟨_, _, _, _, alive_spec, trivial, rfl, ?_⟩
    exact ⟨_, _, _, Le.refl _ _, rfl, rfl, trivial, rfl⟩
end Go.Proofs.Ythghcdddambaeaa
