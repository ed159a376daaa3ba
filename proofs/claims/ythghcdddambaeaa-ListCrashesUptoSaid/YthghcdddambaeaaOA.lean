/-
  What is written is read as it was: lists whose backups could be added one behind the other.
-/
import Derived.Test.YthghcdddambaeaaO7
set_option linter.unusedVariables false
set_option linter.unusedSimpArgs false
namespace Go.Proofs.Ythghcdddambaeaa
open Go.RowKit Go.Proofs

theorem addE_iff {L : List Bup} {b : Bup} : addE L b = 0 ↔ rightB b = true ∧ L.find? (fun y => decide (bNm y = bNm b)) = none ∧ L.length < 64 ∧ (bPa b ≠ [] → ∃ x, L.find? (fun y => decide (bNm y = bPa b)) = some x ∧ bBits x = bBits b) := by
  constructor
  · intro h
    obtain ⟨a1, a2, a3, a4⟩ := addE_zero h
    refine ⟨a1, (fnd_neg_iff _ _).1 a2, a3, fun hp => ?_⟩
    have h0 := a4 (by simpa using hp)
    obtain ⟨x, hx⟩ := find_there h0
    refine ⟨x, hx, ?_⟩
    by_cases hb : bBits x = bBits b
    · exact hb
    · exfalso
      have hx' := hx
      rw [← lgetI_find] at hx'
      unfold lgetI at hx'
      rw [if_pos h0] at hx'
      unfold addE at h
      rw [hx'] at h
      split at h
      · cases h
      split at h
      · cases h
      rw [if_pos (by simp [hp, hb])] at h
      cases h
  · rintro ⟨a1, a2, a3, a4⟩
    have a2' := (fnd_neg_iff _ _).2 a2
    unfold addE
    rw [if_neg (by rw [a1]; simp; omega)]
    by_cases hp : bPa b = []
    · rw [if_neg (by simp [hp]), if_neg (by simp [hp])]
    · obtain ⟨x, hx, hb⟩ := a4 hp
      have h0 : 0 ≤ fnd L (bPa b) := by
        rcases Int.lt_or_le (fnd L (bPa b)) 0 with h | h
        · rw [(fnd_neg_iff _ _).1 h] at hx; cases hx
        · exact h
      have hx' := hx
      rw [← lgetI_find] at hx'
      unfold lgetI at hx'
      rw [if_pos h0] at hx'
      rw [if_neg (by simp; omega), hx', if_neg (by simp [hb])]
/-- Each could be added to those ahead of it. -/
def Adb (L : List Bup) : Prop := ∀ (k : Nat) (b : Bup), L[k]? = some b → addE (L.take k) b = 0
theorem Adb.nil : Adb [] := fun k b h => by simp at h
theorem Adb.add {L : List Bup} (h : Adb L) (b : Bup) : Adb (addL L b) := by
  unfold addL
  split
  · rename_i hE
    intro k c hc
    rcases snoc_get k c hc with h1 | ⟨rfl, rfl⟩
    · have hk := (List.getElem?_eq_some_iff.1 h1).1
      rw [List.take_append_of_le_length (by omega)]
      exact h k c h1
    · rw [List.take_left]
      exact hE
  · exact h
theorem take_erase {α : Type} (L : List α) {k j : Nat} (h : k ≤ j) : (L.eraseIdx k).take j = (L.take (j + 1)).eraseIdx k := by
  refine List.ext_getElem? fun i => ?_
  rw [List.getElem?_take, List.getElem?_eraseIdx, List.getElem?_eraseIdx, List.getElem?_take, List.getElem?_take]
  by_cases h2 : i < k
  · have a : i < j := by omega
    have b : i < j + 1 := by omega
    simp [h2, a, b]
  · by_cases h1 : i < j
    · simp [h1, h2]
    · simp [h1, h2]
theorem Adb.drop {L : List Bup} (h : Adb L) (nm : List UInt8) : Adb (dropL L nm) := by
  unfold dropL
  split
  · rename_i hE
    obtain ⟨h1, h2⟩ := dropE_zero hE
    obtain ⟨x, hx⟩ := find_there h1
    have b1 := List.find?_some hx
    simp only [decide_eq_true_eq] at b1
    have hxm : L[(fnd L nm).toNat]? = some x := by
      have a2 := lgetI_find L nm
      unfold lgetI at a2
      rw [if_pos h1, hx] at a2
      exact a2
    generalize (fnd L nm).toNat = q at *
    have hq := (List.getElem?_eq_some_iff.1 hxm).1
    intro j b hb
    have hbL : b ∈ L := List.mem_of_mem_eraseIdx (List.mem_of_getElem? hb)
    rw [List.getElem?_eraseIdx] at hb
    split at hb
    · rename_i hjq
      have : (L.eraseIdx q).take j = L.take j := by
        refine List.ext_getElem? fun i => ?_
        rw [List.getElem?_take, List.getElem?_take, List.getElem?_eraseIdx]
        by_cases h3 : i < j
        · rw [if_pos h3, if_pos h3, if_pos (by omega)]
        · rw [if_neg h3, if_neg h3]
      rw [this]
      exact h j b hb
    · rename_i hjq
      rw [take_erase L (by omega)]
      have hM := addE_iff.1 (h (j + 1) b hb)
      have hxM : (L.take (j + 1))[q]? = some x := by rw [List.getElem?_take, if_pos (by omega)]; exact hxm
      generalize L.take (j + 1) = M at *
      obtain ⟨a1, a2, a3, a4⟩ := hM
      have hpx : bPa b ≠ nm := not_par h2 hbL
      refine addE_iff.2 ⟨a1, ?_, Nat.lt_of_le_of_lt (List.length_eraseIdx_le _ _) a3, fun hp => ?_⟩
      · rw [find_erase _ M q x hxM (by
          have := List.find?_eq_none.1 a2 x (List.mem_of_getElem? hxM)
          simpa using this)]
        exact a2
      · rw [find_erase _ M q x hxM (by rw [b1]; simpa using fun e => hpx e.symm)]
        exact a4 hp
  · exact h
/-! ### forth -/
def toP (p : Pie) : RPie := (pC p, pB p)
def toR (b : Bup) : RBup := (bNm b, bPa b, bBits b, bSz b, (bPc b).map toP)
theorem own_toR (b : Bup) : ownOf (toR b) = b := by
  have h : ∀ l : List Pie, (l.map toP).map pieOf = l := fun l => by rw [List.map_map]; exact List.map_id l
  exact congrArg (fun l : List Pie => ((bNm b, bPa b, bBits b, bSz b, l) : Bup)) (h (bPc b))
theorem map_toR (L : List Bup) : (L.map toR).map ownOf = L := by
  rw [List.map_map, show (ownOf ∘ toR) = id from funext own_toR, List.map_id]
theorem rdP_forth {p : Pie} (h : 0 ≤ pC p ∧ pC p ≤ 65535 ∧ (pB p).length ≤ 128) (t : List UInt8) : rdP (encP p ++ t, 0) = ((t, 0), toP p) := by
  have e1 : rdN 2 (encP p ++ t, 0) = ((encT (pB p) 2 ++ t, 0), (pC p).toNat) := by
    unfold encP
    rw [List.append_assoc]
    exact rdN_forth (by omega) _
  have e2 : rdT 2 (encT (pB p) 2 ++ t, 0) = ((t, 0), pB p) := rdT_forth (by omega) t
  unfold rdP
  rw [e1]
  simp only
  rw [e2]
  refine Prod.ext rfl (Prod.ext ?_ rfl)
  show (((pC p).toNat : Nat) : Int) = pC p
  omega
theorem rdPs_forth {ps : List Pie} (h : ∀ p, p ∈ ps → 0 ≤ pC p ∧ pC p ≤ 65535 ∧ (pB p).length ≤ 128) (t : List UInt8) : ∀ k, k ≤ ps.length → rdPs (ps.flatMap encP ++ t, 0) k = (((ps.drop k).flatMap encP ++ t, 0), (ps.take k).map toP)
  | 0, _ => by simp [rdPs]
  | k + 1, hk => by
    have hk1 : k < ps.length := by omega
    have ih := rdPs_forth h t k (by omega)
    unfold rdPs
    rw [ih]
    simp only
    rw [List.drop_eq_getElem_cons hk1, List.flatMap_cons, List.append_assoc, rdP_forth (h _ (List.getElem_mem hk1))]
    simp only
    rw [← take_step hk1, List.map_append]
    rfl
theorem rdBk_forth {b : Bup} (h : Wr b) (t : List UInt8) : rdBk (encB b ++ t, 0) = ((t, 0), toR b) := by
  obtain ⟨w1, w2, w3, w4, w5, w6⟩ := h
  have e1 : h1 (encB b ++ t, 0) = ((encT (bPa b) 1 ++ (encR (bBits b).toNat 1 ++ (encR (bSz b).toNat 2 ++ (encR (bPc b).length 2 ++ ((bPc b).flatMap encP ++ t)))), 0), bNm b) := by
    unfold encB h1
    simp only [List.append_assoc]
    exact rdT_forth (by omega) _
  have e2 : h2 (encB b ++ t, 0) = ((encR (bBits b).toNat 1 ++ (encR (bSz b).toNat 2 ++ (encR (bPc b).length 2 ++ ((bPc b).flatMap encP ++ t))), 0), bPa b) := by
    unfold h2
    rw [e1]
    exact rdT_forth (by omega) _
  have e3 : h3 (encB b ++ t, 0) = ((encR (bSz b).toNat 2 ++ (encR (bPc b).length 2 ++ ((bPc b).flatMap encP ++ t)), 0), (bBits b).toNat) := by
    unfold h3
    rw [e2]
    exact rdN_forth (by omega) _
  have e4 : h4 (encB b ++ t, 0) = ((encR (bPc b).length 2 ++ ((bPc b).flatMap encP ++ t), 0), (bSz b).toNat) := by
    unfold h4
    rw [e3]
    exact rdN_forth (by omega) _
  have e5 : h5 (encB b ++ t, 0) = (((bPc b).flatMap encP ++ t, 0), (bPc b).length) := by
    unfold h5
    rw [e4]
    exact rdN_forth (by omega) _
  have e6 := rdPs_forth w6 t (bPc b).length (Nat.le_refl _)
  rw [List.drop_length, List.take_length] at e6
  unfold rdBk mkBk
  rw [e5]
  simp only
  rw [e6, e1, e2, e3, e4]
  refine Prod.ext rfl ?_
  show (bNm b, bPa b, (((bBits b).toNat : Nat) : Int), (((bSz b).toNat : Nat) : Int), (bPc b).map toP) = (bNm b, bPa b, bBits b, bSz b, (bPc b).map toP)
  rw [show (((bBits b).toNat : Nat) : Int) = bBits b by omega, show (((bSz b).toNat : Nat) : Int) = bSz b by omega]
theorem decK_forth {L : List Bup} (hA : Adb L) (hw : ∀ b, b ∈ L → Wr b) : ∀ k, k ≤ L.length → decK (L.flatMap encB, 0) k = some ((L.take k).map toR, ((L.drop k).flatMap encB, 0))
  | 0, _ => by simp [decK]
  | k + 1, hk => by
    have hk1 : k < L.length := by omega
    have ih := decK_forth hA hw k (by omega)
    rw [List.drop_eq_getElem_cons hk1, List.flatMap_cons] at ih
    have hb := rdBk_forth (hw _ (List.getElem_mem hk1)) ((L.drop (k + 1)).flatMap encB)
    have := decK_good ih (by rw [hb]) (by
      rw [hb, map_toR]
      show addE (L.take k) (ownOf (toR L[k])) = 0
      rw [own_toR]
      exact hA k _ (List.getElem?_eq_getElem hk1))
    rw [hb] at this
    rw [this, ← take_step hk1, List.map_append]
    rfl
theorem dec_enc {L : List Bup} (hA : Adb L) (hw : ∀ b, b ∈ L → Wr b) (hl : L.length ≤ 64) : dec (encL L) = some (L.map toR) := by
  have e1 : rdN 1 (encL L, 0) = ((L.flatMap encB, 0), L.length) := rdN_forth (by omega) _
  have e2 := decK_forth hA hw L.length (Nat.le_refl _)
  rw [List.take_length, List.drop_length] at e2
  unfold dec
  rw [e1]
  simp only
  rw [e2]
  simp [endE]
end Go.Proofs.Ythghcdddambaeaa
/-
  same: a list's answers are the document's.
-/
set_option linter.unusedVariables false
set_option linter.unusedSimpArgs false
set_option maxRecDepth 10000
namespace Go.Proofs.Ythghcdddambaeaa
open Go.RowKit Go.Proofs

theorem none_q {L : List Bup} (hI : InvL L) : restE L [63] = 181 := by
  unfold restE
  rw [if_pos]
  simp only [decide_eq_true_eq]
  refine (fnd_neg_iff L [63]).2 (List.find?_eq_none.2 fun b hb => ?_)
  have := hI.right b hb
  simp only [rightB, Bool.and_eq_true] at this
  intro h
  simp only [decide_eq_true_eq] at h
  have hn := this.1.1.1.1.1.1
  rw [h] at hn
  revert hn
  decide
@[reducible] def saK (r : List RBup) (ns : List (List UInt8)) (k : Nat) : KL := [(0, vP 1001), (1, vL uRB r), (32, vL .str ns), (33, vI (ns.length : Nat)), (34, vI (k : Nat))]
set_option maxRecDepth 100000 in
set_option maxHeartbeats 4000000 in
theorem same_spec (r : List RBup) (hI : InvP (r.map ownOf)) : Fn Try.prog 29 [vP 1001, vL uRB r] (lstB (r.map ownOf)) [] (vB true) (lstB (r.map ownOf)) := by
  have hlen := hI.len
  have hrl : (r.map ownOf).length = r.length := List.length_map _
  have hN : ∀ ns : List (List UInt8), ns = (r.map ownOf).map bNm → Fn Try.prog 26 [vP 1001] (lstB (r.map ownOf)) [] (vL .str ns) (lstB (r.map ownOf)) := fun ns h => by
    rw [h]; exact names_spec (r.map ownOf) (by omega)
  have hN := hN ((r.map ownOf).map bNm) rfl
  have hnl : ((r.map ownOf).map bNm).length = r.length := by rw [List.length_map, hrl]
  have hng : ∀ (k : Nat) (hk : k < r.length), lget ((r.map ownOf).map bNm) k = some (rNm r[k]) := fun k hk => by
    unfold lget
    rw [List.getElem?_map, List.getElem?_map, List.getElem?_eq_getElem hk]
    rfl
  have hE1 := encode_spec (r.map ownOf) (by omega) (fun b hb => wr_of hI.toInvL hb)
  have hE2 := encodeR_spec r (by omega) (fun b hb => wr_of hI.toInvL hb)
  have hQ := restore_spec hI.toInvL [63]
  rw [none_q hI.toInvL] at hQ
  have hRA := fun nm => restore_spec hI.toInvL nm
  have hRB := fun nm => restoreR_spec hI nm
  generalize (r.map ownOf).map bNm = ns at *
  generalize encL (r.map ownOf) = el at *
  generalize restL (r.map ownOf) [63] = xq at *
  refine Fn.of tblOK [] _ _ _ _ _ Try.func29 rfl rfl (by kernel_rfl) (by kernel_rfl) rfl (drawOK tblOK) rfl ?_
  refine ⟨_, _, _, _, hN, ⟨rfl, rfl, trivial⟩, rfl, ?_⟩
  refine ⟨fun h => absurd (show (!decide ((ns.length : Int) = (r.length : Int))) = true from h) (by simp; omega), fun _ => ?_⟩
  refine ⟨_, _, _, _, hE1, ⟨rfl, rfl, trivial⟩, rfl, ?_⟩
  refine ⟨_, _, _, _, hE2, trivial, rfl, ?_⟩
  refine ⟨rfl, fun h => absurd (show (!decide (el = el)) = true from h) (by simp), fun _ => ?_⟩
  refine ⟨_, _, _, _, hN, ⟨rfl, rfl, trivial⟩, rfl, ?_⟩
  show TrQ _ _ _ _ _ _ _
  refine TrQ.loop tblOK (drawOK tblOK) [] (by kernel_rfl) (X := Nat) (saK r ns) (fun _ => lstB (r.map ownOf)) (fun k => k ≤ ns.length) (fun k => ns.length - k) 0 (Nat.zero_le _) ?_ ?_
  · exact Le.sub ⟨rfl, rfl, rfl, rfl, rfl, trivial⟩ ⟨rfl, rfl, trivial⟩
  intro k hk
  refine ⟨fun h => ?_, fun h => ?_⟩
  · have hk1 : k < ns.length := by simpa using h
    have hk2 : k < r.length := by omega
    have hg1 := hng k hk2
    have hg2 := lget_at (L := r) (n := (k : Nat)) rfl hk2
    have hA := hRA (rNm r[k])
    have hB := hRB (rNm r[k])
    generalize restL (r.map ownOf) (rNm r[k]) = x at *
    generalize restE (r.map ownOf) (rNm r[k]) = e at *
    refine ⟨by omega, rNm r[k], hg1, ?_⟩
    refine ⟨_, _, _, _, hA, ⟨rfl, rfl, trivial⟩, rfl, ?_⟩
    refine ⟨by omega, r[k], hg2, ?_⟩
    refine ⟨_, _, _, _, hB, trivial, rfl, ?_⟩
    refine ⟨by omega, r[k], hg2, ?_⟩
    refine ⟨fun h => absurd (show (!decide (rNm r[k] = rNm r[k])) = true from h) (by simp), fun _ => ?_⟩
    refine ⟨fun h => absurd (show (!decide (e = e)) = true from h) (by simp), fun _ => ?_⟩
    refine ⟨fun h => absurd (show (!decide (x = x)) = true from h) (by simp), fun _ => ?_⟩
    refine ⟨by omega, k + 1, hk1, by omega, ?_⟩
    exact Le.sub ⟨rfl, rfl, rfl, rfl, rfl, trivial⟩ ⟨rfl, rfl, trivial⟩
  refine ⟨_, _, _, _, hQ, ⟨rfl, rfl, trivial⟩, rfl, ?_⟩
  exact ⟨_, _, _, Le.refl _ _, rfl, rfl, ⟨rfl, rfl, trivial⟩, rfl⟩
end Go.Proofs.Ythghcdddambaeaa
