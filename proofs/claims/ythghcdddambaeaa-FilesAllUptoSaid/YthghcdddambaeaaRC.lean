/-
  The document's files and the program's: one relation, kept by every call.
-/
import Derived.Test.YthghcdddambaeaaRB
import Derived.Test.YthghcdddambaeaaFo
set_option linter.unusedVariables false
set_option linter.unusedSimpArgs false
set_option maxRecDepth 10000
namespace Go.Proofs.Ythghcdddambaeaa
open Go.RowKit Go.Proofs
/-- The store by a name. -/
def vw (es : FMap) (L : SPool) (n : Bs) : Option StM := match fget es n with
  | some a => sget L a
  | none => none
inductive OR (W : Nat) : Option RSt → Option StM → Prop
  | no : OR W none none
  | so {r : RSt} {m : StM} : RS r m → ROK r W → OR W (some r) (some m)
theorem OR.mono {W W' : Nat} {r : Option RSt} {m : Option StM} (h : OR W r m) (hw : W ≤ W') : OR W' r m := by
  cases h with
  | no => exact .no
  | so h1 h2 => exact .so h1 (h2.mono hw)
structure FR (l : List RF) (es : FMap) (L : SPool) (W : Nat) : Prop where
  nd : (namesR l).Nodup
  rel : ∀ n, OR W (getR l n) (vw es L n)
theorem getR_none {l : List RF} {n : Bs} : getR l n = none ↔ n ∉ namesR l := by
  induction l with
  | nil => exact ⟨fun _ h => (by cases h), fun _ => rfl⟩
  | cons p l ih =>
    rw [getR]
    show _ ↔ n ∉ fN p :: namesR l
    rw [List.mem_cons, not_or]
    by_cases h : fN p = n
    · rw [if_pos h]
      exact ⟨fun h2 => (by cases h2), fun h2 => absurd h.symm h2.1⟩
    · rw [if_neg h, ih]
      exact ⟨fun h2 => ⟨fun e => h e.symm, h2⟩, fun h2 => h2.2⟩
theorem getR_mem {l : List RF} (hn : (namesR l).Nodup) {p : RF} (hp : p ∈ l) : getR l (fN p) = some (fS p) := by
  induction l with
  | nil => cases hp
  | cons q l ih =>
    have hn : (fN q :: namesR l).Nodup := hn
    rw [List.nodup_cons] at hn
    rw [getR]
    rcases List.mem_cons.1 hp with rfl | hp
    · rw [if_pos rfl]
    · rw [if_neg fun e => hn.1 (by rw [e]; exact List.mem_map_of_mem hp)]
      exact ih hn.2 hp
theorem getR_out (l : List RF) (k n : Bs) : getR (outR l k) n = if n = k then none else getR l n := by
  induction l with
  | nil => show (none : Option RSt) = _; split <;> rfl
  | cons p l ih =>
    unfold outR at ih ⊢
    by_cases h : fN p = k
    · rw [List.filter_cons_of_neg (by simp [h]), ih, getR]
      by_cases h2 : n = k
      · rw [if_pos h2, if_pos h2]
      · rw [if_neg h2, if_neg h2, if_neg (fun e => h2 (by rw [← e, h]))]
    · rw [List.filter_cons_of_pos (by simp [h]), getR, ih, getR]
      by_cases h2 : n = k
      · rw [if_pos h2, if_pos h2, if_neg (fun e => h (by rw [e, h2]))]
      · rw [if_neg h2, if_neg h2]
theorem getR_snoc (l : List RF) (p : RF) (n : Bs) : getR (l ++ [p]) n = match getR l n with
    | some r => some r
    | none => if fN p = n then some (fS p) else none := by
  induction l with
  | nil => rfl
  | cons q l ih =>
    rw [List.cons_append, getR, ih, getR]
    by_cases h : fN q = n
    · rw [if_pos h, if_pos h]
    · rw [if_neg h, if_neg h]
theorem getR_set (l : List RF) (k : Bs) (r : RSt) (n : Bs) : getR (outR l k ++ [mkF k r]) n = if n = k then some r else getR l n := by
  rw [getR_snoc, getR_out]
  by_cases h : n = k
  · rw [if_pos h, if_pos h]
    show (if k = n then some r else none) = _
    rw [if_pos h.symm]
  · rw [if_neg h, if_neg h]
    cases getR l n with
    | some x => rfl
    | none =>
      show (if k = n then some r else none) = _
      rw [if_neg fun e => h e.symm]
theorem out_nodup {l : List RF} (h : (namesR l).Nodup) (k : Bs) : (namesR (outR l k)).Nodup := h.sublist (List.filter_sublist.map _)
theorem set_nodup {l : List RF} (h : (namesR l).Nodup) (k : Bs) (r : RSt) : (namesR (outR l k ++ [mkF k r])).Nodup := by
  unfold namesR
  rw [List.map_append]
  refine List.nodup_append.2 ⟨out_nodup h k, by simp, fun x hx y hy => ?_⟩
  rw [List.map_singleton, List.mem_singleton] at hy
  have hy : y = k := hy
  intro e
  rw [e, hy] at hx
  exact getR_none.1 (show getR (outR l k) k = none by rw [getR_out, if_pos rfl]) hx
theorem crsh_names (ks : List Kp) (l : List RF) : namesR (crshR ks l) = namesR l := by
  unfold namesR crshR
  rw [List.map_map]
  rfl
theorem getR_crsh (ks : List Kp) (l : List RF) (n : Bs) : getR (crshR ks l) n = (getR l n).map fun r => crashR r (keepOf ks n) := by
  induction l with
  | nil => rfl
  | cons p l ih =>
    show getR (crshF ks p :: crshR ks l) n = _
    rw [getR, getR, ih]
    show (if fN p = n then some (crashR (fS p) (keepOf ks (fN p))) else _) = _
    by_cases h : fN p = n
    · rw [if_pos h, if_pos h, h]
      rfl
    · rw [if_neg h, if_neg h]
/-! ### the other side -/
theorem fget_del_ne {k n : Bs} (h : n ≠ k) : ∀ l : FMap, fget (delA l k) n = fget l n
  | [] => rfl
  | p :: l => by
    rw [delA_cons]
    cases e : eqA k p with
    | true =>
      simp only
      rw [fget_cons, show eqA n p = false from Bool.eq_false_iff.2 fun e2 => h ((eqA_iff.1 e2).trans (eqA_iff.1 e).symm)]
    | false =>
      simp only
      rw [fget_cons, fget_cons, fget_del_ne h l]
theorem fget_del {l : FMap} (h : (mkeys l).Nodup) (k : Bs) : fget (delA l k) k = none := fget_none fun hm => ((mkeys_del h).1 hm).2 rfl
theorem fget_key {es : FMap} {n : Bs} {a : Nat} (h : fget es n = some a) : n ∈ mkeys es := List.mem_map_of_mem (f := keyL) (fget_mem h)
theorem fget_iff {es : FMap} {L : SPool} {W : Nat} (h : PoolOK es L W) {n : Bs} : fget es n = none ↔ n ∉ mkeys es := by
  refine ⟨fun h1 h2 => ?_, fget_none⟩
  obtain ⟨a, ha⟩ := h.fget h2
  rw [h1] at ha
  cases ha
theorem vw_some {es : FMap} {L : SPool} {W : Nat} (h : PoolOK es L W) {n : Bs} {a : Nat} (ha : fget es n = some a) : ∃ m, vw es L n = some m ∧ sget L a = some m ∧ StOK m ∧ m.loose.length ≤ W := by
  obtain ⟨m, h1, h2, h3⟩ := fget_ex h ha
  refine ⟨m, ?_, h1, h2, h3⟩
  unfold vw
  rw [ha]
  exact h1
theorem vw_none {es : FMap} {L : SPool} {n : Bs} (h : fget es n = none) : vw es L n = none := by
  unfold vw
  rw [h]
theorem FR.got {l : List RF} {es : FMap} {L : SPool} {W : Nat} (h : FR l es L W) (hF : PoolOK es L W) {n : Bs} {a : Nat} (ha : fget es n = some a) : ∃ r m, getR l n = some r ∧ sget L a = some m ∧ RS r m ∧ ROK r W ∧ StOK m := by
  obtain ⟨m, h1, h2, h3, _⟩ := vw_some hF ha
  have := h.rel n
  rw [h1] at this
  cases hg : getR l n with
  | none => rw [hg] at this; cases this
  | some r =>
    rw [hg] at this
    cases this with
    | so h4 h5 => exact ⟨r, m, rfl, h2, h4, h5, h3⟩
theorem FR.gone {l : List RF} {es : FMap} {L : SPool} {W : Nat} (h : FR l es L W) {n : Bs} (ha : fget es n = none) : getR l n = none := by
  have := h.rel n
  rw [vw_none ha] at this
  cases hg : getR l n with
  | none => rfl
  | some r => rw [hg] at this; cases this
theorem FR.names {l : List RF} {es : FMap} {L : SPool} {W : Nat} (h : FR l es L W) (hF : FOK es L W) : (namesR l).Perm (mkeys es) := by
  refine (List.perm_ext_iff_of_nodup h.nd hF.nm.nd).2 fun n => ?_
  refine ⟨fun h1 => ?_, fun h1 => ?_⟩
  · refine Classical.byContradiction fun h2 => ?_
    exact getR_none.1 (h.gone (fget_none h2)) h1
  · obtain ⟨a, ha⟩ := hF.pl.fget h1
    obtain ⟨r, m, hg, _⟩ := h.got hF.pl ha
    refine Classical.byContradiction fun h2 => ?_
    rw [getR_none.2 h2] at hg
    cases hg
theorem FR.len {l : List RF} {es : FMap} {L : SPool} {W : Nat} (h : FR l es L W) (hF : FOK es L W) : l.length = es.length := by
  have := (h.names hF).length_eq
  unfold namesR mkeys at this
  rwa [List.length_map, List.length_map] at this
theorem FR.sort {l : List RF} {es : FMap} {L : SPool} {W : Nat} (h : FR l es L W) (hF : FOK es L W) : sortR l = keysS es := Go.mergeSort_of_perm (h.names hF)
theorem FR.at {l : List RF} {es : FMap} {L : SPool} {W : Nat} (h : FR l es L W) (hF : FOK es L W) {p : RF} (hp : p ∈ l) : ∃ m, RS (fS p) m ∧ ROK (fS p) W ∧ StOK m := by
  have hm : fN p ∈ mkeys es := (h.names hF).mem_iff.1 (List.mem_map_of_mem hp)
  obtain ⟨a, ha⟩ := hF.pl.fget hm
  obtain ⟨r, m, hg, _, h1, h2, h3⟩ := h.got hF.pl ha
  rw [getR_mem h.nd hp] at hg
  injection hg with hg
  subst hg
  exact ⟨m, h1, h2, h3⟩
theorem FR.frk {l : List RF} {es : FMap} {L : SPool} {W : Nat} (h : FR l es L W) (hF : FOK es L W) : FRK l W := by
  refine ⟨?_, fun p hp => ?_, fun p hp => ?_, fun p hp => ?_⟩
  · have := h.len hF
    have := hF.nm.few
    omega
  · obtain ⟨m, _, h2, _⟩ := h.at hF hp
    exact h2
  · obtain ⟨m, h1, _, h3⟩ := h.at hF hp
    rw [h1.n]
    exact ⟨h3.n0, h3.n1⟩
  · obtain ⟨m, h1, _, _⟩ := h.at hF hp
    exact ⟨h1.s0, h1.s1⟩
theorem FR.nil (W : Nat) : FR [] [] [] W := ⟨List.nodup_nil, fun _ => .no⟩
theorem vw_new {es : FMap} {L : SPool} {W : Nat} (h : PoolOK es L W) {k : Bs} {b : Nat} {m : StM} (hb : b ∉ L.map (·.1)) (n : Bs) : vw (putA es k (some b)) ((b, m) :: L) n = if n = k then some m else vw es L n := by
  by_cases e : n = k
  · rw [if_pos e, e]
    unfold vw
    rw [fget_put]
    simp only
    rw [sget_cons, if_pos rfl]
  · rw [if_neg e]
    unfold vw
    rw [fget_put_ne _ e]
    cases ha : fget es n with
    | none => rfl
    | some a =>
      simp only
      rw [sget_cons, if_neg]
      intro hba
      have hba : b = a := hba
      obtain ⟨m', h1, _⟩ := fget_ex h ha
      exact hb (hba ▸ List.mem_map_of_mem (f := (·.1)) (sget_mem h1))
theorem vw_del {es : FMap} {L : SPool} (h : (mkeys es).Nodup) (k n : Bs) : vw (delA es k) L n = if n = k then none else vw es L n := by
  by_cases e : n = k
  · rw [if_pos e, e, vw_none (fget_del h k)]
  · rw [if_neg e]
    unfold vw
    rw [fget_del_ne e]
theorem vw_ren {es : FMap} {L : SPool} (h : (mkeys es).Nodup) {fr to : Bs} {a : Nat} (n : Bs) : vw (putA (delA es fr) to (some a)) L n = if n = to then sget L a else if n = fr then none else vw es L n := by
  by_cases e : n = to
  · rw [if_pos e, e]
    unfold vw
    rw [fget_put]
  · rw [if_neg e, ← vw_del h fr n]
    unfold vw
    rw [fget_put_ne _ e]
theorem vw_crash {es : FMap} {L : SPool} {W : Nat} (h : PoolOK es L W) (ks : List Kp) (n : Bs) : vw es (mapP (crE ks es) L) n = (vw es L n).map fun m => m.crash (keepOf ks n) := by
  unfold vw
  cases ha : fget es n with
  | none => rfl
  | some a =>
    simp only
    obtain ⟨m, hm, _⟩ := fget_ex h ha
    rw [sget_mapP, hm]
    show some (crE ks es a m) = some _
    congr 1
    unfold crE
    cases e : es.find? fun p => decide (pA p = some a) with
    | none =>
      have := List.find?_eq_none.1 e _ (fget_mem ha)
      simp [show pA (mkA n (some a)) = some a from rfl] at this
    | some p =>
      have h1 : pA p = some a := by simpa using List.find?_some e
      have h2 := nodup_key h.nd (List.mem_of_find?_eq_some e) (fget_mem ha) (h1.trans rfl)
      simp only
      rw [h2]
      rfl
theorem vw_set {es : FMap} {L : SPool} {W : Nat} (h : PoolOK es L W) {k : Bs} {a : Nat} {m m' : StM} (ha : fget es k = some a) (hm : sget L a = some m) (n : Bs) : vw es (sset L a m') n = if n = k then some m' else vw es L n := by
  unfold vw
  by_cases e : n = k
  · rw [if_pos e, e, ha]
    simp only
    rw [sset_get hm, if_pos rfl]
  · rw [if_neg e]
    cases hb : fget es n with
    | none => rfl
    | some b =>
      simp only
      have hne : ¬ b = a := fun e2 => e (addr_name h (e2 ▸ hb) ha)
      rw [sset_get hm, if_neg hne]
theorem FR.put {l : List RF} {es es' : FMap} {L L' : SPool} {W W' : Nat} (h : FR l es L W) (hw : W ≤ W') {k : Bs} {r : RSt} {m : StM} (h1 : RS r m) (h2 : ROK r W') (hv : ∀ n, vw es' L' n = if n = k then some m else vw es L n) : FR (outR l k ++ [mkF k r]) es' L' W' := by
  refine ⟨set_nodup h.nd k r, fun n => ?_⟩
  rw [getR_set, hv]
  by_cases e : n = k
  · rw [if_pos e, if_pos e]
    exact .so h1 h2
  · rw [if_neg e, if_neg e]
    exact (h.rel n).mono hw
theorem FR.step {l : List RF} {es : FMap} {L : SPool} {W : Nat} (h : FR l es L W) (hF : FOK es L W) (room : Int) (o : Op4) {b : Nat} (hb : b ∉ L.map (·.1)) :
    FR (doR room l o).l (doF room es L o b).es (doF room es L o b).L (W + (oB (pS o)).length) ∧ (doR room l o).x = (doF room es L o b).x ∧ (doR room l o).e = (doF room es L o b).e := by
  have hw : W ≤ W + (oB (pS o)).length := Nat.le_add_right _ _
  have h0 : FR l es L (W + (oB (pS o)).length) := ⟨h.nd, fun n => (h.rel n).mono hw⟩
  unfold doR doF
  split
  · unfold crtR
    cases hc : nameOK (pName o) && (srightN (pN o) && decide (0 ≤ room)) with
    | false => exact ⟨h0, rfl, rfl⟩
    | true =>
      simp only
      cases ha : fget es (pName o) with
      | some a =>
        obtain ⟨r, m, hg, _⟩ := h.got hF.pl ha
        have hi : 0 ≤ ixI l (pName o) := by
          refine Classical.byContradiction fun h2 => ?_
          rw [ixI_neg (by omega)] at hg
          cases hg
        rw [decide_eq_true hi]
        exact ⟨h0, rfl, rfl⟩
      | none =>
        have hg := h.gone ha
        have hi : ¬ 0 ≤ ixI l (pName o) := fun h2 => by
          obtain ⟨i, hi, _, h3⟩ := ixI_pos (l := l) (n := pName o) (by omega)
          rw [hg] at h3
          cases h3
        rw [decide_eq_false hi, h.len hF]
        by_cases hl : es.length < 16
        · rw [decide_eq_false (show ¬ 16 ≤ es.length by omega)]
          simp only
          rw [if_pos hl]
          exact ⟨h.put hw (RS.new _ _) ⟨fun w hw => (by cases hw), Nat.zero_le _⟩ (vw_new hF.pl hb), rfl, rfl⟩
        · rw [decide_eq_true (show 16 ≤ es.length by omega)]
          simp only
          rw [if_neg hl]
          exact ⟨h0, rfl, rfl⟩
  split
  · cases ha : fget es (pName o) with
    | some a =>
      obtain ⟨r, m, hg, _⟩ := h.got hF.pl ha
      rw [hg]
      refine ⟨⟨out_nodup h.nd _, fun n => ?_⟩, rfl, rfl⟩
      show OR _ (getR (outR l (pName o)) n) (vw (delA es (pName o)) L n)
      rw [getR_out, vw_del hF.nm.nd]
      split
      · exact .no
      · exact h0.rel n
    | none =>
      rw [h.gone ha]
      refine ⟨⟨h.nd, fun n => ?_⟩, rfl, rfl⟩
      show OR _ (getR l n) (vw (delA es (pName o)) L n)
      rw [vw_del hF.nm.nd]
      split
      · rename_i e
        rw [e, h.gone ha]
        exact .no
      · exact h0.rel n
  split
  · unfold renR
    cases hc : nameOK (pTo o) with
    | false => exact ⟨h0, rfl, rfl⟩
    | true =>
      cases ha : fget es (pName o) with
      | none =>
        rw [h.gone ha]
        exact ⟨h0, rfl, rfl⟩
      | some a =>
        obtain ⟨r, m, hg, hm, h1, h2, _⟩ := h.got hF.pl ha
        rw [hg]
        refine ⟨⟨set_nodup (out_nodup h.nd _) _ _, fun n => ?_⟩, rfl, rfl⟩
        show OR _ (getR (outR (outR l (pName o)) (pTo o) ++ [mkF (pTo o) r]) n) (vw (putA (delA es (pName o)) (pTo o) (some a)) L n)
        rw [getR_set, getR_out, vw_ren hF.nm.nd, hm]
        split
        · exact .so h1 (h2.mono hw)
        · split
          · exact .no
          · exact h0.rel n
  split
  · refine ⟨⟨by show (namesR (crshR _ l)).Nodup; rw [crsh_names]; exact h.nd, fun n => ?_⟩, rfl, rfl⟩
    show OR _ (getR (crshR (pKeeps o) l) n) (vw es (mapP (crE (pKeeps o) es) L) n)
    rw [getR_crsh, vw_crash hF.pl]
    have := h0.rel n
    cases e1 : getR l n with
    | none =>
      rw [e1] at this
      cases e2 : vw es L n with
      | none => exact .no
      | some m => rw [e2] at this; cases this
    | some r =>
      rw [e1] at this
      cases e2 : vw es L n with
      | none => rw [e2] at this; cases this
      | some m =>
        rw [e2] at this
        cases this with
        | so h1 h2 => exact .so (h1.crash _) ⟨fun w hw => h2.wf w (crR_sub _ _ _ _ w hw), Nat.le_trans (crR_len _ _ _ 0) h2.len⟩
  split
  · cases ha : fget es (pName o) with
    | none =>
      rw [h.gone ha]
      exact ⟨h0, rfl, rfl⟩
    | some a =>
      obtain ⟨r, m, hg, hm, h1, h2, h3⟩ := h.got hF.pl ha
      rw [hg]
      simp only
      rw [hm]
      obtain ⟨h4, h5⟩ := h1.op h3 (pS o)
      refine ⟨h.put hw h4 (h2.op (pS o)) (vw_set hF.pl ha hm), ?_, ?_⟩
      · show (opR r (pS o)).2.1 = _
        rw [h5]
      · show (opR r (pS o)).2.2 = _
        rw [h5]
  · exact ⟨h0, rfl, rfl⟩
end Go.Proofs.Ythghcdddambaeaa
