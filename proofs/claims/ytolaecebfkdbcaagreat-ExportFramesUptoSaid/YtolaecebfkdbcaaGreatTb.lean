/-
  The table: slots of clusters, kept by groups.
-/
import Derived.Test.YtolaecebfkdbcaaGreatCd
import Derived.Test.YtolaecebfkdbcaaGreatAr
import Derived.Test.YtolaecebfkdbcaaGreatMg
set_option linter.unusedVariables false
set_option linter.unusedSimpArgs false
set_option maxRecDepth 10000
namespace Go.Proofs.YtolaecebfkdbcaaGreat
open Go.RowKit Go.Proofs
@[reducible] def uSl : U := .pr (.int .i64) (.pr (.int .i64) .bool)
@[reducible] def uG : U := .arr 16 uSl
/-- A slot: its kind, its cluster, whether that is its own. -/
abbrev Slt := Int × Int × Bool
@[reducible] def slL (s : Slt) : List S1 := [.d (.int .i64 s.1), .d (.int .i64 s.2.1), .d (.bool s.2.2)]
@[reducible] def vSl (s : Slt) : SC := .agg (slL s)
@[reducible] def s0 : Slt := (0, 0, false)
/-- Its numbers are small. -/
def slOK (s : Slt) : Prop := (-1000000 ≤ s.1 ∧ s.1 ≤ 1000000) ∧ -1000000 ≤ s.2.1 ∧ s.2.1 ≤ 1000000
def g0 : List Slt := List.replicate 16 s0
@[reducible] def tabB (n : Int) (es : List (El uI × El uG)) : BL := [(1001, .cells [.d (.int .i64 n), .mp 1002]), (1002, .map uI uG es)]
def gAt (es : List (El uI × El uG)) (k : Int) : List Slt := (mget (ku := uI) (vu := uG) es k).getD g0
structure TabR (t : List Slt) (es : List (El uI × El uG)) : Prop where
  nd : KNd es
  wf : ∀ p, p ∈ es → List.length (α := Slt) p.2 = 16
  ok : ∀ k i, slOK ((gAt es k).getD i s0)
  at_ : ∀ c (h : c < t.length), (gAt es ((c / 16 : Nat) : Int)).getD (c % 16) s0 = t[c]
theorem TabR.len {t : List Slt} {es : List (El uI × El uG)} (h : TabR t es) (k : Int) : (gAt es k).length = 16 := by
  unfold gAt
  cases e : mget (ku := uI) (vu := uG) es k with
  | none => rfl
  | some g => exact h.wf _ (mget_mem_key eqKey_int e)
theorem gAt_put (es : List (El uI × El uG)) (k : Int) (g : List Slt) : gAt (mput (ku := uI) (vu := uG) es k g) k = g ∧ ∀ j, j ≠ k → gAt (mput (ku := uI) (vu := uG) es k g) j = gAt es j := by
  obtain ⟨h1, h2⟩ := mget_mput (ku := uI) (vu := uG) eqKey_int k g es
  refine ⟨by unfold gAt; rw [h1]; rfl, fun j hj => ?_⟩
  unfold gAt
  rw [h2 j hj]
theorem gAt_del {es : List (El uI × El uG)} (hn : KNd es) (k : Int) : gAt (mdel (ku := uI) (vu := uG) es k) k = g0 ∧ ∀ j, j ≠ k → gAt (mdel (ku := uI) (vu := uG) es k) j = gAt es j := by
  obtain ⟨h1, h2⟩ := mget_mdel (ku := uI) (vu := uG) eqKey_int k es hn
  refine ⟨by unfold gAt; rw [h1]; rfl, fun j hj => ?_⟩
  unfold gAt
  rw [h2 j hj]
/-- What put leaves. -/
def tput (es : List (El uI × El uG)) (c : Nat) (s : Slt) : List (El uI × El uG) :=
  if (gAt es ((c / 16 : Nat) : Int)).set (c % 16) s = g0 then mdel (ku := uI) (vu := uG) es ((c / 16 : Nat) : Int) else mput (ku := uI) (vu := uG) es ((c / 16 : Nat) : Int) ((gAt es ((c / 16 : Nat) : Int)).set (c % 16) s)
theorem gAt_tput {t : List Slt} {es : List (El uI × El uG)} (h : TabR t es) (c : Nat) (s : Slt) : gAt (tput es c s) ((c / 16 : Nat) : Int) = (gAt es ((c / 16 : Nat) : Int)).set (c % 16) s ∧ ∀ j, j ≠ ((c / 16 : Nat) : Int) → gAt (tput es c s) j = gAt es j := by
  unfold tput
  split
  · rename_i e
    obtain ⟨h1, h2⟩ := gAt_del h.nd ((c / 16 : Nat) : Int)
    exact ⟨h1.trans e.symm, h2⟩
  · exact gAt_put es _ _
theorem TabR.set {t : List Slt} {es : List (El uI × El uG)} (h : TabR t es) (c : Nat) (s : Slt) (hs : slOK s) : TabR (t.set c s) (tput es c s) := by
  obtain ⟨g1, g2⟩ := gAt_tput h c s
  refine ⟨?_, ?_, fun k i => ?_, fun d hd => ?_⟩
  · unfold tput
    split
    · exact KNd.del h.nd
    · exact KNd.put eqKey_int h.nd
  · intro p hp
    unfold tput at hp
    split at hp
    · exact h.wf p (mem_mdel hp)
    · rcases mem_mput hp with rfl | hp
      · show List.length (α := Slt) ((gAt es ((c / 16 : Nat) : Int)).set (c % 16) s) = 16
        rw [List.length_set]; exact h.len _
      · exact h.wf p hp
  · by_cases e : k = ((c / 16 : Nat) : Int)
    · rw [e, g1, List.getD_eq_getElem?_getD, List.getElem?_set]
      split
      · split
        · exact hs
        · exact ⟨by decide, by decide⟩
      · rw [← List.getD_eq_getElem?_getD]
        exact h.ok _ _
    · rw [g2 _ e]
      exact h.ok _ _
  · rw [List.length_set] at hd
    have hl := h.len ((c / 16 : Nat) : Int)
    by_cases e : d / 16 = c / 16
    · rw [e, g1]
      by_cases e2 : d = c
      · subst e2
        rw [List.getElem_set_self, List.getD_eq_getElem?_getD, List.getElem?_set_self (by rw [hl]; omega)]
        rfl
      · have hne : c % 16 ≠ d % 16 := fun h => e2 (by omega)
        rw [List.getElem_set_ne (Ne.symm e2), List.getD_eq_getElem?_getD, List.getElem?_set_ne hne, ← List.getD_eq_getElem?_getD, ← e]
        exact h.at_ d hd
    · have hne : ((d / 16 : Nat) : Int) ≠ ((c / 16 : Nat) : Int) := fun h => e (by omega)
      rw [g2 _ hne, List.getElem_set_ne (fun e2 => e (by rw [e2]))]
      exact h.at_ d hd
/-! ### slots -/
theorem slInf : (Tryz.prog.info? 200).map (·.size) = some 3 := by kernel_rfl
def slRight (s : Slt) : Bool := if s.1 = 1 then decide (0 ≤ s.2.1) && decide (s.2.1 < 512) else decide (s = s0) || decide (s = (2, 0, false))
theorem slt_eq (s q : Slt) : decide (s = q) = true ↔ litsL (slL s) = litsL (slL q) := by
  rw [decide_eq_true_iff]
  simp only [litsL, litS, slL, List.cons.injEq, Lit.int.injEq, Lit.bool.injEq, true_and, and_true]
  constructor
  · intro h; subst h; exact ⟨rfl, rfl, rfl⟩
  · rintro ⟨h1, h2, h3⟩; exact Prod.ext h1 (Prod.ext h2 h3)
theorem wf_small {n : Int} (h : -1000000 ≤ n ∧ n ≤ 1000000) : (Lit.int .i64 n).wf = true := by
  simp only [Lit.wf, Bool.and_eq_true, decide_eq_true_eq]
  have h1 : IntKind.min .i64 = -9223372036854775808 := by decide
  have h2 : IntKind.max .i64 = 9223372036854775807 := by decide
  rw [h1, h2]
  omega
theorem kl_int (d : Nat) {n : Int} (h : -1000000 ≤ n ∧ n ≤ 1000000) : Tryz.prog.keyLits (d + 1) 3 [.int .i64 n] = some [.int .i64 n] := by
  unfold Program.keyLits
  simp only [Tryz.underlying3]
  have hw := wf_small h
  simp [hw]
theorem kl_slot (d : Nat) {s : Slt} (h : slOK s) : Tryz.prog.keyLits (d + 2) 200 (valsL (slL s)) = some (litsL (slL s)) := by
  have c1 : Tryz.prog.cellsOf 200 = 3 := by kernel_rfl
  have c2 : Tryz.prog.cellsOf 3 = 1 := by kernel_rfl
  have c3 : Tryz.prog.cellsOf 4 = 1 := by kernel_rfl
  have k1 := kl_int d h.1
  have k2 := kl_int d h.2
  have k3 : Tryz.prog.keyLits (d + 1) 4 [.bool s.2.2] = some [.bool s.2.2] := by
    unfold Program.keyLits
    simp only [Tryz.underlying4]
  unfold Program.keyLits
  simp only [Tryz.underlying200, c1]
  simp [valsL, valS, slL, c2, c3, k1, k2, k3, litsL, litS]
theorem sright_fn (s : Slt) (hs : slOK s) : Fn Tryz.prog 150 [.c (vSl s)] [] [] (vB (slRight s)) [] := by
  refine Fn.of tblOK [] _ _ _ _ _ Tryz.func150 rfl rfl (by kernel_rfl) (by kernel_rfl) rfl (drawOK tblOK) rfl ?_
  refine ⟨rfl, ?_⟩
  refine ⟨fun h1 => ?_, fun h1 => ?_⟩
  · have h1 := of_decide_eq_true h1
    refine ⟨fun h2 => ?_, fun h2 => ?_⟩
    · refine ⟨_, _, _, Le.refl _ _, rfl, ?_, trivial, rfl⟩
      show decide (s.2.1 < 512) = slRight s
      unfold slRight
      have h2 : decide (0 ≤ s.2.1) = true := h2
      rw [if_pos h1, h2, Bool.true_and]
    · refine ⟨_, _, _, Le.refl _ _, rfl, ?_, trivial, rfl⟩
      show false = slRight s
      unfold slRight
      have h2 : decide (0 ≤ s.2.1) = false := h2
      rw [if_pos h1, h2, Bool.false_and]
  · have h1 := of_decide_eq_false h1
    refine ⟨_, _, fun N => opOK_eqDeep (m := 5) (D := 5) (lx := slL s) (ly := [.d (.int .i64 0), .d (.int .i64 0), .d (.lit false)]) rfl (by kernel_rfl) (by kernel_rfl) (by decide) rfl rfl rfl rfl rfl (kl_slot 3 hs) (kl_slot 3 (s := s0) ⟨by decide, by decide⟩) (slt_eq s s0) N, rfl, ?_⟩
    refine ⟨fun h2 => ?_, fun h2 => ?_⟩
    · refine ⟨_, _, _, Le.refl _ _, rfl, ?_, trivial, rfl⟩
      show true = slRight s
      unfold slRight
      rw [if_neg h1, h2, Bool.true_or]
    · refine ⟨_, _, fun N => opOK_eqDeep (m := 5) (D := 5) (lx := slL s) (ly := [.d (.int .i64 2), .d (.int .i64 0), .d (.lit false)]) rfl (by kernel_rfl) (by kernel_rfl) (by decide) rfl rfl rfl rfl rfl (kl_slot 3 hs) (kl_slot 3 (s := (2, 0, false)) ⟨by decide, by decide⟩) (slt_eq s (2, 0, false)) N, rfl, ?_⟩
      refine ⟨_, _, _, Le.refl _ _, rfl, ?_, trivial, rfl⟩
      show decide (s = (2, 0, false)) = slRight s
      unfold slRight
      rw [if_neg h1, h2, Bool.false_or]
def slWr (s : Slt) : Bool := decide (s.1 = 1) && s.2.2
theorem swrites_fn (s : Slt) : Fn Tryz.prog 134 [.c (vSl s)] [] [] (vB (slWr s)) [] := by
  refine Fn.of tblOK [] _ _ _ _ _ Tryz.func134 rfl rfl (by kernel_rfl) (by kernel_rfl) rfl (drawOK tblOK) rfl ?_
  refine ⟨rfl, ?_⟩
  refine ⟨fun h1 => ?_, fun h1 => ?_⟩
  · refine ⟨_, _, _, Le.refl _ _, rfl, ?_, trivial, rfl⟩
    show s.2.2 = slWr s
    unfold slWr
    have h1 : decide (s.1 = 1) = true := h1
    rw [h1, Bool.true_and]
  · refine ⟨_, _, _, Le.refl _ _, rfl, ?_, trivial, rfl⟩
    show false = slWr s
    unfold slWr
    have h1 : decide (s.1 = 1) = false := h1
    rw [h1, Bool.false_and]
/-! ### the table's functions, laid open -/
theorem tright_fn (n : Int) : Fn Tryz.prog 105 [vI n] [] [] (vB (decide (0 ≤ n) && decide (n ≤ 256))) [] := by
  refine Fn.of tblOK [] _ _ _ _ _ Tryz.func105 rfl rfl (by kernel_rfl) (by kernel_rfl) rfl (drawOK tblOK) rfl ?_
  refine ⟨fun h => ?_, fun h => ?_⟩
  · refine ⟨_, _, _, Le.refl _ _, rfl, ?_, trivial, rfl⟩
    show decide (n ≤ 256) = _
    have h : decide (0 ≤ n) = true := h
    rw [h, Bool.true_and]
  · refine ⟨_, _, _, Le.refl _ _, rfl, ?_, trivial, rfl⟩
    show false = _
    have h : decide (0 ≤ n) = false := h
    rw [h, Bool.false_and]
theorem tlen_fn (n : Int) (es : List (El uI × El uG)) : Fn Tryz.prog 51 [vP 1001] (tabB n es) [] (vI n) (tabB n es) := by
  refine Fn.of tblOK [] _ _ _ _ _ Tryz.func51 rfl rfl (by kernel_rfl) (by kernel_rfl) rfl (drawOK tblOK) rfl ?_
  exact ⟨_, _, _, Le.refl _ _, rfl, rfl, ⟨rfl, rfl, trivial⟩, rfl⟩
theorem tget_out (n : Int) (es : List (El uI × El uG)) (c : Int) (h : ¬ (0 ≤ c ∧ c < n)) : Fn Tryz.prog 119 [vP 1001, vI c] (tabB n es) [] (.c (vSl s0)) (tabB n es) := by
  refine Fn.of tblOK [] _ _ _ _ _ Tryz.func119 rfl rfl (by kernel_rfl) (by kernel_rfl) rfl (drawOK tblOK) rfl ?_
  refine ⟨rfl, ?_⟩
  refine ⟨fun h1 => ?_, fun h1 => ?_⟩
  · exact ⟨_, _, _, Le.refl _ _, rfl, ⟨rfl, rfl, rfl, trivial⟩, ⟨rfl, rfl, trivial⟩, rfl⟩
  · refine ⟨fun h2 => ?_, fun h2 => ?_⟩
    · exact ⟨_, _, _, Le.refl _ _, rfl, ⟨rfl, rfl, rfl, trivial⟩, ⟨rfl, rfl, trivial⟩, rfl⟩
    · exfalso
      have h1 := of_decide_eq_false h1
      have h2 := of_decide_eq_false h2
      omega
theorem tget_fn {t : List Slt} {es : List (El uI × El uG)} (hR : TabR t es) (hl : t.length ≤ 256) (c : Nat) (hc : c < t.length) : Fn Tryz.prog 119 [vP 1001, vI (c : Int)] (tabB (t.length : Nat) es) [] (.c (vSl t[c])) (tabB (t.length : Nat) es) := by
  have hg : (gAt es ((c : Int) / 16)).getD ((c : Int) % 16).toNat s0 = t[c] := by
    rw [← hR.at_ c hc]
    congr 1
  obtain ⟨sinf, si1, si2⟩ : ∃ i, Tryz.prog.info? 200 = some i ∧ i.size = 3 := by
    have := slInf
    cases e : Tryz.prog.info? 200 with
    | none => rw [e] at this; cases this
    | some i => rw [e] at this; exact ⟨i, rfl, by simpa using this⟩
  refine Fn.of tblOK [] _ _ _ _ _ Tryz.func119 rfl rfl (by kernel_rfl) (by kernel_rfl) rfl (drawOK tblOK) rfl ?_
  refine ⟨rfl, ?_⟩
  refine ⟨fun h1 => absurd (of_decide_eq_true h1) (by omega), fun h1 => ?_⟩
  refine ⟨fun h1 => absurd (of_decide_eq_true h1) (by omega), fun h1 => ?_⟩
  refine ⟨⟨by omega, by omega⟩, ⟨by omega, by omega⟩, ?_⟩
  refine ⟨⟨by omega, by omega⟩, ⟨by omega, by omega⟩, ?_⟩
  refine ⟨_, _, fun N => opOK_indexArr (n := 16) (e := 200) (u := uSl) (g := gAt es ((c : Int) / 16)) (j := (c : Int) % 16) rfl Tryz.underlying220 Tryz.underlying200 rfl si1 si2 rfl rfl (by omega) (by omega) N, rfl, ?_⟩
  refine ⟨_, _, _, Le.refl _ _, rfl, ?_, ⟨rfl, rfl, trivial⟩, rfl⟩
  show leV (.c (.agg (listU uSl ((gAt es ((c : Int) / 16)).getD ((c : Int) % 16).toNat s0) 0 3))) _
  rw [hg]
  exact ⟨rfl, rfl, rfl, trivial⟩
/-- No Hole is a group without anything. -/
theorem lits_arr (g g' : List Slt) (hl : g.length = 16) (hl' : g'.length = 16) : litsL (listU uG g 0 48) = litsL (listU uG g' 0 48) → g = g' := by
  intro h
  have hget : ∀ (l : List S1) (j : Nat), (litsL l)[j]? = (l[j]?).map litS := fun l => by
    induction l with
    | nil => intro j; simp [litsL]
    | cons s l ih =>
      intro j
      match j with
      | 0 => rfl
      | j + 1 => simpa [litsL] using ih j
  have hc : ∀ i, i < 16 → ∀ q, q < 3 → litS (.d (cellU uSl (g.getD i s0) q)) = litS (.d (cellU uSl (g'.getD i s0) q)) := fun i hi q hq => by
    have h1 := congrArg (fun l => l[i * 3 + q]?) h
    simp only [hget] at h1
    have e1 := listU_get uG g 48 0 (i * 3 + q) (by omega)
    have e2 := listU_get uG g' 48 0 (i * 3 + q) (by omega)
    rw [e1, e2] at h1
    simp only [Option.map_some, Option.some.injEq, Nat.zero_add] at h1
    have c1 : cellU uG g (i * 3 + q) = cellU uSl (g.getD i s0) q := cell_arr (u := uSl) (n := 16) g i q hq
    have c2 : cellU uG g' (i * 3 + q) = cellU uSl (g'.getD i s0) q := cell_arr (u := uSl) (n := 16) g' i q hq
    rw [c1, c2] at h1
    exact h1
  refine List.ext_getElem (hl.trans hl'.symm) fun i h1 h2 => ?_
  have a0 := hc i (by omega) 0 (by omega)
  have a1 := hc i (by omega) 1 (by omega)
  have a2 := hc i (by omega) 2 (by omega)
  have e1 : g.getD i s0 = g[i] := by rw [List.getD_eq_getElem?_getD, List.getElem?_eq_getElem h1]; rfl
  have e2 : g'.getD i s0 = g'[i] := by rw [List.getD_eq_getElem?_getD, List.getElem?_eq_getElem h2]; rfl
  rw [e1, e2] at a0 a1 a2
  have b0 : Lit.int .i64 (g[i]).1 = Lit.int .i64 (g'[i]).1 := a0
  have b1 : Lit.int .i64 (g[i]).2.1 = Lit.int .i64 (g'[i]).2.1 := a1
  have b2 : Lit.bool (g[i]).2.2 = Lit.bool (g'[i]).2.2 := a2
  injection b0 with _ b0
  injection b1 with _ b1
  injection b2 with b2
  exact Prod.ext b0 (Prod.ext b1 b2)
theorem mapM_some {α β : Type} {f : α → Option β} {g : α → β} : ∀ {l : List α}, (∀ a, a ∈ l → f a = some (g a)) → l.mapM f = some (l.map g)
  | [], _ => rfl
  | a :: l, h => by
    rw [List.mapM_cons, h a (List.mem_cons_self ..), mapM_some fun b hb => h b (List.mem_cons_of_mem _ hb)]
    rfl
theorem kl_grp (d : Nat) (g : List Slt) (h : ∀ i, i < 16 → slOK (g.getD i s0)) : Tryz.prog.keyLits (d + 3) 220 (valsL (listU uG g 0 48)) = some (litsL (listU uG g 0 48)) := by
  have c1 : Tryz.prog.cellsOf 220 = 48 := by kernel_rfl
  have c2 : Tryz.prog.cellsOf 200 = 3 := by kernel_rfl
  have key : ∀ i, i < 16 → Tryz.prog.keyLits (d + 2) 200 (((valsL (listU uG g 0 48)).drop (i * 3)).take 3) = some (litsL (slL (g.getD i s0))) := by
    intro i hi
    match i, hi with
    | 0, _ => exact kl_slot d (h 0 (by omega))
    | 1, _ => exact kl_slot d (h 1 (by omega))
    | 2, _ => exact kl_slot d (h 2 (by omega))
    | 3, _ => exact kl_slot d (h 3 (by omega))
    | 4, _ => exact kl_slot d (h 4 (by omega))
    | 5, _ => exact kl_slot d (h 5 (by omega))
    | 6, _ => exact kl_slot d (h 6 (by omega))
    | 7, _ => exact kl_slot d (h 7 (by omega))
    | 8, _ => exact kl_slot d (h 8 (by omega))
    | 9, _ => exact kl_slot d (h 9 (by omega))
    | 10, _ => exact kl_slot d (h 10 (by omega))
    | 11, _ => exact kl_slot d (h 11 (by omega))
    | 12, _ => exact kl_slot d (h 12 (by omega))
    | 13, _ => exact kl_slot d (h 13 (by omega))
    | 14, _ => exact kl_slot d (h 14 (by omega))
    | 15, _ => exact kl_slot d (h 15 (by omega))
    | n + 16, hi => exact absurd hi (by omega)
  unfold Program.keyLits
  simp only [Tryz.underlying220, c1, c2]
  have hl : (valsL (listU uG g 0 48)).length = 48 := rfl
  have hr : ((List.range 16).map fun i => litsL (slL (g.getD i s0))).flatten = litsL (listU uG g 0 48) := rfl
  generalize valsL (listU uG g 0 48) = vl at hl key ⊢
  rw [if_pos hl, mapM_some (g := fun i => litsL (slL (g.getD i s0))) fun i hi => key i (List.mem_range.1 hi)]
  exact congrArg some hr
theorem grpInf : (Tryz.prog.info? 220).map (·.size) = some 48 := by kernel_rfl
theorem inf_of {T n : Nat} (h : (Tryz.prog.info? T).map (·.size) = some n) : ∃ i, Tryz.prog.info? T = some i ∧ i.size = n := by
  cases e : Tryz.prog.info? T with
  | none => rw [e] at h; cases h
  | some i => rw [e] at h; exact ⟨i, rfl, by simpa using h⟩
theorem g0_get (i : Nat) : g0.getD i s0 = s0 := by
  unfold g0
  rw [List.getD_eq_getElem?_getD, List.getElem?_replicate]
  split <;> rfl
@[reducible] def sZ : List S1 := [.d (.int .i64 0), .d (.int .i64 0), .d (.lit false)]
@[reducible] def gZ : List S1 := sZ ++ (sZ ++ (sZ ++ (sZ ++ (sZ ++ (sZ ++ (sZ ++ (sZ ++ (sZ ++ (sZ ++ (sZ ++ (sZ ++ (sZ ++ (sZ ++ (sZ ++ sZ))))))))))))))
theorem kl_zero : Tryz.prog.keyLits 5 220 (valsL gZ) = some (litsL gZ) := kl_grp 2 g0 fun i _ => by rw [g0_get]; exact ⟨by decide, by decide⟩
@[reducible] def tpK (c : Nat) : KL := [(0, vP 1001), (1, vI (c : Int)), (5, vP 5), (6, vP 6)]
@[reducible] def tpB (n : Int) (es : List (El uI × El uG)) (s : Slt) (g : List Slt) : BL := [(6, .val uG g), (5, .cells (slL s)), (1001, .cells [.d (.int .i64 n), .mp 1002]), (1002, .map uI uG es)]
set_option maxHeartbeats 1000000 in
theorem tput_fn {t : List Slt} {es : List (El uI × El uG)} (hR : TabR t es) (n : Int) (c : Nat) (hc : c < 100000) (s : Slt) (hs : slOK s) : Fn Tryz.prog 151 [vP 1001, vI (c : Int), .c (vSl s)] (tabB n es) [] vU (tabB n (tput es c s)) := by
  obtain ⟨sinf, si1, si2⟩ := inf_of slInf
  obtain ⟨ginf, gi1, gi2⟩ := inf_of grpInf
  have hlen := hR.len ((c : Int) / 16)
  have ek : ((c / 16 : Nat) : Int) = (c : Int) / 16 := by omega
  have ej : ((c : Int) % 16).toNat = c % 16 := by omega
  have hp1 : (gAt es ((c : Int) / 16)).set (c % 16) s = g0 → tput es c s = mdel (ku := uI) (vu := uG) es ((c : Int) / 16) := fun h => by
    unfold tput
    rw [ek, if_pos h]
    rfl
  have hp2 : ¬ (gAt es ((c : Int) / 16)).set (c % 16) s = g0 → tput es c s = mput (ku := uI) (vu := uG) es ((c : Int) / 16) ((gAt es ((c : Int) / 16)).set (c % 16) s) := fun h => by
    unfold tput
    rw [ek, if_neg h]
    rfl
  have hlg : ((gAt es ((c : Int) / 16)).set (c % 16) s).length = 16 := by rw [List.length_set]; exact hlen
  have hsok : ∀ i, i < 16 → slOK (((gAt es ((c : Int) / 16)).set (c % 16) s).getD i s0) := fun i _ => by
    rw [List.getD_eq_getElem?_getD, List.getElem?_set]
    split
    · split
      · exact hs
      · exact ⟨by decide, by decide⟩
    · rw [← List.getD_eq_getElem?_getD]; exact hR.ok _ _
  obtain ⟨g', hg'⟩ : ∃ g' : List Slt, g' = (gAt es ((c : Int) / 16)).set (c % 16) s := ⟨_, rfl⟩
  rw [← hg'] at hp1 hp2 hsok hlg
  have heq : decide (g' = g0) = true ↔ litsL (listU uG g' 0 48) = litsL gZ := by
    rw [decide_eq_true_iff]
    exact ⟨fun h => by rw [h]; rfl, lits_arr g' g0 hlg rfl⟩
  refine Fn.of tblOK [2] _ _ _ _ _ Tryz.func151 rfl rfl (by kernel_rfl) (by kernel_rfl) rfl (drawOK tblOK) rfl ?_
  refine ⟨rfl, ?_⟩
  refine ⟨⟨by omega, by omega⟩, ⟨by omega, by omega⟩, ?_⟩
  refine ⟨rfl, ?_⟩
  show TrQ _ _ _ _ _ _ _
  refine TrQ.go tblOK (drawOK tblOK) [] (by kernel_rfl) ((Le.toVal 6 (u := uG) (x := gAt es ((c : Int) / 16)) ⟨hlen, fun _ _ => ⟨trivial, trivial, trivial⟩⟩ rfl).trans (Le.sub (K' := tpK c) (B' := tpB n es s (gAt es ((c : Int) / 16))) ⟨rfl, rfl, rfl, rfl, trivial⟩ ⟨rfl, rfl, rfl, rfl, trivial⟩)) ?_
  refine ⟨⟨by omega, by omega⟩, ⟨by omega, by omega⟩, ?_⟩
  refine ⟨_, _, fun N => opOK_indexVal (s := 3) (j := (c : Int) % 16) rfl Tryz.underlying220 si1 si2 rfl rfl (by omega) (by omega) N, rfl, ?_⟩
  rw [ej]
  refine ⟨_, ⟨[6], [], [(6, some (.val uG g'))]⟩, fun N => by rw [hg']; exact opOK_storeVal (n := 16) (u := uSl) (g := gAt es ((c : Int) / 16)) (y := s) rfl si1 si2 rfl (by omega) rfl rfl ⟨trivial, trivial, trivial⟩ N, rfl, ?_⟩
  refine ⟨_, _, fun N => opOK_loadVal (u := uG) (y := g') rfl Tryz.underlying220 rfl gi1 gi2 rfl rfl N, rfl, ?_⟩
  refine ⟨_, _, fun N => opOK_build0 tblOK rfl rfl Tryz.underlying220 si1 rfl N, rfl, ?_⟩
  refine ⟨_, _, fun N => opOK_eqDeep (m := 5) (D := 5) (r := decide (g' = g0)) (lx := listU uG g' 0 48) (ly := gZ) rfl (by kernel_rfl) (by kernel_rfl) (by decide) rfl rfl rfl rfl rfl (kl_grp 2 g' hsok) kl_zero (heq) N, rfl, ?_⟩
  refine ⟨fun h => ?_, fun h => ?_⟩
  · have h := of_decide_eq_true h
    refine ⟨⟨by omega, by omega⟩, ⟨by omega, by omega⟩, ?_⟩
    rw [hp1 h]
    exact ⟨_, _, _, Le.refl _ _, rfl, trivial, ⟨rfl, rfl, trivial⟩, rfl⟩
  · have h := of_decide_eq_false h
    refine ⟨⟨by omega, by omega⟩, ⟨by omega, by omega⟩, ?_⟩
    refine ⟨_, _, fun N => opOK_loadVal (u := uG) (y := g') rfl Tryz.underlying220 rfl gi1 gi2 rfl rfl N, rfl, ?_⟩
    refine ⟨g', ⟨⟨hlg, fun _ _ => ⟨trivial, trivial, trivial⟩⟩, rfl⟩, ?_⟩
    refine ⟨rfl, ?_⟩
    rw [hp2 h]
    exact ⟨_, _, _, Le.refl _ _, rfl, trivial, ⟨rfl, rfl, trivial⟩, rfl⟩
theorem tset_fn {t : List Slt} {es : List (El uI × El uG)} (hR : TabR t es) (hl : t.length ≤ 256) (c : Nat) (hc : c < t.length) (s : Slt) (hs : slOK s) (hr : slRight s = true) :
    Fn Tryz.prog 137 [vP 1001, vI (c : Int), .c (vSl s)] (tabB (t.length : Nat) es) [] (.tup [vSl t[c], vErr 0]) (tabB (t.length : Nat) (tput es c s)) := by
  refine Fn.of tblOK [] _ _ _ _ _ Tryz.func137 rfl rfl (by kernel_rfl) (by kernel_rfl) rfl (drawOK tblOK) rfl ?_
  refine ⟨rfl, ?_⟩
  refine ⟨rfl, ?_⟩
  refine ⟨fun h1 => absurd (of_decide_eq_true h1) (by omega), fun h1 => ?_⟩
  refine ⟨fun h1 => absurd (of_decide_eq_true h1) (by omega), fun h1 => ?_⟩
  refine ⟨_, _, _, _, sright_fn s hs, trivial, rfl, ?_⟩
  refine ⟨fun h1 => absurd h1 (by rw [hr]; decide), fun _ => ?_⟩
  refine ⟨_, _, _, _, tget_fn hR hl c hc, ⟨rfl, rfl, trivial⟩, rfl, ?_⟩
  refine ⟨rfl, ?_⟩
  refine ⟨_, _, _, _, tput_fn hR (t.length : Nat) c (by omega) s hs, ⟨rfl, rfl, trivial⟩, rfl, ?_⟩
  exact ⟨_, _, _, Le.refl _ _, rfl, ⟨⟨rfl, rfl, rfl, trivial⟩, rfl, trivial⟩, ⟨rfl, rfl, trivial⟩, rfl⟩
def tabO (t : List Slt) : Ob where
  R := fun I F w p => ∃ es, TabR t es ∧ grpR 1001 (tabB (t.length : Nat) es) I F w p
  stable := fun I F w I' w' p ⟨es, h, hg⟩ he hF hz => ⟨es, h, (Ob.grp 1001 (tabB (t.length : Nat) es)).stable I F w I' w' p hg he hF hz⟩
theorem TabR.new (n : Nat) : TabR (List.replicate n s0) [] := by
  have hg : ∀ k i, (gAt [] k).getD i s0 = s0 := fun k i => g0_get i
  refine ⟨.nil, fun p hp => (nomatch hp), fun k i => ?_, fun c hc => ?_⟩
  · rw [hg]; exact ⟨by decide, by decide⟩
  · rw [hg, List.getElem_replicate]
theorem tnew_bad (n : Int) (h : ¬ (0 ≤ n ∧ n ≤ 256)) : Fn Tryz.prog 73 [vI n] [] [] (.tup [vNilP, vErr 1]) [] := by
  have hb : (decide (0 ≤ n) && decide (n ≤ 256)) = false := by
    rw [Bool.and_eq_false_iff, decide_eq_false_iff_not, decide_eq_false_iff_not]
    omega
  refine Fn.of tblOK [] _ _ _ _ _ Tryz.func73 rfl rfl (by kernel_rfl) (by kernel_rfl) rfl (drawOK tblOK) rfl ?_
  refine ⟨_, _, _, _, tright_fn n, trivial, rfl, ?_⟩
  rw [hb]
  refine ⟨fun _ => ?_, fun h1 => absurd h1 (by decide)⟩
  exact ⟨_, _, _, Le.refl _ _, rfl, ⟨rfl, rfl, trivial⟩, trivial, rfl⟩
theorem tnew_ok (n : Nat) (h : n ≤ 256) : Fn Tryz.prog 73 [vI (n : Int)] [] [1001] (.tup [.one (.ptr 1001 0), vErr 0]) [(1001, .obj (tabO (List.replicate n s0)))] := by
  have hb : (decide ((0 : Int) ≤ n) && decide ((n : Int) ≤ 256)) = true := by
    rw [Bool.and_eq_true, decide_eq_true_iff, decide_eq_true_iff]
    omega
  have hl : ((List.replicate n s0).length : Nat) = n := List.length_replicate
  refine Fn.of tblOK [] _ _ _ _ _ Tryz.func73 rfl rfl (by kernel_rfl) (by kernel_rfl) rfl (drawOK tblOK) rfl ?_
  refine ⟨_, _, _, _, tright_fn n, trivial, rfl, ?_⟩
  rw [hb]
  refine ⟨fun h1 => absurd h1 (by decide), fun _ => ?_⟩
  refine ⟨rfl, ?_⟩
  refine ⟨rfl, ?_⟩
  refine ⟨_, _, _, (Le.ren 10 1001 rfl).trans ((Le.ren 8 1002 rfl).trans (Le.close 1001 (tabB (n : Nat) []) (o := tabO (List.replicate n s0)) ⟨rfl, rfl, trivial⟩ rfl fun _ _ _ _ h => ⟨[], TabR.new n, by rw [hl]; exact h⟩)), rfl, ⟨rfl, rfl, trivial⟩, ⟨rfl, trivial⟩, rfl⟩
end Go.Proofs.YtolaecebfkdbcaaGreat
