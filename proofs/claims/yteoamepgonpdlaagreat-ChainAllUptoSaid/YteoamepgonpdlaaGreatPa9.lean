/-
Part 9 of the proof that stands in YteoamepgonpdlaaGreatPaRow, with what it needs from the parts ahead; the parts of this text: Mg, Tb, Cn, Da, Fx.
-/
import Derived.Test.YteoamepgonpdlaaGreatPa8
/-!
  Maps as lists of entries: get, put, delete. No program in sight.
-/
namespace Go.Proofs.YteoamepgonpdlaaGreat
set_option linter.unusedVariables false
set_option linter.unusedSimpArgs false
open Go.RowKit
/-- No key is there twice. -/
def KNd {ku vu : U} (es : List (El ku × El vu)) : Prop := es.Pairwise fun p q => eqKey ku p.1 q.1 = false
theorem eqI_iff (a b : Int) : eqI a b = true ↔ a = b := decide_eq_true_iff
theorem eqS_iff (a b : List UInt8) : eqS a b = true ↔ a = b := decide_eq_true_iff
theorem eqKey_int {k : IntKind} (a b : El (.int k)) : eqKey (.int k) a b = true ↔ a = b := eqI_iff a b
theorem eqKey_str (a b : El .str) : eqKey .str a b = true ↔ a = b := eqS_iff a b
section
variable {ku vu : U} (hL : ∀ a b : El ku, eqKey ku a b = true ↔ a = b)
include hL
theorem eqKey_ne {a b : El ku} (h : a ≠ b) : eqKey ku a b = false := by
 cases e : eqKey ku a b with
 | false => rfl
 | true => exact absurd ((hL a b).1 e) h
theorem eqKey_refl (a : El ku) : eqKey ku a a = true := (hL a a).2 rfl
theorem mget_mput (k : El ku) (x : El vu) : ∀ (es : List (El ku × El vu)), mget (mput es k x) k = some x ∧ ∀ j, j ≠ k → mget (mput es k x) j = mget es j
 | [] => by
   refine ⟨?_, fun j hj => ?_⟩
   · simp only [mput, mget, eqKey_refl hL]
   · simp only [mput, mget, eqKey_ne hL hj]
 | p :: es => by
   obtain ⟨h1, h2⟩ := mget_mput k x es
   unfold mput
   cases e : eqKey ku k p.1 with
   | true =>
     have e1 := (hL _ _).1 e
     simp only
     refine ⟨by simp only [mget, eqKey_refl hL], fun j hj => ?_⟩
     simp only [mget, eqKey_ne hL hj, eqKey_ne hL (fun h => hj (h.trans e1.symm))]
   | false =>
     simp only
     refine ⟨by simp only [mget, e, h1], fun j hj => ?_⟩
     simp only [mget, h2 j hj]
theorem mget_none_of {k : El ku} : ∀ {es : List (El ku × El vu)}, (∀ p, p ∈ es → eqKey ku p.1 k = false) → mget es k = none
 | [], _ => rfl
 | p :: es, h => by
   have h1 := h p (List.mem_cons_self ..)
   have : eqKey ku k p.1 = false := eqKey_ne hL fun e => by rw [e, eqKey_refl hL] at h1; cases h1
   simp only [mget, this]
   exact mget_none_of fun q hq => h q (List.mem_cons_of_mem _ hq)
theorem mget_mdel (k : El ku) : ∀ (es : List (El ku × El vu)), KNd es → mget (mdel es k) k = none ∧ ∀ j, j ≠ k → mget (mdel es k) j = mget es j
 | [], _ => ⟨rfl, fun _ _ => rfl⟩
 | p :: es, hn => by
   obtain ⟨n1, n2⟩ := List.pairwise_cons.1 hn
   obtain ⟨h1, h2⟩ := mget_mdel k es n2
   unfold mdel
   cases e : eqKey ku k p.1 with
   | true =>
     have e1 := (hL _ _).1 e
     subst e1
     simp only
     refine ⟨mget_none_of hL fun q hq => ?_, fun j hj => ?_⟩
     · have := n1 q hq
       exact eqKey_ne hL fun e => by rw [← e, eqKey_refl hL] at this; cases this
     · simp only [mget, eqKey_ne hL hj]
   | false =>
     simp only
     refine ⟨by simp only [mget, e, h1], fun j hj => ?_⟩
     simp only [mget, h2 j hj]
omit hL in
theorem mem_mput {k : El ku} {x : El vu} : ∀ {es : List (El ku × El vu)} {q : El ku × El vu}, q ∈ mput es k x → q = (k, x) ∨ q ∈ es
 | [], q, h => by
   unfold mput at h
   exact .inl (List.mem_singleton.1 h)
 | p :: es, q, h => by
   unfold mput at h
   split at h
   · rcases List.mem_cons.1 h with h | h
     · exact .inl h
     · exact .inr (List.mem_cons_of_mem _ h)
   · rcases List.mem_cons.1 h with h | h
     · exact .inr (by rw [h]; exact List.mem_cons_self ..)
     · exact (mem_mput h).imp id (List.mem_cons_of_mem _)
omit hL in
theorem mem_mdel {k : El ku} : ∀ {es : List (El ku × El vu)} {q : El ku × El vu}, q ∈ mdel es k → q ∈ es
 | [], q, h => by cases h
 | p :: es, q, h => by
   unfold mdel at h
   split at h
   · exact List.mem_cons_of_mem _ h
   · rcases List.mem_cons.1 h with h | h
     · rw [h]; exact List.mem_cons_self ..
     · exact List.mem_cons_of_mem _ (mem_mdel h)
theorem KNd.put {k : El ku} {x : El vu} : ∀ {es : List (El ku × El vu)}, KNd es → KNd (mput es k x)
 | [], _ => List.pairwise_singleton _ _
 | p :: es, hn => by
   obtain ⟨n1, n2⟩ := List.pairwise_cons.1 hn
   unfold mput
   split
   · rename_i e
     have e1 := (hL _ _).1 e
     refine List.pairwise_cons.2 ⟨fun q hq => ?_, n2⟩
     have := n1 q hq
     simp only
     rw [e1]
     exact this
   · rename_i e
     refine List.pairwise_cons.2 ⟨fun q hq => ?_, KNd.put n2⟩
     rcases mem_mput hq with rfl | hq
     · simp only
       exact eqKey_ne hL fun h => by rw [h, eqKey_refl hL] at e; cases e
     · exact n1 q hq
omit hL in
theorem KNd.del {k : El ku} : ∀ {es : List (El ku × El vu)}, KNd es → KNd (mdel es k)
 | [], h => h
 | p :: es, hn => by
   obtain ⟨n1, n2⟩ := List.pairwise_cons.1 hn
   unfold mdel
   split
   · exact n2
   · exact List.pairwise_cons.2 ⟨fun q hq => n1 q (mem_mdel hq), KNd.del n2⟩
theorem mget_mem_key {k : El ku} {x : El vu} : ∀ {es : List (El ku × El vu)}, mget es k = some x → (k, x) ∈ es
 | [], h => by cases h
 | p :: es, h => by
   unfold mget at h
   split at h
   · rename_i e
     injection h with h
     have e1 := (hL _ _).1 e
     subst h e1
     exact List.mem_cons_self ..
   · exact List.mem_cons_of_mem _ (mget_mem_key h)
end
end Go.Proofs.YteoamepgonpdlaaGreat
/-!
  The table: slots of clusters, kept by groups.
-/
namespace Go.Proofs.YteoamepgonpdlaaGreat
set_option linter.unusedVariables false
set_option linter.unusedSimpArgs false
set_option maxRecDepth 10000
open Go.RowKit Go.Proofs
@[reducible] def uSl : U := .pr (.int .i64) (.pr (.int .i64) .bool)
@[reducible] def uG : U := .arr 16 uSl
/-- A slot: its kind, its cluster, whether that is its own. -/
abbrev Slt := Int × Int × Bool
@[reducible] def slL (s : Slt) : List S1 := [.d (.int .i64 s.1), .d (.int .i64 s.2.1), .d (.bool s.2.2)]
@[reducible] def vSl (s : Slt) : SC := .agg (slL s)
@[reducible] def s0 : Slt := (0, 0, false)
/-- Its numbers are small. -/
def slOK (s : Slt) : Prop := (-1000000 ≤ s.1 ∧ s.1 ≤ 1000000) ∧ -1000000 ≤ s.2.1 ∧ s.2.1 ≤ 1000000
def g0 : List Slt := List.replicate 16 s0
@[reducible] def tabB (n : Int) (es : List (El uI × El uG)) : BL := [(1001, .cells [.d (.int .i64 n), .mp 1002]), (1002, .map uI uG es)]
def gAt (es : List (El uI × El uG)) (k : Int) : List Slt := (mget (ku := uI) (vu := uG) es k).getD g0
structure TabR (t : List Slt) (es : List (El uI × El uG)) : Prop where
 nd : KNd es
 wf : ∀ p, p ∈ es → List.length (α := Slt) p.2 = 16
 ok : ∀ k i, slOK ((gAt es k).getD i s0)
 at_ : ∀ c (h : c < t.length), (gAt es ((c / 16 : Nat) : Int)).getD (c % 16) s0 = t[c]
theorem TabR.len {t : List Slt} {es : List (El uI × El uG)} (h : TabR t es) (k : Int) : (gAt es k).length = 16 := by
 unfold gAt
 cases e : mget (ku := uI) (vu := uG) es k with
 | none => rfl
 | some g => exact h.wf _ (mget_mem_key eqKey_int e)
theorem gAt_put (es : List (El uI × El uG)) (k : Int) (g : List Slt) : gAt (mput (ku := uI) (vu := uG) es k g) k = g ∧ ∀ j, j ≠ k → gAt (mput (ku := uI) (vu := uG) es k g) j = gAt es j := by
 obtain ⟨h1, h2⟩ := mget_mput (ku := uI) (vu := uG) eqKey_int k g es
 refine ⟨by unfold gAt; rw [h1]; rfl, fun j hj => ?_⟩
 unfold gAt
 rw [h2 j hj]
theorem gAt_del {es : List (El uI × El uG)} (hn : KNd es) (k : Int) : gAt (mdel (ku := uI) (vu := uG) es k) k = g0 ∧ ∀ j, j ≠ k → gAt (mdel (ku := uI) (vu := uG) es k) j = gAt es j := by
 obtain ⟨h1, h2⟩ := mget_mdel (ku := uI) (vu := uG) eqKey_int k es hn
 refine ⟨by unfold gAt; rw [h1]; rfl, fun j hj => ?_⟩
 unfold gAt
 rw [h2 j hj]
/-- What put leaves. -/
def tput (es : List (El uI × El uG)) (c : Nat) (s : Slt) : List (El uI × El uG) :=
 if (gAt es ((c / 16 : Nat) : Int)).set (c % 16) s = g0 then mdel (ku := uI) (vu := uG) es ((c / 16 : Nat) : Int) else mput (ku := uI) (vu := uG) es ((c / 16 : Nat) : Int) ((gAt es ((c / 16 : Nat) : Int)).set (c % 16) s)
theorem gAt_tput {t : List Slt} {es : List (El uI × El uG)} (h : TabR t es) (c : Nat) (s : Slt) : gAt (tput es c s) ((c / 16 : Nat) : Int) = (gAt es ((c / 16 : Nat) : Int)).set (c % 16) s ∧ ∀ j, j ≠ ((c / 16 : Nat) : Int) → gAt (tput es c s) j = gAt es j := by
 unfold tput
 split
 · rename_i e
   obtain ⟨h1, h2⟩ := gAt_del h.nd ((c / 16 : Nat) : Int)
   exact ⟨h1.trans e.symm, h2⟩
 · exact gAt_put es _ _
theorem TabR.set {t : List Slt} {es : List (El uI × El uG)} (h : TabR t es) (c : Nat) (s : Slt) (hs : slOK s) : TabR (t.set c s) (tput es c s) := by
 obtain ⟨g1, g2⟩ := gAt_tput h c s
 refine ⟨?_, ?_, fun k i => ?_, fun d hd => ?_⟩
 · unfold tput
   split
   · exact KNd.del h.nd
   · exact KNd.put eqKey_int h.nd
 · intro p hp
   unfold tput at hp
   split at hp
   · exact h.wf p (mem_mdel hp)
   · rcases mem_mput hp with rfl | hp
     · show List.length (α := Slt) ((gAt es ((c / 16 : Nat) : Int)).set (c % 16) s) = 16
       rw [List.length_set]; exact h.len _
     · exact h.wf p hp
 · by_cases e : k = ((c / 16 : Nat) : Int)
   · rw [e, g1, List.getD_eq_getElem?_getD, List.getElem?_set]
     split
     · split
       · exact hs
       · exact ⟨by decide, by decide⟩
     · rw [← List.getD_eq_getElem?_getD]
       exact h.ok _ _
   · rw [g2 _ e]
     exact h.ok _ _
 · rw [List.length_set] at hd
   have hl := h.len ((c / 16 : Nat) : Int)
   by_cases e : d / 16 = c / 16
   · rw [e, g1]
     by_cases e2 : d = c
     · subst e2
       rw [List.getElem_set_self, List.getD_eq_getElem?_getD, List.getElem?_set_self (by rw [hl]; omega)]
       rfl
     · have hne : c % 16 ≠ d % 16 := fun h => e2 (by omega)
       rw [List.getElem_set_ne (Ne.symm e2), List.getD_eq_getElem?_getD, List.getElem?_set_ne hne, ← List.getD_eq_getElem?_getD, ← e]
       exact h.at_ d hd
   · have hne : ((d / 16 : Nat) : Int) ≠ ((c / 16 : Nat) : Int) := fun h => e (by omega)
     rw [g2 _ hne, List.getElem_set_ne (fun e2 => e (by rw [e2]))]
     exact h.at_ d hd
/-! ### slots -/
theorem slInf : (Tryz.prog.info? 188).map (·.size) = some 3 := by kernel_rfl
def slRight (s : Slt) : Bool := if s.1 = 1 then decide (0 ≤ s.2.1) && decide (s.2.1 < 512) else decide (s = s0) || decide (s = (2, 0, false))
theorem slt_eq (s q : Slt) : decide (s = q) = true ↔ litsL (slL s) = litsL (slL q) := by
 rw [decide_eq_true_iff]
 simp only [litsL, litS, slL, List.cons.injEq, Lit.int.injEq, Lit.bool.injEq, true_and, and_true]
 constructor
 · intro h; subst h; exact ⟨rfl, rfl, rfl⟩
 · rintro ⟨h1, h2, h3⟩; exact Prod.ext h1 (Prod.ext h2 h3)
theorem wf_small {n : Int} (h : -1000000 ≤ n ∧ n ≤ 1000000) : (Lit.int .i64 n).wf = true := by
 simp only [Lit.wf, Bool.and_eq_true, decide_eq_true_eq]
 have h1 : IntKind.min .i64 = -9223372036854775808 := by decide
 have h2 : IntKind.max .i64 = 9223372036854775807 := by decide
 rw [h1, h2]
 omega
theorem kl_int (d : Nat) {n : Int} (h : -1000000 ≤ n ∧ n ≤ 1000000) : Tryz.prog.keyLits (d + 1) 3 [.int .i64 n] = some [.int .i64 n] := by
 unfold Program.keyLits
 simp only [Tryz.underlying3]
 have hw := wf_small h
 simp [hw]
theorem kl_slot (d : Nat) {s : Slt} (h : slOK s) : Tryz.prog.keyLits (d + 2) 188 (valsL (slL s)) = some (litsL (slL s)) := by
 have c1 : Tryz.prog.cellsOf 188 = 3 := by kernel_rfl
 have c2 : Tryz.prog.cellsOf 3 = 1 := by kernel_rfl
 have c3 : Tryz.prog.cellsOf 4 = 1 := by kernel_rfl
 have k1 := kl_int d h.1
 have k2 := kl_int d h.2
 have k3 : Tryz.prog.keyLits (d + 1) 4 [.bool s.2.2] = some [.bool s.2.2] := by
   unfold Program.keyLits
   simp only [Tryz.underlying4]
 unfold Program.keyLits
 simp only [Tryz.underlying188, c1]
 simp [valsL, valS, slL, c2, c3, k1, k2, k3, litsL, litS]
theorem sright_fn (s : Slt) (hs : slOK s) : Fn Tryz.prog 151 [.c (vSl s)] [] [] (vB (slRight s)) [] := by
 refine Fn.of tblOK [] _ _ _ _ _ Tryz.func151 rfl rfl (by kernel_rfl) (by kernel_rfl) rfl (drawOK tblOK) rfl ?_
 refine ⟨rfl, ?_⟩
 refine ⟨fun h1 => ?_, fun h1 => ?_⟩
 · have h1 := of_decide_eq_true h1
   refine ⟨fun h2 => ?_, fun h2 => ?_⟩
   · refine ⟨_, _, _, Le.refl _ _, rfl, ?_, trivial, rfl⟩
     show decide (s.2.1 < 512) = slRight s
     unfold slRight
     have h2 : decide (0 ≤ s.2.1) = true := h2
     rw [if_pos h1, h2, Bool.true_and]
   · refine ⟨_, _, _, Le.refl _ _, rfl, ?_, trivial, rfl⟩
     show false = slRight s
     unfold slRight
     have h2 : decide (0 ≤ s.2.1) = false := h2
     rw [if_pos h1, h2, Bool.false_and]
 · have h1 := of_decide_eq_false h1
   refine ⟨_, _, fun N => opOK_eqDeep (m := 5) (D := 5) (lx := slL s) (ly := [.d (.int .i64 0), .d (.int .i64 0), .d (.lit false)]) rfl (by kernel_rfl) (by kernel_rfl) (by decide) rfl rfl rfl rfl rfl (kl_slot 3 hs) (kl_slot 3 (s := s0) ⟨by decide, by decide⟩) (slt_eq s s0) N, rfl, ?_⟩
   refine ⟨fun h2 => ?_, fun h2 => ?_⟩
   · refine ⟨_, _, _, Le.refl _ _, rfl, ?_, trivial, rfl⟩
     show true = slRight s
     unfold slRight
     rw [if_neg h1, h2, Bool.true_or]
   · refine ⟨_, _, fun N => opOK_eqDeep (m := 5) (D := 5) (lx := slL s) (ly := [.d (.int .i64 2), .d (.int .i64 0), .d (.lit false)]) rfl (by kernel_rfl) (by kernel_rfl) (by decide) rfl rfl rfl rfl rfl (kl_slot 3 hs) (kl_slot 3 (s := (2, 0, false)) ⟨by decide, by decide⟩) (slt_eq s (2, 0, false)) N, rfl, ?_⟩
     refine ⟨_, _, _, Le.refl _ _, rfl, ?_, trivial, rfl⟩
     show decide (s = (2, 0, false)) = slRight s
     unfold slRight
     rw [if_neg h1, h2, Bool.false_or]
def slWr (s : Slt) : Bool := decide (s.1 = 1) && s.2.2
theorem swrites_fn (s : Slt) : Fn Tryz.prog 134 [.c (vSl s)] [] [] (vB (slWr s)) [] := by
 refine Fn.of tblOK [] _ _ _ _ _ Tryz.func134 rfl rfl (by kernel_rfl) (by kernel_rfl) rfl (drawOK tblOK) rfl ?_
 refine ⟨rfl, ?_⟩
 refine ⟨fun h1 => ?_, fun h1 => ?_⟩
 · refine ⟨_, _, _, Le.refl _ _, rfl, ?_, trivial, rfl⟩
   show s.2.2 = slWr s
   unfold slWr
   have h1 : decide (s.1 = 1) = true := h1
   rw [h1, Bool.true_and]
 · refine ⟨_, _, _, Le.refl _ _, rfl, ?_, trivial, rfl⟩
   show false = slWr s
   unfold slWr
   have h1 : decide (s.1 = 1) = false := h1
   rw [h1, Bool.false_and]
/-! ### the table's functions, laid open -/
theorem tright_fn (n : Int) : Fn Tryz.prog 113 [vI n] [] [] (vB (decide (0 ≤ n) && decide (n ≤ 256))) [] := by
 refine Fn.of tblOK [] _ _ _ _ _ Tryz.func113 rfl rfl (by kernel_rfl) (by kernel_rfl) rfl (drawOK tblOK) rfl ?_
 refine ⟨fun h => ?_, fun h => ?_⟩
 · refine ⟨_, _, _, Le.refl _ _, rfl, ?_, trivial, rfl⟩
   show decide (n ≤ 256) = _
   have h : decide (0 ≤ n) = true := h
   rw [h, Bool.true_and]
 · refine ⟨_, _, _, Le.refl _ _, rfl, ?_, trivial, rfl⟩
   show false = _
   have h : decide (0 ≤ n) = false := h
   rw [h, Bool.false_and]
theorem tlen_fn (n : Int) (es : List (El uI × El uG)) : Fn Tryz.prog 105 [vP 1001] (tabB n es) [] (vI n) (tabB n es) := by
 refine Fn.of tblOK [] _ _ _ _ _ Tryz.func105 rfl rfl (by kernel_rfl) (by kernel_rfl) rfl (drawOK tblOK) rfl ?_
 exact ⟨_, _, _, Le.refl _ _, rfl, rfl, ⟨rfl, rfl, trivial⟩, rfl⟩
theorem tget_fn {t : List Slt} {es : List (El uI × El uG)} (hR : TabR t es) (hl : t.length ≤ 256) (c : Nat) (hc : c < t.length) : Fn Tryz.prog 108 [vP 1001, vI (c : Int)] (tabB (t.length : Nat) es) [] (.c (vSl t[c])) (tabB (t.length : Nat) es) := by
 have hg : (gAt es ((c : Int) / 16)).getD ((c : Int) % 16).toNat s0 = t[c] := by
   rw [← hR.at_ c hc]
   congr 1
 obtain ⟨sinf, si1, si2⟩ : ∃ i, Tryz.prog.info? 188 = some i ∧ i.size = 3 := by
   have := slInf
   cases e : Tryz.prog.info? 188 with
   | none => rw [e] at this; cases this
   | some i => rw [e] at this; exact ⟨i, rfl, by simpa using this⟩
 refine Fn.of tblOK [] _ _ _ _ _ Tryz.func108 rfl rfl (by kernel_rfl) (by kernel_rfl) rfl (drawOK tblOK) rfl ?_
 refine ⟨rfl, ?_⟩
 refine ⟨fun h1 => absurd (of_decide_eq_true h1) (by omega), fun h1 => ?_⟩
 refine ⟨fun h1 => absurd (of_decide_eq_true h1) (by omega), fun h1 => ?_⟩
 refine ⟨⟨by omega, by omega⟩, ⟨by omega, by omega⟩, ?_⟩
 refine ⟨⟨by omega, by omega⟩, ⟨by omega, by omega⟩, ?_⟩
 refine ⟨_, _, fun N => opOK_indexArr (n := 16) (e := 188) (u := uSl) (g := gAt es ((c : Int) / 16)) (j := (c : Int) % 16) rfl Tryz.underlying217 Tryz.underlying188 rfl si1 si2 rfl rfl (by omega) (by omega) N, rfl, ?_⟩
 refine ⟨_, _, _, Le.refl _ _, rfl, ?_, ⟨rfl, rfl, trivial⟩, rfl⟩
 show leV (.c (.agg (listU uSl ((gAt es ((c : Int) / 16)).getD ((c : Int) % 16).toNat s0) 0 3))) _
 rw [hg]
 exact ⟨rfl, rfl, rfl, trivial⟩
/-- No Hole is a group without anything. -/
theorem lits_arr (g g' : List Slt) (hl : g.length = 16) (hl' : g'.length = 16) : litsL (listU uG g 0 48) = litsL (listU uG g' 0 48) → g = g' := by
 intro h
 have hget : ∀ (l : List S1) (j : Nat), (litsL l)[j]? = (l[j]?).map litS := fun l => by
   induction l with
   | nil => intro j; simp [litsL]
   | cons s l ih =>
     intro j
     match j with
     | 0 => rfl
     | j + 1 => simpa [litsL] using ih j
 have hc : ∀ i, i < 16 → ∀ q, q < 3 → litS (.d (cellU uSl (g.getD i s0) q)) = litS (.d (cellU uSl (g'.getD i s0) q)) := fun i hi q hq => by
   have h1 := congrArg (fun l => l[i * 3 + q]?) h
   simp only [hget] at h1
   have e1 := listU_get uG g 48 0 (i * 3 + q) (by omega)
   have e2 := listU_get uG g' 48 0 (i * 3 + q) (by omega)
   rw [e1, e2] at h1
   simp only [Option.map_some, Option.some.injEq, Nat.zero_add] at h1
   have c1 : cellU uG g (i * 3 + q) = cellU uSl (g.getD i s0) q := cell_arr (u := uSl) (n := 16) g i q hq
   have c2 : cellU uG g' (i * 3 + q) = cellU uSl (g'.getD i s0) q := cell_arr (u := uSl) (n := 16) g' i q hq
   rw [c1, c2] at h1
   exact h1
 refine List.ext_getElem (hl.trans hl'.symm) fun i h1 h2 => ?_
 have a0 := hc i (by omega) 0 (by omega)
 have a1 := hc i (by omega) 1 (by omega)
 have a2 := hc i (by omega) 2 (by omega)
 have e1 : g.getD i s0 = g[i] := by rw [List.getD_eq_getElem?_getD, List.getElem?_eq_getElem h1]; rfl
 have e2 : g'.getD i s0 = g'[i] := by rw [List.getD_eq_getElem?_getD, List.getElem?_eq_getElem h2]; rfl
 rw [e1, e2] at a0 a1 a2
 have b0 : Lit.int .i64 (g[i]).1 = Lit.int .i64 (g'[i]).1 := a0
 have b1 : Lit.int .i64 (g[i]).2.1 = Lit.int .i64 (g'[i]).2.1 := a1
 have b2 : Lit.bool (g[i]).2.2 = Lit.bool (g'[i]).2.2 := a2
 injection b0 with _ b0
 injection b1 with _ b1
 injection b2 with b2
 exact Prod.ext b0 (Prod.ext b1 b2)
theorem mapM_some {α β : Type} {f : α → Option β} {g : α → β} : ∀ {l : List α}, (∀ a, a ∈ l → f a = some (g a)) → l.mapM f = some (l.map g)
 | [], _ => rfl
 | a :: l, h => by
   rw [List.mapM_cons, h a (List.mem_cons_self ..), mapM_some fun b hb => h b (List.mem_cons_of_mem _ hb)]
   rfl
theorem kl_grp (d : Nat) (g : List Slt) (h : ∀ i, i < 16 → slOK (g.getD i s0)) : Tryz.prog.keyLits (d + 3) 217 (valsL (listU uG g 0 48)) = some (litsL (listU uG g 0 48)) := by
 have c1 : Tryz.prog.cellsOf 217 = 48 := by kernel_rfl
 have c2 : Tryz.prog.cellsOf 188 = 3 := by kernel_rfl
 have key : ∀ i, i < 16 → Tryz.prog.keyLits (d + 2) 188 (((valsL (listU uG g 0 48)).drop (i * 3)).take 3) = some (litsL (slL (g.getD i s0))) := by
   intro i hi
   match i, hi with
   | 0, _ => exact kl_slot d (h 0 (by omega))
   | 1, _ => exact kl_slot d (h 1 (by omega))
   | 2, _ => exact kl_slot d (h 2 (by omega))
   | 3, _ => exact kl_slot d (h 3 (by omega))
   | 4, _ => exact kl_slot d (h 4 (by omega))
   | 5, _ => exact kl_slot d (h 5 (by omega))
   | 6, _ => exact kl_slot d (h 6 (by omega))
   | 7, _ => exact kl_slot d (h 7 (by omega))
   | 8, _ => exact kl_slot d (h 8 (by omega))
   | 9, _ => exact kl_slot d (h 9 (by omega))
   | 10, _ => exact kl_slot d (h 10 (by omega))
   | 11, _ => exact kl_slot d (h 11 (by omega))
   | 12, _ => exact kl_slot d (h 12 (by omega))
   | 13, _ => exact kl_slot d (h 13 (by omega))
   | 14, _ => exact kl_slot d (h 14 (by omega))
   | 15, _ => exact kl_slot d (h 15 (by omega))
   | n + 16, hi => exact absurd hi (by omega)
 unfold Program.keyLits
 simp only [Tryz.underlying217, c1, c2]
 have hl : (valsL (listU uG g 0 48)).length = 48 := rfl
 have hr : ((List.range 16).map fun i => litsL (slL (g.getD i s0))).flatten = litsL (listU uG g 0 48) := rfl
 generalize valsL (listU uG g 0 48) = vl at hl key ⊢
 rw [if_pos hl, mapM_some (g := fun i => litsL (slL (g.getD i s0))) fun i hi => key i (List.mem_range.1 hi)]
 exact congrArg some hr
theorem grpInf : (Tryz.prog.info? 217).map (·.size) = some 48 := by kernel_rfl
theorem inf_of {T n : Nat} (h : (Tryz.prog.info? T).map (·.size) = some n) : ∃ i, Tryz.prog.info? T = some i ∧ i.size = n := by
 cases e : Tryz.prog.info? T with
 | none => rw [e] at h; cases h
 | some i => rw [e] at h; exact ⟨i, rfl, by simpa using h⟩
theorem g0_get (i : Nat) : g0.getD i s0 = s0 := by
 unfold g0
 rw [List.getD_eq_getElem?_getD, List.getElem?_replicate]
 split <;> rfl
@[reducible] def sZ : List S1 := [.d (.int .i64 0), .d (.int .i64 0), .d (.lit false)]
@[reducible] def gZ : List S1 := sZ ++ (sZ ++ (sZ ++ (sZ ++ (sZ ++ (sZ ++ (sZ ++ (sZ ++ (sZ ++ (sZ ++ (sZ ++ (sZ ++ (sZ ++ (sZ ++ (sZ ++ sZ))))))))))))))
theorem kl_zero : Tryz.prog.keyLits 5 217 (valsL gZ) = some (litsL gZ) := kl_grp 2 g0 fun i _ => by rw [g0_get]; exact ⟨by decide, by decide⟩
@[reducible] def tpK (c : Nat) : KL := [(0, vP 1001), (1, vI (c : Int)), (5, vP 5), (6, vP 6)]
@[reducible] def tpB (n : Int) (es : List (El uI × El uG)) (s : Slt) (g : List Slt) : BL := [(6, .val uG g), (5, .cells (slL s)), (1001, .cells [.d (.int .i64 n), .mp 1002]), (1002, .map uI uG es)]
set_option maxHeartbeats 1000000 in
theorem tput_fn {t : List Slt} {es : List (El uI × El uG)} (hR : TabR t es) (n : Int) (c : Nat) (hc : c < 100000) (s : Slt) (hs : slOK s) : Fn Tryz.prog 152 [vP 1001, vI (c : Int), .c (vSl s)] (tabB n es) [] vU (tabB n (tput es c s)) := by
 obtain ⟨sinf, si1, si2⟩ := inf_of slInf
 obtain ⟨ginf, gi1, gi2⟩ := inf_of grpInf
 have hlen := hR.len ((c : Int) / 16)
 have ek : ((c / 16 : Nat) : Int) = (c : Int) / 16 := by omega
 have ej : ((c : Int) % 16).toNat = c % 16 := by omega
 have hp1 : (gAt es ((c : Int) / 16)).set (c % 16) s = g0 → tput es c s = mdel (ku := uI) (vu := uG) es ((c : Int) / 16) := fun h => by
   unfold tput
   rw [ek, if_pos h]
   rfl
 have hp2 : ¬ (gAt es ((c : Int) / 16)).set (c % 16) s = g0 → tput es c s = mput (ku := uI) (vu := uG) es ((c : Int) / 16) ((gAt es ((c : Int) / 16)).set (c % 16) s) := fun h => by
   unfold tput
   rw [ek, if_neg h]
   rfl
 have hlg : ((gAt es ((c : Int) / 16)).set (c % 16) s).length = 16 := by rw [List.length_set]; exact hlen
 have hsok : ∀ i, i < 16 → slOK (((gAt es ((c : Int) / 16)).set (c % 16) s).getD i s0) := fun i _ => by
   rw [List.getD_eq_getElem?_getD, List.getElem?_set]
   split
   · split
     · exact hs
     · exact ⟨by decide, by decide⟩
   · rw [← List.getD_eq_getElem?_getD]; exact hR.ok _ _
 obtain ⟨g', hg'⟩ : ∃ g' : List Slt, g' = (gAt es ((c : Int) / 16)).set (c % 16) s := ⟨_, rfl⟩
 rw [← hg'] at hp1 hp2 hsok hlg
 have heq : decide (g' = g0) = true ↔ litsL (listU uG g' 0 48) = litsL gZ := by
   rw [decide_eq_true_iff]
   exact ⟨fun h => by rw [h]; rfl, lits_arr g' g0 hlg rfl⟩
 refine Fn.of tblOK [2] _ _ _ _ _ Tryz.func152 rfl rfl (by kernel_rfl) (by kernel_rfl) rfl (drawOK tblOK) rfl ?_
 refine ⟨rfl, ?_⟩
 refine ⟨⟨by omega, by omega⟩, ⟨by omega, by omega⟩, ?_⟩
 refine ⟨rfl, ?_⟩
 show TrQ _ _ _ _ _ _ _
 refine TrQ.go tblOK (drawOK tblOK) [] (by kernel_rfl) ((Le.toVal 6 (u := uG) (x := gAt es ((c : Int) / 16)) ⟨hlen, fun _ _ => ⟨trivial, trivial, trivial⟩⟩ rfl).trans (Le.sub (K' := tpK c) (B' := tpB n es s (gAt es ((c : Int) / 16))) ⟨rfl, rfl, rfl, rfl, trivial⟩ ⟨rfl, rfl, rfl, rfl, trivial⟩)) ?_
 refine ⟨⟨by omega, by omega⟩, ⟨by omega, by omega⟩, ?_⟩
 refine ⟨_, _, fun N => opOK_indexVal (s := 3) (j := (c : Int) % 16) rfl Tryz.underlying217 si1 si2 rfl rfl (by omega) (by omega) N, rfl, ?_⟩
 rw [ej]
 refine ⟨_, ⟨[6], [], [(6, some (.val uG g'))]⟩, fun N => by rw [hg']; exact opOK_storeVal (n := 16) (u := uSl) (g := gAt es ((c : Int) / 16)) (y := s) rfl si1 si2 rfl (by omega) rfl rfl ⟨trivial, trivial, trivial⟩ N, rfl, ?_⟩
 refine ⟨_, _, fun N => opOK_loadVal (u := uG) (y := g') rfl Tryz.underlying217 rfl gi1 gi2 rfl rfl N, rfl, ?_⟩
 refine ⟨_, _, fun N => opOK_build0 tblOK rfl rfl Tryz.underlying217 si1 rfl N, rfl, ?_⟩
 refine ⟨_, _, fun N => opOK_eqDeep (m := 5) (D := 5) (r := decide (g' = g0)) (lx := listU uG g' 0 48) (ly := gZ) rfl (by kernel_rfl) (by kernel_rfl) (by decide) rfl rfl rfl rfl rfl (kl_grp 2 g' hsok) kl_zero (heq) N, rfl, ?_⟩
 refine ⟨fun h => ?_, fun h => ?_⟩
 · have h := of_decide_eq_true h
   refine ⟨⟨by omega, by omega⟩, ⟨by omega, by omega⟩, ?_⟩
   rw [hp1 h]
   exact ⟨_, _, _, Le.refl _ _, rfl, trivial, ⟨rfl, rfl, trivial⟩, rfl⟩
 · have h := of_decide_eq_false h
   refine ⟨⟨by omega, by omega⟩, ⟨by omega, by omega⟩, ?_⟩
   refine ⟨_, _, fun N => opOK_loadVal (u := uG) (y := g') rfl Tryz.underlying217 rfl gi1 gi2 rfl rfl N, rfl, ?_⟩
   refine ⟨g', ⟨⟨hlg, fun _ _ => ⟨trivial, trivial, trivial⟩⟩, rfl⟩, ?_⟩
   refine ⟨rfl, ?_⟩
   rw [hp2 h]
   exact ⟨_, _, _, Le.refl _ _, rfl, trivial, ⟨rfl, rfl, trivial⟩, rfl⟩
theorem tset_fn {t : List Slt} {es : List (El uI × El uG)} (hR : TabR t es) (hl : t.length ≤ 256) (c : Nat) (hc : c < t.length) (s : Slt) (hs : slOK s) (hr : slRight s = true) :
   Fn Tryz.prog 145 [vP 1001, vI (c : Int), .c (vSl s)] (tabB (t.length : Nat) es) [] (.tup [vSl t[c], vErr 0]) (tabB (t.length : Nat) (tput es c s)) := by
 refine Fn.of tblOK [] _ _ _ _ _ Tryz.func145 rfl rfl (by kernel_rfl) (by kernel_rfl) rfl (drawOK tblOK) rfl ?_
 refine ⟨rfl, ?_⟩
 refine ⟨rfl, ?_⟩
 refine ⟨fun h1 => absurd (of_decide_eq_true h1) (by omega), fun h1 => ?_⟩
 refine ⟨fun h1 => absurd (of_decide_eq_true h1) (by omega), fun h1 => ?_⟩
 refine ⟨_, _, _, _, sright_fn s hs, trivial, rfl, ?_⟩
 refine ⟨fun h1 => absurd h1 (by rw [hr]; decide), fun _ => ?_⟩
 refine ⟨_, _, _, _, tget_fn hR hl c hc, ⟨rfl, rfl, trivial⟩, rfl, ?_⟩
 refine ⟨rfl, ?_⟩
 refine ⟨_, _, _, _, tput_fn hR (t.length : Nat) c (by omega) s hs, ⟨rfl, rfl, trivial⟩, rfl, ?_⟩
 exact ⟨_, _, _, Le.refl _ _, rfl, ⟨⟨rfl, rfl, rfl, trivial⟩, rfl, trivial⟩, ⟨rfl, rfl, trivial⟩, rfl⟩
def tabO (t : List Slt) : Ob where
 R := fun I F w p => ∃ es, TabR t es ∧ grpR 1001 (tabB (t.length : Nat) es) I F w p
 stable := fun I F w I' w' p ⟨es, h, hg⟩ he hF hz => ⟨es, h, (Ob.grp 1001 (tabB (t.length : Nat) es)).stable I F w I' w' p hg he hF hz⟩
theorem TabR.new (n : Nat) : TabR (List.replicate n s0) [] := by
 have hg : ∀ k i, (gAt [] k).getD i s0 = s0 := fun k i => g0_get i
 refine ⟨.nil, fun p hp => (nomatch hp), fun k i => ?_, fun c hc => ?_⟩
 · rw [hg]; exact ⟨by decide, by decide⟩
 · rw [hg, List.getElem_replicate]
theorem tnew_bad (n : Int) (h : ¬ (0 ≤ n ∧ n ≤ 256)) : Fn Tryz.prog 85 [vI n] [] [] (.tup [vNilP, vErr 1]) [] := by
 have hb : (decide (0 ≤ n) && decide (n ≤ 256)) = false := by
   rw [Bool.and_eq_false_iff, decide_eq_false_iff_not, decide_eq_false_iff_not]
   omega
 refine Fn.of tblOK [] _ _ _ _ _ Tryz.func85 rfl rfl (by kernel_rfl) (by kernel_rfl) rfl (drawOK tblOK) rfl ?_
 refine ⟨_, _, _, _, tright_fn n, trivial, rfl, ?_⟩
 rw [hb]
 refine ⟨fun _ => ?_, fun h1 => absurd h1 (by decide)⟩
 exact ⟨_, _, _, Le.refl _ _, rfl, ⟨rfl, rfl, trivial⟩, trivial, rfl⟩
theorem tnew_ok (n : Nat) (h : n ≤ 256) : Fn Tryz.prog 85 [vI (n : Int)] [] [1001] (.tup [.one (.ptr 1001 0), vErr 0]) [(1001, .obj (tabO (List.replicate n s0)))] := by
 have hb : (decide ((0 : Int) ≤ n) && decide ((n : Int) ≤ 256)) = true := by
   rw [Bool.and_eq_true, decide_eq_true_iff, decide_eq_true_iff]
   omega
 have hl : ((List.replicate n s0).length : Nat) = n := List.length_replicate
 refine Fn.of tblOK [] _ _ _ _ _ Tryz.func85 rfl rfl (by kernel_rfl) (by kernel_rfl) rfl (drawOK tblOK) rfl ?_
 refine ⟨_, _, _, _, tright_fn n, trivial, rfl, ?_⟩
 rw [hb]
 refine ⟨fun h1 => absurd h1 (by decide), fun _ => ?_⟩
 refine ⟨rfl, ?_⟩
 refine ⟨rfl, ?_⟩
 refine ⟨_, _, _, (Le.ren 10 1001 rfl).trans ((Le.ren 8 1002 rfl).trans (Le.close 1001 (tabB (n : Nat) []) (o := tabO (List.replicate n s0)) ⟨rfl, rfl, trivial⟩ rfl fun _ _ _ _ h => ⟨[], TabR.new n, by rw [hl]; exact h⟩)), rfl, ⟨rfl, rfl, trivial⟩, ⟨rfl, trivial⟩, rfl⟩
end Go.Proofs.YteoamepgonpdlaaGreat
/-!
  Counts: how many have each cluster.
-/
namespace Go.Proofs.YteoamepgonpdlaaGreat
set_option linter.unusedVariables false
set_option linter.unusedSimpArgs false
set_option maxRecDepth 10000
open Go.RowKit Go.Proofs
@[reducible] def cntB (l : List Int) : BL := [(1001, .cells [.own 1002]), (1002, .row 3 uI l)]
def cntO (l : List Int) : Ob := .grp 1001 (cntB l)
theorem intInf : (Tryz.prog.info? 3).map (fun i => (i.zero, i.size, i.bytes)) = some (some (.int .i64 0), 1, 8) := by kernel_rfl
theorem cnew_bad (n : Int) (h : ¬ (0 ≤ n ∧ n ≤ 512)) : Fn Tryz.prog 86 [vI n] [] [] (.tup [vNilP, vErr 1]) [] := by
 refine Fn.of tblOK [] _ _ _ _ _ Tryz.func86 rfl rfl (by kernel_rfl) (by kernel_rfl) rfl (drawOK tblOK) rfl ?_
 refine ⟨fun h1 => ?_, fun h1 => ?_⟩
 · exact ⟨_, _, _, Le.refl _ _, rfl, ⟨rfl, rfl, trivial⟩, trivial, rfl⟩
 refine ⟨fun h2 => ?_, fun h2 => ?_⟩
 · exact ⟨_, _, _, Le.refl _ _, rfl, ⟨rfl, rfl, trivial⟩, trivial, rfl⟩
 · exfalso
   simp at h1 h2
   omega
theorem cnew_ok (n : Int) (h0 : 0 ≤ n) (hn : n ≤ 512) : Fn Tryz.prog 86 [vI n] [] [1001] (.tup [.one (.ptr 1001 0), vErr 0]) [(1001, .obj (cntO (List.replicate n.toNat (0 : Int))))] := by
 obtain ⟨inf, i1, i2, i3, i4⟩ := info_parts intInf
 refine Fn.of tblOK [] _ _ _ _ _ Tryz.func86 rfl rfl (by kernel_rfl) (by kernel_rfl) rfl (drawOK tblOK) rfl ?_
 refine ⟨fun h1 => ?_, fun h1 => ?_⟩
 · exfalso; simp at h1; omega
 refine ⟨fun h2 => ?_, fun h2 => ?_⟩
 · exfalso; simp at h2; omega
 refine ⟨_, _, fun N => opOK_makeInts (d := 11) rfl Tryz.underlying128 i1 i2 i3 i4 rfl rfl h0 (by omega) N, rfl, ?_⟩
 refine ⟨rfl, ?_⟩
 exact ⟨_, _, _, (Le.ren 13 1001 rfl).trans ((Le.ren 11 1002 rfl).trans (Le.close 1001 (cntB (List.replicate n.toNat (0 : Int))) (o := cntO (List.replicate n.toNat (0 : Int))) ⟨rfl, rfl, trivial⟩ rfl fun _ _ _ _ h => h)), rfl, ⟨rfl, rfl, trivial⟩, ⟨rfl, trivial⟩, rfl⟩
theorem is_fn (l : List Int) (h : Int) : Fn Tryz.prog 173 [vP 1001, vI h] (cntB l) [] (vB (decide (0 ≤ h) && decide (h < l.length))) (cntB l) := by
 refine Fn.of tblOK [] _ _ _ _ _ Tryz.func173 rfl rfl (by kernel_rfl) (by kernel_rfl) rfl (drawOK tblOK) rfl ?_
 refine ⟨fun h1 => ?_, fun h1 => ?_⟩
 · refine ⟨_, _, _, Le.refl _ _, rfl, ?_, ⟨rfl, rfl, trivial⟩, rfl⟩
   show decide (h < (l.length : Nat)) = (decide (0 ≤ h) && decide (h < (l.length : Nat)))
   have h1 : decide (0 ≤ h) = true := h1
   rw [h1, Bool.true_and]
 · refine ⟨_, _, _, Le.refl _ _, rfl, ?_, ⟨rfl, rfl, trivial⟩, rfl⟩
   show false = (decide (0 ≤ h) && decide (h < (l.length : Nat)))
   have h1 : decide (0 ≤ h) = false := h1
   rw [h1, Bool.false_and]
theorem cless1_fn (n : Int) (h : n ≠ 0) : Fn Tryz.prog 166 [vI n] [] [] (vI 0) [] := by
 refine Fn.of tblOK [] _ _ _ _ _ Tryz.func166 rfl rfl (by kernel_rfl) (by kernel_rfl) rfl (drawOK tblOK) rfl ?_
 refine ⟨fun h1 => absurd (of_decide_eq_true h1) h, fun h1 => ?_⟩
 exact ⟨_, _, _, Le.refl _ _, rfl, rfl, trivial, rfl⟩
theorem change_fn (l : List Int) (h : Nat) (n : Int) (hn : l[h]? = some n) (h1 : 1 ≤ n) (h2 : n ≤ 65535) : Fn Tryz.prog 165 [vP 1001, vI (h : Int), vI (-1), v1 (.clo 166 [])] (cntB l) [] (vI 0) (cntB (l.set h (n - 1))) := by
 have hl : h < l.length := (List.getElem?_eq_some_iff.1 hn).1
 refine Fn.of tblOK [] _ _ _ _ _ Tryz.func165 rfl rfl (by kernel_rfl) (by kernel_rfl) rfl (drawOK tblOK) rfl ?_
 refine ⟨_, _, _, _, is_fn l h, ⟨rfl, rfl, trivial⟩, rfl, ?_⟩
 have m1 : (0 : Int) ≤ (h : Int) := by omega
 have m2 : (h : Int) < (l.length : Nat) := by omega
 refine ⟨fun _ => ?_, fun hf => ?_⟩
 · refine ⟨⟨m1, m2⟩, n, hn, ?_⟩
   refine ⟨_, _, _, _, cless1_fn n (by omega), trivial, rfl, ?_⟩
   refine ⟨fun _ => ?_, fun h => absurd h (by decide)⟩
   refine ⟨⟨m1, m2⟩, n, hn, ⟨by omega, by omega⟩, ⟨m1, m2⟩, ⟨trivial, hl⟩, ?_⟩
   exact ⟨_, _, _, Le.refl _ _, rfl, rfl, ⟨rfl, rfl, trivial⟩, rfl⟩
 · exfalso
   have hf : (decide ((0 : Int) ≤ h) && decide ((h : Int) < l.length)) = false := hf
   rw [decide_eq_true (by omega), decide_eq_true (by omega)] at hf
   cases hf
theorem cless_fn (l : List Int) (h : Nat) (n : Int) (hn : l[h]? = some n) (h1 : 1 ≤ n) (h2 : n ≤ 65535) : Fn Tryz.prog 153 [vP 1001, vI (h : Int)] (cntB l) [] (.tup [.one (.d (.int .i64 (n - 1))), vErr 0]) (cntB (l.set h (n - 1))) := by
 have hl : h < l.length := (List.getElem?_eq_some_iff.1 hn).1
 refine Fn.of tblOK [] _ _ _ _ _ Tryz.func153 rfl rfl (by kernel_rfl) (by kernel_rfl) rfl (drawOK tblOK) rfl ?_
 refine ⟨_, _, _, _, change_fn l h n hn h1 h2, ⟨rfl, rfl, trivial⟩, rfl, ?_⟩
 refine ⟨fun h => absurd h (by decide), fun _ => ?_⟩
 have hl2 : h < (l.set h (n - 1)).length := by rw [List.length_set]; exact hl
 have m1 : (0 : Int) ≤ (h : Int) := by omega
 have m2 : (h : Int) < ((l.set h (n - 1)).length : Nat) := by omega
 have m3 : (l.set h (n - 1))[h]? = some (n - 1) := by rw [List.getElem?_set_self hl]
 refine ⟨⟨m1, m2⟩, n - 1, m3, ?_⟩
 exact ⟨_, _, _, Le.refl _ _, rfl, ⟨rfl, rfl, trivial⟩, ⟨rfl, rfl, trivial⟩, rfl⟩
def zeros (l : List Int) : Nat := (l.filter fun x => decide (x = 0)).length
theorem zeros_le (l : List Int) : zeros l ≤ l.length := List.length_filter_le _ _
theorem zeros_step {l : List Int} {k : Nat} (h : k < l.length) : zeros (l.take (k + 1)) = zeros (l.take k) + (if l[k] = 0 then 1 else 0) := by
 unfold zeros
 rw [List.take_succ_eq_append_getElem h, List.filter_append, List.length_append]
 congr 1
 by_cases e : l[k] = 0
 · simp [e]
 · simp [e]
@[reducible] def cfK (l : List Int) (k : Nat) : KL := [(3, vI (zeros (l.take k) : Nat)), (9, vOwn 1002), (10, vI (l.length : Nat)), (11, vI (k : Nat))]
theorem cfree_fn (l : List Int) (hl : l.length ≤ 1000000) : Fn Tryz.prog 135 [vP 1001] (cntB l) [] (vI (zeros l : Nat)) (cntB l) := by
 refine Fn.of tblOK [] _ _ _ _ _ Tryz.func135 rfl rfl (by kernel_rfl) (by kernel_rfl) rfl (drawOK tblOK) rfl ?_
 show TrQ _ _ _ _ _ _ _
 refine TrQ.loop tblOK (drawOK tblOK) [] (by kernel_rfl) (X := Nat) (cfK l) (fun _ => cntB l) (fun k => k ≤ l.length) (fun k => l.length - k) 0 (Nat.zero_le _) ?_ ?_
 · exact Le.sub ⟨rfl, rfl, rfl, rfl, trivial⟩ ⟨rfl, rfl, trivial⟩
 intro k hk
 have hz := zeros_le (l.take k)
 have hz2 : (l.take k).length ≤ l.length := by rw [List.length_take]; omega
 refine ⟨fun h => ?_, fun h => ?_⟩
 · have h : decide ((k : Int) < (l.length : Nat)) = true := h
   have hk2 : k < l.length := by simpa using h
   have hs := zeros_step hk2
   have m1 : (0 : Int) ≤ (k : Int) := by omega
   have m2 : (k : Int) < (l.length : Nat) := by omega
   refine ⟨⟨m1, m2⟩, l[k], lgAt (n := k) hk2, ?_⟩
   refine ⟨fun h0 => ?_, fun h0 => ?_⟩
   · have h0 := of_decide_eq_true h0
     refine ⟨by omega, by omega, k + 1, by omega, by omega, Le.sub ⟨?_, rfl, rfl, rfl, trivial⟩ ⟨rfl, rfl, trivial⟩⟩
     show ((zeros (l.take k) : Nat) : Int) + 1 = (zeros (l.take (k + 1)) : Nat)
     rw [hs, if_pos h0]
     omega
   · have h0 := of_decide_eq_false h0
     refine ⟨by omega, k + 1, by omega, by omega, Le.sub ⟨?_, rfl, rfl, rfl, trivial⟩ ⟨rfl, rfl, trivial⟩⟩
     show ((zeros (l.take k) : Nat) : Int) = (zeros (l.take (k + 1)) : Nat)
     rw [hs, if_neg h0]
     omega
 · have h : decide ((k : Int) < (l.length : Nat)) = false := h
   have hk2 : k = l.length := by simp at h; omega
   subst hk2
   refine ⟨_, _, _, Le.refl _ _, rfl, ?_, ⟨rfl, rfl, trivial⟩, rfl⟩
   show ((zeros (l.take l.length) : Nat) : Int) = _
   rw [List.take_length]
@[reducible] def ctK (l : List Int) (k : Nat) : KL := [(0, vP 1001), (9, vI (l.length : Nat)), (10, vI (k : Nat))]
/-- The first free one. -/
theorem ctake_fn (l : List Int) (hl : l.length ≤ 1000000) (h : Nat) (hh : l[h]? = some 0) (hf : ∀ j, j < h → l[j]? ≠ some 0) : Fn Tryz.prog 136 [vP 1001] (cntB l) [] (.tup [.one (.d (.int .i64 (h : Int))), vErr 0]) (cntB (l.set h 1)) := by
 have hlt : h < l.length := (List.getElem?_eq_some_iff.1 hh).1
 refine Fn.of tblOK [] _ _ _ _ _ Tryz.func136 rfl rfl (by kernel_rfl) (by kernel_rfl) rfl (drawOK tblOK) rfl ?_
 show TrQ _ _ _ _ _ _ _
 refine TrQ.loop tblOK (drawOK tblOK) [] (by kernel_rfl) (X := Nat) (ctK l) (fun _ => cntB l) (fun k => k ≤ h) (fun k => l.length - k) 0 (Nat.zero_le _) ?_ ?_
 · exact Le.sub ⟨rfl, rfl, rfl, trivial⟩ ⟨rfl, rfl, trivial⟩
 intro k hk
 refine ⟨fun _ => ?_, fun h1 => ?_⟩
 · have hk2 : k < l.length := by omega
   have m1 : (0 : Int) ≤ (k : Int) := by omega
   have m2 : (k : Int) < (l.length : Nat) := by omega
   refine ⟨⟨m1, m2⟩, l[k], lgAt (n := k) hk2, ?_⟩
   refine ⟨fun h0 => ?_, fun h0 => ?_⟩
   · have h0 := of_decide_eq_true h0
     have hkh : k = h := by
       rcases Nat.lt_or_ge k h with h3 | h3
       · exact absurd (by rw [List.getElem?_eq_getElem hk2, h0]) (hf k h3)
       · omega
     subst hkh
     refine ⟨⟨m1, m2⟩, ⟨trivial, hk2⟩, ?_⟩
     exact ⟨_, _, _, Le.refl _ _, rfl, ⟨rfl, rfl, trivial⟩, ⟨rfl, rfl, trivial⟩, rfl⟩
   · have h0 := of_decide_eq_false h0
     have hkh : k ≠ h := fun e => by
       subst e
       rw [List.getElem?_eq_getElem hk2] at hh
       exact h0 (by injection hh)
     exact ⟨by omega, k + 1, by omega, by omega, Le.sub ⟨rfl, rfl, rfl, trivial⟩ ⟨rfl, rfl, trivial⟩⟩
 · exfalso
   have h1 : decide ((k : Int) < (l.length : Nat)) = false := h1
   simp at h1
   omega
end Go.Proofs.YteoamepgonpdlaaGreat
/-!
  Rows of bytes by numbers: a map to slices, each row its own, as one object.
-/
namespace Go.Proofs.YteoamepgonpdlaaGreat
set_option linter.unusedVariables false
set_option linter.unusedSimpArgs false
set_option maxRecDepth 10000
open Go.RowKit Go.Proofs
section
variable {P : Program} {tt : Tr} {N : Nat} {ids : List Nat} {o : Oper} {K : KL} {B : BL} {C : Ctx} {ρ : Nat → Pl} {F : Nat → Nat → Prop} {w w' : World}
/-- A block falls apart into two. -/
theorem Mem.split (h : Mem ids C B ρ F w) {c d : Nat} {ch0 ch1 ch2 : Ch} (hc : lookB B c = some ch0) (hf : freshB ids K B d = true) (pl : Pl) (F1 F2 : Nat → Prop) (h1 : ∀ b, F1 b → F c b) (h2 : ∀ b, F2 b → F c b) (hdj : ∀ b, F1 b → ¬ F2 b)
   (H1 : ∀ I, Ext (Imm C B F w) w I w → Holds (upd ρ d pl) I F1 w (ρ c) ch1) (H2 : ∀ I, Ext (Imm C B F w) w I w → Holds (upd ρ d pl) I F2 w pl ch2) :
   Mem ids C ((d, ch2) :: (c, ch1) :: B) (upd ρ d pl) (upd (upd F c F1) d F2) w ∧ Ext (Imm C B F w) w (Imm C ((d, ch2) :: (c, ch1) :: B) (upd (upd F c F1) d F2) w) w := by
 obtain ⟨f1, f2, f3, f4⟩ := fresh_of hf
 have hcd : c ≠ d := fun e => by rw [← e, hc] at f2; cases f2
 have look2 : ∀ j ch, lookB ((d, ch2) :: (c, ch1) :: B) j = some ch → (j = c ∨ j = d) → (j = c ∧ ch = ch1) ∨ (j = d ∧ ch = ch2) := fun j ch hj hm => by
   rw [lookB_cons] at hj
   split at hj
   · rename_i e; injection hj with hj; exact .inr ⟨e.symm, hj.symm⟩
   · rename_i e
     rw [lookB_cons] at hj
     split at hj
     · rename_i e; injection hj with hj; exact .inl ⟨e.symm, hj.symm⟩
     · rename_i e2
       rcases hm with hm | hm
       · exact absurd hm.symm e2
       · exact absurd hm.symm e
 have eF1 : upd (upd F c F1) d F2 c = F1 := by rw [upd_other _ _ hcd, upd_same]
 have eF2 : upd (upd F c F1) d F2 d = F2 := by rw [upd_same]
 refine h.step (fun j => j = c ∨ j = d) (fun j => j = d) (Fr.refl _ _) (fun j ch hj hm => ?_) (fun j hj => upd_other _ _ hj) (fun j hj => ?_) (fun j hj e => f4 (e ▸ hj)) (fun j hj => .inr hj) (fun j ch hj _ k hk e => ?_) (fun j ch hj hm hE => ?_) (fun j ch hj hm b hb => ?_) (fun j j' ch ch' b hj hj' hm hm' hne hb hb' => ?_)
 · rw [lookB_cons, if_neg (fun e => hm (.inr e.symm)), lookB_cons, if_neg (fun e => hm (.inl e.symm))] at hj
   exact hj
 · rw [upd_other _ _ (fun e => hj (.inr e)), upd_other _ _ (fun e => hj (.inl e))]
 · subst e
   rw [f3 j ch hj] at hk
   cases hk
 · rcases look2 j ch hj hm with ⟨rfl, rfl⟩ | ⟨rfl, rfl⟩
   · rw [eF1, upd_other _ _ hcd]; exact H1 _ hE
   · rw [eF2, upd_same]; exact H2 _ hE
 · have : F c b := by
     rcases look2 j ch hj hm with ⟨rfl, rfl⟩ | ⟨rfl, rfl⟩
     · rw [eF1] at hb; exact h1 b hb
     · rw [eF2] at hb; exact h2 b hb
   exact ⟨(h.own c _ hc b this).1, .inl ⟨c, _, hc, .inl rfl, this⟩⟩
 · rcases look2 j ch hj hm with ⟨rfl, rfl⟩ | ⟨rfl, rfl⟩ <;> rcases look2 j' ch' hj' hm' with ⟨rfl, rfl⟩ | ⟨rfl, rfl⟩
   · exact hne rfl
   · rw [eF1] at hb; rw [eF2] at hb'; exact hdj b hb hb'
   · rw [eF2] at hb; rw [eF1] at hb'; exact hdj b hb' hb
   · exact hne rfl
/-- Two blocks become one. -/
theorem Mem.join (h : Mem ids C B ρ F w) {c d : Nat} {ch0 ch1 ch : Ch} (hc : lookB B c = some ch0) (hd : lookB B d = some ch1) (hne : c ≠ d) (G : Nat → Prop) (hG : ∀ b, G b → F c b ∨ F d b) (hfr : Fr (fun b => F c b ∨ F d b) w w')
   (hH : ∀ I, Ext (Imm C B F w) w I w' → Holds ρ I G w' (ρ c) ch) :
   Mem ids C ((c, ch) :: dropB B d) ρ (upd F c G) w' ∧ Ext (Imm C B F w) w (Imm C ((c, ch) :: dropB B d) (upd F c G) w') w' := by
 have look2 : ∀ j ch', lookB ((c, ch) :: dropB B d) j = some ch' → (j = c ∨ j = d) → j = c ∧ ch' = ch := fun j ch' hj hm => by
   rw [lookB_cons] at hj
   split at hj
   · rename_i e; injection hj with hj; exact ⟨e.symm, hj.symm⟩
   · rename_i e
     rcases hm with hm | hm
     · exact absurd hm.symm e
     · rw [hm, lookB_dropB, if_pos rfl] at hj; cases hj
 refine h.step (fun j => j = c ∨ j = d) (fun _ => False) (hfr.mono fun b _ hb => ?_) (fun j ch' hj hm => ?_) (fun _ _ => rfl) (fun j hm => upd_other _ _ (fun e => hm (.inl e))) (fun _ _ h => h) (fun _ h => h.elim) (fun _ _ _ _ _ _ h => h) (fun j ch' hj hm hE => ?_) (fun j ch' hj hm b hb => ?_) (fun j j' c1 c2 b hj hj' hm hm' hn => ?_)
 · rcases hb with hb | hb
   · exact ⟨c, _, hc, .inl rfl, hb⟩
   · exact ⟨d, _, hd, .inr rfl, hb⟩
 · rw [lookB_cons, if_neg (fun e => hm (.inl e.symm)), lookB_dropB, if_neg (fun e => hm (.inr e.symm))] at hj
   exact hj
 · obtain ⟨rfl, rfl⟩ := look2 j ch' hj hm
   rw [upd_same]
   exact hH _ hE
 · obtain ⟨rfl, rfl⟩ := look2 j ch' hj hm
   rw [upd_same] at hb
   rcases hG b hb with hb | hb
   · exact ⟨Nat.lt_of_lt_of_le (h.own j _ hc b hb).1 hfr.size, .inl ⟨j, _, hc, .inl rfl, hb⟩⟩
   · exact ⟨Nat.lt_of_lt_of_le (h.own d _ hd b hb).1 hfr.size, .inl ⟨d, _, hd, .inr rfl, hb⟩⟩
 · exact absurd ((look2 j c1 hj hm).1.trans (look2 j' c2 hj' hm').1.symm) hn
/-- A block turns, and gives something up. -/
theorem Mem.turnG (h : Mem ids C B ρ F w) {c : Nat} {ch0 ch : Ch} (hc : lookB B c = some ch0) (G : Nat → Prop) (hG : ∀ b, G b → F c b) (hfr : Fr (F c) w w') (hH : ∀ I, Ext (Imm C B F w) w I w' → Holds ρ I G w' (ρ c) ch) :
   Mem ids C ((c, ch) :: B) ρ (upd F c G) w' ∧ Ext (Imm C B F w) w (Imm C ((c, ch) :: B) (upd F c G) w') w' := by
 have look2 : ∀ j ch', lookB ((c, ch) :: B) j = some ch' → j = c → ch' = ch := fun j ch' hj hm => by
   rw [lookB_cons, if_pos hm.symm] at hj
   injection hj with hj; exact hj.symm
 refine h.step (fun j => j = c) (fun _ => False) (hfr.mono fun b _ hb => ⟨c, _, hc, rfl, hb⟩) (fun j ch' hj hm => ?_) (fun _ _ => rfl) (fun j hm => upd_other _ _ hm) (fun _ _ h => h) (fun _ h => h.elim) (fun _ _ _ _ _ _ h => h) (fun j ch' hj hm hE => ?_) (fun j ch' hj hm b hb => ?_) (fun j j' c1 c2 b hj hj' hm hm' hn => absurd (hm.trans hm'.symm) hn)
 · rw [lookB_cons, if_neg (fun e => hm e.symm)] at hj
   exact hj
 · have e := look2 j ch' hj hm
   subst hm e
   rw [upd_same]
   exact hH _ hE
 · subst hm
   rw [upd_same] at hb
   exact ⟨Nat.lt_of_lt_of_le (h.own _ _ hc b (hG b hb)).1 hfr.size, .inl ⟨_, _, hc, rfl, hG b hb⟩⟩
end
/-! ### rows by numbers -/
abbrev FMap := Int → Option (List UInt8)
def fset (f : FMap) (k : Int) (xs : List UInt8) : FMap := fun j => if j = k then some xs else f j
def fdel (f : FMap) (k : Int) : FMap := fun j => if j = k then none else f j
def fnone : FMap := fun _ => none
/-- A row of bytes of one's own. -/
def rowH (I F : Nat → Prop) (w : World) (p : Pl) (xs : List UInt8) : Prop := Holds (fun _ => p) I F w p (.row 5 .u8 xs)
theorem rowH.congr {I F F' : Nat → Prop} {w : World} {p : Pl} {xs : List UInt8} (h : rowH I F w p xs) (e : ∀ b, F' b ↔ F b) : rowH I F' w p xs :=
 ⟨fun b => (e b).trans (h.1 b), h.2⟩
theorem hdl_of {I F : Nat → Prop} {w : World} {p : Pl} {xs : List UInt8} (h : rowH I F w p xs) : ∃ x : El .hdl, p.hdr = hdlV x := by
 obtain ⟨_, _, cs, ⟨_, h⟩, _⟩ := h
 rcases h with ⟨h, _⟩ | ⟨g, cap, cur, h, _⟩
 · exact ⟨none, h⟩
 · exact ⟨some (g, _, cap), h⟩
/-- The rows of a map's slices; those of hs are elsewhere now. -/
structure RowsG (hs : Int → Option Pl) (f : FMap) (es : List (El uI × El .hdl)) (G : Int → Nat → Prop) (I : Nat → Prop) (w : World) : Prop where
 nd : KNd es
 none_ : ∀ k : Int, mget (ku := uI) (vu := .hdl) es k = none → f k = none ∧ hs k = none ∧ ∀ b, ¬ G k b
 some_ : ∀ (k : Int) h, mget (ku := uI) (vu := .hdl) es k = some h → hs k = none → ∃ xs p, f k = some xs ∧ p.hdr = hdlV h ∧ rowH I (G k) w p xs
 away : ∀ (k : Int) h q, mget (ku := uI) (vu := .hdl) es k = some h → hs k = some q → q.hdr = hdlV h ∧ ∀ b, ¬ G k b
 disj : ∀ (j k : Int) b, j ≠ k → G j b → ¬ G k b
theorem RowsG.stable {hs : Int → Option Pl} {f : FMap} {es : List (El uI × El .hdl)} {G : Int → Nat → Prop} {I I' : Nat → Prop} {w w' : World} (h : RowsG hs f es G I w) (he : Ext I w I' w') (hF : ∀ k b, G k b → w'.heap[b]? = w.heap[b]?) (hz : w.heap.size ≤ w'.heap.size) : RowsG hs f es G I' w' :=
 ⟨h.nd, h.none_, fun k x h1 h2 => let ⟨xs, p, a1, a2, a3⟩ := h.some_ k x h1 h2; ⟨xs, p, a1, a2, Holds.stable he (fun b hb => hF k b hb) hz _ (fun _ _ => rfl) a3⟩, h.away, h.disj⟩
def dataR (hs : Int → Option Pl) (f : FMap) (I F : Nat → Prop) (w : World) (p : Pl) : Prop :=
 ∃ es G, RowsG hs f es G I w ∧ (∀ b, F b ↔ b = p.blk ∨ ∃ k, G k b) ∧ (∀ k, ¬ G k p.blk) ∧ ∃ ents clock, w.heap[p.blk]? = some (.map (List.toArray ents) clock) ∧ MapU I w uI .hdl es ents ∧ Births ents clock
def dataHO (hs : Int → Option Pl) (f : FMap) : Ob where
 R := dataR hs f
 stable := fun I F w I' w' p ⟨es, G, h1, h2, h3, ents, clock, h4, h5, h6⟩ he hF hz =>
   ⟨es, G, h1.stable he (fun k b hb => hF b ((h2 b).2 (.inr ⟨k, hb⟩))) hz, h2, h3, ents, clock, (hF _ ((h2 _).2 (.inl rfl))).trans h4, h5.mono he, h6⟩
def dataO (f : FMap) : Ob := dataHO (fun _ => none) f
def hole1 (k : Int) (q : Pl) : Int → Option Pl := fun j => if j = k then some q else none
def dataH (f : FMap) (k : Int) : Pl → Ob := fun q => dataHO (hole1 k q) f
/-- A row is taken out. -/
theorem dataR.out {f : FMap} {k : Int} {xs : List UInt8} {I F : Nat → Prop} {w : World} {p : Pl} (hf : f k = some xs) (h : (dataO f).R I F w p) :
   ∃ (F1 F2 : Nat → Prop) (q : Pl) (es : List (El uI × El .hdl)) (x : El .hdl), (∀ b, F1 b → F b) ∧ (∀ b, F2 b → F b) ∧ (∀ b, F1 b → ¬ F2 b) ∧ q.hdr = hdlV x ∧ mget (ku := uI) (vu := .hdl) es k = some x ∧ (∃ ents clock, w.heap[p.blk]? = some (.map (List.toArray ents) clock) ∧ MapU I w uI .hdl es ents) ∧ rowH I F2 w q xs ∧ (dataH f k q).R I F1 w p := by
 obtain ⟨es, G, h1, h2, h3, ents, clock, h4, h5, h6⟩ := h
 cases e : mget (ku := uI) (vu := .hdl) es k with
 | none => rw [(h1.none_ k e).1] at hf; cases hf
 | some x =>
   obtain ⟨ys, q, a1, a2, a3⟩ := h1.some_ k x e rfl
   rw [hf] at a1
   injection a1 with a1
   subst a1
   refine ⟨fun b => b = p.blk ∨ ∃ j, j ≠ k ∧ G j b, G k, q, es, x, fun b hb => (h2 b).2 (hb.imp id fun ⟨j, _, hj⟩ => ⟨j, hj⟩), fun b hb => (h2 b).2 (.inr ⟨k, hb⟩), fun b hb hk => ?_, a2, e, ⟨ents, clock, h4, h5⟩, a3, ?_⟩
   · rcases hb with rfl | ⟨j, hj, hb⟩
     · exact h3 k hk
     · exact h1.disj j k b hj hb hk
   · refine ⟨es, fun j b => j ≠ k ∧ G j b, ⟨h1.nd, fun j hj => ?_, fun j y hj hh => ?_, fun j y q' hj hh => ?_, fun i j b hij a b => h1.disj i j _ hij a.2 b.2⟩, fun b => Iff.rfl, fun j hj => h3 j hj.2, ents, clock, h4, h5, h6⟩
     · obtain ⟨b1, _, b3⟩ := h1.none_ j hj
       have : j ≠ k := fun e' => by rw [e', e] at hj; cases hj
       exact ⟨b1, if_neg this, fun b hb => b3 b hb.2⟩
     · have hne : j ≠ k := fun e' => by rw [show hole1 k q j = some q from if_pos e'] at hh; cases hh
       obtain ⟨ys, r, b1, b2, b3⟩ := h1.some_ j y hj rfl
       exact ⟨ys, r, b1, b2, b3.congr fun b => ⟨fun h => h.2, fun h => ⟨hne, h⟩⟩⟩
     · simp only [hole1] at hh
       split at hh
       · rename_i e'
         injection hh with hh
         subst e' hh
         rw [e] at hj
         injection hj with hj
         subst hj
         exact ⟨a2, fun b hb => hb.1 rfl⟩
       · cases hh
/-- And put back. -/
theorem dataR.in_ {f : FMap} {k : Int} {xs : List UInt8} {I F1 F2 : Nat → Prop} {w : World} {p q : Pl} (h : (dataH f k q).R I F1 w p) (hr : rowH I F2 w q xs) (hd : ∀ b, F1 b → ¬ F2 b) (hk : ∃ ys, f k = some ys) : (dataO (fset f k xs)).R I (fun b => F1 b ∨ F2 b) w p := by
 obtain ⟨es, G, h1, h2, h3, ents, clock, h4, h5, h6⟩ := h
 obtain ⟨ys, hk⟩ := hk
 have hkk : hole1 k q k = some q := if_pos rfl
 cases e : mget (ku := uI) (vu := .hdl) es k with
 | none => rw [(h1.none_ k e).1] at hk; cases hk
 | some x =>
   obtain ⟨a1, a2⟩ := h1.away k x q e hkk
   refine ⟨es, fun j b => if j = k then F2 b else G j b, ⟨h1.nd, fun j hj => ?_, fun j y hj _ => ?_, fun _ _ _ _ hh => (by cases hh), fun i j b hij ha hb => ?_⟩, fun b => ?_, fun j hj => ?_, ents, clock, h4, h5, h6⟩
   · have hne : j ≠ k := fun e' => by rw [e', e] at hj; cases hj
     obtain ⟨b1, _, b3⟩ := h1.none_ j hj
     exact ⟨by unfold fset; rw [if_neg hne]; exact b1, rfl, fun b hb => by rw [if_neg hne] at hb; exact b3 b hb⟩
   · by_cases hne : j = k
     · subst hne
       rw [e] at hj
       injection hj with hj
       subst hj
       exact ⟨xs, q, if_pos rfl, a1, hr.congr fun b => by rw [if_pos rfl]⟩
     · obtain ⟨zs, r, b1, b2, b3⟩ := h1.some_ j y hj (if_neg hne)
       exact ⟨zs, r, (if_neg hne).trans b1, b2, b3.congr fun b => by rw [if_neg hne]⟩
   · by_cases hi : i = k
     · rw [if_pos hi] at ha
       have hj : j ≠ k := fun e' => hij (hi.trans e'.symm)
       rw [if_neg hj] at hb
       exact hd b ((h2 b).2 (.inr ⟨j, hb⟩)) ha
     · rw [if_neg hi] at ha
       by_cases hj : j = k
       · rw [if_pos hj] at hb
         exact hd b ((h2 b).2 (.inr ⟨i, ha⟩)) hb
       · rw [if_neg hj] at hb
         exact h1.disj i j b hij ha hb
   · show (F1 b ∨ F2 b) ↔ (b = p.blk ∨ ∃ j, (if j = k then F2 b else G j b))
     rw [h2]
     constructor
     · rintro ((h | ⟨j, h⟩) | h)
       · exact .inl h
       · refine .inr ⟨j, ?_⟩
         by_cases hj : j = k
         · subst hj; exact absurd h (a2 b)
         · rw [if_neg hj]; exact h
       · exact .inr ⟨k, by rw [if_pos rfl]; exact h⟩
     · rintro (h | ⟨j, h⟩)
       · exact .inl (.inl h)
       · by_cases hj : j = k
         · rw [if_pos hj] at h; exact .inr h
         · rw [if_neg hj] at h; exact .inl (.inr ⟨j, h⟩)
   · replace hj : (if j = k then F2 p.blk else G j p.blk) := hj
     by_cases hj' : j = k
     · rw [if_pos hj'] at hj
       exact hd _ ((h2 _).2 (.inl rfl)) hj
     · rw [if_neg hj'] at hj
       exact h3 j hj
section
variable {P : Program} {tt : Tr} {ids : List Nat} {K : KL} {B : BL}
/-- A row that is there: read, it is laid open. -/
theorem opOK_dataGet {o : Oper} {T kt et : TypeId} {x i : Operand} {c d : Nat} {f : FMap} {k : Int} {xs : List UInt8} (ho : o.op = .lookup T x i false) (hT : P.underlying T = some (.map kt et)) {dk : TypeDesc} (hkt : P.underlying kt = some dk) (hdk : keyD uI dk = true) {inf : TypeInfo} (hi : P.info? et = some inf) (hz : inf.zero = some (.slice none 0 0))
   (hx : opv K x = .c (.one (.mp c))) (hk : opv K i = .c (.one (.d (.int .i64 k)))) (hc : lookB B c = some (.obj (dataO f))) (hf : f k = some xs) (N : Nat) : OpOK P N ids o K B (.c (.one (.own d))) ⟨[c], [d], [(c, some (.dep d (dataH f k))), (d, some (.row 5 .u8 xs))]⟩ := by
 have m1 : x ∈ o.op.operands := by rw [ho]; simp [Op.operands]
 have m2 : i ∈ o.op.operands := by rw [ho]; simp [Op.operands]
 rintro K' B' g1 g2 g3 C a w ⟨hn, hdf, ρ, F, hM, hS⟩ hlt Kn Q hK
 have hc' := (g2 c (by simp)).trans hc
 have hfr := g3 d (by simp)
 obtain ⟨f1, f2, f3, f4⟩ := fresh_of hfr
 have hcd : c ≠ d := fun e => by rw [← e, hc'] at f2; cases f2
 obtain ⟨F1, F2, q, es, y, h1, h2, h3, h4, h5, ⟨ents, clock, h6, h7⟩, h8, h9⟩ := dataR.out hf (hM.holds c _ hc')
 have e1 := hS.mp ((g1 x m1).trans hx)
 have e2 : a.eval i = keyV uI k := hS.int ((g1 i m2).trans hk)
 have hzv : (zeroValue et).run P w = .ok (.slice none 0 0) w := by simp [zeroValue, typeInfo, hi, hz]
 obtain ⟨v, hr, hv⟩ := lookup_run (P := P) (vu := .hdl) hT hkt hdk h6 h7 hzv ⟨rfl, ⟨fun _ => rfl, fun h => by cases h⟩, rfl⟩ k false
 have hv2 : v = hdlV y := by
   have h := denE_one (ρ := ρ) rfl hv
   rw [h5] at h
   exact h
 have hx : (execOp a.eval o).run P w = .ok (.value v) w := by simp only [execOp, ho, Sem.run_bind, e1, e2, hr, Result.andThen_ok, Sem.run_pure]; rfl
 unfold Oper.wp
 rw [hx, Oper.upon_value]
 obtain ⟨hM', hE⟩ := hM.split (K := K') (ch1 := .dep d (dataH f k)) (ch2 := .row 5 .u8 xs) hc' hfr q F1 F2 h1 h2 h3
   (fun I hI => by
     show (dataH f k (upd ρ d q d)).R I F1 w (ρ c)
     rw [upd_same]
     exact (dataH f k q).stable _ _ _ _ _ _ h9 hI (fun _ _ => rfl) (Nat.le_refl _))
   (fun I hI => Holds.stable hI (fun _ _ => rfl) (Nat.le_refl _) _ (fun _ h => by cases h) h8)
 refine hK _ _ ⟨put_size.trans hn, put_defers.trans hdf, _, _, hM', (hS.mono hE fun s e he => upd_other _ _ (fun e' => by subst e'; rw [f1 s] at he; cases he)).putO (fun e he => by rw [hn]; exact hlt e he) ?_⟩
 show v = (upd ρ d q d).hdr
 rw [upd_same, hv2, h4]
/-- It is closed again. -/
theorem Le.dataIn (c d : Nat) {f f' : FMap} {k : Int} {xs : List UInt8} (hf' : fset f k xs = f') (hc : lookB B c = some (.dep d (dataH f k))) (hd : lookB B d = some (.row 5 .u8 xs)) (hne : c ≠ d) (hk : (f k).isSome = true) : Le ids K B K ((c, .obj (dataO f')) :: dropB B d) := by
 subst hf'
 rintro N C a w ⟨hn, hdf, ρ, F, hM, hS⟩
 have h1 : (dataH f k (ρ d)).R (Imm C B F w) (F c) w (ρ c) := hM.holds c _ hc
 have h2 : rowH (Imm C B F w) (F d) w (ρ d) xs := hM.holds d _ hd
 have hk : ∃ ys, f k = some ys := by
   cases e : f k with
   | none => rw [e] at hk; cases hk
   | some ys => exact ⟨ys, rfl⟩
 obtain ⟨hM', hE⟩ := hM.join (w' := w) (ch := .obj (dataO (fset f k xs))) hc hd hne (fun b => F c b ∨ F d b) (fun _ h => h) (Fr.refl _ _) fun I hI =>
   (dataO (fset f k xs)).stable _ _ _ _ _ _ (dataR.in_ h1 h2 (fun b hb hb' => hM.disj c d _ _ b hc hd hne hb hb') hk) hI (fun _ _ => rfl) (Nat.le_refl _)
 exact ⟨hn, hdf, ρ, _, hM', hS.mono hE fun _ _ _ => rfl⟩
/-- A row of one's own is laid in, where none is. -/
theorem opOK_dataPut {o : Oper} {T kt et : TypeId} {x i v : Operand} {c d : Nat} {f : FMap} {k : Int} {xs : List UInt8} (ho : o.op = .mapUpdate T x i v) (hT : P.underlying T = some (.map kt et)) {dk : TypeDesc} (hkt : P.underlying kt = some dk) (hdk : keyD uI dk = true)
   (hx : opv K x = .c (.one (.mp c))) (hk : opv K i = .c (.one (.d (.int .i64 k)))) (hv : opv K v = .c (.one (.own d))) (hc : lookB B c = some (.obj (dataO f))) (hd : lookB B d = some (.row 5 .u8 xs)) (hne : c ≠ d) (hf : f k = none) (N : Nat) :
   OpOK P N ids o K B .undef ⟨[c, d], [], [(d, none), (c, some (.obj (dataO (fset f k xs))))]⟩ := by
 have m1 : x ∈ o.op.operands := by rw [ho]; simp [Op.operands]
 have m2 : i ∈ o.op.operands := by rw [ho]; simp [Op.operands]
 have m3 : v ∈ o.op.operands := by rw [ho]; simp [Op.operands]
 rintro K' B' g1 g2 - C a w ⟨hn, hdf, ρ, F, hM, hS⟩ hlt Kn Q hK
 have hc' := (g2 c (by simp)).trans hc
 have hd' := (g2 d (by simp)).trans hd
 obtain ⟨es, G, h1, h2, h3, ents, clock, h4, h5, h6⟩ : (dataO f).R (Imm C B' F w) (F c) w (ρ c) := hM.holds c _ hc'
 have hrow : rowH (Imm C B' F w) (F d) w (ρ d) xs := hM.holds d _ hd'
 obtain ⟨y, hy⟩ := hdl_of hrow
 have e1 := hS.mp ((g1 x m1).trans hx)
 have e2 : a.eval i = keyV uI k := hS.int ((g1 i m2).trans hk)
 have e3 : a.eval v = (ρ d).hdr := hS.ev ((g1 v m3).trans hv)
 have e4 : DenE (Imm C B' F w) w .hdl y (a.eval v) := by
   rw [e3, hy]
   have hc1 : (hdlV y).cells = #[hdlV y] := by
     match y with
     | none => rfl
     | some (_, _, _) => rfl
   exact ⟨by rw [hc1]; rfl, ⟨fun _ => hc1, fun h => by cases h⟩, by rw [hc1]; rfl⟩
 obtain ⟨es', clock', hr, hm', hB'⟩ := update_run (P := P) hT hkt hdk h4 h5 h6 k e4
 have hlt2 := (Array.getElem?_eq_some_iff.1 h4).1
 have hdj : ∀ y, F c y → ¬ F d y := fun y hy hy' => hM.disj c d _ _ y hc' hd' hne hy hy'
 have hnone : mget (ku := uI) (vu := .hdl) es k = none := by
   cases e : mget (ku := uI) (vu := .hdl) es k with
   | none => rfl
   | some z =>
     obtain ⟨_, _, a1, _⟩ := h1.some_ k z e rfl
     rw [hf] at a1
     cases a1
 obtain ⟨p1, p2⟩ := mget_mput (ku := uI) (vu := .hdl) eqKey_int k y es
 have hfrB : ∀ z, z ≠ (ρ c).blk → ({ w with heap := w.heap.setIfInBounds (ρ c).blk (.map (List.toArray es') clock') } : World).heap[z]? = w.heap[z]? := fun z hz => Array.getElem?_setIfInBounds_ne (Ne.symm hz)
 have hxx : (execOp a.eval o).run P w = .ok .skip { w with heap := w.heap.setIfInBounds (ρ c).blk (.map (List.toArray es') clock') } := by simp only [execOp, ho, Sem.run_bind, e1, e2, hr, Result.andThen_ok, Sem.run_pure]
 unfold Oper.wp
 rw [hxx, Oper.upon_skip]
 obtain ⟨hM', hE⟩ := hM.join (ch := .obj (dataO (fset f k xs))) (w' := { w with heap := w.heap.setIfInBounds (ρ c).blk (.map (List.toArray es') clock') }) hc' hd' hne (fun b => F c b ∨ F d b) (fun _ h => h) (map_fr (S := fun b => F c b ∨ F d b) (.inl ((h2 _).2 (.inl rfl)))) fun I hI => by
   have hs1 := h1.stable hI (fun j b hb => hfrB b fun e => h3 j (e ▸ hb)) (by simp)
   have hs2 : rowH I (F d) { w with heap := w.heap.setIfInBounds (ρ c).blk (.map (List.toArray es') clock') } (ρ d) xs := Holds.stable hI (fun b hb => hfrB b fun e => hdj b (e ▸ (h2 _).2 (.inl rfl)) hb) (by simp) _ (fun _ h => by cases h) hrow
   refine ⟨mput (ku := uI) (vu := .hdl) es k y, fun j b => if j = k then F d b else G j b, ⟨KNd.put eqKey_int h1.nd, fun j hj => ?_, fun j z hj _ => ?_, fun _ _ _ _ hh => (by cases hh), fun i j b hij ha hb => ?_⟩, fun b => ?_, fun j hj => ?_, es', clock', by simp [hlt2], hm'.mono hI, hB'⟩
   · have hjk : j ≠ k := fun e => by rw [e, p1] at hj; cases hj
     rw [p2 j hjk] at hj
     obtain ⟨b1, _, b3⟩ := hs1.none_ j hj
     exact ⟨by unfold fset; rw [if_neg hjk]; exact b1, rfl, fun b hb => by rw [if_neg hjk] at hb; exact b3 b hb⟩
   · by_cases hjk : j = k
     · subst hjk
       rw [p1] at hj
       injection hj with hj
       subst hj
       exact ⟨xs, ρ d, if_pos rfl, hy, hs2.congr fun b => by rw [if_pos rfl]⟩
     · rw [p2 j hjk] at hj
       obtain ⟨zs, r, b1, b2, b3⟩ := hs1.some_ j z hj rfl
       exact ⟨zs, r, (if_neg hjk).trans b1, b2, b3.congr fun b => by rw [if_neg hjk]⟩
   · by_cases hi : i = k
     · rw [if_pos hi] at ha
       have hj : j ≠ k := fun e' => hij (hi.trans e'.symm)
       rw [if_neg hj] at hb
       exact hdj b ((h2 b).2 (.inr ⟨j, hb⟩)) ha
     · rw [if_neg hi] at ha
       by_cases hj : j = k
       · rw [if_pos hj] at hb
         exact hdj b ((h2 b).2 (.inr ⟨i, ha⟩)) hb
       · rw [if_neg hj] at hb
         exact h1.disj i j b hij ha hb
   · show (F c b ∨ F d b) ↔ (b = (ρ c).blk ∨ ∃ j, (if j = k then F d b else G j b))
     rw [h2]
     have hGk := (h1.none_ k hnone).2.2
     constructor
     · rintro ((h | ⟨j, h⟩) | h)
       · exact .inl h
       · refine .inr ⟨j, ?_⟩
         have hj : j ≠ k := fun e => hGk b (e ▸ h)
         rw [if_neg hj]; exact h
       · exact .inr ⟨k, by rw [if_pos rfl]; exact h⟩
     · rintro (h | ⟨j, h⟩)
       · exact .inl (.inl h)
       · by_cases hj : j = k
         · rw [if_pos hj] at h; exact .inr h
         · rw [if_neg hj] at h; exact .inl (.inr ⟨j, h⟩)
   · replace hj : (if j = k then F d (ρ c).blk else G j (ρ c).blk) := hj
     by_cases hj' : j = k
     · rw [if_pos hj'] at hj
       exact hdj _ ((h2 _).2 (.inl rfl)) hj
     · rw [if_neg hj'] at hj
       exact h3 j hj
 exact hK _ _ ⟨put_size.trans hn, put_defers.trans hdf, ρ, _, hM', (hS.mono hE fun _ _ _ => rfl).putO (fun e he => by rw [hn]; exact hlt e he) rfl⟩
/-- A row is given up. -/
theorem opOK_dataDel {o : Oper} {T T' kt et : TypeId} {x i : Operand} {c : Nat} {f : FMap} {k : Int} (ho : o.op = .call { callee := .builtin .delete, args := #[x, i], argTypes := #[T, T'] }) (hT : P.underlying T = some (.map kt et)) {dk : TypeDesc} (hkt : P.underlying kt = some dk) (hdk : keyD uI dk = true)
   (hx : opv K x = .c (.one (.mp c))) (hk : opv K i = .c (.one (.d (.int .i64 k)))) (hc : lookB B c = some (.obj (dataO f))) (N : Nat) :
   OpOK P N ids o K B (.tup []) ⟨[c], [], [(c, some (.obj (dataO (fdel f k))))]⟩ := by
 have m1 : x ∈ o.op.operands := by rw [ho]; simp [Op.operands, Call.operands]
 have m2 : i ∈ o.op.operands := by rw [ho]; simp [Op.operands, Call.operands]
 rintro K' B' g1 g2 - C a w ⟨hn, hdf, ρ, F, hM, hS⟩ hlt Kn Q hK
 have hc' := (g2 c (by simp)).trans hc
 obtain ⟨es, G, h1, h2, h3, ents, clock, h4, h5, h6⟩ : (dataO f).R (Imm C B' F w) (F c) w (ρ c) := hM.holds c _ hc'
 have e1 := hS.mp ((g1 x m1).trans hx)
 have e2 : a.eval i = keyV uI k := hS.int ((g1 i m2).trans hk)
 obtain ⟨es', hr, hm', hB'⟩ := delete_run (P := P) (ty := o.type) hT hkt hdk h4 h5 h6 k T'
 have hlt2 := (Array.getElem?_eq_some_iff.1 h4).1
 obtain ⟨p1, p2⟩ := mget_mdel (ku := uI) (vu := .hdl) eqKey_int k es h1.nd
 have hfrB : ∀ z, z ≠ (ρ c).blk → ({ w with heap := w.heap.setIfInBounds (ρ c).blk (.map (List.toArray es') clock) } : World).heap[z]? = w.heap[z]? := fun z hz => Array.getElem?_setIfInBounds_ne (Ne.symm hz)
 have hxx : (execOp a.eval o).run P w = .ok (.value (.tuple #[])) { w with heap := w.heap.setIfInBounds (ρ c).blk (.map (List.toArray es') clock) } := by simp [execOp, ho, resolve, invoke, builtin, e1, e2, hr]
 unfold Oper.wp
 rw [hxx, Oper.upon_value]
 obtain ⟨hM', hE⟩ := hM.turnG (ch := .obj (dataO (fdel f k))) (w' := { w with heap := w.heap.setIfInBounds (ρ c).blk (.map (List.toArray es') clock) }) hc' (fun b => b = (ρ c).blk ∨ ∃ j, j ≠ k ∧ G j b) (fun b hb => (h2 b).2 (hb.imp id fun ⟨j, _, h⟩ => ⟨j, h⟩)) (map_fr (S := F c) ((h2 _).2 (.inl rfl))) fun I hI => by
   have hs1 := h1.stable hI (fun j b hb => hfrB b fun e => h3 j (e ▸ hb)) (by simp)
   refine ⟨mdel (ku := uI) (vu := .hdl) es k, fun j b => j ≠ k ∧ G j b, ⟨KNd.del h1.nd, fun j hj => ?_, fun j z hj _ => ?_, fun _ _ _ _ hh => (by cases hh), fun i j b hij ha hb => h1.disj i j b hij ha.2 hb.2⟩, fun b => Iff.rfl, fun j hj => h3 j hj.2, es', clock, by simp [hlt2], hm'.mono hI, hB'⟩
   · by_cases hjk : j = k
     · exact ⟨if_pos hjk, rfl, fun b hb => hb.1 hjk⟩
     · rw [p2 j hjk] at hj
       obtain ⟨b1, _, b3⟩ := hs1.none_ j hj
       exact ⟨(if_neg hjk).trans b1, rfl, fun b hb => b3 b hb.2⟩
   · have hjk : j ≠ k := fun e => by rw [e, p1] at hj; cases hj
     rw [p2 j hjk] at hj
     obtain ⟨zs, r, b1, b2, b3⟩ := hs1.some_ j z hj rfl
     exact ⟨zs, r, (if_neg hjk).trans b1, b2, b3.congr fun b => ⟨fun h => h.2, fun h => ⟨hjk, h⟩⟩⟩
 exact hK _ _ ⟨put_size.trans hn, put_defers.trans hdf, ρ, _, hM', (hS.mono hE fun _ _ _ => rfl).putO (fun e he => by rw [hn]; exact hlt e he) ⟨[], rfl, rfl⟩⟩
/-- A map without anything. -/
theorem Le.dataEmp (c : Nat) {vu : U} (hc : lookB B c = some (.map uI vu [])) : Le ids K B K ((c, .obj (dataO fnone)) :: B) := by
 rintro N C a w ⟨hn, hd, ρ, F, hM, hS⟩
 obtain ⟨hF, ents, clock, h3, h4, h6⟩ := hM.holds c _ hc
 have h4 : ents = [] := h4
 subst h4
 obtain ⟨hM', hE⟩ := hM.turn (w' := w) (ch := .obj (dataO fnone)) hc (Fr.refl _ _) fun I hI => ⟨[], fun _ _ => False, ⟨.nil, fun _ _ => ⟨rfl, rfl, fun _ h => h⟩, fun _ _ h => (by cases h), fun _ _ _ h => (by cases h), fun _ _ _ _ h => h.elim⟩, fun b => by rw [hF]; simp, fun _ h => h, [], clock, h3, rfl, h6⟩
 exact ⟨hn, hd, ρ, F, hM', hS.mono hE fun _ _ _ => rfl⟩
end
end Go.Proofs.YteoamepgonpdlaaGreat
/-!
  Contracts: with more blocks; with a row that becomes data.
-/
namespace Go.Proofs.YteoamepgonpdlaaGreat
set_option linter.unusedVariables false
set_option linter.unusedSimpArgs false
open Go.RowKit
/-- None of these blocks is one of l, or names one. -/
def farB (l : List Nat) : BL → Bool
 | [] => true
 | (c, ch) :: B => !l.contains c && (l.all fun d => !ch.has d) && farB l B
theorem farB_get {l : List Nat} : ∀ {B : BL}, farB l B = true → ∀ {c ch}, lookB B c = some ch → c ∉ l ∧ ∀ d, d ∈ l → ch.has d = false
 | [], _, c, ch, hc => by cases hc
 | (e, x) :: B, h, c, ch, hc => by
   simp only [farB, Bool.and_eq_true, Bool.not_eq_true'] at h
   obtain ⟨⟨h1, h2⟩, h3⟩ := h
   rw [lookB_cons] at hc
   split at hc
   · rename_i e
     injection hc with hc
     subst e hc
     refine ⟨fun hm => (by rw [List.contains_iff_mem.2 hm] at h1; cases h1), fun d hd => ?_⟩
     have := List.all_eq_true.1 h2 d hd
     simpa using this
   · exact farB_get h3 hc
theorem Fn.more {P : Program} {f : FuncId} {args : List SV} {Bi : BL} {nw : List Nat} {res : SV} {Bo : BL} (Be : BL) (h : Fn P f args Bi nw res Bo) (h1 : ((keysB Be).all fun d => !(keysB Bi).contains d && !(keysB Bo).contains d) = true) (h2 : farB nw Be = true) :
   Fn P f args (Bi ++ Be) nw res (Bo ++ Be) := by
 have k1 : ∀ {c ch}, lookB Be c = some ch → lookB Bi c = none ∧ lookB Bo c = none := fun {c ch} hc => by
   have := List.all_eq_true.1 h1 c (keysB_mem.2 ⟨ch, hc⟩)
   simp only [Bool.and_eq_true, Bool.not_eq_true'] at this
   constructor
   · cases e : lookB Bi c with
     | none => rfl
     | some x => rw [List.contains_iff_mem.2 (keysB_mem.2 ⟨x, e⟩)] at this; cases this.1
   · cases e : lookB Bo c with
     | none => rfl
     | some x => rw [List.contains_iff_mem.2 (keysB_mem.2 ⟨x, e⟩)] at this; cases this.2
 have inI : ∀ {c ch}, lookB Bi c = some ch → lookB (Bi ++ Be) c = some ch := fun {c ch} hc => by rw [lookB_app, hc]
 have inE : ∀ {c ch}, lookB Be c = some ch → lookB (Bi ++ Be) c = some ch := fun {c ch} hc => by rw [lookB_app, (k1 hc).1]; exact hc
 have un : ∀ {c ch}, lookB (Bo ++ Be) c = some ch → lookB Bo c = some ch ∨ lookB Be c = some ch := fun {c ch} hc => by
   rw [lookB_app] at hc
   cases e : lookB Bo c with
   | none => rw [e] at hc; exact .inr hc
   | some x => rw [e] at hc; exact .inl hc
 refine ⟨h.1, fun ρ F I w vals a1 a2 a3 a4 a5 a6 => ?_⟩
 refine (h.2 ρ F I w vals a1 (fun c ch hc => a2 c ch (inI hc)) (fun c ch hc => a3 c ch (inI hc)) (fun c c' ch ch' b hc hc' => a4 c c' ch ch' b (inI hc) (inI hc')) a5 a6).mono ?_
 rintro e w' ⟨x, ρ', F', r1, r2, r3, I', r4, r5, r6, r7, r8, r9⟩
 let F2 : Nat → Nat → Prop := fun c => if (lookB Be c).isSome = true then F c else F' c
 have f1 : ∀ {c ch}, lookB Be c = some ch → F2 c = F c := fun {c ch} hc => if_pos (by rw [hc]; rfl)
 have f2 : ∀ {c ch}, lookB Bo c = some ch → F2 c = F' c := fun {c ch} hc => if_neg (fun hs => by
   cases e : lookB Be c with
   | none => rw [e] at hs; cases hs
   | some x => rw [(k1 e).2] at hc; cases hc)
 have notBi : ∀ {c ch} {b : Nat}, lookB Be c = some ch → F c b → ¬ ∃ d ch', lookB Bi d = some ch' ∧ F d b := fun {c ch b} hc hb => by
   rintro ⟨d, ch', hd, hb'⟩
   refine a4 c d ch ch' b (inE hc) (inI hd) (fun e => ?_) hb hb'
   subst e
   rw [(k1 hc).1] at hd
   cases hd
 refine ⟨x, ρ', F2, r1, r2.mono fun b _ ⟨c, ch, hc, hb⟩ => ⟨c, ch, inI hc, hb⟩, r3, I', r4, fun b hb => ⟨(r5 b hb).1, (r5 b hb).2.imp id (Or.imp (fun ⟨c, ch, hc, hb⟩ => ⟨c, ch, inI hc, hb⟩) id)⟩, fun c ch hc => ?_, fun c ch hc b hb => ?_, fun c c' ch ch' b hc hc' hne hb hb' => ?_, r9⟩
 · rcases un hc with hc | hc
   · rw [f2 hc]; exact r6 c ch hc
   · rw [f1 hc]
     obtain ⟨g1, g2⟩ := farB_get h2 hc
     rw [r3 c g1]
     exact Holds.stable r4 (fun b hb => r2.block b (a3 c ch (inE hc) b hb).1 (notBi hc hb)) r2.size ch (fun d hd => r3 d fun hm => by rw [g2 d hm] at hd; cases hd) (a2 c ch (inE hc))
 · rcases un hc with hc | hc
   · rw [f2 hc] at hb
     obtain ⟨g1, g2, g3⟩ := r7 c ch hc b hb
     exact ⟨g1, g2, g3.imp (fun ⟨d, ch', hd, hb⟩ => ⟨d, ch', inI hd, hb⟩) id⟩
   · rw [f1 hc] at hb
     obtain ⟨g1, g2⟩ := a3 c ch (inE hc) b hb
     refine ⟨Nat.lt_of_lt_of_le g1 r2.size, fun hI => ?_, .inl ⟨c, ch, inE hc, hb⟩⟩
     rcases (r5 b hI).2 with h | h | h
     · exact g2 h
     · exact notBi hc hb h
     · omega
 · rcases un hc with hc | hc <;> rcases un hc' with hc' | hc'
   · rw [f2 hc] at hb; rw [f2 hc'] at hb'; exact r8 c c' ch ch' b hc hc' hne hb hb'
   · rw [f2 hc] at hb; rw [f1 hc'] at hb'
     rcases (r7 c ch hc b hb).2.2 with h | h
     · exact notBi hc' hb' h
     · have := (a3 c' ch' (inE hc') b hb').1; omega
   · rw [f1 hc] at hb; rw [f2 hc'] at hb'
     rcases (r7 c' ch' hc' b hb').2.2 with h | h
     · exact notBi hc hb h
     · have := (a3 c ch (inE hc) b hb).1; omega
   · rw [f1 hc] at hb; rw [f1 hc'] at hb'; exact a4 c c' ch ch' b (inE hc) (inE hc') hne hb hb'
/-- A result that is a new row, as data. -/
theorem Fn.frz {P : Program} {f : FuncId} {args : List SV} {Bi : BL} {nw : List Nat} {d : Nat} {e : TypeId} {u : U} {xs : List (El u)} {Bo : BL} (h : Fn P f args Bi (d :: nw) (.c (.one (.own d))) (Bo ++ [(d, .row e u xs)])) (h1 : (keysB Bo).contains d = false) (h2 : farB [d] Bo = true) :
   Fn P f args Bi nw (.c (.one (.d (.lst u xs)))) Bo := by
 have k1 : lookB Bo d = none := by
   cases e : lookB Bo d with
   | none => rfl
   | some x => rw [List.contains_iff_mem.2 (keysB_mem.2 ⟨x, e⟩)] at h1; cases h1
 have ld : lookB (Bo ++ [(d, Ch.row e u xs)]) d = some (.row e u xs) := by rw [lookB_app, k1]; simp [lookB]
 have inB : ∀ {c ch}, lookB Bo c = some ch → lookB (Bo ++ [(d, Ch.row e u xs)]) c = some ch := fun {c ch} hc => by rw [lookB_app, hc]
 have hne : ∀ {c ch}, lookB Bo c = some ch → c ≠ d := fun {c ch} hc e => by rw [e, k1] at hc; cases hc
 refine ⟨h.1, fun ρ F I w vals a1 a2 a3 a4 a5 a6 => ?_⟩
 refine (h.2 ρ F I w vals a1 a2 a3 a4 a5 a6).mono ?_
 rintro ex w' ⟨x, ρ', F', r1, r2, r3, I', r4, r5, r6, r7, r8, r9⟩
 have hrow := r6 d _ ld
 have hI1 : ∀ b, I' b → (fun b => I' b ∨ F' d b) b := fun b hb => .inl hb
 have hE : Ext I' w' (fun b => I' b ∨ F' d b) w' := fun b hb => ⟨.inl hb, rfl⟩
 have hden : Den (fun b => I' b ∨ F' d b) w' (.lst u xs) (ρ' d).hdr := row_data hrow hI1 (fun b hb => .inr hb)
 refine ⟨x, upd ρ' d (ρ d), F', r1, r2, fun c hc => ?_, fun b => I' b ∨ F' d b, fun b hb => ⟨.inl (r4 b hb).1, (r4 b hb).2⟩, fun b hb => ?_, fun c ch hc => ?_, fun c ch hc b hb => ?_, fun c c' ch ch' b hc hc' => r8 c c' ch ch' b (inB hc) (inB hc'), ?_⟩
 · by_cases e : c = d
   · rw [e, upd_same]
   · rw [upd_other _ _ e]; exact r3 c (fun hm => by rcases List.mem_cons.1 hm with h | h; exact e h; exact hc h)
 · rcases hb with hb | hb
   · exact r5 b hb
   · obtain ⟨g1, g2, g3⟩ := r7 d _ ld b hb
     exact ⟨g1, .inr g3⟩
 · have hcd := hne hc
   obtain ⟨_, g2⟩ := farB_get h2 hc
   rw [upd_other _ _ hcd]
   exact Holds.stable hE (fun _ _ => rfl) (Nat.le_refl _) ch (fun j hj => upd_other _ _ fun e => by rw [e, g2 d (List.mem_singleton.2 rfl)] at hj; cases hj) (r6 c ch (inB hc))
 · obtain ⟨g1, g2, g3⟩ := r7 c ch (inB hc) b hb
   refine ⟨g1, fun hI => ?_, g3⟩
   rcases hI with hI | hI
   · exact g2 hI
   · exact r8 c d ch _ b (inB hc) ld (hne hc) hb hI
 · have hx : x = (ρ' d).hdr := r9
   rw [hx]
   exact hden
/-- A new row that is part of a result, as data. -/
theorem Fn.frzR {P : Program} {f : FuncId} {args : List SV} {Bi : BL} {nw : List Nat} {d : Nat} {e : TypeId} {u : U} {xs : List (El u)} {res : SV} {Bo : BL} (h : Fn P f args Bi (d :: nw) res (Bo ++ [(d, .row e u xs)])) (h1 : (keysB Bo).contains d = false) (h2 : farB [d] Bo = true) (h3 : (res.frz d (.lst u xs)).has d = false) :
   Fn P f args Bi nw (res.frz d (.lst u xs)) Bo := by
 have k1 : lookB Bo d = none := by
   cases e : lookB Bo d with
   | none => rfl
   | some x => rw [List.contains_iff_mem.2 (keysB_mem.2 ⟨x, e⟩)] at h1; cases h1
 have ld : lookB (Bo ++ [(d, Ch.row e u xs)]) d = some (.row e u xs) := by rw [lookB_app, k1]; simp [lookB]
 have inB : ∀ {c ch}, lookB Bo c = some ch → lookB (Bo ++ [(d, Ch.row e u xs)]) c = some ch := fun {c ch} hc => by rw [lookB_app, hc]
 have hne : ∀ {c ch}, lookB Bo c = some ch → c ≠ d := fun {c ch} hc e => by rw [e, k1] at hc; cases hc
 refine ⟨h.1, fun ρ F I w vals a1 a2 a3 a4 a5 a6 => ?_⟩
 refine (h.2 ρ F I w vals a1 a2 a3 a4 a5 a6).mono ?_
 rintro ex w' ⟨x, ρ', F', r1, r2, r3, I', r4, r5, r6, r7, r8, r9⟩
 have hrow := r6 d _ ld
 have hI1 : ∀ b, I' b → (fun b => I' b ∨ F' d b) b := fun b hb => .inl hb
 have hE : Ext I' w' (fun b => I' b ∨ F' d b) w' := fun b hb => ⟨.inl hb, rfl⟩
 have hden : Den (fun b => I' b ∨ F' d b) w' (.lst u xs) (ρ' d).hdr := row_data hrow hI1 (fun b hb => .inr hb)
 refine ⟨x, upd ρ' d (ρ d), F', r1, r2, fun c hc => ?_, fun b => I' b ∨ F' d b, fun b hb => ⟨.inl (r4 b hb).1, (r4 b hb).2⟩, fun b hb => ?_, fun c ch hc => ?_, fun c ch hc b hb => ?_, fun c c' ch ch' b hc hc' => r8 c c' ch ch' b (inB hc) (inB hc'), ?_⟩
 · by_cases e : c = d
   · rw [e, upd_same]
   · rw [upd_other _ _ e]; exact r3 c (fun hm => by rcases List.mem_cons.1 hm with h | h; exact e h; exact hc h)
 · rcases hb with hb | hb
   · exact r5 b hb
   · obtain ⟨g1, g2, g3⟩ := r7 d _ ld b hb
     exact ⟨g1, .inr g3⟩
 · have hcd := hne hc
   obtain ⟨_, g2⟩ := farB_get h2 hc
   rw [upd_other _ _ hcd]
   exact Holds.stable hE (fun _ _ => rfl) (Nat.le_refl _) ch (fun j hj => upd_other _ _ fun e => by rw [e, g2 d (List.mem_singleton.2 rfl)] at hj; cases hj) (r6 c ch (inB hc))
 · obtain ⟨g1, g2, g3⟩ := r7 c ch (inB hc) b hb
   refine ⟨g1, fun hI => ?_, g3⟩
   rcases hI with hI | hI
   · exact g2 hI
   · exact r8 c d ch _ b (inB hc) ld (hne hc) hb hI
 · have hv : DenV ρ' (fun b => I' b ∨ F' d b) w' (res.frz d (.lst u xs)) x := DenV.frz hE hden res x r9
   exact DenV.mono (Ext.refl _ _) _ _ (fun c hc => upd_other _ _ fun e => by subst e; rw [h3] at hc; cases hc) hv
/-- A row of the caller's own, given away: data for whoever is called. -/
theorem Fn.own {P : Program} {f : FuncId} {args : List SV} {Bi : BL} {nw : List Nat} {d : Nat} {e : TypeId} {u : U} {xs : List (El u)} {res : SV} {Bo : BL} (h : Fn P f (args.map (SV.frz d (.lst u xs))) Bi nw res Bo) (h1 : (keysB Bi).contains d = false) :
   Fn P f args (Bi ++ [(d, .row e u xs)]) nw res Bo := by
 have k1 : lookB Bi d = none := by
   cases e : lookB Bi d with
   | none => rfl
   | some x => rw [List.contains_iff_mem.2 (keysB_mem.2 ⟨x, e⟩)] at h1; cases h1
 have ld : lookB (Bi ++ [(d, Ch.row e u xs)]) d = some (.row e u xs) := by rw [lookB_app, k1]; simp [lookB]
 have inB : ∀ {c ch}, lookB Bi c = some ch → lookB (Bi ++ [(d, Ch.row e u xs)]) c = some ch := fun {c ch} hc => by rw [lookB_app, hc]
 have hne : ∀ {c ch}, lookB Bi c = some ch → c ≠ d := fun {c ch} hc e => by rw [e, k1] at hc; cases hc
 refine ⟨h.1, fun ρ F I w vals a1 a2 a3 a4 a5 a6 => ?_⟩
 have hrow := a2 d _ ld
 have hE : Ext I w (fun b => I b ∨ F d b) w := fun b hb => ⟨.inl hb, rfl⟩
 have hden : Den (fun b => I b ∨ F d b) w (.lst u xs) (ρ d).hdr := row_data hrow (fun b hb => .inl hb) (fun b hb => .inr hb)
 refine (h.2 ρ F (fun b => I b ∨ F d b) w vals (fun b hb => hb.elim (a1 b) fun hb => (a3 d _ ld b hb).1) (fun c ch hc => Holds.stable hE (fun _ _ => rfl) (Nat.le_refl _) ch (fun _ _ => rfl) (a2 c ch (inB hc)))
   (fun c ch hc b hb => ⟨(a3 c ch (inB hc) b hb).1, fun hI => hI.elim (a3 c ch (inB hc) b hb).2 fun hd => a4 c d ch _ b (inB hc) ld (hne hc) hb hd⟩) (fun c c' ch ch' b hc hc' => a4 c c' ch ch' b (inB hc) (inB hc')) (by rw [List.length_map]; exact a5) (fun i v x hv hx => ?_)).mono ?_
 · rw [List.getElem?_map] at hv
   obtain ⟨s, hs, rfl⟩ := Option.map_eq_some_iff.1 hv
   exact DenV.frz hE hden s x (a6 i s x hs hx)
 · rintro ex w' ⟨x, ρ', F', r1, r2, r3, I', r4, r5, r6, r7, r8, r9⟩
   refine ⟨x, ρ', F', r1, r2.mono fun b _ ⟨c, ch, hc, hb⟩ => ⟨c, ch, inB hc, hb⟩, r3, I', fun b hb => r4 b (.inl hb), fun b hb => ⟨(r5 b hb).1, ?_⟩, r6, fun c ch hc b hb => ?_, r8, r9⟩
   · rcases (r5 b hb).2 with h | ⟨c, ch, hc, hb⟩ | h
     · exact h.elim .inl fun h => .inr (.inl ⟨d, _, ld, h⟩)
     · exact .inr (.inl ⟨c, ch, inB hc, hb⟩)
     · exact .inr (.inr h)
   · obtain ⟨g1, g2, g3⟩ := r7 c ch hc b hb
     exact ⟨g1, g2, g3.imp (fun ⟨c, ch, hc, hb⟩ => ⟨c, ch, inB hc, hb⟩) id⟩
end Go.Proofs.YteoamepgonpdlaaGreat
