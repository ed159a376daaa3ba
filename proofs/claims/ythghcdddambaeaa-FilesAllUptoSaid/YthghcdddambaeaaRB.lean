/-
  The document's files (layer 4): Names.
-/
import Derived.Test.YthghcdddambaeaaRA
import Derived.Test.YthghcdddambaeaaFb
set_option linter.unusedVariables false
set_option linter.unusedSimpArgs false
set_option maxRecDepth 10000
namespace Go.Proofs.Ythghcdddambaeaa
open Go.RowKit Go.Proofs
abbrev Bs := List UInt8
def namesR (l : List RF) : List Bs := l.map fN
def sortR (l : List RF) : List Bs := (namesR l).mergeSort Go.leB
theorem sort_rise {l : List Bs} (h : l.Nodup) : (l.mergeSort Go.leB).Pairwise (· < ·) := by
  have tr : ∀ a b c : List UInt8, Go.leB a b = true → Go.leB b c = true → Go.leB a c = true := fun a b c h1 h2 => by simp only [Go.leB, decide_eq_true_eq] at *; exact List.le_trans h1 h2
  have to : ∀ a b : List UInt8, (Go.leB a b || Go.leB b a) = true := fun a b => by simp only [Go.leB, Bool.or_eq_true, decide_eq_true_eq]; exact List.le_total a b
  have h1 : (l.mergeSort Go.leB).Pairwise fun a b => Go.leB a b = true := List.pairwise_mergeSort tr to _
  have h2 : (l.mergeSort Go.leB).Nodup := (List.mergeSort_perm _ _).nodup_iff.2 h
  exact List.Pairwise.imp₂ (fun a b hle hne => by
    have hle : a ≤ b := by simpa [Go.leB] using hle
    rcases List.le_iff_lt_or_eq.1 hle with h | h
    · exact h
    · exact absurd h hne) h1 h2
theorem above_iff (a b : Bs) : (!(Op.bytesLess a b || decide (a = b))) = decide (b < a) := by
  rw [Go.Proofs.bytesLess_eq, Bool.eq_iff_iff]
  simp only [Bool.not_eq_true', Bool.or_eq_false_iff, decide_eq_false_iff_not, decide_eq_true_eq]
  constructor
  · rintro ⟨h1, h2⟩
    rcases List.le_iff_lt_or_eq.1 (List.not_lt.1 h1) with h | h
    · exact h
    · exact absurd h.symm h2
  · intro h
    exact ⟨fun h2 => List.lt_irrefl _ (List.lt_trans h h2), fun h2 => by rw [h2] at h; exact List.lt_irrefl _ h⟩
/-- The least name above another, if there is one. -/
def LeastOK (ns : List Bs) (last x : Bs) : Prop := (x = [] ∧ ∀ n ∈ ns, ¬ last < n) ∨ (x ∈ ns ∧ last < x ∧ ∀ n ∈ ns, last < n → ¬ n < x)
theorem LeastOK.take {ns : List Bs} {last x n : Bs} (h : LeastOK ns last x) (h1 : last < n) (h2 : x = [] ∨ n < x) : LeastOK (ns ++ [n]) last n := by
  refine .inr ⟨List.mem_append.2 (.inr (List.mem_singleton.2 rfl)), h1, fun m hm hl hlt => ?_⟩
  rw [List.mem_append, List.mem_singleton] at hm
  rcases hm with hm | rfl
  · rcases h with ⟨_, h⟩ | ⟨_, hx, h⟩
    · exact h m hm hl
    · rcases h2 with h2 | h2
      · rw [h2] at hx; exact List.not_lt_nil _ hx
      · exact h m hm hl (List.lt_trans hlt h2)
  · exact List.lt_irrefl _ hlt
theorem LeastOK.skip {ns : List Bs} {last x n : Bs} (h : LeastOK ns last x) (h1 : ¬ last < n) : LeastOK (ns ++ [n]) last x := by
  rcases h with ⟨h2, h⟩ | ⟨h2, hx, h⟩
  · refine .inl ⟨h2, fun m hm => ?_⟩
    rw [List.mem_append, List.mem_singleton] at hm
    rcases hm with hm | rfl
    · exact h m hm
    · exact h1
  · refine .inr ⟨List.mem_append.2 (.inl h2), hx, fun m hm hl => ?_⟩
    rw [List.mem_append, List.mem_singleton] at hm
    rcases hm with hm | rfl
    · exact h m hm hl
    · exact absurd hl h1
theorem LeastOK.keep {ns : List Bs} {last x n : Bs} (h : LeastOK ns last x) (h1 : x ≠ []) (h3 : ¬ n < x) : LeastOK (ns ++ [n]) last x := by
  rcases h with ⟨h2, h⟩ | ⟨h2, hx, h⟩
  · exact absurd h2 h1
  · refine .inr ⟨List.mem_append.2 (.inl h2), hx, fun m hm hl => ?_⟩
    rw [List.mem_append, List.mem_singleton] at hm
    rcases hm with hm | rfl
    · exact h m hm hl
    · exact h3
def lastS (S : List Bs) : Nat → Bs
  | 0 => []
  | i + 1 => (S[i]?).getD []
theorem least_eq {ns S : List Bs} {x : Bs} {i : Nat} (hi : i < S.length) (hS : S.Pairwise (· < ·)) (hm : ∀ n, n ∈ S ↔ n ∈ ns) (hne : ∀ n ∈ ns, n ≠ []) (h : LeastOK ns (lastS S i) x) : x = S[i] := by
  have hlt : ∀ (a b : Nat) (ha : a < S.length) (hb : b < S.length), a < b → S[a] < S[b] := fun a b ha hb hab => List.pairwise_iff_getElem.1 hS a b ha hb hab
  have hl : lastS S i < S[i] := by
    cases i with
    | zero =>
      show ([] : Bs) < S[0]
      have := hne _ ((hm _).1 (List.getElem_mem hi))
      cases e : S[0] with
      | nil => exact absurd e this
      | cons a b => exact List.nil_lt_cons a b
    | succ i =>
      show (S[i]?).getD [] < S[i + 1]
      rw [List.getElem?_eq_getElem (by omega)]
      exact hlt i (i + 1) (by omega) hi (by omega)
  rcases h with ⟨_, h⟩ | ⟨h1, h2, h3⟩
  · exact absurd hl (h _ ((hm _).1 (List.getElem_mem hi)))
  · obtain ⟨k, hk, ek⟩ := List.getElem_of_mem ((hm x).2 h1)
    rcases Nat.lt_trichotomy k i with hki | hki | hki
    · exfalso
      cases i with
      | zero => omega
      | succ i =>
        have h2 : (S[i]?).getD [] < x := h2
        rw [List.getElem?_eq_getElem (by omega), ← ek] at h2
        have h2 : S[i] < S[k] := h2
        rcases Nat.lt_or_ge k i with h4 | h4
        · exact List.lt_irrefl _ (List.lt_trans h2 (hlt k i hk (by omega) h4))
        · have : k = i := by omega
          subst this
          exact List.lt_irrefl _ h2
    · subst hki
      exact ek.symm
    · exfalso
      exact h3 _ ((hm _).1 (List.getElem_mem hi)) hl (by rw [← ek]; exact hlt i k hi hk hki)
@[reducible] def nmK (S : List Bs) (d i : Nat) : KL := [(1, vP 1), (3, vOwn d), (4, vS (lastS S i)), (5, vI (i : Nat))]
@[reducible] def nmB (room : Int) (l : List RF) (d : Nat) (S : List Bs) : BL := [(1, .cells (rfL room l)), (d, .row 9 .str S)]
@[reducible] def nmK2 (S : List Bs) (d i : Nat) (x : Bs) (j : Nat) : KL := [(1, vP 1), (3, vOwn d), (4, vS (lastS S i)), (5, vI (i : Nat)), (6, vS x), (7, vI (j : Nat))]
set_option maxHeartbeats 1000000 in
theorem rnames_fn (room : Int) (l : List RF) (hl : l.length ≤ 1073741824) (hne : ∀ n ∈ namesR l, n ≠ []) (hnd : (namesR l).Nodup) : Fn Try.prog 100 [rfV room l] [] [] (vL .str (sortR l)) [] := by
  have hS := sort_rise hnd
  have hSl : (sortR l).length = l.length := by unfold sortR namesR; rw [List.length_mergeSort, List.length_map]
  have hm : ∀ n, n ∈ sortR l ↔ n ∈ namesR l := fun n => (List.mergeSort_perm _ _).mem_iff
  refine Fn.of tblOK [14] _ _ _ _ _ Try.func100 rfl rfl (by kernel_rfl) (by kernel_rfl) rfl (drawOK tblOK) rfl ?_
  refine ⟨rfl, ?_⟩
  show TrQ _ _ _ _ _ _ _
  refine TrQ.loop tblOK (drawOK tblOK) [14] (by kernel_rfl) (X := Nat) (fun i => nmK (sortR l) 2003 i) (fun i => nmB room l 2003 ((sortR l).take i)) (fun i => i ≤ l.length) (fun i => l.length - i) 0 (Nat.zero_le _) ?_ ?_
  · exact Le.trans (Le.nil 3 2003 9 .str rfl rfl) (Le.sub ⟨rfl, rfl, rfl, rfl, trivial⟩ ⟨rfl, rfl, trivial⟩)
  intro i hi
  refine ⟨fun hc => ?_, fun hc => ?_⟩
  · have hc : decide ((i : Int) < (l.length : Int)) = true := hc
    have hi1 : i < l.length := by simpa using hc
    show TrQ _ _ _ _ _ _ _
    refine TrQ.loop tblOK (drawOK tblOK) [] (by kernel_rfl) (X := Nat × Bs) (fun x => nmK2 (sortR l) 2003 i x.2 x.1) (fun _ => nmB room l 2003 ((sortR l).take i)) (fun x => x.1 ≤ l.length ∧ LeastOK (namesR (l.take x.1)) (lastS (sortR l) i) x.2) (fun x => l.length - x.1) (0, []) ⟨Nat.zero_le _, .inl ⟨rfl, fun n hn => (by cases hn)⟩⟩ ?_ ?_
    · exact Le.sub ⟨rfl, rfl, rfl, rfl, rfl, rfl, trivial⟩ ⟨rfl, rfl, trivial⟩
    rintro ⟨j, x⟩ ⟨hj, hL⟩
    have hj : j ≤ l.length := hj
    have hL : LeastOK (namesR (l.take j)) (lastS (sortR l) i) x := hL
    refine ⟨fun hd => ?_, fun hd => ?_⟩
    · have hd : decide ((j : Int) < (l.length : Int)) = true := hd
      have hj1 : j < l.length := by simpa using hd
      have hsn : namesR (l.take (j + 1)) = namesR (l.take j) ++ [fN l[j]] := by
        unfold namesR
        rw [List.take_succ_eq_append_getElem hj1, List.map_append]
        rfl
      refine ⟨by omega, l[j], lgAt (n := j) hj1, ?_⟩
      refine ⟨fun b1 => ?_, fun b1 => ?_⟩
      · have b1 : (!(Op.bytesLess (fN l[j]) (lastS (sortR l) i) || decide (fN l[j] = lastS (sortR l) i))) = true := b1
        rw [above_iff] at b1
        have b1 := of_decide_eq_true b1
        refine ⟨fun b2 => ?_, fun b2 => ?_⟩
        · have b2 : x = [] := of_decide_eq_true b2
          refine ⟨by omega, l[j], lgAt (n := j) hj1, ?_⟩
          exact ⟨by omega, (j + 1, fN l[j]), ⟨hj1, by rw [hsn]; exact hL.take b1 (.inl b2)⟩, by show l.length - (j + 1) < l.length - j; omega, Le.sub ⟨rfl, rfl, rfl, rfl, rfl, rfl, trivial⟩ ⟨rfl, rfl, trivial⟩⟩
        · have b2 : ¬ x = [] := of_decide_eq_false b2
          refine ⟨by omega, l[j], lgAt (n := j) hj1, ?_⟩
          refine ⟨fun b3 => ?_, fun b3 => ?_⟩
          · have b3 : Op.bytesLess (fN l[j]) x = true := b3
            rw [Go.Proofs.bytesLess_eq] at b3
            have b3 := of_decide_eq_true b3
            refine ⟨by omega, l[j], lgAt (n := j) hj1, ?_⟩
            exact ⟨by omega, (j + 1, fN l[j]), ⟨hj1, by rw [hsn]; exact hL.take b1 (.inr b3)⟩, by show l.length - (j + 1) < l.length - j; omega, Le.sub ⟨rfl, rfl, rfl, rfl, rfl, rfl, trivial⟩ ⟨rfl, rfl, trivial⟩⟩
          · have b3 : Op.bytesLess (fN l[j]) x = false := b3
            rw [Go.Proofs.bytesLess_eq] at b3
            have b3 := of_decide_eq_false b3
            exact ⟨by omega, (j + 1, x), ⟨hj1, by rw [hsn]; exact hL.keep b2 b3⟩, by show l.length - (j + 1) < l.length - j; omega, Le.sub ⟨rfl, rfl, rfl, rfl, rfl, rfl, trivial⟩ ⟨rfl, rfl, trivial⟩⟩
      · have b1 : (!(Op.bytesLess (fN l[j]) (lastS (sortR l) i) || decide (fN l[j] = lastS (sortR l) i))) = false := b1
        rw [above_iff] at b1
        have b1 := of_decide_eq_false b1
        exact ⟨by omega, (j + 1, x), ⟨hj1, by rw [hsn]; exact hL.skip b1⟩, by show l.length - (j + 1) < l.length - j; omega, Le.sub ⟨rfl, rfl, rfl, rfl, rfl, rfl, trivial⟩ ⟨rfl, rfl, trivial⟩⟩
    · have hd : decide ((j : Int) < (l.length : Int)) = false := hd
      have hj1 : j = l.length := by simp at hd; omega
      subst hj1
      rw [List.take_length] at hL
      have hi2 : i < (sortR l).length := by rw [hSl]; exact hi1
      have ex := least_eq hi2 hS hm hne hL
      have hb : ((sortR l).take i).length + 1 ≤ 4294967296 := by rw [List.length_take]; omega
      refine ⟨hb, rfl, ?_⟩
      refine ⟨by omega, i + 1, by omega, by omega, Le.trans (Le.sub (K' := nmK (sortR l) 53 (i + 1)) (B' := nmB room l 53 ((sortR l).take (i + 1))) ⟨rfl, rfl, ?_, rfl, trivial⟩ ⟨rfl, ?_, trivial⟩) (Le.ren 53 2003 rfl)⟩
      · show x = ((sortR l)[i]?).getD []
        rw [List.getElem?_eq_getElem hi2]
        exact ex
      · rw [List.take_succ_eq_append_getElem hi2, ← ex]
        rfl
  · have hc : decide ((i : Int) < (l.length : Int)) = false := hc
    have hi1 : i = l.length := by simp at hc; omega
    subst hi1
    show TrQ _ _ _ _ _ _ _
    refine TrQ.go tblOK (drawOK tblOK) [] (by kernel_rfl) (Le.trans (Le.sub (K' := nmK (sortR l) 2003 l.length) (B' := nmB room l 2003 (sortR l)) ⟨rfl, rfl, rfl, rfl, trivial⟩ ⟨rfl, congrArg (fun m => some (Ch.row 9 .str m)) (by rw [← hSl]; exact List.take_length), trivial⟩) (Le.frz 2003 rfl)) ?_
    exact ⟨_, _, _, Le.refl _ _, rfl, rfl, trivial, rfl⟩
end Go.Proofs.Ythghcdddambaeaa
