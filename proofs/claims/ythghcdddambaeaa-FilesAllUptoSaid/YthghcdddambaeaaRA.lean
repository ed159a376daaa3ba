/-
  The document's files (layer 4): Find, without.
-/
import Derived.Test.YthghcdddambaeaaR6
import Derived.Test.YthghcdddambaeaaFd
set_option linter.unusedVariables false
set_option linter.unusedSimpArgs false
set_option maxRecDepth 10000
namespace Go.Proofs.Ythghcdddambaeaa
open Go.RowKit Go.Proofs
@[reducible] def uF : U := .pr .str uRS
abbrev RF := El uF
@[reducible] def fN (p : RF) : List UInt8 := p.1
@[reducible] def fS (p : RF) : RSt := p.2
@[reducible] def mkF (n : List UInt8) (r : RSt) : RF := (n, r)
@[reducible] def rfL (room : Int) (l : List RF) : List S1 := [.d (.int .i64 room), .d (.lst uF l)]
@[reducible] def rfV (room : Int) (l : List RF) : SV := .c (.agg (rfL room l))
@[reducible] def fL (p : RF) : List S1 := .d (.str (fN p)) :: rsL (fS p)
def ixR (l : List RF) (n : List UInt8) : Option Nat := l.findIdx? fun p => decide (fN p = n)
def ixI (l : List RF) (n : List UInt8) : Int := match ixR l n with
  | some i => (i : Nat)
  | none => -1
@[reducible] def fdK (n : List UInt8) (k : Nat) : KL := [(1, vS n), (2, vP 2), (5, vI (k : Nat))]
theorem rfind_fn (room : Int) (l : List RF) (n : List UInt8) (hl : l.length ≤ 1073741824) : Fn Try.prog 94 [rfV room l, vS n] [] [] (vI (ixI l n)) [] := by
  refine Fn.of tblOK [] _ _ _ _ _ Try.func94 rfl rfl (by kernel_rfl) (by kernel_rfl) rfl (drawOK tblOK) rfl ?_
  refine ⟨rfl, ?_⟩
  show TrQ _ _ _ _ _ _ _
  refine TrQ.loop tblOK (drawOK tblOK) [] (by kernel_rfl) (X := Nat) (fdK n) (fun _ => [(2, .cells (rfL room l))]) (fun k => k ≤ l.length ∧ ∀ (i : Nat) x, i < k → l[i]? = some x → fN x ≠ n) (fun k => l.length - k) 0 ⟨Nat.zero_le _, fun i x h => absurd h (Nat.not_lt_zero _)⟩ ?_ ?_
  · exact Le.sub ⟨rfl, rfl, rfl, trivial⟩ ⟨rfl, trivial⟩
  rintro k ⟨hk, hp⟩
  refine ⟨fun h => ?_, fun h => ?_⟩
  · have hk1 : k < l.length := by
      have h : decide ((k : Int) < (l.length : Int)) = true := h
      simpa using h
    refine ⟨by omega, l[k], lgAt (n := k) hk1, ?_⟩
    refine ⟨fun h2 => ?_, fun h2 => ?_⟩
    · have h2 : fN l[k] = n := of_decide_eq_true h2
      refine ⟨_, _, _, Le.refl _ _, rfl, (show ((k : Nat) : Int) = ixI l n from ?_), trivial, rfl⟩
      have : ixR l n = some k := by
        rw [ixR, List.findIdx?_eq_some_iff_getElem]
        refine ⟨hk1, by simp [h2], fun j hj => ?_⟩
        have := hp j _ hj (List.getElem?_eq_getElem (by omega))
        simpa using this
      rw [ixI, this]
    · have h2 : fN l[k] ≠ n := of_decide_eq_false h2
      refine ⟨by omega, k + 1, ⟨by omega, fun i x hi hx => ?_⟩, by omega, Le.sub ⟨rfl, rfl, rfl, trivial⟩ ⟨rfl, trivial⟩⟩
      rcases Nat.lt_or_ge i k with h4 | h4
      · exact hp i x h4 hx
      · have : i = k := by omega
        subst this
        rw [List.getElem?_eq_getElem hk1] at hx
        injection hx with hx
        rw [← hx]; exact h2
  · have hk2 : k = l.length := by
      have h : decide ((k : Int) < (l.length : Int)) = false := h
      simp at h; omega
    refine ⟨_, _, _, Le.refl _ _, rfl, (show (-1 : Int) = ixI l n from ?_), trivial, rfl⟩
    have : ixR l n = none := by
      rw [ixR, List.findIdx?_eq_none_iff]
      intro x hx
      obtain ⟨i, hi, rfl⟩ := List.getElem_of_mem hx
      have := hp i _ (by omega) (List.getElem?_eq_getElem hi)
      simpa using this
    rw [ixI, this]
def outR (l : List RF) (n : List UInt8) : List RF := l.filter fun p => !decide (fN p = n)
theorem outR_len (l : List RF) (n : List UInt8) : (outR l n).length ≤ l.length := List.length_filter_le _ _
@[reducible] def woK (l : List RF) (n : List UInt8) (d k : Nat) : KL := [(0, vL uF l), (1, vS n), (5, vOwn d), (6, vI (k : Nat))]
@[reducible] def woB (d : Nat) (l : List RF) : BL := [(d, .row 168 uF l)]
theorem rout_fn (l : List RF) (n : List UInt8) (hl : l.length ≤ 1073741824) : Fn Try.prog 96 [vL uF l, vS n] [] [] (vL uF (outR l n)) [] := by
  refine Fn.of tblOK [7] _ _ _ _ _ Try.func96 rfl rfl (by kernel_rfl) (by kernel_rfl) rfl (drawOK tblOK) rfl ?_
  show TrQ _ _ _ _ _ _ _
  refine TrQ.loop tblOK (drawOK tblOK) [7] (by kernel_rfl) (X := Nat) (fun k => woK l n 2003 k) (fun k => woB 2003 (outR (l.take k) n)) (fun k => k ≤ l.length) (fun k => l.length - k) 0 (Nat.zero_le _) ?_ ?_
  · exact Le.trans (Le.nil 5 2003 168 uF rfl rfl) (Le.sub ⟨rfl, rfl, rfl, rfl, trivial⟩ ⟨rfl, trivial⟩)
  intro k hk
  refine ⟨fun h => ?_, fun h => ?_⟩
  · have h : decide ((k : Int) < (l.length : Int)) = true := h
    have hk1 : k < l.length := by simpa using h
    have hcl : (outR (l.take k) n).length ≤ k := Nat.le_trans (outR_len _ _) (by rw [List.length_take]; omega)
    have hsn : outR (l.take (k + 1)) n = outR (l.take k) n ++ (match decide (fN l[k] = n) with | true => [] | false => [l[k]]) := by
      unfold outR
      rw [List.take_succ_eq_append_getElem hk1, List.filter_append]
      congr 1
      by_cases e : fN l[k] = n
      · rw [decide_eq_true e]
        simp [e]
      · rw [decide_eq_false e]
        simp [e]
    refine ⟨by omega, l[k], lgAt (n := k) hk1, ?_⟩
    refine ⟨fun c => ?_, fun c => ?_⟩
    · have c : decide (fN l[k] = n) = false := by simpa using c
      rw [c] at hsn
      refine ⟨by omega, l[k], lgAt (n := k) hk1, ?_⟩
      have hb : (outR (l.take k) n).length + 1 ≤ 4294967296 := by omega
      refine ⟨hb, rfl, ?_⟩
      refine ⟨by omega, k + 1, by omega, by omega, Le.trans (Le.sub (K' := woK l n 26 (k + 1)) (B' := woB 26 (outR (l.take (k + 1)) n)) ⟨rfl, rfl, rfl, rfl, trivial⟩ ⟨?_, trivial⟩) (Le.ren 26 2003 rfl)⟩
      rw [hsn]
      rfl
    · have c : decide (fN l[k] = n) = true := by simpa using c
      rw [c] at hsn
      refine ⟨by omega, k + 1, by omega, by omega, Le.sub ⟨rfl, rfl, rfl, rfl, trivial⟩ ⟨?_, trivial⟩⟩
      rw [hsn, List.append_nil]
      rfl
  · have h : decide ((k : Int) < (l.length : Int)) = false := h
    have hk1 : k = l.length := by simp at h; omega
    subst hk1
    show TrQ _ _ _ _ _ _ _
    refine TrQ.go tblOK (drawOK tblOK) [] (by kernel_rfl) (Le.trans (Le.sub (K' := woK l n 2003 l.length) (B' := woB 2003 (outR l n)) ⟨rfl, rfl, rfl, rfl, trivial⟩ ⟨congrArg (fun m => some (Ch.row 168 uF (outR m n))) List.take_length, trivial⟩) (Le.frz 2003 rfl)) ?_
    exact ⟨_, _, _, Le.refl _ _, rfl, rfl, trivial, rfl⟩
theorem routO_fn (l : List RF) (n : List UInt8) (hl : l.length ≤ 1073741824) : Fn Try.prog 96 [vL uF l, vS n] [] [2001] (vOwn 2001) [(2001, .row 168 uF (outR l n))] := by
  refine Fn.of tblOK [7] _ _ _ _ _ Try.func96 rfl rfl (by kernel_rfl) (by kernel_rfl) rfl (drawOK tblOK) rfl ?_
  show TrQ _ _ _ _ _ _ _
  refine TrQ.loop tblOK (drawOK tblOK) [7] (by kernel_rfl) (X := Nat) (fun k => woK l n 2001 k) (fun k => woB 2001 (outR (l.take k) n)) (fun k => k ≤ l.length) (fun k => l.length - k) 0 (Nat.zero_le _) ?_ ?_
  · exact Le.trans (Le.nil 5 2001 168 uF rfl rfl) (Le.sub ⟨rfl, rfl, rfl, rfl, trivial⟩ ⟨rfl, trivial⟩)
  intro k hk
  refine ⟨fun h => ?_, fun h => ?_⟩
  · have h : decide ((k : Int) < (l.length : Int)) = true := h
    have hk1 : k < l.length := by simpa using h
    have hcl : (outR (l.take k) n).length ≤ k := Nat.le_trans (outR_len _ _) (by rw [List.length_take]; omega)
    have hsn : outR (l.take (k + 1)) n = outR (l.take k) n ++ (match decide (fN l[k] = n) with | true => [] | false => [l[k]]) := by
      unfold outR
      rw [List.take_succ_eq_append_getElem hk1, List.filter_append]
      congr 1
      by_cases e : fN l[k] = n
      · rw [decide_eq_true e]
        simp [e]
      · rw [decide_eq_false e]
        simp [e]
    refine ⟨by omega, l[k], lgAt (n := k) hk1, ?_⟩
    refine ⟨fun c => ?_, fun c => ?_⟩
    · have c : decide (fN l[k] = n) = false := by simpa using c
      rw [c] at hsn
      refine ⟨by omega, l[k], lgAt (n := k) hk1, ?_⟩
      have hb : (outR (l.take k) n).length + 1 ≤ 4294967296 := by omega
      refine ⟨hb, rfl, ?_⟩
      refine ⟨by omega, k + 1, by omega, by omega, Le.trans (Le.sub (K' := woK l n 26 (k + 1)) (B' := woB 26 (outR (l.take (k + 1)) n)) ⟨rfl, rfl, rfl, rfl, trivial⟩ ⟨?_, trivial⟩) (Le.ren 26 2001 rfl)⟩
      rw [hsn]
      rfl
    · have c : decide (fN l[k] = n) = true := by simpa using c
      rw [c] at hsn
      refine ⟨by omega, k + 1, by omega, by omega, Le.sub ⟨rfl, rfl, rfl, rfl, trivial⟩ ⟨?_, trivial⟩⟩
      rw [hsn, List.append_nil]
      rfl
  · have h : decide ((k : Int) < (l.length : Int)) = false := h
    have hk1 : k = l.length := by simp at h; omega
    subst hk1
    show TrQ _ _ _ _ _ _ _
    refine TrQ.go tblOK (drawOK tblOK) [] (by kernel_rfl) (Le.refl _ _) ?_
    exact ⟨_, _, _, Le.refl _ _, rfl, rfl, ⟨congrArg (fun m => some (Ch.row 168 uF (outR m n))) List.take_length, trivial⟩, rfl⟩
/-! The document's files (layer 4): Create, Rename. -/
def getR : List RF → List UInt8 → Option RSt
  | [], _ => none
  | p :: l, n => if fN p = n then some (fS p) else getR l n
theorem ixI_neg {l : List RF} {n : List UInt8} (h : ixI l n < 0) : getR l n = none := by
  have h1 : ixR l n = none := by
    unfold ixI at h
    cases e : ixR l n with
    | none => rfl
    | some i => rw [e] at h; simp only at h; omega
  rw [ixR, List.findIdx?_eq_none_iff] at h1
  clear h
  induction l with
  | nil => rfl
  | cons p l ih =>
    have h2 := h1 p (List.mem_cons_self ..)
    have h2 : ¬ fN p = n := by simpa using h2
    rw [getR, if_neg h2]
    exact ih fun x hx => h1 x (List.mem_cons_of_mem _ hx)
theorem getR_at {l : List RF} {n : List UInt8} {i : Nat} (hi : i < l.length) (he : fN l[i] = n) (h : ∀ (j : Nat) (hj : j < l.length), j < i → fN l[j] ≠ n) : getR l n = some (fS l[i]) := by
  induction l generalizing i with
  | nil => exact absurd hi (Nat.not_lt_zero _)
  | cons p l ih =>
    cases i with
    | zero =>
      have he : fN p = n := he
      rw [getR, if_pos he]
      rfl
    | succ i =>
      have h0 : fN p ≠ n := h 0 (by simp) (by omega)
      rw [getR, if_neg h0]
      exact ih (i := i) (by simpa using hi) he fun j hj hji => h (j + 1) (by simp; omega) (by omega)
theorem ixI_pos {l : List RF} {n : List UInt8} (h : ¬ ixI l n < 0) : ∃ (i : Nat) (hi : i < l.length), ixI l n = (i : Nat) ∧ getR l n = some (fS l[i]) := by
  unfold ixI at h ⊢
  cases e : ixR l n with
  | none => rw [e] at h; simp only at h; omega
  | some i =>
    rw [ixR, List.findIdx?_eq_some_iff_getElem] at e
    obtain ⟨h1, h2, h3⟩ := e
    refine ⟨i, h1, rfl, getR_at h1 (by simpa using h2) fun j hj hji => ?_⟩
    simpa using h3 j hji
def crtR (room : Int) (l : List RF) (n : List UInt8) (k : Int) : List RF × Int :=
  match nameOK n && (srightN k && decide (0 ≤ room)) with
  | false => (l, 1)
  | true => match decide (0 ≤ ixI l n) with
    | true => (l, 42)
    | false => match decide (16 ≤ l.length) with
      | true => (l, 41)
      | false => (outR l n ++ [mkF n (mkRS k room [] 0)], 0)
set_option maxHeartbeats 1000000 in
theorem rcreate_fn (room : Int) (l : List RF) (n : List UInt8) (k : Int) (hl : l.length ≤ 1073741824) (hn : n.length ≤ 4294967296) : Fn Try.prog 95 [rfV room l, vS n, vI k] [] [] (.tup [.agg (rfL room (crtR room l n k).1), vErr (crtR room l n k).2]) [] := by
  unfold crtR
  refine Fn.of tblOK [9] _ _ _ _ _ Try.func95 rfl rfl (by kernel_rfl) (by kernel_rfl) rfl (drawOK tblOK) rfl ?_
  refine ⟨rfl, ?_⟩
  refine ⟨rfl, ?_⟩
  refine ⟨_, _, _, _, rnew_fn k room, trivial, rfl, ?_⟩
  refine ⟨rfl, ?_⟩
  refine ⟨_, _, _, _, refRight_spec n hn, trivial, rfl, ?_⟩
  cases e1 : nameOK n with
  | false =>
    refine ⟨fun _ => ?_, fun h => absurd h (by decide)⟩
    exact ⟨_, _, _, Le.refl _ _, rfl, ⟨⟨rfl, rfl, trivial⟩, rfl, trivial⟩, trivial, rfl⟩
  | true =>
    refine ⟨fun h => absurd h (by decide), fun _ => ?_⟩
    cases e2 : (srightN k && decide (0 ≤ room)) with
    | false =>
      refine ⟨fun _ => ?_, fun h => absurd h (by decide)⟩
      exact ⟨_, _, _, Le.refl _ _, rfl, ⟨⟨rfl, rfl, trivial⟩, rfl, trivial⟩, trivial, rfl⟩
    | true =>
      refine ⟨fun h => absurd h (by decide), fun _ => ?_⟩
      refine ⟨_, _, _, _, rfind_fn room l n hl, trivial, rfl, ?_⟩
      refine ⟨fun c => ?_, fun c => ?_⟩
      · have c : decide (0 ≤ ixI l n) = true := c
        rw [c]
        exact ⟨_, _, _, Le.refl _ _, rfl, ⟨⟨rfl, rfl, trivial⟩, rfl, trivial⟩, trivial, rfl⟩
      have c : decide (0 ≤ ixI l n) = false := c
      rw [c]
      refine ⟨fun c2 => ?_, fun c2 => ?_⟩
      · have c2 : decide ((16 : Int) ≤ (l.length : Nat)) = true := c2
        have e3 : decide (16 ≤ l.length) = true := decide_eq_true (by have := of_decide_eq_true c2; omega)
        rw [e3]
        exact ⟨_, _, _, Le.refl _ _, rfl, ⟨⟨rfl, rfl, trivial⟩, rfl, trivial⟩, trivial, rfl⟩
      have c2 : decide ((16 : Int) ≤ (l.length : Nat)) = false := c2
      have e3 : decide (16 ≤ l.length) = false := decide_eq_false (by have := of_decide_eq_false c2; omega)
      rw [e3]
      refine ⟨_, _, _, _, routO_fn l n hl, trivial, rfl, ?_⟩
      have ho := outR_len l n
      have hb : (outR l n).length + 1 ≤ 4294967296 := by omega
      refine ⟨hb, rfl, rfl, ?_⟩
      show TrQ _ _ _ _ _ _ _
      refine TrQ.go tblOK (drawOK tblOK) [] (by kernel_rfl) (Le.frz 43 rfl) ?_
      exact ⟨_, _, _, Le.refl _ _, rfl, ⟨⟨rfl, rfl, trivial⟩, rfl, trivial⟩, trivial, rfl⟩
def renR (l : List RF) (fr to : List UInt8) : List RF × Int :=
  match nameOK to with
  | false => (l, 1)
  | true => match getR l fr with
    | none => (l, 40)
    | some r => (outR (outR l fr) to ++ [mkF to r], 0)
set_option maxHeartbeats 1000000 in
theorem rrename_fn (room : Int) (l : List RF) (fr to : List UInt8) (hl : l.length ≤ 1073741824) (hn : to.length ≤ 4294967296) : Fn Try.prog 97 [rfV room l, vS fr, vS to] [] [] (.tup [.agg (rfL room (renR l fr to).1), vErr (renR l fr to).2]) [] := by
  unfold renR
  refine Fn.of tblOK [8] _ _ _ _ _ Try.func97 rfl rfl (by kernel_rfl) (by kernel_rfl) rfl (drawOK tblOK) rfl ?_
  refine ⟨rfl, ?_⟩
  refine ⟨rfl, ?_⟩
  refine ⟨_, _, _, _, refRight_spec to hn, trivial, rfl, ?_⟩
  cases e1 : nameOK to with
  | false =>
    refine ⟨fun _ => ?_, fun h => absurd h (by decide)⟩
    exact ⟨_, _, _, Le.refl _ _, rfl, ⟨⟨rfl, rfl, trivial⟩, rfl, trivial⟩, trivial, rfl⟩
  | true =>
    refine ⟨fun h => absurd h (by decide), fun _ => ?_⟩
    refine ⟨_, _, _, _, rfind_fn room l fr hl, trivial, rfl, ?_⟩
    refine ⟨fun c => ?_, fun c => ?_⟩
    · have c : ixI l fr < 0 := of_decide_eq_true c
      rw [ixI_neg c]
      exact ⟨_, _, _, Le.refl _ _, rfl, ⟨⟨rfl, rfl, trivial⟩, rfl, trivial⟩, trivial, rfl⟩
    have c : ¬ ixI l fr < 0 := of_decide_eq_false c
    obtain ⟨i, hi, ei, eg⟩ := ixI_pos c
    rw [eg]
    refine ⟨by omega, l[i], (by rw [show (ixI l fr).toNat = i by omega]; exact lgAt (n := i) hi), ?_⟩
    refine ⟨rfl, ?_⟩
    refine ⟨_, _, _, _, rout_fn l fr hl, trivial, rfl, ?_⟩
    have ho := outR_len l fr
    refine ⟨_, _, _, _, routO_fn (outR l fr) to (by omega), trivial, rfl, ?_⟩
    have ho2 := outR_len (outR l fr) to
    have hb : (outR (outR l fr) to).length + 1 ≤ 4294967296 := by omega
    refine ⟨hb, rfl, rfl, ?_⟩
    show TrQ _ _ _ _ _ _ _
    refine TrQ.go tblOK (drawOK tblOK) [] (by kernel_rfl) (Le.frz 36 rfl) ?_
    exact ⟨_, _, _, Le.refl _ _, rfl, ⟨⟨rfl, rfl, trivial⟩, rfl, trivial⟩, trivial, rfl⟩
/-! The document's files (layer 4): Crash. -/
theorem keepOf_cons (k : Kp) (l : List Kp) (n : List UInt8) : keepOf (k :: l) n = if kNm k = n then kL k else keepOf l n := by
  unfold keepOf kpIx
  rw [List.findIdx?_cons]
  by_cases h : kNm k = n
  · rw [decide_eq_true h, if_pos h]
    rfl
  · rw [decide_eq_false h, if_neg h]
    cases e : l.findIdx? fun k => decide (kNm k = n) with
    | none => rfl
    | some i => rfl
def crshF (ks : List Kp) (p : RF) : RF := mkF (fN p) (crashR (fS p) (keepOf ks (fN p)))
def crshR (ks : List Kp) (l : List RF) : List RF := l.map (crshF ks)
@[reducible] def c4K (ks : List Kp) (d i : Nat) : KL := [(1, vL uK ks), (2, vP 2), (4, vP 4), (5, vOwn d), (6, vI (i : Nat))]
@[reducible] def c4B (room : Int) (l : List RF) (d : Nat) (x : List RF) : BL := [(2, .cells (rfL room l)), (4, .cells tbl.t95.zero), (d, .row 168 uF x)]
@[reducible] def c4K2 (ks : List Kp) (d i j : Nat) (kp : List Int) : KL := [(1, vL uK ks), (2, vP 2), (4, vP 4), (5, vOwn d), (6, vI (i : Nat)), (7, vL uI kp), (8, vI ((j : Int) - 1))]
set_option maxHeartbeats 1000000 in
theorem rcrash4_fn (room : Int) (l : List RF) (ks : List Kp) (hl : l.length ≤ 1073741824) (hk : ks.length ≤ 1073741824) (hkl : ∀ n, (keepOf ks n).length ≤ 1073741824) (h : ∀ p ∈ l, (rL (fS p)).length ≤ 1073741824 ∧ 0 ≤ rSafe (fS p) ∧ rSafe (fS p) ≤ 1073741824) :
    Fn Try.prog 98 [rfV room l, vL uK ks] [] [] (.c (.agg (rfL room (crshR ks l)))) [] := by
  refine Fn.of tblOK [12] _ _ _ _ _ Try.func98 rfl rfl (by kernel_rfl) (by kernel_rfl) rfl (drawOK tblOK) rfl ?_
  refine ⟨rfl, ?_⟩
  refine ⟨rfl, ?_⟩
  show TrQ _ _ _ _ _ _ _
  refine TrQ.loop tblOK (drawOK tblOK) [12] (by kernel_rfl) (X := Nat) (fun i => c4K ks 2003 i) (fun i => c4B room l 2003 (crshR ks (l.take i))) (fun i => i ≤ l.length) (fun i => l.length - i) 0 (Nat.zero_le _) ?_ ?_
  · exact Le.trans (Le.nil 5 2003 168 uF rfl rfl) (Le.sub ⟨rfl, rfl, rfl, rfl, rfl, trivial⟩ ⟨rfl, rfl, rfl, trivial⟩)
  intro i hi
  refine ⟨fun hc => ?_, fun hc => ?_⟩
  · have hc : decide ((i : Int) < (l.length : Int)) = true := hc
    have hi1 : i < l.length := by simpa using hc
    obtain ⟨g1, g2, g3⟩ := h _ (List.getElem_mem hi1)
    refine ⟨by omega, ?_⟩
    show TrQ _ _ _ _ _ _ _
    refine TrQ.loop tblOK (drawOK tblOK) [] (by kernel_rfl) (X := Nat) (fun j => c4K2 ks 2003 i j (keepOf (ks.drop j) (fN l[i]))) (fun j => c4B room l 2003 (crshR ks (l.take i))) (fun j => j ≤ ks.length) (fun j => j) ks.length (Nat.le_refl _) ?_ ?_
    · refine Le.sub ⟨rfl, rfl, rfl, rfl, rfl, ?_, rfl, trivial⟩ ⟨rfl, rfl, rfl, trivial⟩
      rw [List.drop_length]
      rfl
    intro j hj
    refine ⟨fun h2 => ?_, fun h2 => ?_⟩
    · have h2 : 0 ≤ (j : Int) - 1 := of_decide_eq_true h2
      have hj1 : j - 1 < ks.length := by omega
      have ej : ((j : Int) - 1).toNat = j - 1 := by omega
      have ed : ks.drop (j - 1) = ks[j - 1] :: ks.drop j := by
        rw [List.drop_eq_getElem_cons hj1, show j - 1 + 1 = j by omega]
      have ek : keepOf (ks.drop (j - 1)) (fN l[i]) = if kNm ks[j - 1] = fN l[i] then kL ks[j - 1] else keepOf (ks.drop j) (fN l[i]) := by rw [ed, keepOf_cons]
      refine ⟨h2, ks[j - 1], (by rw [ej]; exact lgAt (n := j - 1) hj1), ?_⟩
      refine ⟨by omega, l[i], lgAt (n := i) hi1, ?_⟩
      refine ⟨rfl, fun h3 => ?_, fun h3 => ?_⟩
      · have h3 : kNm ks[j - 1] = fN l[i] := of_decide_eq_true h3
        rw [if_pos h3] at ek
        refine ⟨h2, ks[j - 1], (by rw [ej]; exact lgAt (n := j - 1) hj1), ?_⟩
        refine ⟨by omega, j - 1, by omega, by omega, Le.sub ⟨rfl, rfl, rfl, rfl, rfl, ?_, ?_, trivial⟩ ⟨rfl, rfl, rfl, trivial⟩⟩
        · rw [ek]
          rfl
        · show (j : Int) - 1 - 1 = ((j - 1 : Nat) : Int) - 1
          omega
      · have h3 : ¬ kNm ks[j - 1] = fN l[i] := of_decide_eq_false h3
        rw [if_neg h3] at ek
        refine ⟨by omega, j - 1, by omega, by omega, Le.sub ⟨rfl, rfl, rfl, rfl, rfl, ?_, ?_, trivial⟩ ⟨rfl, rfl, rfl, trivial⟩⟩
        · rw [ek]
          rfl
        · show (j : Int) - 1 - 1 = ((j - 1 : Nat) : Int) - 1
          omega
    · have h2 : ¬ 0 ≤ (j : Int) - 1 := of_decide_eq_false h2
      have hj0 : j = 0 := by omega
      subst hj0
      rw [List.drop_zero]
      have hkk := hkl (fN l[i])
      refine ⟨by omega, l[i], lgAt (n := i) hi1, ?_⟩
      refine ⟨by omega, l[i], lgAt (n := i) hi1, ?_⟩
      refine ⟨_, _, _, _, rcrash_fn (fS l[i]) (keepOf ks (fN l[i])) g1 hkk g2 g3, trivial, rfl, ?_⟩
      have hcl : (crshR ks (l.take i)).length ≤ i := by unfold crshR; rw [List.length_map, List.length_take]; omega
      have hb : (crshR ks (l.take i)).length + 1 ≤ 4294967296 := by omega
      have hsn : crshR ks (l.take (i + 1)) = crshR ks (l.take i) ++ [crshF ks l[i]] := by
        unfold crshR
        rw [List.take_succ_eq_append_getElem hi1, List.map_append]
        rfl
      refine ⟨hb, rfl, rfl, ?_⟩
      refine ⟨by omega, i + 1, by omega, by omega, Le.trans (Le.sub (K' := c4K ks 57 (i + 1)) (B' := c4B room l 57 (crshR ks (l.take (i + 1)))) ⟨rfl, rfl, rfl, rfl, rfl, trivial⟩ ⟨rfl, rfl, ?_, trivial⟩) (Le.ren 57 2003 rfl)⟩
      rw [hsn]
      rfl
  · have hc : decide ((i : Int) < (l.length : Int)) = false := hc
    have hi1 : i = l.length := by simp at hc; omega
    subst hi1
    show TrQ _ _ _ _ _ _ _
    refine TrQ.go tblOK (drawOK tblOK) [] (by kernel_rfl) (Le.trans (Le.sub (K' := c4K ks 2003 l.length) (B' := c4B room l 2003 (crshR ks l)) ⟨rfl, rfl, rfl, rfl, rfl, trivial⟩ ⟨rfl, rfl, congrArg (fun m => some (Ch.row 168 uF (crshR ks m))) List.take_length, trivial⟩) (Le.frz 2003 rfl)) ?_
    exact ⟨_, _, _, Le.refl _ _, rfl, ⟨rfl, rfl, trivial⟩, trivial, rfl⟩
/-! The document's files (layer 4): Do. -/
structure ReR where
  l : List RF
  x : List UInt8
  e : Int
def doR (room : Int) (l : List RF) (o : Op4) : ReR :=
  if pKind o = 0 then ⟨(crtR room l (pName o) (pN o)).1, [], (crtR room l (pName o) (pN o)).2⟩
  else if pKind o = 1 then (match getR l (pName o) with
    | none => ⟨l, [], 40⟩
    | some _ => ⟨outR l (pName o), [], 0⟩)
  else if pKind o = 2 then ⟨(renR l (pName o) (pTo o)).1, [], (renR l (pName o) (pTo o)).2⟩
  else if pKind o = 3 then ⟨crshR (pKeeps o) l, [], 0⟩
  else if pKind o = 4 then (match getR l (pName o) with
    | none => ⟨l, [], 40⟩
    | some r => ⟨outR l (pName o) ++ [mkF (pName o) (opR r (pS o)).1], (opR r (pS o)).2.1, (opR r (pS o)).2.2⟩)
  else ⟨l, [], 0⟩
/-- What the document's files are as. -/
structure FRK (l : List RF) (W : Nat) : Prop where
  len : l.length ≤ 1073741824
  ok : ∀ p ∈ l, ROK (fS p) W
  n0 : ∀ p ∈ l, 0 ≤ rN (fS p) ∧ rN (fS p) ≤ 4096
  s0 : ∀ p ∈ l, 0 ≤ rSafe (fS p) ∧ rSafe (fS p) ≤ ((rL (fS p)).length : Nat)
theorem keepOf_le {ks : List Kp} {N : Nat} (h : ∀ k ∈ ks, (kL k).length ≤ N) (n : List UInt8) : (keepOf ks n).length ≤ N := by
  induction ks with
  | nil => exact Nat.zero_le _
  | cons k l ih =>
    rw [keepOf_cons]
    split
    · exact h k (List.mem_cons_self ..)
    · exact ih fun x hx => h x (List.mem_cons_of_mem _ hx)
set_option maxHeartbeats 1000000 in
theorem rdo4_fn (room : Int) (l : List RF) (o : Op4) {W : Nat} (h : FRK l W) (hW : W ≤ 536870912) (hO : OpBd o 536870912) :
    Fn Try.prog 48 [rfV room l, op4V o] [] [] (.tup [.agg (rfL room (doR room l o).l), .one (.d (.str (doR room l o).x)), vErr (doR room l o).e]) [] := by
  have hl := h.len
  refine Fn.of tblOK [19] _ _ _ _ _ Try.func48 rfl rfl (by kernel_rfl) (by kernel_rfl) rfl (drawOK tblOK) rfl ?_
  refine ⟨rfl, ?_⟩
  refine ⟨rfl, ?_⟩
  refine ⟨rfl, ?_⟩
  refine ⟨_, _, _, _, rfind_fn room l (pName o) hl, trivial, rfl, ?_⟩
  refine ⟨fun a1 => ?_, fun a1 => ?_⟩
  · have a1 : pKind o = 1 := of_decide_eq_true a1
    have e : doR room l o = _ := (if_neg (by omega)).trans (if_pos a1)
    refine ⟨fun a2 => ?_, fun a2 => ?_⟩
    · have a2 : ixI l (pName o) < 0 := of_decide_eq_true a2
      rw [ixI_neg a2] at e
      rw [e]
      exact ⟨_, _, _, Le.refl _ _, rfl, ⟨⟨rfl, rfl, trivial⟩, rfl, rfl, trivial⟩, trivial, rfl⟩
    · have a2 : ¬ ixI l (pName o) < 0 := of_decide_eq_false a2
      obtain ⟨i, hi, ei, eg⟩ := ixI_pos a2
      rw [eg] at e
      rw [e]
      refine ⟨fun c0 => absurd (of_decide_eq_true c0) (by omega), fun _ => ?_⟩
      refine ⟨fun _ => ?_, fun c => absurd a1 (of_decide_eq_false c)⟩
      refine ⟨_, _, _, _, rout_fn l (pName o) hl, trivial, rfl, ?_⟩
      show TrQ _ _ _ _ _ _ _
      refine TrQ.go tblOK (drawOK tblOK) [] (by kernel_rfl) (Le.refl _ _) ?_
      exact ⟨_, _, _, Le.refl _ _, rfl, ⟨⟨rfl, rfl, trivial⟩, rfl, rfl, trivial⟩, trivial, rfl⟩
  · have a1 : pKind o ≠ 1 := of_decide_eq_false a1
    refine ⟨fun a4 => ?_, fun a4 => ?_⟩
    · have a4 : pKind o = 4 := of_decide_eq_true a4
      have e : doR room l o = _ := (if_neg (by omega)).trans ((if_neg a1).trans ((if_neg (by omega)).trans ((if_neg (by omega)).trans (if_pos a4))))
      refine ⟨fun a2 => ?_, fun a2 => ?_⟩
      · have a2 : ixI l (pName o) < 0 := of_decide_eq_true a2
        rw [ixI_neg a2] at e
        rw [e]
        exact ⟨_, _, _, Le.refl _ _, rfl, ⟨⟨rfl, rfl, trivial⟩, rfl, rfl, trivial⟩, trivial, rfl⟩
      · have a2 : ¬ ixI l (pName o) < 0 := of_decide_eq_false a2
        obtain ⟨i, hi, ei, eg⟩ := ixI_pos a2
        rw [eg] at e
        rw [e]
        have hm := List.getElem_mem hi
        refine ⟨fun c0 => absurd (of_decide_eq_true c0) (by omega), fun _ => ?_⟩
        refine ⟨fun c0 => absurd (of_decide_eq_true c0) (by omega), fun _ => ?_⟩
        refine ⟨fun c0 => absurd (of_decide_eq_true c0) (by omega), fun _ => ?_⟩
        refine ⟨fun c0 => absurd (of_decide_eq_true c0) (by omega), fun _ => ?_⟩
        refine ⟨fun _ => ?_, fun c => absurd a4 (of_decide_eq_false c)⟩
        refine ⟨by omega, l[i], (by rw [show (ixI l (pName o)).toNat = i by omega]; exact lgAt (n := i) hi), ?_⟩
        refine ⟨rfl, ?_⟩
        refine ⟨_, _, _, _, rdo_fn (fS l[i]) (pS o) (h.ok _ hm) hW (h.n0 _ hm).1 (h.n0 _ hm).2 (h.s0 _ hm).1 (h.s0 _ hm).2 hO.b (by have := hO.keep; omega), trivial, rfl, ?_⟩
        refine ⟨_, _, _, _, routO_fn l (pName o) hl, trivial, rfl, ?_⟩
        have ho := outR_len l (pName o)
        have hb : (outR l (pName o)).length + 1 ≤ 4294967296 := by omega
        refine ⟨hb, rfl, rfl, ?_⟩
        show TrQ _ _ _ _ _ _ _
        refine TrQ.go tblOK (drawOK tblOK) [] (by kernel_rfl) (Le.frz 93 rfl) ?_
        exact ⟨_, _, _, Le.refl _ _, rfl, ⟨⟨rfl, rfl, trivial⟩, rfl, rfl, trivial⟩, trivial, rfl⟩
    have a4 : pKind o ≠ 4 := of_decide_eq_false a4
    refine ⟨fun c0 => ?_, fun c0 => ?_⟩
    · have c0 : pKind o = 0 := of_decide_eq_true c0
      have e : doR room l o = _ := if_pos c0
      rw [e]
      refine ⟨_, _, _, _, rcreate_fn room l (pName o) (pN o) hl (by have := hO.name; omega), trivial, rfl, ?_⟩
      show TrQ _ _ _ _ _ _ _
      refine TrQ.go tblOK (drawOK tblOK) [] (by kernel_rfl) (Le.refl _ _) ?_
      exact ⟨_, _, _, Le.refl _ _, rfl, ⟨⟨rfl, rfl, trivial⟩, rfl, rfl, trivial⟩, trivial, rfl⟩
    have c0 : pKind o ≠ 0 := of_decide_eq_false c0
    refine ⟨fun c1 => absurd (of_decide_eq_true c1) a1, fun _ => ?_⟩
    refine ⟨fun c2 => ?_, fun c2 => ?_⟩
    · have c2 : pKind o = 2 := of_decide_eq_true c2
      have e : doR room l o = _ := (if_neg c0).trans ((if_neg a1).trans (if_pos c2))
      rw [e]
      refine ⟨_, _, _, _, rrename_fn room l (pName o) (pTo o) hl (by have := hO.to; omega), trivial, rfl, ?_⟩
      show TrQ _ _ _ _ _ _ _
      refine TrQ.go tblOK (drawOK tblOK) [] (by kernel_rfl) (Le.refl _ _) ?_
      exact ⟨_, _, _, Le.refl _ _, rfl, ⟨⟨rfl, rfl, trivial⟩, rfl, rfl, trivial⟩, trivial, rfl⟩
    have c2 : pKind o ≠ 2 := of_decide_eq_false c2
    refine ⟨fun c3 => ?_, fun c3 => ?_⟩
    · have c3 : pKind o = 3 := of_decide_eq_true c3
      have e : doR room l o = _ := (if_neg c0).trans ((if_neg a1).trans ((if_neg c2).trans (if_pos c3)))
      rw [e]
      refine ⟨_, _, _, _, rcrash4_fn room l (pKeeps o) hl (by have := hO.keeps; omega) (fun n => Nat.le_trans (keepOf_le hO.kl n) (by decide)) (fun p hp => ⟨by have := (h.ok p hp).len; omega, (h.s0 p hp).1, by have := (h.s0 p hp).2; have := (h.ok p hp).len; omega⟩), trivial, rfl, ?_⟩
      show TrQ _ _ _ _ _ _ _
      refine TrQ.go tblOK (drawOK tblOK) [] (by kernel_rfl) (Le.refl _ _) ?_
      exact ⟨_, _, _, Le.refl _ _, rfl, ⟨⟨rfl, rfl, trivial⟩, rfl, rfl, trivial⟩, trivial, rfl⟩
    have c3 : pKind o ≠ 3 := of_decide_eq_false c3
    refine ⟨fun c4 => absurd (of_decide_eq_true c4) a4, fun _ => ?_⟩
    have e : doR room l o = _ := (if_neg c0).trans ((if_neg a1).trans ((if_neg c2).trans ((if_neg c3).trans (if_neg a4))))
    rw [e]
    show TrQ _ _ _ _ _ _ _
    refine TrQ.go tblOK (drawOK tblOK) [] (by kernel_rfl) (Le.refl _ _) ?_
    exact ⟨_, _, _, Le.refl _ _, rfl, ⟨⟨rfl, rfl, trivial⟩, rfl, rfl, trivial⟩, trivial, rfl⟩
end Go.Proofs.Ythghcdddambaeaa
