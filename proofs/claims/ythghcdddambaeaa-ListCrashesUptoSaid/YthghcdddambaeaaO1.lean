/-
  octets: numbers and texts, written (widths 1, 2, 4).
-/
import Derived.Test.YthghcdddambaeaaLD
set_option linter.unusedVariables false
set_option linter.unusedSimpArgs false
set_option maxRecDepth 10000
namespace Go.Proofs.Ythghcdddambaeaa
open Go.RowKit Go.Proofs

/-- A digit, to the base 256; a number of so many digits, the greatest first. -/
def dig (n k : Nat) : UInt8 := UInt8.ofNat (n / 256 ^ k % 256)
def encR (n : Nat) : Nat → List UInt8
  | 0 => []
  | k + 1 => dig n k :: encR n k
theorem encR_length (n : Nat) : ∀ k, (encR n k).length = k
  | 0 => rfl
  | k + 1 => by simp [encR, encR_length n k]
theorem encR_get (n : Nat) : ∀ (k i : Nat), i < k → (encR n k)[i]? = some (dig n (k - 1 - i))
  | 0, i, h => by omega
  | k + 1, 0, h => by simp [encR]
  | k + 1, i + 1, h => by
    simp only [encR, List.getElem?_cons_succ]
    rw [encR_get n k i (by omega)]
    congr 2
    omega
theorem byte_dig (m k : Nat) : UInt8.ofNat (((m : Nat) : Int) / ((2 ^ (8 * k) : Nat) : Int) % 256).toNat = dig m k := by
  unfold dig
  have h : (2 : Nat) ^ (8 * k) = 256 ^ k := by rw [Nat.pow_mul]
  rw [h]
  congr 1
abbrev W (w : Nat) : Prop := w = 1 ∨ w = 2 ∨ w = 4
theorem oright_spec (w : Nat) (hw : W w) : Fn Try.prog 110 [vI (w : Nat)] [] [] (vB true) [] := by
  refine Fn.of tblOK [] _ _ _ _ _ Try.func110 rfl rfl (by kernel_rfl) (by kernel_rfl) rfl (drawOK tblOK) rfl ?_
  refine ⟨fun h => ?_, fun h1 => ?_⟩
  · exact ⟨_, _, _, Le.refl _ _, rfl, rfl, trivial, rfl⟩
  refine ⟨fun h => ?_, fun h2 => ?_⟩
  · exact ⟨_, _, _, Le.refl _ _, rfl, rfl, trivial, rfl⟩
  refine ⟨fun h => ?_, fun h3 => ?_⟩
  · exact ⟨_, _, _, Le.refl _ _, rfl, rfl, trivial, rfl⟩
  have h1 : ¬ ((w : Nat) : Int) = 1 := of_decide_eq_false h1
  have h2 : ¬ ((w : Nat) : Int) = 2 := of_decide_eq_false h2
  have h3 : ¬ ((w : Nat) : Int) = 4 := of_decide_eq_false h3
  unfold W at hw
  omega
theorem oRight_spec (w : Nat) (hw : W w) : Fn Try.prog 111 [vI (w : Nat)] [] [] (vB true) [] := by
  refine Fn.of tblOK [] _ _ _ _ _ Try.func111 rfl rfl (by kernel_rfl) (by kernel_rfl) rfl (drawOK tblOK) rfl ?_
  refine ⟨fun h => ?_, fun h1 => ?_⟩
  · exact ⟨_, _, _, Le.refl _ _, rfl, rfl, trivial, rfl⟩
  refine ⟨fun h => ?_, fun h2 => ?_⟩
  · exact ⟨_, _, _, Le.refl _ _, rfl, rfl, trivial, rfl⟩
  refine ⟨fun h => ?_, fun h3 => ?_⟩
  · exact ⟨_, _, _, Le.refl _ _, rfl, rfl, trivial, rfl⟩
  have h1 : ¬ ((w : Nat) : Int) = 1 := of_decide_eq_false h1
  have h2 : ¬ ((w : Nat) : Int) = 2 := of_decide_eq_false h2
  have h3 : ¬ ((w : Nat) : Int) = 4 := of_decide_eq_false h3
  unfold W at hw
  omega
theorem ofits_spec (n w : Nat) (hw : W w) (hn : n < 256 ^ w) : Fn Try.prog 114 [vI (n : Nat), vI (w : Nat)] [] [] (vB true) [] := by
  have hp : (2 ^ (8 * ((w : Nat) : Int)).toNat : Nat) = 256 ^ w ∧ 256 ^ w ≤ 4294967296 := by
    rcases hw with rfl | rfl | rfl <;> decide
  refine Fn.of tblOK [] _ _ _ _ _ Try.func114 rfl rfl (by kernel_rfl) (by kernel_rfl) rfl (drawOK tblOK) rfl ?_
  refine ⟨fun h => ?_, fun h1 => ?_⟩
  · have h : ((w : Nat) : Int) = 8 := of_decide_eq_true h
    unfold W at hw
    omega
  refine ⟨fun h => ?_, fun h => absurd (show ¬ (0 : Int) ≤ ((n : Nat) : Int) from of_decide_eq_false h) (by omega)⟩
  have hw4 : w ≤ 4 := by unfold W at hw; omega
  refine ⟨by omega, ⟨by omega, by omega, by omega⟩, ?_, ?_⟩
  · rw [hp.1]; omega
  refine ⟨_, _, _, Le.refl _ _, rfl, ?_, trivial, rfl⟩
  refine decide_eq_true ?_
  show ((n : Nat) : Int) < 1 * ((2 ^ (8 * ((w : Nat) : Int)).toNat : Nat) : Int)
  rw [hp.1]
  omega
/-- Numbers, one behind the other. -/
def encNs (w : Nat) (l : List Nat) : List UInt8 := l.flatMap fun n => encR n w
theorem encNs_length (w : Nat) (l : List Nat) : (encNs w l).length = l.length * w := by
  induction l with
  | nil => simp [encNs]
  | cons n l ih =>
    simp only [encNs, List.flatMap_cons, List.length_append, List.length_cons, encR_length] at ih ⊢
    rw [ih, Nat.succ_mul]; omega
theorem encNs_step (w : Nat) {l : List Nat} {k : Nat} (h : k < l.length) : encNs w (l.take (k + 1)) = encNs w (l.take k) ++ encR l[k] w := by
  unfold encNs
  rw [← take_step h, List.flatMap_append]
  simp
def intsL (l : List Nat) : List Int := l.map Int.ofNat
@[reducible] def ints (l : List Nat) : List (El uInt) := intsL l
@[reducible] def puK (l : List Nat) (w r k : Nat) : KL := [(0, vOwn r), (1, vI (w : Nat)), (2, vL uInt (ints l)), (17, vL uInt (ints l)), (18, vI (l.length : Nat)), (19, vI (k : Nat))]
@[reducible] def puK2 (l : List Nat) (w r k : Nat) : KL := [(0, vOwn r), (1, vI (w : Nat)), (29, vL uInt (ints l)), (30, vI (l.length : Nat)), (31, vI (k : Nat))]
@[reducible] def puK3 (l : List Nat) (w r k n i : Nat) : KL := [(0, vOwn r), (1, vI (w : Nat)), (11, vI (n : Nat)), (29, vL uInt (ints l)), (30, vI (l.length : Nat)), (31, vI (k : Nat)), (35, vI (w : Nat)), (36, vI (i : Nat))]
@[reducible] def byR (r : Nat) (l : List UInt8) : BL := [(r, .row 5 .u8 l)]
theorem ints_get {l : List Nat} {k : Nat} (h : k < l.length) : lget (ints l) k = some ((l[k] : Nat) : Int) := by
  show (intsL l)[k]? = some _
  unfold intsL
  rw [List.getElem?_map, List.getElem?_eq_getElem h]
  rfl
theorem app_one (xs ys : List UInt8) (n i : Nat) (w : Nat) (hi : i < w) : (xs ++ (encR n w).take i) ++ [dig n (w - 1 - i)] = xs ++ (encR n w).take (i + 1) := by
  have hl := encR_length n w
  rw [List.append_assoc, ← take_step (by omega : i < (encR n w).length)]
  congr 2
  have := encR_get n w i hi
  rw [List.getElem?_eq_getElem (by omega)] at this
  injection this with this
  rw [this]
set_option maxHeartbeats 2000000 in
theorem put_spec (xs : List UInt8) (w : Nat) (l : List Nat) (hw : W w) (hf : ∀ n, n ∈ l → n < 256 ^ w) (hl : l.length ≤ 1000) (hx : xs.length ≤ 1000000000) :
    Fn Try.prog 74 [vOwn 1001, vI (w : Nat), vL uInt (ints l)] (byR 1001 xs) [1002] (.tup [.one (.own 1002), .one (.d (.bool true))]) (byR 1002 (xs ++ encNs w l)) := by
  have hw4 : w ≤ 4 := by unfold W at hw; omega
  have hil : List.length (ints l) = l.length := show (intsL l).length = _ by unfold intsL; exact List.length_map _
  refine Fn.of tblOK [] _ _ _ _ _ Try.func74 rfl rfl (by kernel_rfl) (by kernel_rfl) rfl (drawOK tblOK) rfl ?_
  refine ⟨_, _, _, _, oright_spec w hw, trivial, rfl, ?_⟩
  refine ⟨fun h => absurd h (by decide), fun _ => ?_⟩
  show TrQ _ _ _ _ _ _ _
  refine TrQ.loop tblOK (drawOK tblOK) [] (by kernel_rfl) (X := Nat) (puK l w 2001) (fun _ => byR 2001 xs) (fun k => k ≤ l.length) (fun k => l.length - k) 0 (Nat.zero_le _) ?_ ?_
  · exact Le.trans (Le.ren 1001 2001 rfl) (Le.sub ⟨rfl, rfl, rfl, rfl, congrArg Int.ofNat hil, rfl, trivial⟩ ⟨rfl, trivial⟩)
  intro k hk
  refine ⟨fun h => ?_, fun h => ?_⟩
  · have hk1 : k < l.length := by simpa using h
    refine ⟨by omega, ((l[k] : Nat) : Int), ints_get hk1, ?_⟩
    refine ⟨_, _, _, _, ofits_spec l[k] w hw (hf _ (List.getElem_mem hk1)), trivial, rfl, ?_⟩
    refine ⟨fun h => absurd h (by decide), fun _ => ?_⟩
    refine ⟨by omega, k + 1, hk1, by omega, ?_⟩
    exact Le.sub ⟨rfl, rfl, rfl, rfl, rfl, rfl, trivial⟩ ⟨rfl, trivial⟩
  clear h hk
  show TrQ _ _ _ _ _ _ _
  refine TrQ.loop tblOK (drawOK tblOK) [] (by kernel_rfl) (X := Nat) (puK2 l w 2001) (fun k => byR 2001 (xs ++ encNs w (l.take k))) (fun k => k ≤ l.length) (fun k => l.length - k) 0 (Nat.zero_le _) ?_ ?_
  · exact Le.sub ⟨rfl, rfl, rfl, congrArg Int.ofNat hil, rfl, trivial⟩ ⟨congrArg (fun l => some (Ch.row _ .u8 l)) (List.append_nil xs).symm, trivial⟩
  intro k hk
  refine ⟨fun h => ?_, fun h => ?_⟩
  · have hk1 : k < l.length := by simpa using h
    have hs := encNs_step w hk1
    have hn := hf _ (List.getElem_mem hk1)
    have hlen := encNs_length w (l.take k)
    have hlen2 : (l.take k).length * w ≤ 1000 * 4 := Nat.mul_le_mul (by rw [List.length_take]; omega) hw4
    refine ⟨by omega, ((l[k] : Nat) : Int), ints_get hk1, ?_⟩
    generalize l[k] = n at *
    generalize encNs w (l.take k) = ys at *
    have hn32 : n < 4294967296 := Nat.lt_of_lt_of_le hn (by rcases hw with rfl | rfl | rfl <;> decide)
    show TrQ _ _ _ _ _ _ _
    refine TrQ.loop tblOK (drawOK tblOK) [] (by kernel_rfl) (X := Nat) (puK3 l w 2001 k n) (fun i => byR 2001 ((xs ++ ys) ++ (encR n w).take i)) (fun i => i ≤ w) (fun i => w - i) 0 (Nat.zero_le _) ?_ ?_
    · exact Le.sub ⟨rfl, rfl, rfl, rfl, rfl, rfl, rfl, rfl, trivial⟩ ⟨congrArg (fun l => some (Ch.row _ .u8 l)) (List.append_nil (xs ++ ys)).symm, trivial⟩
    intro i hi
    refine ⟨fun h => ?_, fun h => ?_⟩
    · have hi1 : i < w := by
        have h : (i : Int) < (w : Int) := of_decide_eq_true h
        omega
      have e1 : (8 * ((w : Int) - 1 - (i : Int))).toNat = 8 * (w - 1 - i) := by omega
      have m1 : -9223372036854775808 ≤ (w : Int) - 1 ∧ (w : Int) - 1 ≤ 9223372036854775807 := by omega
      have m2 : -9223372036854775808 ≤ (w : Int) - 1 - (i : Int) ∧ (w : Int) - 1 - (i : Int) ≤ 9223372036854775807 := by omega
      have m3 : -9223372036854775808 ≤ 8 * ((w : Int) - 1 - (i : Int)) ∧ 8 * ((w : Int) - 1 - (i : Int)) ≤ 9223372036854775807 := by omega
      have m4 : 0 ≤ (n : Int) ∧ 0 ≤ 8 * ((w : Int) - 1 - (i : Int)) ∧ 8 * ((w : Int) - 1 - (i : Int)) ≤ 64 := by omega
      refine ⟨m1, m2, m3, m4, ?_⟩
      refine ⟨⟨Int.emod_nonneg _ (by decide), Int.emod_lt_of_pos _ (by decide)⟩, ?_, rfl, ?_⟩
      · show ((xs ++ ys) ++ (encR n w).take i).length + 1 ≤ 4294967296
        rw [List.length_append, List.length_append, List.length_take]; omega
      refine ⟨by omega, i + 1, hi1, by omega, ?_⟩
      refine Le.trans (Le.sub (K' := puK3 l w 49 k n (i + 1)) (B' := byR 49 ((xs ++ ys) ++ (encR n w).take (i + 1))) ⟨rfl, rfl, rfl, rfl, rfl, rfl, rfl, rfl, trivial⟩ ⟨?_, trivial⟩) (Le.ren 49 2001 rfl)
      refine congrArg (fun l => some (Ch.row _ .u8 l)) ?_
      rw [← app_one (xs ++ ys) [] n i w hi1, ← byte_dig, ← e1]
      rfl
    · have hi1 : i = w := by
        have h : ¬ (i : Int) < (w : Int) := of_decide_eq_false h
        omega
      subst hi1
      refine ⟨by omega, k + 1, hk1, by omega, ?_⟩
      refine Le.sub ⟨rfl, rfl, rfl, rfl, rfl, trivial⟩ ⟨?_, trivial⟩
      rw [hs, List.take_of_length_le (by rw [encR_length]; omega), List.append_assoc]
      rfl
  have hk1 : k = l.length := by have : ¬ k < l.length := by simpa using h
                                omega
  subst hk1
  rw [List.take_length]
  exact ⟨_, _, _, Le.ren 2001 1002 rfl, rfl, ⟨rfl, rfl, trivial⟩, ⟨rfl, trivial⟩, rfl⟩
set_option maxHeartbeats 2000000 in
theorem put_nil (w : Nat) (l : List Nat) (hw : W w) (hf : ∀ n, n ∈ l → n < 256 ^ w) (hl : l.length ≤ 1000) :
    Fn Try.prog 74 [v1 .nils, vI (w : Nat), vL uInt (ints l)] [] [1002] (.tup [.one (.own 1002), .one (.d (.bool true))]) (byR 1002 (encNs w l)) := by
  have hw4 : w ≤ 4 := by unfold W at hw; omega
  have hil : List.length (ints l) = l.length := show (intsL l).length = _ by unfold intsL; exact List.length_map _
  obtain ⟨xs, hxs⟩ : ∃ xs : List UInt8, xs = [] := ⟨_, rfl⟩
  have hx : xs.length ≤ 1000000000 := by rw [hxs]; decide
  rw [show encNs w l = xs ++ encNs w l by rw [hxs]; rfl]
  refine Fn.of tblOK [] _ _ _ _ _ Try.func74 rfl rfl (by kernel_rfl) (by kernel_rfl) rfl (drawOK tblOK) rfl ?_
  refine ⟨_, _, _, _, oright_spec w hw, trivial, rfl, ?_⟩
  refine ⟨fun h => absurd h (by decide), fun _ => ?_⟩
  show TrQ _ _ _ _ _ _ _
  refine TrQ.loop tblOK (drawOK tblOK) [] (by kernel_rfl) (X := Nat) (puK l w 2001) (fun _ => byR 2001 xs) (fun k => k ≤ l.length) (fun k => l.length - k) 0 (Nat.zero_le _) ?_ ?_
  · exact Le.trans (Le.nil 0 2001 5 .u8 rfl rfl) (Le.sub ⟨rfl, rfl, rfl, rfl, congrArg Int.ofNat hil, rfl, trivial⟩ ⟨congrArg (fun l => some (Ch.row _ .u8 l)) hxs.symm, trivial⟩)
  intro k hk
  refine ⟨fun h => ?_, fun h => ?_⟩
  · have hk1 : k < l.length := by simpa using h
    refine ⟨by omega, ((l[k] : Nat) : Int), ints_get hk1, ?_⟩
    refine ⟨_, _, _, _, ofits_spec l[k] w hw (hf _ (List.getElem_mem hk1)), trivial, rfl, ?_⟩
    refine ⟨fun h => absurd h (by decide), fun _ => ?_⟩
    refine ⟨by omega, k + 1, hk1, by omega, ?_⟩
    exact Le.sub ⟨rfl, rfl, rfl, rfl, rfl, rfl, trivial⟩ ⟨rfl, trivial⟩
  clear h hk
  show TrQ _ _ _ _ _ _ _
  refine TrQ.loop tblOK (drawOK tblOK) [] (by kernel_rfl) (X := Nat) (puK2 l w 2001) (fun k => byR 2001 (xs ++ encNs w (l.take k))) (fun k => k ≤ l.length) (fun k => l.length - k) 0 (Nat.zero_le _) ?_ ?_
  · exact Le.sub ⟨rfl, rfl, rfl, congrArg Int.ofNat hil, rfl, trivial⟩ ⟨congrArg (fun l => some (Ch.row _ .u8 l)) (List.append_nil xs).symm, trivial⟩
  intro k hk
  refine ⟨fun h => ?_, fun h => ?_⟩
  · have hk1 : k < l.length := by simpa using h
    have hs := encNs_step w hk1
    have hn := hf _ (List.getElem_mem hk1)
    have hlen := encNs_length w (l.take k)
    have hlen2 : (l.take k).length * w ≤ 1000 * 4 := Nat.mul_le_mul (by rw [List.length_take]; omega) hw4
    refine ⟨by omega, ((l[k] : Nat) : Int), ints_get hk1, ?_⟩
    generalize l[k] = n at *
    generalize encNs w (l.take k) = ys at *
    have hn32 : n < 4294967296 := Nat.lt_of_lt_of_le hn (by rcases hw with rfl | rfl | rfl <;> decide)
    show TrQ _ _ _ _ _ _ _
    refine TrQ.loop tblOK (drawOK tblOK) [] (by kernel_rfl) (X := Nat) (puK3 l w 2001 k n) (fun i => byR 2001 ((xs ++ ys) ++ (encR n w).take i)) (fun i => i ≤ w) (fun i => w - i) 0 (Nat.zero_le _) ?_ ?_
    · exact Le.sub ⟨rfl, rfl, rfl, rfl, rfl, rfl, rfl, rfl, trivial⟩ ⟨congrArg (fun l => some (Ch.row _ .u8 l)) (List.append_nil (xs ++ ys)).symm, trivial⟩
    intro i hi
    refine ⟨fun h => ?_, fun h => ?_⟩
    · have hi1 : i < w := by
        have h : (i : Int) < (w : Int) := of_decide_eq_true h
        omega
      have e1 : (8 * ((w : Int) - 1 - (i : Int))).toNat = 8 * (w - 1 - i) := by omega
      have m1 : -9223372036854775808 ≤ (w : Int) - 1 ∧ (w : Int) - 1 ≤ 9223372036854775807 := by omega
      have m2 : -9223372036854775808 ≤ (w : Int) - 1 - (i : Int) ∧ (w : Int) - 1 - (i : Int) ≤ 9223372036854775807 := by omega
      have m3 : -9223372036854775808 ≤ 8 * ((w : Int) - 1 - (i : Int)) ∧ 8 * ((w : Int) - 1 - (i : Int)) ≤ 9223372036854775807 := by omega
      have m4 : 0 ≤ (n : Int) ∧ 0 ≤ 8 * ((w : Int) - 1 - (i : Int)) ∧ 8 * ((w : Int) - 1 - (i : Int)) ≤ 64 := by omega
      refine ⟨m1, m2, m3, m4, ?_⟩
      refine ⟨⟨Int.emod_nonneg _ (by decide), Int.emod_lt_of_pos _ (by decide)⟩, ?_, rfl, ?_⟩
      · show ((xs ++ ys) ++ (encR n w).take i).length + 1 ≤ 4294967296
        rw [List.length_append, List.length_append, List.length_take]; omega
      refine ⟨by omega, i + 1, hi1, by omega, ?_⟩
      refine Le.trans (Le.sub (K' := puK3 l w 49 k n (i + 1)) (B' := byR 49 ((xs ++ ys) ++ (encR n w).take (i + 1))) ⟨rfl, rfl, rfl, rfl, rfl, rfl, rfl, rfl, trivial⟩ ⟨?_, trivial⟩) (Le.ren 49 2001 rfl)
      refine congrArg (fun l => some (Ch.row _ .u8 l)) ?_
      rw [← app_one (xs ++ ys) [] n i w hi1, ← byte_dig, ← e1]
      rfl
    · have hi1 : i = w := by
        have h : ¬ (i : Int) < (w : Int) := of_decide_eq_false h
        omega
      subst hi1
      refine ⟨by omega, k + 1, hk1, by omega, ?_⟩
      refine Le.sub ⟨rfl, rfl, rfl, rfl, rfl, trivial⟩ ⟨?_, trivial⟩
      rw [hs, List.take_of_length_le (by rw [encR_length]; omega), List.append_assoc]
      rfl
  have hk1 : k = l.length := by have : ¬ k < l.length := by simpa using h
                                omega
  subst hk1
  rw [List.take_length]
  exact ⟨_, _, _, Le.ren 2001 1002 rfl, rfl, ⟨rfl, rfl, trivial⟩, ⟨rfl, trivial⟩, rfl⟩
end Go.Proofs.Ythghcdddambaeaa
/-
  octets: texts; the document's numbers and texts.
-/
set_option linter.unusedVariables false
set_option linter.unusedSimpArgs false
set_option maxRecDepth 10000
namespace Go.Proofs.Ythghcdddambaeaa
open Go.RowKit Go.Proofs

def encT (s : List UInt8) (w : Nat) : List UInt8 := encR s.length w ++ s
theorem encT_length (s : List UInt8) (w : Nat) : (encT s w).length = w + s.length := by unfold encT; rw [List.length_append, encR_length]
theorem otext_spec (xs s : List UInt8) (w : Nat) (hw : W w) (hs : s.length < 256 ^ w) (hl : s.length ≤ 1000000000) (hx : xs.length ≤ 1000000000) :
    Fn Try.prog 75 [vOwn 1001, vS s, vI (w : Nat)] (byR 1001 xs) [1002] (.tup [.one (.own 1002), .one (.d (.bool true))]) (byR 1002 (xs ++ encT s w)) := by
  have hw4 : w ≤ 4 := by unfold W at hw; omega
  have hen := encNs_length w [s.length]
  refine Fn.of tblOK [] _ _ _ _ _ Try.func75 rfl rfl (by kernel_rfl) (by kernel_rfl) rfl (drawOK tblOK) rfl ?_
  refine ⟨_, _, _, _, Fn.ren [(1002, 2002)] (put_spec xs w [s.length] hw (fun n hn => by simp only [List.mem_singleton] at hn; subst hn; exact hs) (by simp) hx), ⟨rfl, trivial⟩, rfl, ?_⟩
  refine ⟨fun h => absurd h (by decide), fun _ => ?_⟩
  refine ⟨?_, rfl, ?_⟩
  · show (xs ++ encNs w [s.length]).length + s.length ≤ 4294967296
    rw [List.length_append, hen, List.length_singleton]; omega
  refine ⟨_, _, _, Le.ren 24 1002 rfl, rfl, ⟨rfl, rfl, trivial⟩, ⟨?_, trivial⟩, rfl⟩
  refine congrArg (fun l => some (Ch.row _ .u8 l)) ?_
  show (xs ++ encNs w [s.length]) ++ s = xs ++ encT s w
  unfold encNs encT
  simp
/-! ### the document's -/
theorem olimit_spec (w : Nat) (hw : W w) : Fn Try.prog 137 [vI (w : Nat)] [] [] (vI ((256 ^ w : Nat) : Int)) [] := by
  have hw4 : w ≤ 4 := by unfold W at hw; omega
  refine Fn.of tblOK [] _ _ _ _ _ Try.func137 rfl rfl (by kernel_rfl) (by kernel_rfl) rfl (drawOK tblOK) rfl ?_
  refine ⟨fun h => ?_, fun h1 => ?_⟩
  · have h : ((w : Nat) : Int) = 8 := of_decide_eq_true h
    omega
  show TrQ _ _ _ _ _ _ _
  refine TrQ.loop tblOK (drawOK tblOK) [] (by kernel_rfl) (X := Nat) (fun i => [(0, vI (w : Nat)), (3, vI ((256 ^ i : Nat) : Int)), (4, vI (i : Nat))]) (fun _ => []) (fun i => i ≤ w) (fun i => w - i) 0 (Nat.zero_le _) ?_ ?_
  · exact Le.sub ⟨rfl, rfl, rfl, trivial⟩ trivial
  intro i hi
  refine ⟨fun h => ?_, fun h => ?_⟩
  · have hi1 : i < w := by
      have h : (i : Int) < (w : Int) := of_decide_eq_true h
      omega
    have hp : 256 ^ i ≤ 16777216 ∧ 1 ≤ 256 ^ i := by
      have : i = 0 ∨ i = 1 ∨ i = 2 ∨ i = 3 := by omega
      rcases this with rfl | rfl | rfl | rfl <;> decide
    have hpi : ((256 ^ i : Nat) : Int) ≤ 16777216 ∧ 1 ≤ ((256 ^ i : Nat) : Int) := by omega
    refine ⟨⟨by omega, by omega⟩, ⟨by omega, i + 1, hi1, by omega, ?_⟩⟩
    refine Le.sub ⟨rfl, ?_, rfl, trivial⟩ trivial
    show ((256 ^ i : Nat) : Int) * 256 = ((256 ^ (i + 1) : Nat) : Int)
    rw [Nat.pow_succ]
    omega
  · have hi1 : i = w := by
      have h : ¬ (i : Int) < (w : Int) := of_decide_eq_false h
      omega
    subst hi1
    exact ⟨_, _, _, Le.refl _ _, rfl, rfl, trivial, rfl⟩
theorem onum_spec (n w : Nat) (hw : W w) (hn : n < 256 ^ w) : Fn Try.prog 112 [vI (n : Nat), vI (w : Nat)] [] [] (vS (encR n w)) [] := by
  have hw4 : w ≤ 4 := by unfold W at hw; omega
  have hn32 : n < 4294967296 := Nat.lt_of_lt_of_le hn (by rcases hw with rfl | rfl | rfl <;> decide)
  refine Fn.of tblOK [] _ _ _ _ _ Try.func112 rfl rfl (by kernel_rfl) (by kernel_rfl) rfl (drawOK tblOK) rfl ?_
  refine ⟨_, _, _, _, oRight_spec w hw, trivial, rfl, ?_⟩
  refine ⟨fun h => absurd h (by decide), fun _ => ?_⟩
  refine ⟨fun h => absurd (show ((n : Nat) : Int) < 0 from of_decide_eq_true h) (by omega), fun _ => ?_⟩
  refine ⟨_, _, _, _, olimit_spec w hw, trivial, rfl, ?_⟩
  refine ⟨fun h => absurd (show ((256 ^ w : Nat) : Int) ≤ ((n : Nat) : Int) from of_decide_eq_true h) (by omega), fun _ => ?_⟩
  show TrQ _ _ _ _ _ _ _
  refine TrQ.loop tblOK (drawOK tblOK) [] (by kernel_rfl) (X := Nat) (fun i => [(0, vI ((n / 256 ^ i : Nat) : Int)), (1, vI (w : Nat)), (5, vS (encR n i)), (6, vI (i : Nat))]) (fun _ => []) (fun i => i ≤ w) (fun i => w - i) 0 (Nat.zero_le _) ?_ ?_
  · refine Le.sub ⟨?_, rfl, rfl, rfl, trivial⟩ trivial
    show ((n : Nat) : Int) = ((n / 256 ^ 0 : Nat) : Int)
    simp
  intro i hi
  refine ⟨fun h => ?_, fun h => ?_⟩
  · have hi1 : i < w := by
      have h : (i : Int) < (w : Int) := of_decide_eq_true h
      omega
    have hq : n / 256 ^ i ≤ n := Nat.div_le_self _ _
    have hdd : n / 256 ^ (i + 1) = n / 256 ^ i / 256 := by rw [Nat.pow_succ, Nat.div_div_eq_div_mul]
    have hdig : dig n i = UInt8.ofNat (n / 256 ^ i % 256) := rfl
    generalize n / 256 ^ i = q at *
    have m1 : (0 : Int) ≤ (q : Int) ∧ (0 : Int) < 256 := by omega
    have m2 : -9223372036854775808 ≤ (q : Int) % 256 ∧ (q : Int) % 256 ≤ 9223372036854775807 := by omega
    have m3 : 0 ≤ (q : Int) % 256 % 256 ∧ (q : Int) % 256 % 256 < 256 := by omega
    have m4 : -9223372036854775808 ≤ (q : Int) / 256 ∧ (q : Int) / 256 ≤ 9223372036854775807 := by omega
    refine ⟨m1, m2, m3, ?_⟩
    refine ⟨?_, ?_⟩
    · show 1 + (encR n i).length ≤ 4294967296
      rw [encR_length]; omega
    refine ⟨m1, m4, by omega, i + 1, hi1, by omega, ?_⟩
    refine Le.sub ⟨?_, rfl, ?_, rfl, trivial⟩ trivial
    · show (q : Int) / 256 = _
      rw [hdd]; omega
    · show UInt8.ofNat ((q : Int) % 256 % 256).toNat :: encR n i = dig n i :: encR n i
      rw [hdig]
      congr 2
      omega
  · have hi1 : i = w := by
      have h : ¬ (i : Int) < (w : Int) := of_decide_eq_false h
      omega
    subst hi1
    exact ⟨_, _, _, Le.refl _ _, rfl, rfl, trivial, rfl⟩
theorem oText_spec (s : List UInt8) (w : Nat) (hw : W w) (hs : s.length < 256 ^ w) (hl : s.length ≤ 1000000000) : Fn Try.prog 113 [vS s, vI (w : Nat)] [] [] (.tup [.one (.d (.str (encT s w))), .one (.d (.bool true))]) [] := by
  have hw4 : w ≤ 4 := by unfold W at hw; omega
  have hne : encR s.length w ≠ [] := fun h => by
    have := encR_length s.length w
    rw [h] at this
    unfold W at hw
    simp at this
    omega
  have hel := encR_length s.length w
  have hn := onum_spec s.length w hw hs
  have ht : encT s w = encR s.length w ++ s := rfl
  rw [ht]
  generalize encR s.length w = x at *
  refine Fn.of tblOK [] _ _ _ _ _ Try.func113 rfl rfl (by kernel_rfl) (by kernel_rfl) rfl (drawOK tblOK) rfl ?_
  refine ⟨_, _, _, _, hn, trivial, rfl, ?_⟩
  refine ⟨fun h => absurd (show x = [] from of_decide_eq_true h) hne, fun _ => ?_⟩
  refine ⟨by omega, ?_⟩
  exact ⟨_, _, _, Le.refl _ _, rfl, ⟨rfl, rfl, trivial⟩, trivial, rfl⟩
end Go.Proofs.Ythghcdddambaeaa
