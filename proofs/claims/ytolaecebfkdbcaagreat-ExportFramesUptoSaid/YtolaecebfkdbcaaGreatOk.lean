/-
  octets: numbers written, and read (widths 1, 2, 4), without the document's.
-/
import Derived.Test.YtolaecebfkdbcaaGreatCd
set_option linter.unusedVariables false
set_option linter.unusedSimpArgs false
set_option maxRecDepth 10000
namespace Go.Proofs.YtolaecebfkdbcaaGreat
open Go.RowKit Go.Proofs
@[reducible] def uInt : U := .int .i64
theorem lget_at {α : Type} {L : List α} {k : Nat} {n : Int} (hn : n = (k : Nat)) (h : k < L.length) : lget L n.toNat = some L[k] := by
  subst hn
  exact List.getElem?_eq_getElem h
theorem take_step {α : Type} {l : List α} {k : Nat} (h : k < l.length) : l.take k ++ [l[k]] = l.take (k + 1) := by
  rw [List.take_add_one, List.getElem?_eq_getElem h]
  rfl
/-- A digit, to the base 256; a number of so many digits, the greatest first. -/
def dig (n k : Nat) : UInt8 := UInt8.ofNat (n / 256 ^ k % 256)
def encR (n : Nat) : Nat → List UInt8
  | 0 => []
  | k + 1 => dig n k :: encR n k
theorem encR_length (n : Nat) : ∀ k, (encR n k).length = k
  | 0 => rfl
  | k + 1 => by simp [encR, encR_length n k]
theorem encR_get (n : Nat) : ∀ (k i : Nat), i < k → (encR n k)[i]? = some (dig n (k - 1 - i))
  | 0, i, h => by omega
  | k + 1, 0, h => by simp [encR]
  | k + 1, i + 1, h => by
    simp only [encR, List.getElem?_cons_succ]
    rw [encR_get n k i (by omega)]
    congr 2
    omega
theorem byte_dig (m k : Nat) : UInt8.ofNat (((m : Nat) : Int) / ((2 ^ (8 * k) : Nat) : Int) % 256).toNat = dig m k := by
  unfold dig
  have h : (2 : Nat) ^ (8 * k) = 256 ^ k := by rw [Nat.pow_mul]
  rw [h]
  congr 1
abbrev W (w : Nat) : Prop := w = 1 ∨ w = 2 ∨ w = 4
theorem oright_spec (w : Nat) (hw : W w) : Fn Tryz.prog 71 [vI (w : Nat)] [] [] (vB true) [] := by
  refine Fn.of tblOK [] _ _ _ _ _ Tryz.func71 rfl rfl (by kernel_rfl) (by kernel_rfl) rfl (drawOK tblOK) rfl ?_
  refine ⟨fun h => ?_, fun h1 => ?_⟩
  · exact ⟨_, _, _, Le.refl _ _, rfl, rfl, trivial, rfl⟩
  refine ⟨fun h => ?_, fun h2 => ?_⟩
  · exact ⟨_, _, _, Le.refl _ _, rfl, rfl, trivial, rfl⟩
  refine ⟨fun h => ?_, fun h3 => ?_⟩
  · exact ⟨_, _, _, Le.refl _ _, rfl, rfl, trivial, rfl⟩
  have h1 : ¬ ((w : Nat) : Int) = 1 := of_decide_eq_false h1
  have h2 : ¬ ((w : Nat) : Int) = 2 := of_decide_eq_false h2
  have h3 : ¬ ((w : Nat) : Int) = 4 := of_decide_eq_false h3
  unfold W at hw
  omega
theorem ofits_spec (n w : Nat) (hw : W w) (hn : n < 256 ^ w) : Fn Tryz.prog 103 [vI (n : Nat), vI (w : Nat)] [] [] (vB true) [] := by
  have hp : (2 ^ (8 * ((w : Nat) : Int)).toNat : Nat) = 256 ^ w ∧ 256 ^ w ≤ 4294967296 := by
    rcases hw with rfl | rfl | rfl <;> decide
  refine Fn.of tblOK [] _ _ _ _ _ Tryz.func103 rfl rfl (by kernel_rfl) (by kernel_rfl) rfl (drawOK tblOK) rfl ?_
  refine ⟨fun h => ?_, fun h1 => ?_⟩
  · have h : ((w : Nat) : Int) = 8 := of_decide_eq_true h
    unfold W at hw
    omega
  refine ⟨fun h => ?_, fun h => absurd (show ¬ (0 : Int) ≤ ((n : Nat) : Int) from of_decide_eq_false h) (by omega)⟩
  have hw4 : w ≤ 4 := by unfold W at hw; omega
  refine ⟨by omega, ⟨by omega, by omega, by omega⟩, ?_, ?_⟩
  · rw [hp.1]; omega
  refine ⟨_, _, _, Le.refl _ _, rfl, ?_, trivial, rfl⟩
  refine decide_eq_true ?_
  show ((n : Nat) : Int) < 1 * ((2 ^ (8 * ((w : Nat) : Int)).toNat : Nat) : Int)
  rw [hp.1]
  omega
/-- Numbers, one behind the other. -/
def encNs (w : Nat) (l : List Nat) : List UInt8 := l.flatMap fun n => encR n w
theorem encNs_length (w : Nat) (l : List Nat) : (encNs w l).length = l.length * w := by
  induction l with
  | nil => simp [encNs]
  | cons n l ih =>
    simp only [encNs, List.flatMap_cons, List.length_append, List.length_cons, encR_length] at ih ⊢
    rw [ih, Nat.succ_mul]; omega
theorem encNs_step (w : Nat) {l : List Nat} {k : Nat} (h : k < l.length) : encNs w (l.take (k + 1)) = encNs w (l.take k) ++ encR l[k] w := by
  unfold encNs
  rw [← take_step h, List.flatMap_append]
  simp
def intsL (l : List Nat) : List Int := l.map Int.ofNat
@[reducible] def ints (l : List Nat) : List (El uInt) := intsL l
@[reducible] def puK (l : List Nat) (w r k : Nat) : KL := [(0, vOwn r), (1, vI (w : Nat)), (2, vL uInt (ints l)), (17, vL uInt (ints l)), (18, vI (l.length : Nat)), (19, vI (k : Nat))]
@[reducible] def puK2 (l : List Nat) (w r k : Nat) : KL := [(0, vOwn r), (1, vI (w : Nat)), (29, vL uInt (ints l)), (30, vI (l.length : Nat)), (31, vI (k : Nat))]
@[reducible] def puK3 (l : List Nat) (w r k n i : Nat) : KL := [(0, vOwn r), (1, vI (w : Nat)), (11, vI (n : Nat)), (29, vL uInt (ints l)), (30, vI (l.length : Nat)), (31, vI (k : Nat)), (35, vI (w : Nat)), (36, vI (i : Nat))]
@[reducible] def byR (r : Nat) (l : List UInt8) : BL := [(r, .row 5 .u8 l)]
theorem ints_get {l : List Nat} {k : Nat} (h : k < l.length) : lget (ints l) k = some ((l[k] : Nat) : Int) := by
  show (intsL l)[k]? = some _
  unfold intsL
  rw [List.getElem?_map, List.getElem?_eq_getElem h]
  rfl
theorem app_one (xs ys : List UInt8) (n i : Nat) (w : Nat) (hi : i < w) : (xs ++ (encR n w).take i) ++ [dig n (w - 1 - i)] = xs ++ (encR n w).take (i + 1) := by
  have hl := encR_length n w
  rw [List.append_assoc, ← take_step (by omega : i < (encR n w).length)]
  congr 2
  have := encR_get n w i hi
  rw [List.getElem?_eq_getElem (by omega)] at this
  injection this with this
  rw [this]
set_option maxHeartbeats 2000000 in
theorem put_spec (xs : List UInt8) (w : Nat) (l : List Nat) (hw : W w) (hf : ∀ n, n ∈ l → n < 256 ^ w) (hl : l.length ≤ 1000) (hx : xs.length ≤ 1000000000) :
    Fn Tryz.prog 67 [vOwn 1001, vI (w : Nat), vL uInt (ints l)] (byR 1001 xs) [1002] (.tup [.one (.own 1002), .one (.d (.bool true))]) (byR 1002 (xs ++ encNs w l)) := by
  have hw4 : w ≤ 4 := by unfold W at hw; omega
  have hil : List.length (ints l) = l.length := show (intsL l).length = _ by unfold intsL; exact List.length_map _
  refine Fn.of tblOK [] _ _ _ _ _ Tryz.func67 rfl rfl (by kernel_rfl) (by kernel_rfl) rfl (drawOK tblOK) rfl ?_
  refine ⟨_, _, _, _, oright_spec w hw, trivial, rfl, ?_⟩
  refine ⟨fun h => absurd h (by decide), fun _ => ?_⟩
  show TrQ _ _ _ _ _ _ _
  refine TrQ.loop tblOK (drawOK tblOK) [] (by kernel_rfl) (X := Nat) (puK l w 2001) (fun _ => byR 2001 xs) (fun k => k ≤ l.length) (fun k => l.length - k) 0 (Nat.zero_le _) ?_ ?_
  · exact Le.trans (Le.ren 1001 2001 rfl) (Le.sub ⟨rfl, rfl, rfl, rfl, congrArg Int.ofNat hil, rfl, trivial⟩ ⟨rfl, trivial⟩)
  intro k hk
  refine ⟨fun h => ?_, fun h => ?_⟩
  · have hk1 : k < l.length := by simpa using h
    refine ⟨by omega, ((l[k] : Nat) : Int), ints_get hk1, ?_⟩
    refine ⟨_, _, _, _, ofits_spec l[k] w hw (hf _ (List.getElem_mem hk1)), trivial, rfl, ?_⟩
    refine ⟨fun h => absurd h (by decide), fun _ => ?_⟩
    refine ⟨by omega, k + 1, hk1, by omega, ?_⟩
    exact Le.sub ⟨rfl, rfl, rfl, rfl, rfl, rfl, trivial⟩ ⟨rfl, trivial⟩
  clear h hk
  show TrQ _ _ _ _ _ _ _
  refine TrQ.loop tblOK (drawOK tblOK) [] (by kernel_rfl) (X := Nat) (puK2 l w 2001) (fun k => byR 2001 (xs ++ encNs w (l.take k))) (fun k => k ≤ l.length) (fun k => l.length - k) 0 (Nat.zero_le _) ?_ ?_
  · exact Le.sub ⟨rfl, rfl, rfl, congrArg Int.ofNat hil, rfl, trivial⟩ ⟨congrArg (fun l => some (Ch.row _ .u8 l)) (List.append_nil xs).symm, trivial⟩
  intro k hk
  refine ⟨fun h => ?_, fun h => ?_⟩
  · have hk1 : k < l.length := by simpa using h
    have hs := encNs_step w hk1
    have hn := hf _ (List.getElem_mem hk1)
    have hlen := encNs_length w (l.take k)
    have hlen2 : (l.take k).length * w ≤ 1000 * 4 := Nat.mul_le_mul (by rw [List.length_take]; omega) hw4
    refine ⟨by omega, ((l[k] : Nat) : Int), ints_get hk1, ?_⟩
    generalize l[k] = n at *
    generalize encNs w (l.take k) = ys at *
    have hn32 : n < 4294967296 := Nat.lt_of_lt_of_le hn (by rcases hw with rfl | rfl | rfl <;> decide)
    show TrQ _ _ _ _ _ _ _
    refine TrQ.loop tblOK (drawOK tblOK) [] (by kernel_rfl) (X := Nat) (puK3 l w 2001 k n) (fun i => byR 2001 ((xs ++ ys) ++ (encR n w).take i)) (fun i => i ≤ w) (fun i => w - i) 0 (Nat.zero_le _) ?_ ?_
    · exact Le.sub ⟨rfl, rfl, rfl, rfl, rfl, rfl, rfl, rfl, trivial⟩ ⟨congrArg (fun l => some (Ch.row _ .u8 l)) (List.append_nil (xs ++ ys)).symm, trivial⟩
    intro i hi
    refine ⟨fun h => ?_, fun h => ?_⟩
    · have hi1 : i < w := by
        have h : (i : Int) < (w : Int) := of_decide_eq_true h
        omega
      have e1 : (8 * ((w : Int) - 1 - (i : Int))).toNat = 8 * (w - 1 - i) := by omega
      have m1 : -9223372036854775808 ≤ (w : Int) - 1 ∧ (w : Int) - 1 ≤ 9223372036854775807 := by omega
      have m2 : -9223372036854775808 ≤ (w : Int) - 1 - (i : Int) ∧ (w : Int) - 1 - (i : Int) ≤ 9223372036854775807 := by omega
      have m3 : -9223372036854775808 ≤ 8 * ((w : Int) - 1 - (i : Int)) ∧ 8 * ((w : Int) - 1 - (i : Int)) ≤ 9223372036854775807 := by omega
      have m4 : 0 ≤ (n : Int) ∧ 0 ≤ 8 * ((w : Int) - 1 - (i : Int)) ∧ 8 * ((w : Int) - 1 - (i : Int)) ≤ 64 := by omega
      refine ⟨m1, m2, m3, m4, ?_⟩
      refine ⟨⟨Int.emod_nonneg _ (by decide), Int.emod_lt_of_pos _ (by decide)⟩, ?_, rfl, ?_⟩
      · show ((xs ++ ys) ++ (encR n w).take i).length + 1 ≤ 4294967296
        rw [List.length_append, List.length_append, List.length_take]; omega
      refine ⟨by omega, i + 1, hi1, by omega, ?_⟩
      refine Le.trans (Le.sub (K' := puK3 l w 49 k n (i + 1)) (B' := byR 49 ((xs ++ ys) ++ (encR n w).take (i + 1))) ⟨rfl, rfl, rfl, rfl, rfl, rfl, rfl, rfl, trivial⟩ ⟨?_, trivial⟩) (Le.ren 49 2001 rfl)
      refine congrArg (fun l => some (Ch.row _ .u8 l)) ?_
      rw [← app_one (xs ++ ys) [] n i w hi1, ← byte_dig, ← e1]
      rfl
    · have hi1 : i = w := by
        have h : ¬ (i : Int) < (w : Int) := of_decide_eq_false h
        omega
      subst hi1
      refine ⟨by omega, k + 1, hk1, by omega, ?_⟩
      refine Le.sub ⟨rfl, rfl, rfl, rfl, rfl, trivial⟩ ⟨?_, trivial⟩
      rw [hs, List.take_of_length_le (by rw [encR_length]; omega), List.append_assoc]
      rfl
  have hk1 : k = l.length := by have : ¬ k < l.length := by simpa using h
                                omega
  subst hk1
  rw [List.take_length]
  exact ⟨_, _, _, Le.ren 2001 1002 rfl, rfl, ⟨rfl, rfl, trivial⟩, ⟨rfl, trivial⟩, rfl⟩
set_option maxHeartbeats 2000000 in
theorem put_nil (w : Nat) (l : List Nat) (hw : W w) (hf : ∀ n, n ∈ l → n < 256 ^ w) (hl : l.length ≤ 1000) :
    Fn Tryz.prog 67 [v1 .nils, vI (w : Nat), vL uInt (ints l)] [] [1002] (.tup [.one (.own 1002), .one (.d (.bool true))]) (byR 1002 (encNs w l)) := by
  have hw4 : w ≤ 4 := by unfold W at hw; omega
  have hil : List.length (ints l) = l.length := show (intsL l).length = _ by unfold intsL; exact List.length_map _
  obtain ⟨xs, hxs⟩ : ∃ xs : List UInt8, xs = [] := ⟨_, rfl⟩
  have hx : xs.length ≤ 1000000000 := by rw [hxs]; decide
  rw [show encNs w l = xs ++ encNs w l by rw [hxs]; rfl]
  refine Fn.of tblOK [] _ _ _ _ _ Tryz.func67 rfl rfl (by kernel_rfl) (by kernel_rfl) rfl (drawOK tblOK) rfl ?_
  refine ⟨_, _, _, _, oright_spec w hw, trivial, rfl, ?_⟩
  refine ⟨fun h => absurd h (by decide), fun _ => ?_⟩
  show TrQ _ _ _ _ _ _ _
  refine TrQ.loop tblOK (drawOK tblOK) [] (by kernel_rfl) (X := Nat) (puK l w 2001) (fun _ => byR 2001 xs) (fun k => k ≤ l.length) (fun k => l.length - k) 0 (Nat.zero_le _) ?_ ?_
  · exact Le.trans (Le.nil 0 2001 5 .u8 rfl rfl) (Le.sub ⟨rfl, rfl, rfl, rfl, congrArg Int.ofNat hil, rfl, trivial⟩ ⟨congrArg (fun l => some (Ch.row _ .u8 l)) hxs.symm, trivial⟩)
  intro k hk
  refine ⟨fun h => ?_, fun h => ?_⟩
  · have hk1 : k < l.length := by simpa using h
    refine ⟨by omega, ((l[k] : Nat) : Int), ints_get hk1, ?_⟩
    refine ⟨_, _, _, _, ofits_spec l[k] w hw (hf _ (List.getElem_mem hk1)), trivial, rfl, ?_⟩
    refine ⟨fun h => absurd h (by decide), fun _ => ?_⟩
    refine ⟨by omega, k + 1, hk1, by omega, ?_⟩
    exact Le.sub ⟨rfl, rfl, rfl, rfl, rfl, rfl, trivial⟩ ⟨rfl, trivial⟩
  clear h hk
  show TrQ _ _ _ _ _ _ _
  refine TrQ.loop tblOK (drawOK tblOK) [] (by kernel_rfl) (X := Nat) (puK2 l w 2001) (fun k => byR 2001 (xs ++ encNs w (l.take k))) (fun k => k ≤ l.length) (fun k => l.length - k) 0 (Nat.zero_le _) ?_ ?_
  · exact Le.sub ⟨rfl, rfl, rfl, congrArg Int.ofNat hil, rfl, trivial⟩ ⟨congrArg (fun l => some (Ch.row _ .u8 l)) (List.append_nil xs).symm, trivial⟩
  intro k hk
  refine ⟨fun h => ?_, fun h => ?_⟩
  · have hk1 : k < l.length := by simpa using h
    have hs := encNs_step w hk1
    have hn := hf _ (List.getElem_mem hk1)
    have hlen := encNs_length w (l.take k)
    have hlen2 : (l.take k).length * w ≤ 1000 * 4 := Nat.mul_le_mul (by rw [List.length_take]; omega) hw4
    refine ⟨by omega, ((l[k] : Nat) : Int), ints_get hk1, ?_⟩
    generalize l[k] = n at *
    generalize encNs w (l.take k) = ys at *
    have hn32 : n < 4294967296 := Nat.lt_of_lt_of_le hn (by rcases hw with rfl | rfl | rfl <;> decide)
    show TrQ _ _ _ _ _ _ _
    refine TrQ.loop tblOK (drawOK tblOK) [] (by kernel_rfl) (X := Nat) (puK3 l w 2001 k n) (fun i => byR 2001 ((xs ++ ys) ++ (encR n w).take i)) (fun i => i ≤ w) (fun i => w - i) 0 (Nat.zero_le _) ?_ ?_
    · exact Le.sub ⟨rfl, rfl, rfl, rfl, rfl, rfl, rfl, rfl, trivial⟩ ⟨congrArg (fun l => some (Ch.row _ .u8 l)) (List.append_nil (xs ++ ys)).symm, trivial⟩
    intro i hi
    refine ⟨fun h => ?_, fun h => ?_⟩
    · have hi1 : i < w := by
        have h : (i : Int) < (w : Int) := of_decide_eq_true h
        omega
      have e1 : (8 * ((w : Int) - 1 - (i : Int))).toNat = 8 * (w - 1 - i) := by omega
      have m1 : -9223372036854775808 ≤ (w : Int) - 1 ∧ (w : Int) - 1 ≤ 9223372036854775807 := by omega
      have m2 : -9223372036854775808 ≤ (w : Int) - 1 - (i : Int) ∧ (w : Int) - 1 - (i : Int) ≤ 9223372036854775807 := by omega
      have m3 : -9223372036854775808 ≤ 8 * ((w : Int) - 1 - (i : Int)) ∧ 8 * ((w : Int) - 1 - (i : Int)) ≤ 9223372036854775807 := by omega
      have m4 : 0 ≤ (n : Int) ∧ 0 ≤ 8 * ((w : Int) - 1 - (i : Int)) ∧ 8 * ((w : Int) - 1 - (i : Int)) ≤ 64 := by omega
      refine ⟨m1, m2, m3, m4, ?_⟩
      refine ⟨⟨Int.emod_nonneg _ (by decide), Int.emod_lt_of_pos _ (by decide)⟩, ?_, rfl, ?_⟩
      · show ((xs ++ ys) ++ (encR n w).take i).length + 1 ≤ 4294967296
        rw [List.length_append, List.length_append, List.length_take]; omega
      refine ⟨by omega, i + 1, hi1, by omega, ?_⟩
      refine Le.trans (Le.sub (K' := puK3 l w 49 k n (i + 1)) (B' := byR 49 ((xs ++ ys) ++ (encR n w).take (i + 1))) ⟨rfl, rfl, rfl, rfl, rfl, rfl, rfl, rfl, trivial⟩ ⟨?_, trivial⟩) (Le.ren 49 2001 rfl)
      refine congrArg (fun l => some (Ch.row _ .u8 l)) ?_
      rw [← app_one (xs ++ ys) [] n i w hi1, ← byte_dig, ← e1]
      rfl
    · have hi1 : i = w := by
        have h : ¬ (i : Int) < (w : Int) := of_decide_eq_false h
        omega
      subst hi1
      refine ⟨by omega, k + 1, hk1, by omega, ?_⟩
      refine Le.sub ⟨rfl, rfl, rfl, rfl, rfl, trivial⟩ ⟨?_, trivial⟩
      rw [hs, List.take_of_length_le (by rw [encR_length]; omega), List.append_assoc]
      rfl
  have hk1 : k = l.length := by have : ¬ k < l.length := by simpa using h
                                omega
  subst hk1
  rw [List.take_length]
  exact ⟨_, _, _, Le.ren 2001 1002 rfl, rfl, ⟨rfl, rfl, trivial⟩, ⟨rfl, trivial⟩, rfl⟩
def encT (s : List UInt8) (w : Nat) : List UInt8 := encR s.length w ++ s
theorem encT_length (s : List UInt8) (w : Nat) : (encT s w).length = w + s.length := by unfold encT; rw [List.length_append, encR_length]
abbrev St : Type := List UInt8 × Int
def tkX (n : Nat) (st : St) : List UInt8 := if st.2 ≠ 0 ∨ st.1.length < n then [] else st.1.take n
def tkS (n : Nat) (st : St) : St := if st.2 ≠ 0 then st else if st.1.length < n then (st.1, 10) else (st.1.drop n, 0)
def decN (l : List UInt8) : Nat := l.foldl (fun a c => a * 256 + c.toNat) 0
theorem decN_snoc (l : List UInt8) (c : UInt8) : decN (l ++ [c]) = decN l * 256 + c.toNat := by simp [decN, List.foldl_append]
theorem decN_lt (l : List UInt8) : decN l < 256 ^ l.length := by
  have : ∀ (l : List UInt8), decN l.reverse < 256 ^ l.length := fun l => by
    induction l with
    | nil => simp [decN]
    | cons c l ih =>
      rw [List.reverse_cons, decN_snoc, List.length_cons, Nat.pow_succ]
      have := c.toNat_lt
      omega
  have h := this l.reverse
  simpa using h
theorem tkX_length (n : Nat) (st : St) : (tkX n st).length ≤ n := by
  unfold tkX
  split
  · simp
  · rw [List.length_take]; omega
def rdN (w : Nat) (st : St) : St × Nat := (tkS w st, decN (tkX w st))
def rdT (w : Nat) (st : St) : St × List UInt8 := (tkS (rdN w st).2 (rdN w st).1, tkX (rdN w st).2 (rdN w st).1)
@[reducible] def rrB (st : St) : BL := [(1001, .cells [.d (.lst .u8 st.1), .d (.int .i64 st.2)])]
theorem newReader_spec (b : List UInt8) (hb : b.length ≤ 4294967296) : Fn Tryz.prog 37 [vL .u8 b] [] [1001] (vP 1001) (rrB (b, 0)) := by
  refine Fn.of tblOK [] _ _ _ _ _ Tryz.func37 rfl rfl (by kernel_rfl) (by kernel_rfl) rfl (drawOK tblOK) rfl ?_
  refine ⟨rfl, ?_⟩
  refine ⟨?_, rfl, ?_⟩
  · show 0 + b.length ≤ 4294967296
    omega
  refine ⟨rfl, ?_⟩
  exact ⟨_, _, _, Le.trans (Le.frz 5 rfl) (Le.ren 7 1001 rfl), rfl, rfl, ⟨rfl, trivial⟩, rfl⟩
theorem keep_spec (s : List UInt8) (e k : Int) : Fn Tryz.prog 104 [vI k, vP 1002] [(1001, .cells [.d (.lst .u8 s), .d (.int .i64 e)]), (1002, .cells [.ptr 1001 0])] [] (vL .u8 []) [(1001, .cells [.d (.lst .u8 s), .d (.int .i64 (if e = 0 then k else e))]), (1002, .cells [.ptr 1001 0])] := by
  refine Fn.of tblOK [] _ _ _ _ _ Tryz.func104 rfl rfl (by kernel_rfl) (by kernel_rfl) rfl (drawOK tblOK) rfl ?_
  refine ⟨fun h => ?_, fun h => ?_⟩
  · rw [if_pos (show e = 0 from of_decide_eq_true h)]
    exact ⟨_, _, _, Le.refl _ _, rfl, rfl, ⟨rfl, rfl, trivial⟩, rfl⟩
  · rw [if_neg (show ¬ e = 0 from of_decide_eq_false h)]
    exact ⟨_, _, _, Le.refl _ _, rfl, rfl, ⟨rfl, rfl, trivial⟩, rfl⟩
theorem take_spec (st : St) (n : Nat) : Fn Tryz.prog 70 [vP 1001, vI (n : Nat), vB false] (rrB st) [] (vL .u8 (tkX n st)) (rrB (tkS n st)) := by
  obtain ⟨s, e⟩ := st
  refine Fn.of tblOK [] _ _ _ _ _ Tryz.func70 rfl rfl (by kernel_rfl) (by kernel_rfl) rfl (drawOK tblOK) rfl ?_
  refine ⟨rfl, ?_⟩
  refine ⟨fun h => ?_, fun h1 => ?_⟩
  · have h : (!decide (e = 0)) = true := h
    have he : ¬ e = 0 := by simpa using h
    have hx : tkX n (s, e) = [] := by unfold tkX; rw [if_pos (.inl he)]
    have hs : tkS n (s, e) = (s, e) := by unfold tkS; rw [if_pos he]
    rw [hx, hs]
    exact ⟨_, _, _, Le.refl _ _, rfl, rfl, ⟨rfl, trivial⟩, rfl⟩
  have h1 : (!decide (e = 0)) = false := h1
  have he : e = 0 := by simpa using h1
  subst he
  refine ⟨fun h => absurd h (by decide), fun _ => ?_⟩
  refine ⟨fun h => ?_, fun h => ?_⟩
  · have h : (s.length : Int) < (n : Int) := of_decide_eq_true h
    have hx : tkX n (s, 0) = [] := by unfold tkX; rw [if_pos (.inr (by show s.length < n; omega))]
    have hs : tkS n (s, 0) = (s, 10) := by unfold tkS; rw [if_neg (by simp), if_pos (by show s.length < n; omega)]
    rw [hx, hs]
    refine ⟨_, _, _, _, Fn.ren [(1002, 3)] (keep_spec s 0 10), ⟨rfl, rfl, trivial⟩, rfl, ?_⟩
    exact ⟨_, _, _, Le.refl _ _, rfl, rfl, ⟨rfl, trivial⟩, rfl⟩
  · have h : ¬ (s.length : Int) < (n : Int) := of_decide_eq_false h
    have hx : tkX n (s, 0) = s.take n := by
      unfold tkX
      rw [if_neg (by simp; omega)]
    have hs : tkS n (s, 0) = (s.drop n, 0) := by unfold tkS; rw [if_neg (by simp), if_neg (by show ¬ s.length < n; omega)]
    rw [hx, hs]
    have m1 : 0 ≤ (n : Int) ∧ (n : Int) ≤ (s.length : Int) := by omega
    refine ⟨m1, m1, rfl, ?_⟩
    refine ⟨_, _, _, Le.refl _ _, rfl, rfl, ⟨?_, trivial⟩, rfl⟩
    refine congrArg (fun l : List UInt8 => some (Ch.cells [S1.d (D.lst U.u8 l), S1.d (D.int IntKind.i64 0)])) ?_
    show (List.take s.length s).drop ((n : Int)).toNat = s.drop n
    rw [List.take_length]
    rfl
theorem or_add (a : Nat) (c : UInt8) : (a * 256) ||| c.toNat = a * 256 + c.toNat := by
  have h : c.toNat < 2 ^ 8 := c.toNat_lt
  have := Nat.shiftLeft_add_eq_or_of_lt h a
  rw [Nat.shiftLeft_eq] at this
  exact this.symm
theorem num_spec (st : St) (w : Nat) (hw : W w) : Fn Tryz.prog 38 [vP 1001, vI (w : Nat)] (rrB st) [] (vI ((rdN w st).2 : Nat)) (rrB (rdN w st).1) := by
  have hw4 : w ≤ 4 := by unfold W at hw; omega
  have hl := tkX_length w st
  have ht := take_spec st w
  show Fn _ _ _ _ _ (vI ((decN (tkX w st) : Nat) : Int)) (rrB (tkS w st))
  generalize tkX w st = x at *
  generalize tkS w st = st' at *
  have hbx : decN x < 4294967296 := Nat.lt_of_lt_of_le (decN_lt x) (Nat.le_trans (Nat.pow_le_pow_right (by decide) (show x.length ≤ 4 by omega)) (by decide))
  refine Fn.of tblOK [] _ _ _ _ _ Tryz.func38 rfl rfl (by kernel_rfl) (by kernel_rfl) rfl (drawOK tblOK) rfl ?_
  refine ⟨_, _, _, _, oright_spec w hw, trivial, rfl, ?_⟩
  refine ⟨_, _, _, _, ht, ⟨rfl, trivial⟩, rfl, ?_⟩
  refine ⟨fun h => absurd (show (x.length : Int) = 8 from of_decide_eq_true h) (by omega), fun _ => ?_⟩
  show TrQ _ _ _ _ _ _ _
  refine TrQ.loop tblOK (drawOK tblOK) [] (by kernel_rfl) (X := Nat) (fun i => [(5, vI ((decN (x.take i) : Nat) : Int)), (27, vL .u8 x), (28, vI (x.length : Nat)), (29, vI (i : Nat))]) (fun _ => rrB st') (fun i => i ≤ x.length) (fun i => x.length - i) 0 (Nat.zero_le _) ?_ ?_
  · exact Le.sub ⟨rfl, rfl, rfl, rfl, trivial⟩ ⟨rfl, trivial⟩
  intro i hi
  refine ⟨fun h => ?_, fun h => ?_⟩
  · have hi1 : i < x.length := by
      have h : (i : Int) < (x.length : Int) := of_decide_eq_true h
      omega
    have hs : decN (x.take (i + 1)) = decN (x.take i) * 256 + (x[i]).toNat := by rw [← take_step hi1, decN_snoc]
    have hb2 := decN_lt (x.take i)
    have hb3 : 256 ^ (x.take i).length ≤ 256 ^ 3 := Nat.pow_le_pow_right (by decide) (by rw [List.length_take]; omega)
    have hc := (x[i]).toNat_lt
    refine ⟨by omega, x[i], lget_at rfl hi1, ?_⟩
    generalize x[i] = c at *
    generalize decN (x.take i) = a at *
    have hor := or_add a c
    have e1 : ((a : Int) * ((2 ^ (8 : Int).toNat : Nat) : Int)).toNat = a * 256 := by
      show ((a : Int) * 256).toNat = _
      omega
    have m1 : 0 ≤ (a : Int) ∧ (0 : Int) ≤ 8 ∧ (8 : Int) ≤ 64 := by omega
    have m2 : -9223372036854775808 ≤ (a : Int) * ((2 ^ (8 : Int).toNat : Nat) : Int) ∧ (a : Int) * ((2 ^ (8 : Int).toNat : Nat) : Int) ≤ 9223372036854775807 := by
      show -9223372036854775808 ≤ (a : Int) * 256 ∧ (a : Int) * 256 ≤ 9223372036854775807
      omega
    have m3 : -9223372036854775808 ≤ (c.toNat : Int) ∧ (c.toNat : Int) ≤ 9223372036854775807 := by omega
    have m4 : 0 ≤ (a : Int) * ((2 ^ (8 : Int).toNat : Nat) : Int) ∧ (a : Int) * ((2 ^ (8 : Int).toNat : Nat) : Int) ≤ 9223372036854775807 ∧ 0 ≤ (c.toNat : Int) ∧ (c.toNat : Int) ≤ 9223372036854775807 := by
      show 0 ≤ (a : Int) * 256 ∧ (a : Int) * 256 ≤ 9223372036854775807 ∧ _
      omega
    refine ⟨m1, m2, m3, m4, ?_⟩
    refine ⟨by omega, i + 1, hi1, by omega, ?_⟩
    refine Le.sub ⟨?_, rfl, rfl, rfl, trivial⟩ ⟨rfl, trivial⟩
    show (((((a : Int) * ((2 ^ (8 : Int).toNat : Nat) : Int)).toNat ||| ((c.toNat : Int)).toNat : Nat)) : Int) = ((decN (x.take (i + 1)) : Nat) : Int)
    rw [hs, e1, Int.toNat_natCast, hor]
  · have hi1 : i = x.length := by
      have h : ¬ (i : Int) < (x.length : Int) := of_decide_eq_false h
      omega
    subst hi1
    exact ⟨_, _, _, Le.refl _ _, rfl, (show ((decN (x.take x.length) : Nat) : Int) = _ by rw [List.take_length]), ⟨rfl, trivial⟩, rfl⟩
theorem text_spec (st : St) (w : Nat) (hw : W w) : Fn Tryz.prog 59 [vP 1001, vI (w : Nat)] (rrB st) [] (vS (rdT w st).2) (rrB (rdT w st).1) := by
  have h1 := num_spec st w hw
  have h2 := take_spec (rdN w st).1 (rdN w st).2
  show Fn _ _ _ _ _ (vS (tkX (rdN w st).2 (rdN w st).1)) (rrB (tkS (rdN w st).2 (rdN w st).1))
  generalize (rdN w st).2 = n at *
  generalize (rdN w st).1 = st1 at *
  generalize tkX n st1 = x at *
  generalize tkS n st1 = st2 at *
  refine Fn.of tblOK [] _ _ _ _ _ Tryz.func59 rfl rfl (by kernel_rfl) (by kernel_rfl) rfl (drawOK tblOK) rfl ?_
  refine ⟨_, _, _, _, h1, ⟨rfl, trivial⟩, rfl, ?_⟩
  refine ⟨_, _, _, _, Fn.arg h2 ⟨rfl, rfl, rfl, trivial⟩, ⟨rfl, trivial⟩, rfl, ?_⟩
  exact ⟨_, _, _, Le.refl _ _, rfl, rfl, ⟨rfl, trivial⟩, rfl⟩
theorem err_spec (st : St) : Fn Tryz.prog 44 [vP 1001] (rrB st) [] (vI st.2) (rrB st) := by
  refine Fn.of tblOK [] _ _ _ _ _ Tryz.func44 rfl rfl (by kernel_rfl) (by kernel_rfl) rfl (drawOK tblOK) rfl ?_
  exact ⟨_, _, _, Le.refl _ _, rfl, rfl, ⟨rfl, trivial⟩, rfl⟩
def endE (st : St) : Int := if st.2 = 0 ∧ 0 < st.1.length then 11 else st.2
theorem end_spec (st : St) : Fn Tryz.prog 40 [vP 1001] (rrB st) [] (vI (endE st)) (rrB st) := by
  obtain ⟨s, e⟩ := st
  refine Fn.of tblOK [] _ _ _ _ _ Tryz.func40 rfl rfl (by kernel_rfl) (by kernel_rfl) rfl (drawOK tblOK) rfl ?_
  refine ⟨fun h => ?_, fun h => ?_⟩
  · have he : e = 0 := of_decide_eq_true h
    refine ⟨fun h => ?_, fun h => ?_⟩
    · have h : (0 : Int) < (s.length : Int) := of_decide_eq_true h
      have : endE (s, e) = 11 := by unfold endE; rw [if_pos ⟨he, by show 0 < s.length; omega⟩]
      rw [this]
      exact ⟨_, _, _, Le.refl _ _, rfl, rfl, ⟨rfl, trivial⟩, rfl⟩
    · have h : ¬ (0 : Int) < (s.length : Int) := of_decide_eq_false h
      have : endE (s, e) = e := by unfold endE; rw [if_neg (fun hh => by have h2 : 0 < s.length := hh.2; omega)]
      rw [this]
      exact ⟨_, _, _, Le.refl _ _, rfl, rfl, ⟨rfl, trivial⟩, rfl⟩
  · have he : ¬ e = 0 := of_decide_eq_false h
    have : endE (s, e) = e := by unfold endE; rw [if_neg (fun hh => he hh.1)]
    rw [this]
    exact ⟨_, _, _, Le.refl _ _, rfl, rfl, ⟨rfl, trivial⟩, rfl⟩
theorem encR_snoc (n : Nat) : ∀ k, encR n (k + 1) = encR (n / 256) k ++ [dig n 0]
  | 0 => rfl
  | k + 1 => by
    show dig n (k + 1) :: encR n (k + 1) = dig (n / 256) k :: encR (n / 256) k ++ [dig n 0]
    rw [encR_snoc n k, List.cons_append]
    congr 1
    unfold dig
    rw [Nat.div_div_eq_div_mul, Nat.pow_succ, Nat.mul_comm 256]
theorem dig_zero (a : Nat) (c : UInt8) : dig (a * 256 + c.toNat) 0 = c := by
  have := c.toNat_lt
  unfold dig
  rw [Nat.pow_zero, Nat.div_one, show (a * 256 + c.toNat) % 256 = c.toNat by omega]
  simp
theorem encR_decN (l : List UInt8) : encR (decN l) l.length = l := by
  have : ∀ (l : List UInt8), encR (decN l.reverse) l.length = l.reverse := fun l => by
    induction l with
    | nil => rfl
    | cons c l ih =>
      have hc := c.toNat_lt
      rw [List.reverse_cons, decN_snoc, List.length_cons, encR_snoc, dig_zero, show (decN l.reverse * 256 + c.toNat) / 256 = decN l.reverse by omega, ih]
  have h := this l.reverse
  simpa using h
theorem decN_encR (n : Nat) : ∀ k, n < 256 ^ k → decN (encR n k) = n := by
  intro k
  induction k generalizing n with
  | zero => intro h; simp at h; subst h; rfl
  | succ k ih =>
    intro h
    rw [encR_snoc, decN_snoc, ih (n / 256) (by rw [Nat.pow_succ] at h; omega)]
    unfold dig
    rw [Nat.pow_zero, Nat.div_one, UInt8.toNat_ofNat']
    omega
/-! ### back -/
theorem tk_back {n : Nat} {st : St} (h : (tkS n st).2 = 0) : st.2 = 0 ∧ st.1 = tkX n st ++ (tkS n st).1 ∧ (tkX n st).length = n := by
  by_cases h1 : st.2 = 0
  · by_cases h2 : st.1.length < n
    · unfold tkS at h
      rw [if_neg (by simp [h1]), if_pos h2] at h
      simp at h
    · have hx : tkX n st = st.1.take n := by unfold tkX; exact if_neg (by simp only [h1, ne_eq, not_true_eq_false, false_or]; exact h2)
      have hs : tkS n st = (st.1.drop n, 0) := by unfold tkS; rw [if_neg (by simp [h1]), if_neg h2]
      rw [hx, hs]
      exact ⟨h1, (List.take_append_drop n st.1).symm, by rw [List.length_take]; omega⟩
  · unfold tkS at h
    rw [if_pos h1] at h
    exact absurd h h1
theorem rdN_back {w : Nat} {st : St} (h : (rdN w st).1.2 = 0) : st.2 = 0 ∧ st.1 = encR (rdN w st).2 w ++ (rdN w st).1.1 := by
  obtain ⟨h1, h2, h3⟩ := tk_back h
  refine ⟨h1, ?_⟩
  have := encR_decN (tkX w st)
  rw [h3] at this
  show st.1 = encR (decN (tkX w st)) w ++ (tkS w st).1
  rw [this]
  exact h2
theorem rdT_back {w : Nat} {st : St} (h : (rdT w st).1.2 = 0) : st.2 = 0 ∧ st.1 = encT (rdT w st).2 w ++ (rdT w st).1.1 := by
  obtain ⟨h1, h2, h3⟩ := tk_back h
  obtain ⟨h4, h5⟩ := rdN_back h1
  refine ⟨h4, ?_⟩
  show st.1 = (encR (tkX (rdN w st).2 (rdN w st).1).length w ++ tkX (rdN w st).2 (rdN w st).1) ++ (tkS (rdN w st).2 (rdN w st).1).1
  rw [h3, List.append_assoc, ← h2]
  exact h5
/-! ### forth -/
theorem tk_forth (x t : List UInt8) : tkS x.length (x ++ t, 0) = (t, 0) ∧ tkX x.length (x ++ t, 0) = x := by
  unfold tkS tkX
  rw [if_neg (by simp), if_neg (by simp), if_neg (by simp)]
  exact ⟨by simp, by simp⟩
theorem rdN_forth {n w : Nat} (h : n < 256 ^ w) (t : List UInt8) : rdN w (encR n w ++ t, 0) = ((t, 0), n) := by
  have := tk_forth (encR n w) t
  rw [encR_length] at this
  unfold rdN
  rw [this.1, this.2, decN_encR n w h]
theorem rdT_forth {w : Nat} {x : List UInt8} (h : x.length < 256 ^ w) (t : List UInt8) : rdT w (encT x w ++ t, 0) = ((t, 0), x) := by
  have h1 : rdN w (encT x w ++ t, 0) = ((x ++ t, 0), x.length) := by
    unfold encT
    rw [List.append_assoc]
    exact rdN_forth h _
  have := tk_forth x t
  unfold rdT
  rw [h1]
  simp only
  rw [this.1, this.2]
/-! Export, plain: requests and replies as bytes. -/
@[reducible] def uRq : U := .pr (.int .i64) (.pr (.int .i64) (.pr (.int .i64) (.pr (.int .i64) (.int .i64))))
abbrev Rq := Int × Int × Int × Int × Int
@[reducible] def rqK (r : Rq) : Int := r.1
@[reducible] def rqC (r : Rq) : Int := r.2.1
@[reducible] def rqH (r : Rq) : Int := r.2.2.1
@[reducible] def rqA (r : Rq) : Int := r.2.2.2.1
@[reducible] def rqL (r : Rq) : Int := r.2.2.2.2
def fit (w : Nat) (n : Int) : Bool := decide (0 ≤ n) && decide (n < ((256 ^ w : Nat) : Int))
theorem fit_iff {w : Nat} {n : Int} : fit w n = true ↔ 0 ≤ n ∧ n.toNat < 256 ^ w := by
  unfold fit
  rw [Bool.and_eq_true, decide_eq_true_iff, decide_eq_true_iff]
  generalize 256 ^ w = p
  omega
def asks : Nat := 1886286962
def tells : Nat := 1886286945
def kindOK (k : Int) : Bool := decide (1 ≤ k) && decide (k ≤ 4)
def rqFit (r : Rq) : Bool := fit 1 (rqK r) && (fit 1 (rqC r) && (fit 2 (rqH r) && (fit 4 (rqA r) && fit 4 (rqL r))))
def askB (r : Rq) : List UInt8 := encR asks 4 ++ (encR (rqK r).toNat 1 ++ (encR (rqC r).toNat 1 ++ (encR (rqH r).toNat 2 ++ (encR (rqA r).toNat 4 ++ encR (rqL r).toNat 4))))
theorem askB_len (r : Rq) : (askB r).length = 16 := by
  unfold askB
  simp only [List.length_append, encR_length]
def q1 (s : List UInt8) := rdN 4 (s, 0)
def q2 (s : List UInt8) := rdN 1 (q1 s).1
def q3 (s : List UInt8) := rdN 1 (q2 s).1
def q4 (s : List UInt8) := rdN 2 (q3 s).1
def q5 (s : List UInt8) := rdN 4 (q4 s).1
def q6 (s : List UInt8) := rdN 4 (q5 s).1
def hearR (s : List UInt8) : Rq := (((q2 s).2 : Int), ((q3 s).2 : Int), ((q4 s).2 : Int), ((q5 s).2 : Int), ((q6 s).2 : Int))
def hearOK (s : List UInt8) : Bool := decide (endE (q6 s).1 = 0) && (decide ((q1 s).2 = asks) && kindOK ((q2 s).2 : Int))
theorem hear_ask {r : Rq} (hf : rqFit r = true) (hk : kindOK (rqK r) = true) : hearOK (askB r) = true ∧ hearR (askB r) = r := by
  unfold rqFit at hf
  simp only [Bool.and_eq_true, fit_iff] at hf
  obtain ⟨⟨a1, a2⟩, ⟨b1, b2⟩, ⟨c1, c2⟩, ⟨d1, d2⟩, ⟨e1, e2⟩⟩ := hf
  have g1 : q1 (askB r) = _ := rdN_forth (n := asks) (w := 4) (by decide) _
  have g2 : q2 (askB r) = _ := (congrArg (fun x : St × Nat => rdN 1 x.1) g1).trans (rdN_forth a2 _)
  have g3 : q3 (askB r) = _ := (congrArg (fun x : St × Nat => rdN 1 x.1) g2).trans (rdN_forth b2 _)
  have g4 : q4 (askB r) = _ := (congrArg (fun x : St × Nat => rdN 2 x.1) g3).trans (rdN_forth c2 _)
  have g5 : q5 (askB r) = _ := (congrArg (fun x : St × Nat => rdN 4 x.1) g4).trans (rdN_forth d2 _)
  have g6 : q6 (askB r) = (([], 0), (rqL r).toNat) := by
    unfold q6
    rw [g5]
    have := rdN_forth e2 []
    rwa [List.append_nil] at this
  refine ⟨?_, ?_⟩
  · unfold hearOK
    rw [g6, g1, g2]
    rw [show (((rqK r).toNat : Nat) : Int) = rqK r by omega, hk]
    rfl
  · unfold hearR
    rw [g2, g3, g4, g5, g6]
    obtain ⟨k, c, h, a, l⟩ := r
    simp only [Prod.mk.injEq]
    exact ⟨Int.toNat_of_nonneg a1, Int.toNat_of_nonneg b1, Int.toNat_of_nonneg c1, Int.toNat_of_nonneg d1, Int.toNat_of_nonneg e1⟩
/-! ### replies -/
abbrev Rp := Int × Int × List UInt8
@[reducible] def uRp : U := .pr (.int .i64) (.pr (.int .i64) (.sl .u8))
def tellB (e h : Int) (b : List UInt8) : List UInt8 := encR tells 4 ++ (encR e.toNat 2 ++ (encR h.toNat 2 ++ encT b 4))
def tellOK (e h : Int) (b : List UInt8) : Bool := fit 2 e && (fit 2 h && fit 4 ((b.length : Nat) : Int))
def t1 (st : St) := rdN 4 st
def t2 (st : St) := rdN 2 (t1 st).1
def t3 (st : St) := rdN 2 (t2 st).1
def t4 (st : St) := rdT 4 (t3 st).1
def rpV (st : St) : Rp := (((t2 st).2 : Int), ((t3 st).2 : Int), (t4 st).2)
def rpOK (st : St) : Bool := decide ((t4 st).1.2 = 0) && decide ((t1 st).2 = tells)
/-- What Replies tells, so many at most. -/
def rplL : Nat → St → Option (List Rp)
  | 0, _ => some []
  | n + 1, st => if st.1 = [] then some [] else if rpOK st = true then (rplL n (t4 st).1).map (rpV st :: ·) else none
theorem rp_tell {e h : Int} {b : List UInt8} (hf : tellOK e h b = true) (t : List UInt8) : rpOK (tellB e h b ++ t, 0) = true ∧ rpV (tellB e h b ++ t, 0) = (e, h, b) ∧ (t4 (tellB e h b ++ t, 0)).1 = (t, 0) := by
  unfold tellOK at hf
  simp only [Bool.and_eq_true, fit_iff] at hf
  obtain ⟨⟨a1, a2⟩, ⟨b1, b2⟩, ⟨c1, c2⟩⟩ := hf
  have e0 : tellB e h b ++ t = encR tells 4 ++ (encR e.toNat 2 ++ (encR h.toNat 2 ++ (encT b 4 ++ t))) := by
    unfold tellB
    simp only [List.append_assoc]
  rw [e0]
  have g1 : t1 (encR tells 4 ++ (encR e.toNat 2 ++ (encR h.toNat 2 ++ (encT b 4 ++ t))), 0) = _ := rdN_forth (n := tells) (w := 4) (by decide) _
  have g2 : t2 (encR tells 4 ++ (encR e.toNat 2 ++ (encR h.toNat 2 ++ (encT b 4 ++ t))), 0) = _ := (congrArg (fun x : St × Nat => rdN 2 x.1) g1).trans (rdN_forth a2 _)
  have g3 : t3 (encR tells 4 ++ (encR e.toNat 2 ++ (encR h.toNat 2 ++ (encT b 4 ++ t))), 0) = _ := (congrArg (fun x : St × Nat => rdN 2 x.1) g2).trans (rdN_forth b2 _)
  have g4 : t4 (encR tells 4 ++ (encR e.toNat 2 ++ (encR h.toNat 2 ++ (encT b 4 ++ t))), 0) = ((t, 0), b) := by
    unfold t4
    rw [g3]
    exact rdT_forth (by simpa using c2) t
  refine ⟨?_, ?_, ?_⟩
  · unfold rpOK
    rw [g4, g1]
    rfl
  · unfold rpV
    rw [g2, g3, g4]
    simp only [Prod.mk.injEq]
    exact ⟨Int.toNat_of_nonneg a1, Int.toNat_of_nonneg b1, trivial⟩
  · rw [g4]
end Go.Proofs.YtolaecebfkdbcaaGreat
